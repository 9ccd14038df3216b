/- Contracts: runRead; the document's log, as far as it is made; begun. -/
import Derived.Test.YtbkcpddedpmenaaCx
set_option maxRecDepth 100000
namespace Go.Proofs
open Go Go.Vc
variable {w w' : World} {R : Ending → World → Prop} {A : Ad} {fw : List Nat} {ptr : Nat → Nat} {lo : Nat} {S : SysM}

/-- A record that stands on the disk. -/
structure Stands (S : SysM) (place : Nat) (no era : Int) (kind : Nat) (b : List UInt8) : Prop where
  at_ : ∀ j p, (partsOf no place era (UInt8.ofNat kind :: b))[j]? = some p → standsL S.m S.sl (place + j) = some p ∧ mayB p = true
  bot : 8 * S.fi ≤ place
  top : place + manyOf (b.length + 1) ≤ 8 * S.la
  kind : 1 ≤ kind ∧ kind ≤ 5
  len : b.length < 12672

/-- One step of a reading of it. -/
theorem read_next (h : Sys w A fw ptr lo S) (hnot : S.L.no ≤ lo) {r place : Nat} {no era : Int} {kind : Nat} {b : List UInt8} (hs : Stands S place no era kind b) {fp : List Nat} {xs : List PB} {i : Nat}
    (hr : ReadIs w r A.l fp place xs []) (hxs : xs.map PB.p = (partsOf no place era (UInt8.ofNat kind :: b)).take i) (hi : i < manyOf (b.length + 1)) (hfp : ∀ q ∈ fp, q ∉ A.mu fw)
    (h1 : ∀ w' fp' xs', i + 1 < manyOf (b.length + 1) → Keep (r :: fp) w w' → (∀ q ∈ fp', q ∈ fp ∨ w.heap.size ≤ q) → ReadIs w' r A.l fp' place xs' [] → xs'.map PB.p = (partsOf no place era (UInt8.ofNat kind :: b)).take (i + 1) → Sys w' A fw ptr lo S → R (.returned (.bool false)) w')
    (h2 : ∀ w', i + 1 = manyOf (b.length + 1) → Keep (r :: fp) w w' → ReadEnd w' r A.l place no kind 0 b → Sys w' A fw ptr lo S → R (.returned (.bool true)) w') :
    Calls P0 f_log_Read_Step #[.pointer (some ⟨r, 0, none⟩)] w R := by
  have hlen : (partsOf no place era (UInt8.ofNat kind :: b)).length = manyOf (b.length + 1) := by rw [partsOf_length]; simp
  have hxl : xs.length = i := by
    have := congrArg List.length hxs
    rw [List.length_map, List.length_take, hlen] at this
    omega
  have hgi := partsOf_get no place era (UInt8.ofNat kind :: b) (i := i) (by simpa using hi)
  obtain ⟨pt, hpt, hpi, hpn, hpp⟩ : ∃ pt : Part, (partsOf no place era (UInt8.ofNat kind :: b))[i]? = some pt ∧ pt.index = i ∧ pt.no = no ∧ pt.parts = (manyOf (b.length + 1) : Nat) := ⟨_, hgi, rfl, rfl, by simp⟩
  obtain ⟨hst, hmay⟩ := hs.at_ i _ hpt
  have hm64 : manyOf (b.length + 1) ≤ 64 := by have := hs.len; unfold manyOf; omega
  have htop := hs.top
  have hbot := hs.bot
  have htake : (partsOf no place era (UInt8.ofNat kind :: b)).take (i + 1) = xs.map PB.p ++ [pt] := by
    rw [List.take_succ_eq_append_getElem (by rw [hlen]; exact hi), hxs]
    have := (List.getElem?_eq_some_iff.1 hpt).2
    rw [this]
  refine read_Step h hr hnot (p := pt) ⟨by omega, by omega⟩ (by rw [hxl]; exact hst) (fun e => ?_) (by omega) (n0 := manyOf (b.length + 1)) (fun x hx => ?_) (fun _ => ?_) (by omega) (kb := UInt8.ofNat kind :: b) (fun e => ?_) (kind := kind) (b := b) rfl hs.kind hfp
    (fun w' fp' x e hx hk hsub hr' hs' => ?_) (fun w' e hk hr' hs' => ?_)
  · subst e; simp at hxl; subst hxl; simpa using hpi
  · cases xs with
    | nil => simp at hx
    | cons y ys =>
      simp at hx
      subst hx
      have h0 := congrArg (fun l => l[0]?) hxs
      simp only [List.map_cons, List.getElem?_cons_zero] at h0
      rw [List.getElem?_take_of_lt (by simp at hxl; omega), partsOf_get no place era _ (by simp; omega)] at h0
      injection h0 with h0
      rw [h0]; simp
  · exact hpp
  · have hfull : (partsOf no place era (UInt8.ofNat kind :: b)).take (i + 1) = partsOf no place era (UInt8.ofNat kind :: b) := List.take_of_length_le (by omega)
    rw [← htake, hfull]
    refine ⟨parts_join (fun p hp => ?_) (by simp; omega), parts_data _ _ _ _⟩
    obtain ⟨j, hj⟩ := List.mem_iff_getElem?.1 hp
    exact (hs.at_ j p hj).2
  · refine h1 w' fp' (xs ++ [x]) (by omega) hk hsub hr' ?_ hs'
    rw [htake, List.map_append, ← hx]; rfl
  · rw [hpn] at hr'; exact h2 w' (by omega) hk hr' hs'

theorem runRead (h : Sys w A fw ptr lo S) (hnot : S.L.no ≤ lo) {r place : Nat} {no era : Int} {kind : Nat} {b : List UInt8} (hs : Stands S place no era kind b) (hr : ReadIs w r A.l [] place [] [])
    (hR : ∀ w', Keep [r] w w' → ReadEnd w' r A.l place no kind 0 b → Sys w' A fw ptr lo S → R (.returned (.tuple #[])) w') : Calls P0 f_pollardlaw08_runRead #[.pointer (some ⟨r, 0, none⟩)] w R := by
  have hlt := h.lt
  have hm64 : manyOf (b.length + 1) ≤ 64 := by have := hs.len; unfold manyOf; omega
  refine C_pollardlaw08_runRead ⟨fun i w' => 0 ≤ i ∧ i < manyOf (b.length + 1) ∧ ∃ fp xs, Keep [r] w w' ∧ (∀ q ∈ fp, w.heap.size ≤ q) ∧ ReadIs w' r A.l fp place xs [] ∧ xs.map PB.p = (partsOf no place era (UInt8.ofNat kind :: b)).take i.toNat ∧ Sys w' A fw ptr lo S,
    fun i _ => (100 - i).toNat, ⟨by omega, by unfold manyOf; omega, [], [], Keep.refl _ _, by simp, hr, by simp, h⟩, ?_⟩
  rintro i w5 ⟨h0, h1, fp, xs, hk, hfp, hr5, hxs, h5⟩
  obtain ⟨i, rfl⟩ := Int.eq_ofNat_of_zero_le h0
  rw [Int.toNat_natCast] at hxs
  constructor
  · intro _
    refine read_next h5 hnot hs hr5 hxs (by omega) (fun q hq hm => by have := hfp q hq; have := hlt q hm; omega) (fun w' fp' xs' e hk' hsub hr' hx' hs' => ⟨_, rfl, fun e => (by cases e), fun _ n hn => ?_⟩) (fun w' e hk' hr' hs' => ⟨_, rfl, fun _ => ?_, fun e => (by cases e)⟩)
    · rw [wrap64 (by omega) (by omega)] at hn
      have hn : n = ((i + 1 : Nat) : Int) := by omega
      subst hn
      refine ⟨⟨by omega, by omega, fp', xs', hk.trans hk' (fun q hq => ?_), fun q hq => ?_, hr', by rw [Int.toNat_natCast]; exact hx', hs'⟩, by dsimp only; omega⟩
      · simp only [List.mem_cons] at hq ⊢
        rcases hq with hq | hq
        · exact .inl (.inl hq)
        · exact .inr (hfp q hq)
      · rcases hsub q hq with g | g
        · exact hfp q g
        · exact Nat.le_trans hk.1 g
    · refine hR w' (hk.trans hk' (fun q hq => ?_)) hr' hs'
      simp only [List.mem_cons] at hq ⊢
      rcases hq with hq | hq
      · exact .inl (.inl hq)
      · exact .inr (hfp q hq)
  · intro e
    have := of_decide_eq_false e
    omega

/-! ### the document's log -/
theorem ESS : ElemTy P0 T_slice_slice_uint8 T_slice_uint8 1 24 [.slice none 0 0] :=
  .of (by kernel_rfl) (by kernel_rfl) (by kernel_rfl) (by kernel_rfl) rfl (by decide) (by decide)

theorem ref03_New {n : Nat} (hn : 1 ≤ n ∧ n ≤ 8192) (hR : ∀ w' d pa pc (fp : List Nat) c1 c2 c3 c4 c5, Keep [] w w' → w.heap.size ≤ d → Blk w' d [.slice pa n pc, c1, c2, c3, c4, c5] T_pollardref03_Disk → (∀ q ∈ fp, w.heap.size ≤ q) → R (.returned (.tuple #[.pointer (some ⟨d, 0, none⟩), .int .i64 0])) w') :
    Calls P0 f_pollardref03_New #[.int .i64 n] w R := by
  refine C_pollardref03_New ⟨(fun e => by have := of_decide_eq_true e; omega), fun _ => ⟨(fun e => by have := of_decide_eq_true e; omega), fun _ => ?_⟩⟩
  refine al (c := [.slice none 0 0, .slice none 0 0, .int .i64 (-1), .bool false, .int .i64 0, .int .i64 0]) fun w2 b2 k2 s2 => ?_
  refine ⟨fun i w' => 0 ≤ i ∧ i ≤ n ∧ Keep [] w w' ∧ ∃ pa pc vs fp, Blk w' w.heap.size [.slice pa i.toNat pc, .slice none 0 0, .int .i64 (-1), .bool false, .int .i64 0, .int .i64 0] T_pollardref03_Disk ∧ Own w' T_slice_uint8 1 pa i.toNat pc vs fp ∧ (∀ q ∈ fp, w.heap.size < q),
    fun i _ => (n - i).toNat, ⟨by omega, by omega, k2, none, 0, [], [], b2, .inl ⟨rfl, rfl, rfl, rfl, rfl⟩, by simp⟩, ?_⟩
  rintro i w6 ⟨h0, h1, hk, pa, pc, vs, fp, hb, ho, hf⟩
  obtain ⟨i, rfl⟩ := Int.eq_ofNat_of_zero_le h0
  rw [Int.toNat_natCast] at hb ho
  constructor
  · intro hlt
    have hlt : i < n := by have := of_decide_eq_true hlt; omega
    have m1 := make_run E8 rfl rfl 64 (by omega) w6
    refine ⟨_, _, _, _, m1, _, _, rfl, ?_⟩
    have K1 := Keep.alloc w6 (.cells (List.replicate 64 (.int .u8 0)).toArray T_uint8)
    have hw8 : w6.heap.size < (w6.alloc (.cells (List.replicate 64 (.int .u8 0)).toArray T_uint8)).heap.size := by show _ < (w6.heap.push _).size; simp
    generalize w6.alloc (.cells (List.replicate 64 (.int .u8 0)).toArray T_uint8) = w8 at *
    have b8 := K1.blk hb (by simp)
    refine ⟨_, _, _, b8.cell rfl, ?_⟩
    refine al (c := [.slice (some ⟨w6.heap.size, 0, none⟩) 64 64]) fun w12 b12 k12 s12 => ?_
    have k6_12 := K1.trans k12 (by simp)
    obtain ⟨a13, c13, w14, fp14, hr14, o14, k14, f14, _⟩ := own_append ESS (ty := T_slice_slice_uint8) (xc := 1) (ho.keep k6_12 (by simp)) (n := 1) (news := [.slice (some ⟨w6.heap.size, 0, none⟩) 64 64]) rfl (.inr ⟨_, 0, rfl, rdb_all b12⟩) (by simp [Value.oneCell']) (by omega)
    refine ⟨_, _, _, w14, hr14, _, _, rfl, ?_⟩
    have hnf : w.heap.size ∉ fp := fun hm => Nat.lt_irrefl _ (hf _ hm)
    have b14 := k14.blk (k12.blk b8 (by simp)) hnf
    refine st b14 (by simp) fun w17 b17 k17 s17 => ?_
    intro n18 h18
    rw [wrap64 (by omega) (by omega)] at h18
    have h18 : n18 = ((i + 1 : Nat) : Int) := by omega
    subst h18
    have hwk := hk.1
    have hb0 := hb.lt
    have hf14 : ∀ q ∈ fp14, w.heap.size < q := fun q hq => by
      rcases f14 q hq with g | g
      · exact hf q g
      · have := k12.1; omega
    refine ⟨⟨by omega, by omega, ((hk.trans k6_12 (by simp)).trans k14 (fun q hq => .inr (Nat.le_of_lt (hf q hq)))).trans k17 (by simp), a13, c13, _, fp14, by rw [Int.toNat_natCast]; exact b17, by rw [Int.toNat_natCast]; exact o14.keep k17 (fun q hq => by
      have := hf14 q hq; simp; omega), hf14⟩, by dsimp only; omega⟩
  · intro hge
    have hge : i = n := by have := of_decide_eq_false hge; omega
    subst hge
    exact hR w6 _ _ _ fp _ _ _ _ _ hk (Nat.le_refl _) hb (fun q hq => Nat.le_of_lt (hf q hq))

theorem ref07_Slots {d n : Nat} {pa : Option Addr} {pc : Nat} {c1 c2 c3 c4 c5 : Value} (hn : 8 ≤ n ∧ n ≤ 8192) (h : Blk w d [.slice pa n pc, c1, c2, c3, c4, c5] T_pollardref03_Disk) (hR : R (.returned (.int .i64 ((n - 8) / 32 : Nat))) w) :
    Calls P0 f_pollardref07_Slots #[.pointer (some ⟨d, 0, none⟩)] w R := by
  refine C_pollardref07_Slots ⟨_, _, rfl, _, _, _, h.cell rfl, fun n5 h5 => ?_⟩
  rw [wrap64 (by omega) (by omega)] at h5
  subst h5
  refine ⟨(fun e => by have := of_decide_eq_true e; omega), fun _ => ⟨by decide, fun n6 h6 => ?_⟩⟩
  rw [Int.tdiv_eq_ediv_of_nonneg (by omega), wrap64 (by omega) (by omega)] at h6
  have : n6 = ((n - 8) / 32 : Nat) := by omega
  rw [this]; exact hR

theorem ref07_New {d n : Nat} {pa : Option Addr} {pc : Nat} {c1 c2 c3 c4 c5 : Value} (hn : 136 ≤ n ∧ n ≤ 8192) (h : Blk w d [.slice pa n pc, c1, c2, c3, c4, c5] T_pollardref03_Disk) {fi : Nat} (hfi : fi ≤ 1000000)
    (hR : ∀ w' t, Keep [] w w' → w.heap.size ≤ t → Blk w' t [.pointer (some ⟨d, 0, none⟩), .int .i64 fi, .int .i64 fi] T_pollardref07_Segs → R (.returned (.tuple #[.pointer (some ⟨t, 0, none⟩), .int .i64 0])) w') :
    Calls P0 f_pollardref07_New #[.pointer (some ⟨d, 0, none⟩), .int .i64 fi, .int .i64 fi] w R := by
  refine C_pollardref07_New (ref07_Slots (by omega) h ⟨_, rfl, (fun e => by have := of_decide_eq_true e; omega), fun _ => ⟨(fun e => by have := of_decide_eq_true e; omega), fun _ => ⟨(fun e => by have := of_decide_eq_true e; omega), fun _ => ⟨(fun e => by have := of_decide_eq_true e; omega), fun _ n7 h7 => ?_⟩⟩⟩⟩)
  rw [wrap64 (by omega) (by omega)] at h7
  refine ref07_Slots (by omega) h ⟨_, rfl, (fun e => by have := of_decide_eq_true e; omega), fun _ => ?_⟩
  refine al (c := [.pointer (some ⟨d, 0, none⟩), .int .i64 fi, .int .i64 fi]) fun w2 b2 k2 s2 => hR w2 _ k2 (Nat.le_refl _) b2

theorem ref08_Open {d t n : Nat} {pa : Option Addr} {pc : Nat} {c1 c2 c3 c4 c5 : Value} (hn : 136 ≤ n ∧ n ≤ 8192) (h : Blk w d [.slice pa n pc, c1, c2, c3, c4, c5] T_pollardref03_Disk) (ht : Blk w t [.pointer (some ⟨d, 0, none⟩), .int .i64 1, .int .i64 1] T_pollardref07_Segs)
    (hR : ∀ w' m, Keep [] w w' → R (.returned (.tuple #[.pointer (some m), .int .i64 0])) w') : Calls P0 f_pollardref08_Open #[.pointer (some ⟨t, 0, none⟩), .agg #[.int .i64 0, .int .i64 8], .int .i64 1] w R := by
  refine C_pollardref08_Open ?_
  refine al (c := [.int .i64 0, .int .i64 8]) fun w5 b5 k5 s5 => ?_
  have b5' : Blk w5.drew w.heap.size _ _ := b5
  have bt : Blk w5.drew t _ _ := k5.blk ht (by simp)
  have bd : Blk w5.drew d _ _ := k5.blk h (by simp)
  refine ⟨_, b5'.cell rfl, (fun e => by have := of_decide_eq_true e; omega), fun _ => ⟨_, b5'.cell rfl, (fun e => by have := of_decide_eq_true e; omega), fun _ => ⟨_, b5'.cell rfl, _, _, rfl, _, bt.cell rfl, fun n12 h12 => ?_⟩⟩⟩
  rw [wrap64 (by omega) (by omega)] at h12
  subst h12
  refine ⟨(fun e => by have := of_decide_eq_true e; omega), fun _ => ⟨_, b5'.cell rfl, _, _, rfl, _, bt.cell rfl, _, _, rfl, _, bt.cell rfl, ref07_Slots (by omega) bd ⟨_, rfl, bt.cell rfl, b5'.cell rfl, fun n23 h23 n24 h24 => ?_⟩⟩⟩
  rw [wrap64 (by omega) (by omega)] at h23
  rw [wrap64 (by omega) (by omega)] at h24
  refine ⟨(fun e => by have := of_decide_eq_true e; omega), fun _ => ⟨(fun e => by have := of_decide_eq_true e; omega), fun _ => ⟨(fun e => by have := of_decide_eq_true e; omega), fun _ => ?_⟩⟩⟩
  refine ⟨_, b5'.cell rfl, _, b5'.cell rfl, _, b5'.cell rfl, _, b5'.cell rfl, _, b5'.cell rfl, _, b5'.cell rfl, _, b5'.cell rfl, ?_⟩
  refine al (c := [_, _, _, _, _, _, _, _, _, _]) fun w7 b7 k7 s7 => hR w7 _ (k5.then_drew.trans k7 (by simp))
end Go.Proofs
