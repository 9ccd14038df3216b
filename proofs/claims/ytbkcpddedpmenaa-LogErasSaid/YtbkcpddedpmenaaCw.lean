/- Contracts: Read. -/
import Derived.Test.YtbkcpddedpmenaaCv
set_option maxRecDepth 100000
namespace Go.Proofs
open Go Go.Vc
variable {w w' : World} {R : Ending → World → Prop} {A : Ad} {fw : List Nat} {ptr : Nat → Nat} {lo : Nat} {S : SysM}

/-- A reading at a place: what it has so far. -/
structure ReadIs (w : World) (r l : Nat) (fp : List Nat) (place : Nat) (xs : List PB) (Mu : List Nat) : Prop where
  ex : ∃ pa pc, Blk w r [.pointer (some ⟨l, 0, none⟩), .int .i64 place, .slice pa xs.length pc, .bool false, .int .i64 0, .int .i64 0, .slice none 0 0, .int .i64 1] T_log_Read ∧ Own w T_api_Part 6 pa xs.length pc (xs.flatMap PB.cells) fp
  data : ∀ x ∈ xs, HasB w x.a x.p.data ∧ Off x.a (r :: fp) ∧ Lt w x.a
/-- One that has ended. -/
def ReadEnd (w : World) (r l place : Nat) (no kind e : Int) (b : List UInt8) : Prop :=
  ∃ v ba bc, Blk w r [.pointer (some ⟨l, 0, none⟩), .int .i64 place, v, .bool true, .int .i64 no, .int .i64 kind, .slice ba b.length bc, .int .i64 e] T_log_Read ∧ HasB w ba b

theorem log_NewRead {l : Nat} {p : Nat} (hR : ∀ w' r, Keep [] w w' → w.heap.size ≤ r → ReadIs w' r l [] p [] [] → R (.returned (.pointer (some ⟨r, 0, none⟩))) w') : Calls P0 f_log_Log_NewRead #[.pointer (some ⟨l, 0, none⟩), .int .i64 p] w R := by
  refine C_log_Log_NewRead ?_
  refine al (c := [.pointer (some ⟨l, 0, none⟩), .int .i64 p, .slice none 0 0, .bool false, .int .i64 0, .int .i64 0, .slice none 0 0, .int .i64 1]) fun w2 b2 k2 s2 => ?_
  exact hR w2 _ k2 (Nat.le_refl _) ⟨⟨none, 0, b2, .inl ⟨rfl, rfl, rfl, rfl, rfl⟩⟩, by simp⟩

theorem read_end {r l place : Nat} {v v1 v2 v3 v4 : Value} {dn : Bool} {no kind e : Int} {ba : Option Addr} {bl bc : Nat} (h : Blk w r [.pointer (some ⟨l, 0, none⟩), .int .i64 place, v, .bool dn, v1, v2, v3, v4] T_log_Read)
    (hR : ∀ w', Keep [r] w w' → Blk w' r [.pointer (some ⟨l, 0, none⟩), .int .i64 place, v, .bool true, .int .i64 no, .int .i64 kind, .slice ba bl bc, .int .i64 e] T_log_Read → R (.returned (.bool true)) w') :
    Calls P0 f_log_Read_end #[.pointer (some ⟨r, 0, none⟩), .int .i64 no, .int .i64 kind, .slice ba bl bc, .int .i64 e] w R := by
  refine C_log_Read_end ⟨_, _, rfl, st h (by simp) fun w2 b2 k2 s2 => ⟨_, _, rfl, st b2 (by simp) fun w3 b3 k3 s3 => ⟨_, _, rfl, st b3 (by simp) fun w4 b4 k4 s4 => ⟨_, _, rfl, st b4 (by simp) fun w5 b5 k5 s5 => ⟨_, _, rfl, st b5 (by simp) fun w6 b6 k6 s6 => ?_⟩⟩⟩⟩⟩
  exact hR w6 ((((k2.trans k3 (by simp)).trans k4 (by simp)).trans k5 (by simp)).trans k6 (by simp)) b6

theorem read_Got {r l place : Nat} {no kind e : Int} {b : List UInt8} (h : ReadEnd w r l place no kind e b) (hl : b.length ≤ 1000000000)
    (hR : ∀ w' a' c', Keep [] w w' → HasB w' a' b → R (.returned (.tuple #[.int .i64 no, .int .i64 kind, .slice a' b.length c', .int .i64 e])) w') : Calls P0 f_log_Read_Got #[.pointer (some ⟨r, 0, none⟩)] w R := by
  obtain ⟨v, ba, bc, hb, hd⟩ := h
  have hb' : Blk w.drew r _ _ := hb
  refine C_log_Read_Got ⟨_, _, rfl, _, hb'.cell rfl, _, _, rfl, _, hb'.cell rfl, _, _, rfl, _, _, _, hb'.cell rfl, _, _, rfl, _, hb'.cell rfl, ?_⟩
  refine slices_Clone_byte b rfl (hd.keep (Keep.drew w) (Off.nil _)) (by omega) fun w' a' c' fp k' o' f' _ => ⟨_, _, _, rfl, ?_⟩
  have b2 := k'.blk hb' (by simp)
  exact ⟨b2.cell rfl, b2.cell rfl, b2.cell rfl, hR w' a' c' ((Keep.drew w).trans k' (by simp)) o'.has⟩

theorem read_step_done {r l place : Nat} {no kind e : Int} {b : List UInt8} (h : ReadEnd w r l place no kind e b) (hR : R (.returned (.bool true)) w) : Calls P0 f_log_Read_Step #[.pointer (some ⟨r, 0, none⟩)] w R := by
  obtain ⟨v, ba, bc, hb, hd⟩ := h
  exact C_log_Read_Step ⟨_, _, rfl, _, hb.cell rfl, fun _ => hR, fun e => by cases e⟩

theorem read_Step (h : Sys w A fw ptr lo S) {r : Nat} {fp : List Nat} {place : Nat} {xs : List PB} (hr : ReadIs w r A.l fp place xs []) (hnot : S.L.no ≤ lo) {p : Part} (hin : 8 * S.fi ≤ place + xs.length ∧ place + xs.length < 8 * S.la)
    (hst : standsL S.m S.sl (place + xs.length) = some p) (hix : xs = [] → p.index = 0) (hxl : xs.length ≤ 64) {n0 : Nat} (hn0 : ∀ x ∈ xs.head?, x.p.parts = n0) (hn1 : xs = [] → p.parts = n0) (hbound : xs.length + 1 ≤ n0) {kb : List UInt8} (hok : xs.length + 1 = n0 → joinOk (xs.map PB.p ++ [p]) = true ∧ (xs.map PB.p ++ [p]).flatMap Part.data = kb)
    {kind : Nat} {b : List UInt8} (hkb : kb = UInt8.ofNat kind :: b) (hk : 1 ≤ kind ∧ kind ≤ 5) (hfp : ∀ q ∈ fp, q ∉ A.mu fw)
    (h1 : ∀ w' fp' x, xs.length + 1 < n0 → x.p = p → Keep (r :: fp) w w' → (∀ q ∈ fp', q ∈ fp ∨ w.heap.size ≤ q) → ReadIs w' r A.l fp' place (xs ++ [x]) [] → Sys w' A fw ptr lo S → R (.returned (.bool false)) w')
    (h2 : ∀ w', xs.length + 1 = n0 → Keep (r :: fp) w w' → ReadEnd w' r A.l place p.no kind 0 b → Sys w' A fw ptr lo S → R (.returned (.bool true)) w') :
    Calls P0 f_log_Read_Step #[.pointer (some ⟨r, 0, none⟩)] w R := by
  obtain ⟨pa, pc, hb, ho⟩ := hr.ex
  have hdata := hr.data
  have hA : Blk w.drew A.l _ _ := h.blk
  have hbd : Blk w.drew r _ _ := hb
  have hAr : A.l ≠ r := h.blk.ne hb (by decide)
  have hrM : r ∉ A.mu fw := h.off hb (by decide) (by decide) (by decide) (by decide) (by decide)
  obtain ⟨mi, ma, m1, m2, m3⟩ := h.maps
  have hnoe : S.L.no = S.L.hn + S.L.es.length := rfl
  have hma : mfind ma (place : Int) = none := by
    cases hm : mfind ma (place : Int) with
    | none => rfl
    | some v =>
      obtain ⟨i, j, g1, g2, _⟩ := m3.a2 _ _ hm
      omega
  have hlk := run_lookup_int (ok := true) um ui zp (show MapIs w.drew A.ba ma from m2) (k := (place : Int))
  rw [hma] at hlk
  have hsml := h.sml
  have hla := h.laok
  have hsg := h.seg.2
  have hrfp : r ∉ fp := fun hm => by obtain ⟨c, hc⟩ := Own.blk ho r hm; exact hb.ne hc (by decide) rfl
  refine C_log_Read_Step ⟨_, _, rfl, _, hb.cell rfl, (fun e => by cases e), fun _ => ⟨_, _, rfl, _, hbd.cell rfl, _, _, rfl, _, hA.cell rfl, _, _, rfl, _, hbd.cell rfl, _, _, hlk, ?_⟩⟩
  intro J16 hJ16
  refine ⟨fun e => by simp at e, fun _ => hJ16 _ _ ⟨(fun e => by cases e), fun _ => ?_⟩⟩
  clear hJ16
  intro J34 hJ34
  -- where a part is at hand
  have main : ∀ (q : Nat) (x : PB) (w37 : World), Keep [] w w37 → Blk w37 q x.cells T_api_Part → w.heap.size ≤ q → x.p = p → HasB w37 x.a x.p.data → New w x.a → Lt w37 x.a → J34 q 0 w37 := by
    intro q x w37 k37 bq hq hx hxd hxn hxl2
    refine hJ34 q 0 w37 ⟨fun e => by simp at e, fun _ => ?_⟩
    clear hJ34
    intro J41 hJ41
    have b37 := k37.blk hb (by simp)
    refine ⟨fun e => by simp at e, fun _ => ⟨_, _, rfl, _, _, _, b37.cell rfl, ?_⟩⟩
    have go : J41 false w37 := by
      refine hJ41 false w37 ⟨(fun e => by cases e), fun _ => ?_⟩
      clear hJ41
      have b37' : Blk w37.drew r _ _ := b37
      have bq' : Blk w37.drew q _ _ := bq
      refine ⟨_, _, rfl, _, _, _, b37'.cell rfl, _, bq'.cell rfl, _, bq'.cell rfl, _, bq'.cell rfl, _, bq'.cell rfl, _, bq'.cell rfl, _, _, _, bq'.cell rfl, ?_⟩
      refine al (c := x.cells) fun w62 b62 k62 s62 => ?_
      have k37_62 : Keep [] w37 w62 := (Keep.drew w37).trans k62 (by simp)
      have k0_62 := k37.trans k37_62 (by simp)
      have br62 := k0_62.blk hb (by simp)
      have ho62 := ho.keep k0_62 (by simp)
      obtain ⟨a63, c63, w64, fp64, hr64, o64, k64, f64, _⟩ := own_append EP (ty := T_slice_api_Part) (xc := 1) ho62 (n := 1) (news := x.cells) rfl (.inr ⟨_, 0, rfl, rdb_all b62⟩) (cells_one x) (by omega)
      refine ⟨br62.cell rfl, _, _, _, w64, hr64, ?_⟩
      have br64 := k64.blk br62 hrfp
      refine ⟨_, _, rfl, st br64 (by simp) fun w67 b67 k67 s67 => ?_⟩
      have k62_67 : Keep (r :: fp) w62 w67 := (k64.mono (N := r :: fp) (fun q hq => .inl (by simp [hq]))).trans k67 (by simp)
      have k0_67 : Keep (r :: fp) w w67 := (k0_62.mono (by simp)).trans k62_67 (fun q hq => .inl hq)
      have hw62 := k0_62.1
      have hw37 := k37_62.1
      have o67 : Own w67 T_api_Part 6 a63 (xs.length + 1) c63 ((xs ++ [x]).flatMap PB.cells) fp64 := by
        have : Own w67 T_api_Part 6 a63 (xs.length + 1) c63 (xs.flatMap PB.cells ++ x.cells) fp64 := o64.keep k67 (fun q hq => by
          simp; rintro rfl
          rcases f64 q hq with g | g
          · exact hrfp g
          · have := hb.lt; omega)
        simpa [List.flatMap_append] using this
      have hlt0 : ∀ q ∈ r :: fp, q < w.heap.size := fun q hq => by
        simp only [List.mem_cons] at hq
        rcases hq with rfl | hq
        · exact hb.lt
        · exact Own.lt ho q hq
      have hxoff : Off x.a (r :: fp) := off_new hlt0 hxn
      have hnewoff : ∀ a, Off a (r :: fp) → Lt w62 a → Off a (r :: fp64) := fun a h1 h2 q hq hm => by
        simp only [List.mem_cons] at hm
        rcases hm with hm | hm
        · exact h1 q hq (by simp [hm])
        · rcases f64 _ hm with g | g
          · exact h1 q hq (by simp [g])
          · have := h2 q hq; omega
      have d67 : ∀ y ∈ xs ++ [x], HasB w67 y.a y.p.data ∧ Off y.a (r :: fp64) ∧ Lt w67 y.a := fun y hy => by
        rw [List.mem_append] at hy
        rcases hy with hy | hy
        · obtain ⟨g1, g2, g3⟩ := hdata y hy
          exact ⟨g1.keep k0_67 g2, hnewoff _ g2 (g3.keep k0_62), g3.keep k0_67⟩
        · simp at hy; subst hy
          exact ⟨(hxd.keep k37_62 (Off.nil _)).keep k62_67 hxoff, hnewoff _ hxoff (hxl2.keep k37_62), (hxl2.keep k37_62).keep k62_67⟩
      have s67 : Sys w67 A fw ptr lo S := h.keepM k0_67 (fun q hq hm => by
        simp only [List.mem_cons] at hm
        rcases hm with rfl | hm
        · exact hrM hq
        · exact hfp q hm hq) (fun i hi hl => by omega)
      have b67' : Blk w67.drew r _ _ := b67
      obtain ⟨b74, o74, hb74, hr74⟩ : ∃ b o, a63 = some ⟨b, o, none⟩ ∧ Rdb w67 b o ((xs ++ [x]).flatMap PB.cells) := by
        rcases Own.has o67 with hx | hx
        · have := cells_len (xs ++ [x])
          rw [hx] at this; simp at this
        · exact hx
      subst hb74
      have hparts : ∃ v : Int, v = n0 ∧ w67.drew.cell? ⟨b74, o74 + Int.toNat (0 : Int) * 6 + 4, none⟩ = some (.int .i64 v) := by
        cases hxs : xs with
        | nil =>
          subst hxs
          refine ⟨x.p.parts, by rw [hx]; exact hn1 rfl, ?_⟩
          have := hr74 4 _ (show ((([] : List PB) ++ [x]).flatMap PB.cells)[4]? = some (.int .i64 x.p.parts) from rfl)
          exact this
        | cons y ys =>
          refine ⟨y.p.parts, hn0 y (by rw [hxs]; rfl), ?_⟩
          rw [hxs] at hr74
          have := hr74 4 _ (show (((y :: ys) ++ [x]).flatMap PB.cells)[4]? = some (.int .i64 y.p.parts) from rfl)
          exact this
      obtain ⟨nv, hnv, hcell⟩ := hparts
      refine ⟨_, _, rfl, _, _, _, b67'.cell rfl, _, _, rfl, _, _, _, b67'.cell rfl, _, _, rfl, by omega, by omega, nv, hcell, fun e => ?_, fun e => ?_⟩
      · have e := of_decide_eq_true e
        refine h1 w67.drew fp64 x (by omega) hx k0_67.then_drew (fun q hq => ?_) ⟨⟨_, _, by rw [List.length_append]; exact b67, by rw [List.length_append]; exact o67⟩, d67⟩ (s67.keep0 (Keep.drew _))
        rcases f64 q hq with g | g
        · exact .inl g
        · right; omega
      · have e := of_decide_eq_false e
        have hfin : xs.length + 1 = n0 := by omega
        obtain ⟨hj1, hj2⟩ := hok hfin
        have hmap : (xs ++ [x]).map PB.p = xs.map PB.p ++ [p] := by rw [List.map_append, ← hx]; rfl
        have hflat : ((xs ++ [x]).flatMap fun x => x.p.data) = kb := by
          rw [← hj2, ← hmap, List.flatMap_map]
        refine ⟨_, _, rfl, _, _, _, b67'.cell rfl, ?_⟩
        refine seg_Join (xs ++ [x]) (by simp) (.inr ⟨_, _, rfl, hr74⟩) (fun y hy => (d67 y hy).1) (by omega) (fun w81 k81 hno => ?_) (fun w81 a82 c82 fp82 k81 hyes o82 f82 => ?_)
        · rw [hmap, hj1] at hno; cases hno
        rw [hflat] at o82 ⊢
        rw [hkb] at o82 ⊢
        refine ⟨_, _, _, _, rfl, ?_⟩
        obtain ⟨b98, hb98, hr98⟩ : ∃ z, a82 = some ⟨z, 0, none⟩ ∧ Rdb w81 z 0 ((UInt8.ofNat kind :: b).map B) := by
          rcases o82 with ⟨_, h, _⟩ | ⟨b', c, h1, _, hblk, _, _, h3⟩
          · simp at h
          · refine ⟨b', h1, fun j v hj => hblk.cell ?_⟩
            rw [Nat.zero_add]
            rw [← h3, List.getElem?_take] at hj
            split at hj
            · exact hj
            · cases hj
        have hlt82 := Own.ltA o82
        have hnew82 := Own.new o82 f82
        have hhas82 := Own.has o82
        have hcap82 : (UInt8.ofNat kind :: b).length ≤ c82 := by
          rcases o82 with ⟨_, h, _⟩ | ⟨_, _, _, _, _, _, h, _⟩
          · simp at h
          · exact h
        subst hb98
        have hkn : ((UInt8.ofNat kind).toNat : Int) = kind := by
          have : (UInt8.ofNat kind).toNat = kind % 256 := rfl
          rw [this]; omega
        have hc0 : w81.cell? ⟨b98, 0 + Int.toNat (0 : Int) * 1, none⟩ = some (.int .u8 (kind : Int)) := by
          have := hr98 0 _ (show ((UInt8.ofNat kind :: b).map B)[0]? = some (B (UInt8.ofNat kind)) from rfl)
          unfold B at this
          rw [hkn] at this
          exact this
        have hq67 : q ∉ r :: fp := fun hm => by have := hlt0 q hm; omega
        have bq81 : Blk w81 q x.cells T_api_Part := (k62_67.then_drew.trans k81 (fun q hq => .inl (by simp at hq))).blk (k37_62.blk bq (by simp)) hq67
        have s81 := (s67.keep0 (Keep.drew _)).keep0 k81
        have br81 := k81.blk b67' (by simp)
        have k0_81 : Keep (r :: fp) w w81 := k0_67.then_drew.trans k81 (by simp)
        intro J84 hJ84
        have fin : J84 false w81 := by
          refine hJ84 false w81 ⟨(fun e => by cases e), fun _ => ?_⟩
          refine ⟨_, (show Blk w81.drew q _ _ from bq81).cell rfl, _, _, rfl, by omega, by simp <;> omega, _, hc0, fun n94 h94 => ⟨by omega, by simp <;> omega, ?_⟩⟩
          rw [wrap64 (by omega) (by omega)] at h94
          subst h94
          refine read_end (show Blk w81.drew r _ _ from br81) fun w96 k96 b96 => ⟨_, rfl, ?_⟩
          have hpn : x.p.no = p.no := by rw [hx]
          refine h2 w96 hfin (k0_81.then_drew.trans k96 (by simp)) ?_ ?_
          · refine ⟨.slice (some ⟨b74, o74, none⟩) (xs.length + 1) c63, cutBase (some ⟨b98, 0, none⟩) (Int.toNat 1) c82 1, c82 - Int.toNat 1, ?_, ?_⟩
            · rw [hpn] at b96
              have e1 : (UInt8.ofNat kind :: b).length - Int.toNat (1 : Int) = b.length := rfl
              rw [e1] at b96
              exact b96
            · have g := has_drop (lo := 1) (m := c82) hhas82 hcap82 (by simp)
              refine Has.keep (M := [r]) (w := w81.drew) ?_ k96 ?_
              · exact g
              · intro z hz hm
                obtain ⟨z', g1, g2⟩ := cutBase_block hz
                have g3 := hnew82 z' g1
                have g4 := hb.lt
                have g5 := k0_67.1
                have g6 : w67.drew.heap.size = w67.heap.size := rfl
                simp at hm
                omega
          · refine (s81.keep0 (Keep.drew _)).keepM k96 (fun z hz hm => hrM (by simp at hm; exact hm ▸ hz)) (fun i hi hl => by omega)
        refine ⟨fun e => by simp at e, fun _ => ⟨_, _, rfl, by omega, by simp <;> omega, _, hc0, fun e => ?_, fun _ => ⟨_, _, rfl, by omega, by simp <;> omega, _, hc0, ?_⟩⟩⟩
        · have := of_decide_eq_true e; omega
        · rw [decide_eq_false (by omega)]; exact fin
    refine ⟨fun e => ?_, fun _ => go⟩
    have hx0 : xs = [] := by simpa using e
    refine ⟨_, bq.cell rfl, ?_⟩
    have : (x.p.index != 0) = false := by rw [hx, hix hx0]; rfl
    rw [this]; exact go
  have kd3 : Keep [] w w.drew.drew.drew := (Keep.drew w).then_drew.then_drew
  have h3 := h.keep0 kd3
  have b3 : Blk w.drew.drew.drew r _ _ := hb
  have A3 : Blk w.drew.drew.drew A.l _ _ := h.blk
  refine ⟨_, _, rfl, _, b3.cell rfl, _, _, rfl, _, A3.cell rfl, _, _, rfl, _, b3.cell rfl, _, _, rfl, _, _, _, b3.cell rfl, fun n120 h120 => ?_⟩
  rw [wrap64 (by omega) (by omega)] at h120
  have h120 : n120 = ((place + xs.length : Nat) : Int) := by omega
  subst h120
  constructor
  · refine seg_Read h3.disk h3.seg rfl (by omega) (fun w' _ hno => absurd hin hno) (fun w' _ hno _ => by rw [hst] at hno; cases hno) fun w122 x k122 _ hyes hxd hxn hxl2 => ⟨_, _, _, _, _, _, _, _, _, rfl, ?_⟩
    have hxp : x.p = p := by rw [hst] at hyes; injection hyes with hyes; exact hyes.symm
    refine al (c := Z6) fun w130 b130 k130 s130 => ?_
    have k3_130 := k122.trans k130 (by simp)
    have br := k3_130.blk b3 (by simp)
    have bA := k3_130.blk A3 (by simp)
    refine ⟨br.cell rfl, br.cell rfl, bA.cell rfl, br.cell rfl, st6 b130 rfl fun w136 b136 k136 _ => ?_⟩
    have k122_136 : Keep [] w122 w136 := k130.trans k136 (by simp)
    have k0_136 : Keep [] w w136 := (kd3.trans k122 (by simp)).trans k122_136 (by simp)
    exact main _ x w136 k0_136 b136 (kd3.trans k122 (by simp)).1 hxp (hxd.keep k122_136 (Off.nil _)) (fun q hq => Nat.le_trans kd3.1 (hxn q hq)) (hxl2.keep k122_136)
  · refine al (c := Z6) fun w137 b137 k137 s137 => ?_
    have br := k137.blk b3 (by simp)
    have bA := k137.blk A3 (by simp)
    have h137 := h3.keep0 k137
    refine ⟨br.cell rfl, br.cell rfl, bA.cell rfl, br.cell rfl, ?_⟩
    refine seg_Read h137.disk h137.seg rfl (by omega) (fun w' _ hno => absurd hin hno) (fun w' _ hno _ => by rw [hst] at hno; cases hno) fun w139 x k139 _ hyes hxd hxn hxl2 => ⟨_, _, _, _, _, _, _, _, _, rfl, ?_⟩
    have hxp : x.p = p := by rw [hst] at hyes; injection hyes with hyes; exact hyes.symm
    refine st6 (k139.blk b137 (by simp)) rfl fun w152 b152 k152 _ => ?_
    have hs3 : w.heap.size ≤ w.drew.drew.drew.heap.size := kd3.1
    have hs4 := k137.1
    have k0_152 : Keep [] w w152 := ((kd3.trans k137 (by simp)).trans k139 (by simp)).trans k152 (by simp)
    refine main _ x w152 k0_152 b152 hs3 hxp (hxd.keep k152 (fun q hq hm => ?_)) (fun q hq => Nat.le_trans (kd3.trans k137 (by simp)).1 (hxn q hq)) (hxl2.keep k152)
    have g1 := hxn q hq
    have g2 := b137.lt
    simp only [List.mem_cons, List.not_mem_nil, or_false] at hm
    omega
end Go.Proofs
