/- Contracts: Append. -/
import Derived.Test.YtbkcpddedpmenaaCm
set_option maxRecDepth 100000
namespace Go.Vc
open Go
theorem mfind_mput (m : List (Int × Value)) (k : Int) (v : Value) (j : Int) : mfind (mput m k v) j = if j = k then some v else mfind m j := by
  induction m with
  | nil => simp [mput, mfind]
  | cons p m ih =>
    obtain ⟨a, u⟩ := p
    simp only [mput]
    by_cases hk : k = a
    · subst hk
      simp only [if_true, mfind]
      by_cases hj : j = k <;> simp [hj]
    · simp only [hk, if_false, mfind, ih]
      by_cases hj : j = a
      · subst hj; simp [Ne.symm hk]
      · simp [hj]
theorem mput_length_none {m : List (Int × Value)} {k : Int} {v : Value} (h : mfind m k = none) : (mput m k v).length = m.length + 1 := by
  rw [(mput_keys_of_none h).1]; simp
theorem mfind_none_of_not_mem {m : List (Int × Value)} {k : Int} (h : k ∉ m.map Prod.fst) : mfind m k = none := by
  induction m with
  | nil => rfl
  | cons p m ih =>
    obtain ⟨a, u⟩ := p
    simp only [List.map_cons, List.mem_cons, not_or] at h
    simp [mfind, h.1, ih h.2]
theorem mfind_mdel {m : List (Int × Value)} (hn : (m.map Prod.fst).Nodup) (k : Int) (j : Int) : mfind (mdel m k) j = if j = k then none else mfind m j := by
  induction m with
  | nil => simp [mdel, mfind]
  | cons p m ih =>
    obtain ⟨a, u⟩ := p
    simp only [List.map_cons, List.nodup_cons] at hn
    simp only [mdel]
    by_cases hk : k = a
    · subst hk
      simp only [if_true, mfind]
      by_cases hj : j = k
      · subst hj; simp [mfind_none_of_not_mem hn.1]
      · simp [hj]
    · simp only [hk, if_false, mfind, ih hn.2]
      by_cases hj : j = a
      · subst hj; simp [Ne.symm hk]
      · simp [hj]
theorem mdel_length {m : List (Int × Value)} {k : Int} {v : Value} (h : mfind m k = some v) : (mdel m k).length + 1 = m.length := by
  induction m with
  | nil => simp [mfind] at h
  | cons p m ih =>
    obtain ⟨a, u⟩ := p
    simp only [mfind] at h
    simp only [mdel]
    by_cases hk : k = a
    · simp [hk]
    · simp only [hk, if_false] at h ⊢
      simp only [List.length_cons, ih h]
end Go.Vc

namespace Go.Proofs
open Go Go.Vc
variable {w w' : World} {R : Ending → World → Prop} {A : Ad} {fw : List Nat} {ptr : Nat → Nat} {lo : Nat} {S : SysM}

def appErr (S : SysM) (hn hp k : Int) (len : Nat) : Int :=
  if k < 1 ∨ k > 5 then 1 else if 12672 ≤ len then 2 else if ¬ (hn = S.L.no ∧ hp = S.L.place) then 5 else if hn = 1099511627776 then 3 else
  if partsErr (S.L.no + 1) S.L.place S.L.era (len + 1) ≠ 0 ∨ roomOf S k < S.L.place + manyOf (len + 1) then 3 else 0
def SysM.app (S : SysM) (e : Ent) : SysM := { S with L := { S.L with es := S.L.es ++ [e] } }
def ptrApp (ptr : Nat → Nat) (i p : Nat) : Nat → Nat := fun j => if j = i then p else ptr j

theorem app_at {L : LogM} {e : Ent} {i : Nat} (h : i ≤ L.es.length) : LogM.at { L with es := L.es ++ [e] } i = L.at i := by
  unfold LogM.at; simp only; rw [List.take_append_of_le_length h]
theorem app_parts {L : LogM} {e : Ent} {i : Nat} (h : i < L.es.length) : LogM.parts { L with es := L.es ++ [e] } i = L.parts i := by
  unfold LogM.parts
  rw [app_at (Nat.le_of_lt h), List.getElem?_append_left h]

theorem partsOf_may {no place era : Int} {b : List UInt8} (h : partsErr no place era b.length = 0) : ∀ p ∈ partsOf no place era b, mayB p = true := by
  unfold partsErr at h
  split at h
  · cases h
  split at h
  · cases h
  rename_i h1 h2
  simp only [not_or] at h2
  obtain ⟨g1, g2, g3, g4⟩ := h2
  simp only [mayB, Bool.not_eq_false, Bool.and_eq_true, inB_eq] at g4
  intro p hp
  simp only [partsOf, List.mem_map, List.mem_range] at hp
  obtain ⟨i, hi, rfl⟩ := hp
  have hm : manyOf b.length ≤ 64 := by unfold manyOf; omega
  simp only [mayB, Bool.and_eq_true, inB_eq, Bool.or_eq_true, beq_iff_eq]
  refine ⟨by omega, by omega, by omega, by omega, by omega, ?_⟩
  simp only [List.length_take, List.length_drop]
  unfold manyOf at hi ⊢
  omega


/-- New things keep off what turned before. -/
theorem off_new {w0 : World} {Mu : List Nat} {a : Option Addr} (hMu : ∀ q ∈ Mu, q < w0.heap.size) (h : New w0 a) : Off a Mu := fun q hq hm => by
  have h1 := h q hq
  have h2 := hMu _ hm
  omega

set_option maxHeartbeats 1000000 in
theorem log_Append (h : Sys w A fw ptr lo S) {hn hp k : Int} {a : Option Addr} {len cap : Nat} (b : List UInt8) (hb : HasB w a b) (hl : b.length = len) (hc : len ≤ cap)
    (hbad : ∀ w', Keep [] w w' → appErr S hn hp k len ≠ 0 → R (.returned (.tuple #[.agg #[.int .i64 0, .int .i64 0], .int .i64 (appErr S hn hp k len)])) w')
    (hgood : ∀ w' p, Keep (A.mu fw) w w' → appErr S hn hp k len = 0 → Sys w' A fw (ptrApp ptr S.L.es.length p) lo (S.app (k.toNat, b)) →
      R (.returned (.tuple #[.agg #[.int .i64 (S.app (k.toNat, b)).L.no, .int .i64 (S.app (k.toNat, b)).L.place], .int .i64 0])) w') :
    Calls P0 f_log_Log_Append #[.pointer (some ⟨A.l, 0, none⟩), .agg #[.int .i64 hn, .int .i64 hp], .int .i64 k, .slice a len cap] w R := by
  refine C_log_Log_Append ?_
  have hMu := h.lt
  refine al (c := [.int .i64 hn, .int .i64 hp]) fun w6 b6 k6 s6 => ?_
  refine al (c := [.int .i64 0, .int .i64 0]) fun w7 b7 k7 s7 => ?_
  have k07 : Keep [] w w7 := k6.trans k7 (by simp)
  have b67 := k7.blk b6 (by simp)
  have fail : ∀ (w10 : World) (e : Int), Keep [] w w10 → Blk w10 w6.heap.size [.int .i64 0, .int .i64 0] T_api_Head → e = appErr S hn hp k len → e ≠ 0 →
      Wr w10 ⟨w6.heap.size, 0, none⟩ ∧ ∀ w11, w11 = w10.setCell ⟨w6.heap.size, 0, none⟩ (.int .i64 (0 : Int)) → Wr w11 ⟨w6.heap.size, 0 + 1, none⟩ ∧ ∀ w12, w12 = w11.setCell ⟨w6.heap.size, 0 + 1, none⟩ (.int .i64 (0 : Int)) →
      ∃ r13 : Int, w12.cell? ⟨w6.heap.size, 0, none⟩ = some (.int .i64 r13) ∧ ∃ r14 : Int, w12.cell? ⟨w6.heap.size, 0 + 1, none⟩ = some (.int .i64 r14) ∧ R (.returned (.tuple #[(.agg #[(.int .i64 r13), (.int .i64 r14)]), (.int .i64 e)])) w12 := by
    intro w10 e hk hb he hne
    refine st hb (by simp) fun w11 b11 k11 s11 => st b11 (by simp) fun w12 b12 k12 s12 => ⟨_, b12.cell rfl, _, b12.cell rfl, ?_⟩
    subst he
    have := k6.1
    exact hbad w12 ((hk.trans k11 (by simp [this])).trans k12 (by simp [this])) hne
  intro J hJ
  have h8 : ∀ x, (x = true ↔ (k < 1 ∨ k > 5)) → J x w7 := by
    intro x hx
    refine hJ x w7 ⟨fun e => ?_, fun e => ?_⟩
    · have hx := hx.1 e
      exact fail w7 1 k07 b7 (by unfold appErr; rw [if_pos hx]) (by decide)
    have hk15 : ¬ (k < 1 ∨ k > 5) := fun hh => by have := hx.2 hh; rw [e] at this; cases this
    clear hx hJ
    refine ⟨fun e => ?_, fun e => ?_⟩
    · have e := of_decide_eq_true e
      exact fail w7 2 k07 b7 (by unfold appErr; rw [if_neg hk15, if_pos (by omega)]) (by decide)
    have hlen2 : len < 12672 := by have := of_decide_eq_false e; omega
    clear e
    have b67' : Blk w7.drew w.heap.size _ _ := b67
    have hA : Blk w7.drew A.l _ _ := k07.blk h.blk (by simp)
    refine ⟨_, b67'.cell rfl, _, b67'.cell rfl, _, _, rfl, _, hA.cell rfl, _, hA.cell rfl, _, neq_head _ _ _ _ _ _, fun e => ?_, fun e => ?_⟩
    · refine fail w7.drew 5 k07.then_drew b7 ?_ (by decide)
      unfold appErr
      rw [if_neg hk15, if_neg (by omega), if_pos (fun hh => by obtain ⟨h1, h2⟩ := hh; rw [h1, h2] at e; simp at e)]
    have hhead : hn = S.L.no ∧ hp = S.L.place := by
      have : (hn == (S.L.no : Int) && hp == (S.L.place : Int)) = true := by simpa using e
      simpa using this
    clear e
    refine ⟨_, b67'.cell rfl, fun e => ?_, fun e => ?_⟩
    · refine fail w7.drew 3 k07.then_drew b7 ?_ (by decide)
      unfold appErr
      rw [if_neg hk15, if_neg (by omega), if_neg (by simpa using hhead), if_pos (by simpa using e)]
    have hno : ¬ hn = 1099511627776 := by simpa using e
    clear e
    have htop := h.top
    have hbot := h.bot
    have hg := h.seg.2
    have hsml := h.sml
    have hplen := length_le_pN S.L.es
    have hplace : S.L.place = S.L.hp + pN S.L.es := rfl
    have hnoe : S.L.no = S.L.hn + S.L.es.length := rfl
    obtain ⟨hn1, hp1⟩ := hhead
    have b67'' : Blk w7.drew.drew w.heap.size [.int .i64 hn, .int .i64 hp] T_api_Head := b67
    refine ⟨_, b67''.cell rfl, fun n40 h40 => ⟨_, b67''.cell rfl, ?_⟩⟩
    rw [wrap64 (by omega) (by omega)] at h40
    have kdd : Keep [] w w7.drew.drew := k07.then_drew.then_drew
    refine slices_Clone_byte b hl (hb.keep kdd (Off.nil _)) (by omega) fun w43 a44 c44 fp44 k43 o44 f44 _ => ⟨_, _, _, rfl, ?_⟩
    have b43 := k43.blk b67'' (by simp)
    have k0_43 : Keep [] w w43 := kdd.trans k43 (by simp)
    refine ⟨b43.cell rfl, b43.cell rfl, ?_⟩
    refine al (c := [.int .i64 n40, .int .i64 k, .int .i64 hp, .slice a44 len c44, .slice none 0 0]) fun w45 b45 k45 s45 => ?_
    have k0_45 : Keep [] w w45 := k0_43.trans k45 (by simp)
    have b45' : Blk w45.drew w43.heap.size _ _ := b45
    have hA45 : Blk w45.drew A.l _ _ := k0_45.blk h.blk (by simp)
    refine ⟨_, _, rfl, _, b45'.cell rfl, _, _, rfl, _, b45'.cell rfl, _, _, rfl, _, hA45.cell rfl, fun n55 h55 => ?_⟩
    have hk15' : 1 ≤ k ∧ k ≤ 5 := by omega
    rw [wrap8 (by omega) (by omega)] at h55
    subst h55
    refine al (c := [.int .u8 n55]) fun w56 b56 k56 s56 => ?_
    have k45_56 : Keep [] w45 w56 := (Keep.drew w45).trans k56 (by simp)
    have hA56 := k56.blk hA45 (by simp)
    have b4556 := k56.blk b45' (by simp)
    refine ⟨hA56.cell rfl, b4556.cell rfl, b4556.cell rfl, ?_⟩
    have hB : Value.int .u8 n55 = B (UInt8.ofNat n55.toNat) := by
      unfold B
      congr 1
      have : (UInt8.ofNat n55.toNat).toNat = n55.toNat % 256 := rfl
      rw [this]; omega
    have o56 : Own w56 T_uint8 1 (some ⟨w45.drew.heap.size, 0, none⟩) 1 1 [B (UInt8.ofNat n55.toNat)] [w45.drew.heap.size] := .inr ⟨_, _, rfl, rfl, b56, rfl, Nat.le_refl _, by simp [hB]⟩
    obtain ⟨a57, c57, w58, fp58, hr58, o58, k58, f58, _⟩ := own_append E8 (ty := T_slice_uint8) (xc := cap) o56 (news := b.map B) (n := len) (by simp [hl]) (hb.keep (k0_45.trans k45_56 (by simp)) (Off.nil _)) (mapB_one _) (by omega)
    refine ⟨_, _, _, w58, hr58, ?_⟩
    have hs45 : w45.drew.heap.size = w45.heap.size := rfl
    have k45_58 : Keep [] w45 w58 := (k45_56.trans k58 (by simp [hs45]))
    have b58 := k45_58.blk b45 (by simp)
    have hA58 : Blk w58 A.l _ _ := (k0_45.trans k45_58 (by simp)).blk h.blk (by simp)
    refine ⟨hA58.cell rfl, b58.cell rfl, b58.cell rfl, ?_⟩
    have o58' : Own w58 T_uint8 1 a57 (1 + len) c57 ((UInt8.ofNat n55.toNat :: b).map B) fp58 := by simpa using o58
    have hcap57 : 1 + len ≤ c57 := by
      rcases o58' with ⟨_, h, _⟩ | ⟨_, _, _, _, _, _, h, _⟩
      · omega
      · omega
    have hllen : (UInt8.ofNat n55.toNat :: b).length = 1 + len := by simp [hl]; omega
    have hpe : partsErr n40 hp S.L.era (UInt8.ofNat n55.toNat :: b).length = partsErr (S.L.no + 1) S.L.place S.L.era (len + 1) := by
      rw [hllen, h40, hn1, hp1, Nat.add_comm 1 len]
    have hab : partsErr (S.L.no + 1) S.L.place S.L.era (len + 1) ≠ 0 → appErr S hn hp n55 len = 3 := fun hh => by
      unfold appErr
      rw [if_neg hk15, if_neg (by omega), if_neg (by simp [hn1, hp1]), if_neg hno, if_pos (.inl hh)]
    refine seg_Parts (UInt8.ofNat n55.toNat :: b) hllen hcap57 o58'.has (Own.ltA o58') (by omega) (by omega) (by omega) (fun w60 k60 hpb => ⟨_, _, _, _, rfl, ?_⟩) (fun w60 a61 c61 fp61 xs k60 hpg hxs o61 f61 hx => ⟨_, _, _, _, rfl, ?_⟩)
    · have b60 := k60.blk b58 (by simp)
      refine ⟨_, _, rfl, st b60 (by simp) fun w65 b65 k65 s65 => ?_⟩
      intro J66 hJ66
      refine ⟨fun _ => ?_, fun e => ?_⟩
      · have hk1 : w.heap.size ≤ w43.heap.size := k0_43.1
        have kk : Keep [] w w65 := ((k0_45.trans k45_58 (by simp)).trans k60 (by simp)).trans k65 (by simp [hk1])
        refine hJ66 true w65 ⟨fun _ => ?_, fun e => by cases e⟩
        refine fail w65 3 kk ?_ (hab (by rw [← hpe]; exact hpb)).symm (by decide)
        have g1 : Blk w58 w6.heap.size _ _ := k45_58.blk (k45.blk (k43.blk (w := w7.drew.drew) b7 (by simp)) (by simp)) (by simp)
        refine k65.blk (k60.blk g1 (by simp)) ?_
        have g2 : w7.drew.drew.heap.size = w7.heap.size := rfl
        have g3 := k43.1
        simp; omega
      · exact absurd hpb (by simpa using e)
    · have b60 := k60.blk b58 (by simp)
      refine ⟨_, _, rfl, st b60 (by simp) fun w65 b65 k65 s65 => ?_⟩
      intro J66 hJ66
      have hk1 : w.heap.size ≤ w43.heap.size := k0_43.1
      have k0_60 : Keep [] w w60 := (k0_45.trans k45_58 (by simp)).trans k60 (by simp)
      have k0_65 : Keep [] w w65 := k0_60.trans k65 (by simp [hk1])
      have hret : ∀ w', Keep [] w65 w' → Blk w' w6.heap.size [.int .i64 0, .int .i64 0] T_api_Head := by
        intro w' hk
        have g1 : Blk w58 w6.heap.size _ _ := k45_58.blk (k45.blk (k43.blk (w := w7.drew.drew) b7 (by simp)) (by simp)) (by simp)
        refine hk.blk (k65.blk (k60.blk g1 (by simp)) ?_) (by simp)
        have g2 : w7.drew.drew.heap.size = w7.heap.size := rfl
        have g3 := k43.1
        simp; omega
      have hxl : xs.length = manyE (n55.toNat, b) := by
        have := congrArg List.length hxs
        simp [partsOf] at this
        rw [this]; unfold manyE; simp
      have hxle : xs.length ≤ 64 := by rw [hxl]; unfold manyE manyOf; simp [hl]; omega
      have hml : manyE (n55.toNat, b) = manyOf (len + 1) := by unfold manyE; simp [hl]
      refine ⟨fun e => by simp at e, fun _ => ?_⟩
      refine log_record_end b65 (by omega) (by omega) fun w133 k133 => ⟨_, _, rfl, ?_⟩
      have k0_133 := k0_65.trans k133 (by simp)
      refine log_room (h.keep0 k0_133) fun w137 k137 => ⟨_, rfl, ?_⟩
      have k65_137 := k133.trans k137 (by simp)
      have k0_137 : Keep [] w w137 := k0_65.trans k65_137 (by simp)
      refine hJ66 _ w137 ⟨fun e => ?_, fun e => ?_⟩
      · have e := of_decide_eq_true e
        refine fail w137 3 k0_137 (hret w137 k65_137) ?_ (by decide)
        unfold appErr
        rw [if_neg hk15, if_neg (by omega), if_neg (by simp [hn1, hp1]), if_neg hno, if_pos (.inr (by rw [← hml, ← hxl]; omega))]
      have hroom := of_decide_eq_false e
      clear fail hbad hJ66 e
      have happ : appErr S hn hp n55 len = 0 := by
        unfold appErr
        rw [if_neg hk15, if_neg (by omega), if_neg (by simp [hn1, hp1]), if_neg hno, if_neg]
        rintro (hh | hh)
        · exact hh (by rw [← hpe]; exact hpg)
        · rw [← hml, ← hxl] at hh; omega
      obtain ⟨mi, ma, m1, m2, m3⟩ := h.maps
      have hA137 : Blk w137.drew A.l _ _ := k0_137.blk h.blk (by simp)
      have b137 : Blk w137.drew w43.heap.size _ _ := k65_137.blk b65 (by simp)
      have m1' : MapIs w137.drew A.bi mi := m1.keep k0_137 (by simp)
      have m2' : MapIs w137.drew A.ba ma := m2.keep k0_137 (by simp)
      obtain ⟨w79, hr79, m79, k79⟩ := run_mapUpdate_int (v := .pointer (some ⟨w43.heap.size, 0, none⟩)) (k := n40) um ui m1'
      refine ⟨_, _, rfl, _, hA137.cell rfl, _, _, rfl, _, b137.cell rfl, w79, hr79, ?_⟩
      have hbi : A.bi < w.heap.size := m1.lt
      have hba : A.ba < w.heap.size := m2.lt
      have hAl : A.l < w.heap.size := h.blk.lt
      have b79 := k79.blk b137 (by simp; omega)
      have k0_79 : Keep [A.bi] w w79 := (k0_137.then_drew.mono (by simp)).trans k79 (by simp)
      have m2_79 := m2'.keep k79 (by simp [h.ne.symm])
      refine ⟨_, _, rfl, _, _, _, b79.cell rfl, ?_⟩
      have hAnot : ∀ q, q ∈ [A.bi, A.ba] → q ∈ A.mu fw := by intro q hq; simp only [List.mem_cons, List.not_mem_nil, or_false] at hq; rcases hq with rfl | rfl <;> simp [Ad.mu]
      have hs43 : w43.heap.size < w65.heap.size := b65.lt
      have ho61 : Has w60 a61 (xs.flatMap PB.cells) := o61.has
      have hoff61 : Off a61 (w43.heap.size :: A.mu fw) := fun q hq hm => by
        have hq2 : q.block ∈ fp61 := by
          rcases o61 with ⟨rfl, _⟩ | ⟨b, c, rfl, rfl, _⟩
          · cases hq
          · injection hq with hq; subst hq; simp
        have g1 := f61 _ hq2
        have g2 := k45_58.1
        simp only [List.mem_cons] at hm
        rcases hm with hm | hm
        · omega
        · have := hMu _ hm; have := k0_43.1; omega
      refine ⟨fun x w' => 0 ≤ x ∧ x ≤ xs.length ∧ Keep [A.ba] w79 w' ∧ ∃ m', MapIs w' A.ba m' ∧ (∀ j : Int, mfind m' j = if (S.L.place : Int) ≤ j ∧ j < S.L.place + x then some (.pointer (some ⟨w43.heap.size, 0, none⟩)) else mfind ma j),
        fun x _ => (xs.length - x).toNat, ⟨by omega, by omega, Keep.refl _ _, ma, m2_79, fun j => by rw [if_neg (by omega)]⟩, ?_⟩
      rintro x w86 ⟨g0, g1, hk, m', hm', hmf⟩
      obtain ⟨i, rfl⟩ := Int.eq_ofNat_of_zero_le g0
      have k0_86 : Keep [A.bi, A.ba] w w86 := (k0_79.mono (by simp)).trans hk (by simp)
      have k65_86 : Keep [A.bi, A.ba] w65 w86 := (((k65_137.then_drew).mono (N := [A.bi, A.ba]) (by simp)).trans k79 (by simp)).trans hk (by simp)
      constructor
      · intro hlt
        have hi : i < xs.length := by have := of_decide_eq_true hlt; omega
        obtain ⟨b87, o87, rfl, hr87⟩ : ∃ b o, a61 = some ⟨b, o, none⟩ ∧ Rdb w60 b o (xs.flatMap PB.cells) := by
          rcases ho61 with hx | hx
          · have := cells_len xs
            rw [hx] at this; simp at this
            omega
          · exact hx
        have hb87 := hoff61 _ rfl
        simp only [List.mem_cons, not_or] at hb87
        have hr86 : Rdb w86 b87 o87 (xs.flatMap PB.cells) := (hr87.keep k65 (by simp [hb87.1])).keep k65_86 (fun hm => hb87.2 (hAnot _ hm))
        have hc : ∀ k v, (xs[i].cells)[k]? = some v → w86.cell? ⟨b87, o87 + i * 6 + k, none⟩ = some v := fun k v hv => by
          have := hr86 _ _ (cells_at xs i hi k v hv)
          rw [Nat.add_assoc]; exact this
        rw [Int.toNat_natCast]
        refine ⟨_, _, rfl, by omega, by omega, _, hc 0 _ rfl, _, hc 1 _ rfl, _, hc 2 _ rfl, _, hc 3 _ rfl, _, hc 4 _ rfl, _, _, _, hc 5 _ rfl, ?_⟩
        refine al (c := Z6) fun w101 b101 k101 s101 => ?_
        refine st6 b101 rfl fun w107 b107 k107 _ => ?_
        have k86_107 : Keep [] w86 w107 := k101.trans k107 (by simp)
        have hA107 : Blk w107.drew A.l _ _ := k86_107.blk (k0_86.blk h.blk (by
          have g1 : A.l ≠ A.bi := fun e => blk_not_map h.blk (e ▸ m1)
          have g2 : A.l ≠ A.ba := fun e => blk_not_map h.blk (e ▸ m2)
          simp [g1, g2])) (by simp)
        have hm107 : MapIs w107.drew A.ba m' := hm'.keep k86_107 (by simp)
        obtain ⟨w112, hr112, m112, k112⟩ := run_mapUpdate_int (v := .pointer (some ⟨w43.heap.size, 0, none⟩)) (k := xs[i].p.place) um ui hm107
        refine ⟨_, _, rfl, _, hA107.cell rfl, _, (show Blk w107.drew _ _ _ from b107).cell rfl, w112, hr112, fun n113 h113 => ?_⟩
        rw [wrap64 (by omega) (by omega)] at h113
        subst h113
        refine ⟨⟨by omega, by omega, (hk.trans k86_107.then_drew (by simp)).trans k112 (by simp), _, m112, fun j => ?_⟩, by dsimp only; omega⟩
        have hpl : xs[i].p.place = S.L.place + i := by
          have e1 : (xs.map PB.p)[i]? = some xs[i].p := by rw [List.getElem?_map, List.getElem?_eq_getElem hi]; rfl
          rw [hxs] at e1
          simp only [partsOf, List.getElem?_map] at e1
          cases hri : (List.range (manyOf (UInt8.ofNat n55.toNat :: b).length))[i]? with
          | none => rw [hri] at e1; cases e1
          | some i' =>
            rw [hri] at e1
            simp only [Option.map_some, Option.some.injEq] at e1
            have : i' = i := by
              have := List.getElem?_eq_some_iff.1 hri
              obtain ⟨_, h2⟩ := this
              simpa using h2.symm
            subst this
            rw [← e1]; simp only; omega
        rw [mfind_mput, hmf, hpl]
        by_cases hj : j = (S.L.place : Int) + i
        · rw [if_pos hj, if_pos (by omega)]
        · rw [if_neg hj]
          by_cases hj2 : (S.L.place : Int) ≤ j ∧ j < S.L.place + (i : Int)
          · rw [if_pos hj2, if_pos (by omega)]
          · rw [if_neg hj2, if_neg (by omega)]
      · intro hle
        have : i = xs.length := by have := of_decide_eq_false hle; omega
        subst this
        have b86 := k65_86.blk b65 (by simp; omega)
        refine log_record_end b86 (by omega) (by omega) fun w115 k115 => ⟨_, _, rfl, ?_⟩
        have g1 : A.l ≠ A.bi := fun e => blk_not_map h.blk (e ▸ m1)
        have g2 : A.l ≠ A.ba := fun e => blk_not_map h.blk (e ▸ m2)
        have hA115 := k115.blk (k0_86.blk h.blk (by simp [g1, g2])) (by simp)
        refine ⟨_, _, rfl, st hA115 (by simp) fun w120 b120 k120 s120 => st b120 (by simp) fun w121 b121 k121 s121 => ⟨_, _, rfl, _, b121.cell rfl, _, b121.cell rfl, ?_⟩⟩
        have k65_121 : Keep [A.bi, A.ba, A.l] w65 w121 := (((k65_86.mono (N := [A.bi, A.ba, A.l]) (by simp)).trans k115 (by simp)).trans k120 (by simp)).trans k121 (by simp)
        have hr65 := hret w65 (Keep.refl _ _)
        have hne6 : w6.heap.size ∉ [A.bi, A.ba, A.l] := by have := k6.1; simp; omega
        refine st (k65_121.blk hr65 hne6) (by simp) fun w128 b128 k128 s128 => st b128 (by simp) fun w129 b129 k129 s129 => ⟨_, b129.cell rfl, _, b129.cell rfl, ?_⟩
        have hk6 := k6.1
        have k65_129 : Keep [A.bi, A.ba, A.l, w6.heap.size] w65 w129 := ((k65_121.mono (N := [A.bi, A.ba, A.l, w6.heap.size]) (by intro q hq; simp only [List.mem_cons, List.not_mem_nil, or_false] at hq ⊢; omega)).trans k128 (by simp)).trans k129 (by simp)
        have k0_129 : Keep [A.bi, A.ba, A.l] w w129 := (k0_65.mono (by simp)).trans k65_129 (fun q hq => by simp only [List.mem_cons, List.not_mem_nil, or_false] at hq ⊢; omega)
        have k0_129' : Keep (A.mu fw) w w129 := k0_129.mono (fun q hq => by
          simp only [List.mem_cons, List.not_mem_nil, or_false] at hq
          rcases hq with rfl | rfl | rfl <;> simp [Ad.mu])
        have hp129 : S.L.place + manyE (n55.toNat, b) = (S.app (n55.toNat, b)).L.place := by
          show _ = S.L.hp + pN (S.L.es ++ [_]); rw [pN_append, pN_single]; omega
        have hno129 : n40 = ((S.app (n55.toNat, b)).L.no : Int) := by
          have : (S.app (n55.toNat, b)).L.no = S.L.no + 1 := by rw [hnoe]; show S.L.hn + (S.L.es ++ [_]).length = _; simp; omega
          rw [this, h40, hn1]; omega
        have hpl129 : hp + (xs.length : Int) = ((S.app (n55.toNat, b)).L.place : Int) := by rw [← hp129, hxl, hp1]; omega
        rw [hno129, hpl129] at b121 b129
        have hl129 : Blk w129 A.l _ _ := k129.blk (k128.blk b121 (by simp; omega)) (by simp; omega)
        rw [hpl129]
        rw [show n40 = ((S.app (n55.toNat, b)).L.no : Int) from hno129]
        refine hgood w129 w43.heap.size k0_129' happ ?_
        have hoffd : ∀ q ∈ A.d :: A.bp :: A.bn :: fw, q ∉ [A.bi, A.ba, A.l] := fun q hq hm => by
          simp only [List.mem_cons, List.not_mem_nil, or_false] at hm
          rcases hm with rfl | rfl | rfl
          · exact h.disk.offMap m1 hq
          · exact h.disk.offMap m2 hq
          · exact h.disk.off h.blk (by decide) (by decide) (by decide) hq
        have hoffs : A.s ∉ [A.bi, A.ba, A.l] := fun hm => by
          simp only [List.mem_cons, List.not_mem_nil, or_false] at hm
          rcases hm with e | e | e
          · exact blk_not_map h.seg.1 (e ▸ m1)
          · exact blk_not_map h.seg.1 (e ▸ m2)
          · exact h.seg.1.ne h.blk (by decide) e
        have hdis := h.disk.keep k0_129 hoffd
        have hseg := h.seg.keep k0_129 hoffs
        have k79_129 : Keep [A.ba, A.l, w6.heap.size] w79 w129 := ((((((hk.mono (N := [A.ba, A.l, w6.heap.size]) (by simp)).trans k115 (by simp)).trans k120 (by simp)).trans k121 (by simp)).trans k128 (by simp)).trans k129 (by simp))
        have hbi6 : w6.heap.size ≠ A.bi := by omega
        have hm1 : MapIs w129 A.bi (mput mi n40 (.pointer (some ⟨w43.heap.size, 0, none⟩))) := m79.keep k79_129 (by simp only [List.mem_cons, List.not_mem_nil, or_false]; rintro (e | e | e) <;> first | exact h.ne e | exact g1 e.symm | exact hbi6 e.symm)
        have hm2 : MapIs w129 A.ba m' := (((((hm'.keep k115 (by simp)).keep k120 (by simp [g2.symm])).keep k121 (by simp [g2.symm])).keep k128 (by simp; omega)).keep k129 (by simp; omega))
        have hM0 : mfind mi n40 = none := by
          cases hmm : mfind mi n40 with
          | none => rfl
          | some v =>
            obtain ⟨i, _, h2, h3⟩ := m3.i2 _ _ hmm
            omega
        have hmark := h.bmark
        have hwr := h.bwr
        have hxlt : (xs.length : Int) = (manyE (n55.toNat, b) : Nat) := by rw [hxl]
        have hes : (S.app (n55.toNat, b)).L.es = S.L.es ++ [(n55.toNat, b)] := rfl
        have hlen1 : (S.app (n55.toNat, b)).L.es.length = S.L.es.length + 1 := by rw [hes]; simp
        have hat : ∀ i, i ≤ S.L.es.length → (S.app (n55.toNat, b)).L.at i = S.L.at i := fun i hi => app_at hi
        have hget : ∀ i (h : i < S.L.es.length) (h' : i < (S.app (n55.toNat, b)).L.es.length), (S.app (n55.toNat, b)).L.es[i] = S.L.es[i] := fun i hi hi' => by
          simp only [hes]; rw [List.getElem_append_left hi]
        have hgetl : ∀ (h' : S.L.es.length < (S.app (n55.toNat, b)).L.es.length), (S.app (n55.toNat, b)).L.es[S.L.es.length] = (n55.toNat, b) := fun h' => by
          simp only [hes]; rw [List.getElem_append_right (Nat.le_refl _)]; simp
        have hatl : S.L.at S.L.es.length = S.L.place := S.L.at_len
        have hk43_60 : Keep [] w43 w60 := (k45.trans k45_58 (by simp)).trans k60 (by simp)
        have hmaps : MapsOk (S.app (n55.toNat, b)).L lo (ptrApp ptr S.L.es.length w43.heap.size) (mput mi n40 (.pointer (some ⟨w43.heap.size, 0, none⟩))) m' := by
          refine ⟨fun i h1 h2 => ?_, fun j v hj => ?_, ?_, fun i j h1 h2 h3 => ?_, fun j v hj => ?_⟩
          · rw [hlen1] at h2
            change mfind _ ((S.L.hn + i + 1 : Nat) : Int) = _
            rw [mfind_mput]
            by_cases e : i = S.L.es.length
            · subst e; rw [if_pos (by omega)]; simp [ptrApp]
            · rw [if_neg (by omega), m3.i1 i h1 (by omega)]; simp [ptrApp, e]
          · rw [mfind_mput] at hj
            by_cases e : j = n40
            · refine ⟨S.L.es.length, ?_, by omega, ?_⟩
              · show lo ≤ S.L.hn + _
                have := h.blo; omega
              · show j = ((S.L.hn + _ + 1 : Nat) : Int)
                omega
            · rw [if_neg e] at hj
              obtain ⟨i, h1, h2, h3⟩ := m3.i2 _ _ hj
              exact ⟨i, h1, by omega, h3⟩
          · rw [mput_length_none hM0, hlen1]
            have := m3.i3
            show _ = S.L.hn + _
            omega
          · rw [hlen1] at h1
            rw [hmf]
            by_cases e : i = S.L.es.length
            · subst e
              rw [hgetl] at h3
              rw [hat _ (Nat.le_refl _), hatl, if_pos (by omega)]; simp [ptrApp]
            · have hi : i < S.L.es.length := by omega
              rw [hget i hi] at h3
              have e1 := LogM.at_succ hi
              have e2 := S.L.at_le (i + 1)
              rw [hat _ (by omega), if_neg (by omega), m3.a1 i j hi h2 h3]; simp [ptrApp, e]
          · rw [hmf] at hj
            split at hj
            · rename_i hr
              refine ⟨S.L.es.length, (j - S.L.place).toNat, by omega, ?_, ?_, ?_⟩
              · show lo ≤ S.L.hn + _
                have := h.blo; omega
              · rw [hgetl]; omega
              · rw [hat _ (Nat.le_refl _), hatl]; omega
            · obtain ⟨i, j', h1, h2, h3, h4⟩ := m3.a2 _ _ hj
              refine ⟨i, j', by omega, h2, ?_, ?_⟩
              · rw [hget i h1]; exact h3
              · rw [hat _ (by omega)]; exact h4
        have hn44 : New w a44 := fun q hq => by
          have := Own.new o44 f44 q hq
          have e1 : w7.drew.drew.heap.size = w7.heap.size := rfl
          have := k07.1
          omega
        have hlt44 := Own.ltA o44
        have hw43 := k43.1
        have e43 : w7.drew.drew.heap.size = w7.heap.size := rfl
        have hk07 := k07.1
        have hrecN : RecIs w129 (A.mu fw) w43.heap.size (S.L.no + 1) S.L.place S.L.era (n55.toNat, b) := by
          have hs60 := hk43_60.1
          have hw58 := k45_58.1
          refine ⟨a44, c44, a61, c61, xs, ?_, ⟨fun hm => by have := hMu _ hm; omega, ?_, ?_, ?_⟩, ?_, off_new hMu hn44, ((hlt44.keep hk43_60).keep k65).keep k65_129, (ho61.keep k65 ?_).keep k65_129 ?_, fun q hq hm => hoff61 q hq (by simp [hm]), ((Own.ltA o61).keep k65).keep k65_129, ?_, fun x hx' => ?_⟩
          · have := k65_129.blk b65 (by simp; omega)
            rw [h40, hn1, hp1] at this
            have e1 : ((n55.toNat : Nat) : Int) = n55 := by omega
            have e2 : ((S.L.no + 1 : Nat) : Int) = (S.L.no : Int) + 1 := by omega
            simp only [e1, e2, hl]
            exact this
          · exact ((((Own.tyA o44).keep hk43_60 (Off.nil _)).keep k65 (fun q hq => by have := hlt44 q hq; simp; omega)).keep k65_129 (fun q hq hm => by
              have g1 := Own.new o44 f44 q hq
              have g2 := k7.1
              simp only [List.mem_cons, List.not_mem_nil, or_false] at hm
              omega))
          · exact ((Own.tyA o61).keep k65 (fun q hq hm => hoff61 q hq (by simp only [List.mem_cons, List.not_mem_nil, or_false] at hm; simp [hm]))).keep k65_129 (fun q hq hm => by
              have hq2 : q.block ∈ fp61 := by
                rcases o61 with ⟨rfl, _⟩ | ⟨b, c, rfl, rfl, _⟩
                · cases hq
                · injection hq with hq; subst hq; simp
              have g1 := f61 _ hq2
              simp only [List.mem_cons, List.not_mem_nil, or_false] at hm
              omega)
          · intro x hx'
            obtain ⟨⟨d1, d2, d3, d4⟩, _⟩ := hx x hx'
            refine (d4.keep k65 ?_).keep k65_129 ?_
            · intro q hq hm; have := d2 q hq; simp at hm; omega
            · intro q hq hm
              have := d2 q hq
              simp only [List.mem_cons, List.not_mem_nil, or_false] at hm
              omega
          · refine ((o44.has.keep hk43_60 (Off.nil _)).keep k65 ?_).keep k65_129 ?_
            · intro q hq; have := hlt44 q hq; simp; omega
            · intro q hq hm
              have g1 := Own.new o44 f44 q hq
              have g2 := k7.1
              simp only [List.mem_cons, List.not_mem_nil, or_false] at hm
              omega
          · intro q hq hm; exact hoff61 q hq (by simp only [List.mem_cons, List.not_mem_nil, or_false] at hm; simp [hm])
          · intro q hq hm
            have hq2 : q.block ∈ fp61 := by
              rcases o61 with ⟨rfl, _⟩ | ⟨b, c, rfl, rfl, _⟩
              · cases hq
              · injection hq with hq; subst hq; simp
            have g1 := f61 _ hq2
            simp only [List.mem_cons, List.not_mem_nil, or_false] at hm
            omega
          · rw [hxs, h40, hn1, hp1]; rfl
          · obtain ⟨⟨d1, d2, d3, d4⟩, _⟩ := hx x hx'
            refine ⟨(d1.keep k65 ?_).keep k65_129 ?_, fun q hq hm => ?_, (d3.keep k65).keep k65_129⟩
            · intro q hq hm; have := d2 q hq; simp at hm; omega
            · intro q hq hm
              have := d2 q hq
              simp only [List.mem_cons, List.not_mem_nil, or_false] at hm
              omega
            · have := d2 q hq; have := hMu _ hm; omega
        have hrm : roomOf S n55 ≤ 8 * ((S.fi : Int) + S.sl) := by unfold roomOf; split <;> (try split) <;> omega
        exact {
          disk := hdis
          seg := hseg
          blk := by
            have e1 := hat (S.L.mark - S.L.hn) (by omega)
            change Blk w129 A.l [_, _, _, _, _, _, _, _, .int .i64 ((S.app (n55.toNat, b)).L.at (S.L.mark - S.L.hn)), _, _] _
            rw [e1]
            exact hl129
          maps := ⟨_, _, hm1, hm2, hmaps⟩
          ne := h.ne
          recs := fun i hi hlo => by
            rw [hlen1] at hi
            by_cases e : i = S.L.es.length
            · subst e
              rw [hgetl, hat _ (Nat.le_refl _), hatl]
              have e2 : ptrApp ptr S.L.es.length w43.heap.size S.L.es.length = w43.heap.size := by simp [ptrApp]
              rw [e2]
              have e3 : (S.app (n55.toNat, b)).L.hn + S.L.es.length + 1 = S.L.no + 1 := by rw [hnoe]; rfl
              rw [e3]
              exact hrecN
            · have hi' : i < S.L.es.length := by omega
              rw [hget i hi', hat _ (by omega)]
              have e2 : ptrApp ptr S.L.es.length w43.heap.size i = ptr i := by simp [ptrApp, e]
              rw [e2]
              exact (h.recs i hi' hlo).step ⟨k0_129', fun _ hq => .inl hq⟩
          bmark := ⟨hmark.1, by have : (S.app (n55.toNat, b)).L.no = S.L.no + 1 := by { rw [hnoe]; show S.L.hn + (S.L.es ++ [_]).length = _; simp; omega }
                                rw [this]; show S.L.mark ≤ _; omega⟩
          bwr := ⟨hwr.1, by have : (S.app (n55.toNat, b)).L.no = S.L.no + 1 := by { rw [hnoe]; show S.L.hn + (S.L.es ++ [_]).length = _; simp; omega }
                            rw [this]; show S.L.written ≤ _; omega⟩
          blo := h.blo
          bsent := by
            have := h.bsent
            refine ⟨?_, ?_⟩
            · show (S.app (n55.toNat, b)).L.at (S.L.written - S.L.hn) ≤ S.L.sent
              rw [hat _ (by omega)]; exact this.1
            · show S.L.sent ≤ _
              omega
          top := by show _ ≤ 8 * (S.fi + S.sl); omega
          bot := h.bot
          laok := h.laok
          sml := h.sml
          mays := fun i q hq => by
            by_cases e : i < S.L.es.length
            · have := app_parts (e := (n55.toNat, b)) e
              exact h.mays i q (by rw [← this]; exact hq)
            · by_cases e2 : i = S.L.es.length
              · subst e2
                have e3 : (S.app (n55.toNat, b)).L.parts S.L.es.length = partsOf (S.L.hn + S.L.es.length + 1 : Nat) S.L.place S.L.era (UInt8.ofNat n55.toNat :: b) := by
                  unfold LogM.parts
                  rw [List.getElem?_eq_getElem (by omega), hgetl, hat _ (Nat.le_refl _), hatl]
                  rfl
                rw [e3] at hq
                refine partsOf_may (no := (S.L.hn + S.L.es.length + 1 : Nat)) (place := S.L.place) (era := S.L.era) ?_ q hq
                have e4 : ((S.L.hn + S.L.es.length + 1 : Nat) : Int) = n40 := by omega
                rw [e4, ← hp1]; exact hpg
              · have e3 : (S.app (n55.toNat, b)).L.parts i = [] := by
                  unfold LogM.parts
                  rw [List.getElem?_eq_none (by omega)]
                rw [e3] at hq; cases hq
          kinds := fun e he => by
            rw [hes, List.mem_append] at he
            rcases he with he | he
            · exact h.kinds e he
            · simp only [List.mem_cons, List.not_mem_nil, or_false] at he; subst he; simp only; omega
          wsb := h.wsb }
  refine ⟨fun e => ?_, fun e => ?_⟩
  · have e := of_decide_eq_true e
    exact h8 true ⟨fun _ => .inl e, fun _ => rfl⟩
  · have e := of_decide_eq_false e
    exact h8 _ ⟨fun h => .inr (of_decide_eq_true h), fun h => by
      rcases h with h | h
      · exact absurd h e
      · exact decide_eq_true h⟩
end Go.Proofs
