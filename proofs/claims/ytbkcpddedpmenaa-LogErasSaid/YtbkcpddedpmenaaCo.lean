/- Contracts: trim, Advance. -/
import Derived.Test.YtbkcpddedpmenaaCn
set_option maxRecDepth 100000
namespace Go.Proofs
open Go Go.Vc
variable {w w' : World} {R : Ending → World → Prop} {A : Ad} {fw : List Nat} {ptr : Nat → Nat} {lo : Nat} {S : SysM}

theorem ud : (#[T_map_int_ptr_log_record, T_int] : Array TypeId)[0]? = some T_map_int_ptr_log_record := rfl

theorem Sys.at_lt (h : Sys w A fw ptr lo S) (i : Nat) : S.L.at i ≤ 1000000000000 ∧ S.L.no ≤ 1000000000000 ∧ S.L.place ≤ 1000000000000 := by
  have h1 := h.top
  have h2 := h.seg.2
  have h3 := h.sml
  have h4 := S.L.at_le i
  have h5 := length_le_pN S.L.es
  have h6 : S.L.place = S.L.hp + pN S.L.es := rfl
  have h7 : S.L.no = S.L.hn + S.L.es.length := rfl
  omega

/-- What a system's log turns. -/
theorem Sys.keepMaps (h : Sys w A fw ptr lo S) (hk : Keep [A.bi, A.ba] w w') {lo' : Nat} {mi ma : List (Int × Value)} (h1 : MapIs w' A.bi mi) (h2 : MapIs w' A.ba ma) (h3 : MapsOk S.L lo' ptr mi ma) (h4 : S.L.hn ≤ lo' ∧ lo' ≤ S.L.written) (h5 : lo ≤ lo') : Sys w' A fw ptr lo' S := by
  obtain ⟨mi0, ma0, m1, m2, m3⟩ := h.maps
  have e1 : A.l ≠ A.bi := fun e => blk_not_map h.blk (e ▸ m1)
  have e2 : A.l ≠ A.ba := fun e => blk_not_map h.blk (e ▸ m2)
  have e3 : A.s ≠ A.bi := fun e => blk_not_map h.seg.1 (e ▸ m1)
  have e4 : A.s ≠ A.ba := fun e => blk_not_map h.seg.1 (e ▸ m2)
  exact { h with
    disk := h.disk.keep hk (fun q hq hm => by
      simp only [List.mem_cons, List.not_mem_nil, or_false] at hm
      rcases hm with rfl | rfl
      · exact h.disk.offMap m1 hq
      · exact h.disk.offMap m2 hq)
    seg := h.seg.keep hk (by simp [e3, e4])
    blk := hk.blk h.blk (by simp [e1, e2])
    maps := ⟨mi, ma, h1, h2, h3⟩
    recs := fun i hi hl => (h.recs i hi (by omega)).step (Stp.of hk (fun q hq => .inl (by simp only [List.mem_cons, List.not_mem_nil, or_false] at hq; rcases hq with rfl | rfl <;> simp [Ad.mu])))
    blo := h4 }

theorem log_trim (h : Sys w A fw ptr lo S) (hlo : lo ≤ min S.L.mark S.L.written)
    (hR : ∀ w', Keep (A.mu fw) w w' → Sys w' A fw ptr (min S.L.mark S.L.written) S → R (.returned (.tuple #[])) w') :
    Calls P0 f_log_Log_trim #[.pointer (some ⟨A.l, 0, none⟩), .int .i64 ((lo : Int) + 1)] w R := by
  have hbnd := h.at_lt 0
  have hmark := h.bmark
  have hwr := h.bwr
  have hblo := h.blo
  refine C_log_Log_trim ⟨fun no w' => ∃ k : Nat, no = (k : Int) + 1 ∧ lo ≤ k ∧ k ≤ min S.L.mark S.L.written ∧ Keep [A.bi, A.ba] w w' ∧ Sys w' A fw ptr k S, fun no _ => (S.L.no + 1 - no).toNat, ⟨lo, rfl, Nat.le_refl _, hlo, Keep.refl _ _, h⟩, ?_⟩
  rintro no w6 ⟨k, rfl, h1, h2, hk, h6⟩
  have hb6 : Blk w6.drew A.l _ _ := h6.blk
  refine ⟨_, _, rfl, _, hb6.cell rfl, _, _, rfl, _, hb6.cell rfl, fun e => ?_, fun e => ?_⟩
  · have e := of_decide_eq_true e
    have hkl : k < min S.L.mark S.L.written := by split at e <;> omega
    intro J hJ
    have hnxt : ∀ w14, Keep [A.bi, A.ba] w6 w14 → Sys w14 A fw ptr (k + 1) S → J w14 := fun w14 k14 h14 => by
      refine hJ w14 fun n15 h15 => ?_
      rw [wrap64 (by omega) (by omega)] at h15
      refine ⟨⟨k + 1, by omega, by omega, by omega, hk.trans k14 (by simp), h14⟩, by dsimp only; omega⟩
    clear hJ
    obtain ⟨mi, ma, m1, m2, m3⟩ := h6.maps
    have m1' : MapIs w6.drew A.bi mi := m1
    have m2' : MapIs w6.drew A.ba ma := m2
    -- the record
    obtain ⟨i, hi⟩ : ∃ i, S.L.hn + i = k := ⟨k - S.L.hn, by omega⟩
    have hil : i < S.L.es.length := by
      have : S.L.no = S.L.hn + S.L.es.length := rfl
      omega
    have hfi : mfind mi ((k : Int) + 1) = some (rp ptr i) := by
      have := m3.i1 i (by omega) hil
      rw [← this]
      congr 1
      omega
    have hlk := run_lookup_int (ok := true) um ui zp m1' (k := (k : Int) + 1)
    rw [hfi] at hlk
    refine ⟨_, _, rfl, _, hb6.cell rfl, _, _, hlk, fun e => by simp at e, fun _ => ?_⟩
    obtain ⟨w24, hr24, m24, k24⟩ := run_delete_int (ty := 0) (k := (k : Int) + 1) ud um ui m1'
    refine ⟨_, _, rfl, _, hb6.cell rfl, w24, hr24, ?_⟩
    obtain ⟨ba, bc, pa, pc, xs, r1, r2, r3, r4, r5, r6, r7, r8, r9, r10⟩ := h6.recs i hil (by omega)
    have hxl : xs.length = manyE S.L.es[i] := by
      have := congrArg List.length r9
      simpa [partsOf, manyE] using this
    have hxle : xs.length ≤ 1000000000000 := by
      have e1 := LogM.at_succ hil
      have := (h6.at_lt (i + 1)).1
      omega
    have r1' : Blk w24 (ptr i) _ _ := k24.blk (w := w6.drew) r1 (by intro hm; simp at hm; exact r2.1 (by simp [Ad.mu, hm]))
    refine ⟨_, _, rfl, _, _, _, r1'.cell rfl, ?_⟩
    have m2_24 := m2'.keep k24 (by simp [h6.ne.symm])
    have e1 : A.l ≠ A.bi := fun e => blk_not_map h6.blk (e ▸ m1)
    have e2 : A.l ≠ A.ba := fun e => blk_not_map h6.blk (e ▸ m2)
    refine ⟨fun x w' => 0 ≤ x ∧ x ≤ xs.length ∧ Keep [A.ba] w24 w' ∧ ∃ m', MapIs w' A.ba m' ∧ (∀ j : Int, mfind m' j = if (S.L.at i : Int) ≤ j ∧ j < S.L.at i + x then none else mfind ma j),
      fun x _ => (xs.length - x).toNat, ⟨by omega, by omega, Keep.refl _ _, ma, m2_24, fun j => by rw [if_neg (by omega)]⟩, ?_⟩
    rintro x w31 ⟨g0, g1, hk31, m', hm', hmf⟩
    obtain ⟨j0, rfl⟩ := Int.eq_ofNat_of_zero_le g0
    have k6_31 : Keep [A.bi, A.ba] w6 w31 := (((Keep.drew w6).mono (N := [A.bi, A.ba]) (by simp)).trans k24 (by simp)).trans hk31 (by simp)
    constructor
    · intro hlt
      have hj : j0 < xs.length := by have := of_decide_eq_true hlt; omega
      obtain ⟨b32, o33, rfl, hr⟩ : ∃ b o, pa = some ⟨b, o, none⟩ ∧ Rdb w6 b o (xs.flatMap PB.cells) := by
        rcases r6 with hx | hx
        · have := cells_len xs
          rw [hx] at this; simp at this
          omega
        · exact hx
      have hb32 : b32 ∉ A.mu fw := r7 _ rfl
      have hr31 : Rdb w31 b32 o33 (xs.flatMap PB.cells) := hr.keep k6_31 (fun hm => hb32 (by simp only [List.mem_cons, List.not_mem_nil, or_false] at hm; rcases hm with rfl | rfl <;> simp [Ad.mu]))
      have hc : ∀ k v, (xs[j0].cells)[k]? = some v → w31.cell? ⟨b32, o33 + j0 * 6 + k, none⟩ = some v := fun k v hv => by
        have := hr31 _ _ (cells_at xs j0 hj k v hv)
        rw [Nat.add_assoc]; exact this
      rw [Int.toNat_natCast]
      refine ⟨_, _, rfl, by omega, by omega, _, hc 0 _ rfl, _, hc 1 _ rfl, _, hc 2 _ rfl, _, hc 3 _ rfl, _, hc 4 _ rfl, _, _, _, hc 5 _ rfl, ?_⟩
      refine al (c := Z6) fun w46 b46 k46 s46 => ?_
      refine st6 b46 rfl fun w52 b52 k52 _ => ?_
      have k31_52 : Keep [] w31 w52 := k46.trans k52 (by simp)
      have hA52 : Blk w52.drew A.l _ _ := k31_52.blk (k6_31.blk h6.blk (by simp [e1, e2])) (by simp)
      have hm52 : MapIs w52.drew A.ba m' := hm'.keep k31_52 (by simp)
      obtain ⟨w57, hr57, m57, k57⟩ := run_delete_int (ty := 0) (k := xs[j0].p.place) ud um ui hm52
      refine ⟨_, _, rfl, _, hA52.cell rfl, _, (show Blk w52.drew _ _ _ from b52).cell rfl, w57, hr57, fun n58 h58 => ?_⟩
      rw [wrap64 (by omega) (by omega)] at h58
      subst h58
      refine ⟨⟨by omega, by omega, (hk31.trans k31_52.then_drew (by simp)).trans k57 (by simp), _, m57, fun j => ?_⟩, by dsimp only; omega⟩
      have hpl : xs[j0].p.place = S.L.at i + j0 := by
        have e1 : (xs.map PB.p)[j0]? = some xs[j0].p := by rw [List.getElem?_map, List.getElem?_eq_getElem hj]; rfl
        rw [r9] at e1
        simp only [partsOf, List.getElem?_map] at e1
        cases hri : (List.range (manyOf (UInt8.ofNat S.L.es[i].1 :: S.L.es[i].2).length))[j0]? with
        | none => rw [hri] at e1; cases e1
        | some i' =>
          rw [hri] at e1
          simp only [Option.map_some, Option.some.injEq] at e1
          have : i' = j0 := by
            have := List.getElem?_eq_some_iff.1 hri
            obtain ⟨_, h2⟩ := this
            simpa using h2.symm
          subst this
          rw [← e1]
      have hnd : (m'.map Prod.fst).Nodup := by obtain ⟨_, _, _, _, hh⟩ := hm'; exact hh
      rw [mfind_mdel hnd, hmf, hpl]
      by_cases hj2 : j = (S.L.at i : Int) + j0
      · rw [if_pos hj2, if_pos (by omega)]
      · rw [if_neg hj2]
        by_cases hj3 : (S.L.at i : Int) ≤ j ∧ j < S.L.at i + (j0 : Int)
        · rw [if_pos hj3, if_pos (by omega)]
        · rw [if_neg hj3, if_neg (by omega)]
    · intro hle
      have : j0 = xs.length := by have := of_decide_eq_false hle; omega
      subst this
      have hnd : (mi.map Prod.fst).Nodup := by obtain ⟨_, _, _, _, hh⟩ := m1; exact hh
      refine hnxt w31 k6_31 (h6.keepMaps k6_31 (m24.keep hk31 (by simp [h6.ne])) hm' ⟨fun i' g1 g2 => ?_, fun j v hj => ?_, ?_, fun i' j' g1 g2 g3 => ?_, fun j v hj => ?_⟩ ⟨by omega, by omega⟩ (by omega))
      · rw [mfind_mdel hnd, if_neg (by omega)]; exact m3.i1 i' (by omega) g2
      · rw [mfind_mdel hnd] at hj
        split at hj
        · cases hj
        · obtain ⟨i', g1, g2, g3⟩ := m3.i2 _ _ hj
          exact ⟨i', by omega, g2, g3⟩
      · have := mdel_length hfi
        have := m3.i3
        omega
      · rw [hmf]
        have e3 := LogM.at_succ hil
        have e4 := LogM.at_mono (L := S.L) (i := i + 1) (j := i') (by omega)
        rw [if_neg (by omega)]
        exact m3.a1 i' j' g1 (by omega) g3
      · rw [hmf] at hj
        split at hj
        · cases hj
        · rename_i hr
          obtain ⟨i', j', g1, g2, g3, g4⟩ := m3.a2 _ _ hj
          refine ⟨i', j', g1, ?_, g3, g4⟩
          by_cases e5 : i' = i
          · subst e5; exfalso; apply hr; rw [g4, hxl]; omega
          · omega
  · have e := of_decide_eq_false e
    have hkl : k = min S.L.mark S.L.written := by split at e <;> omega
    subst hkl
    exact hR w6.drew ((hk.then_drew).mono (fun q hq => .inl (by simp only [List.mem_cons, List.not_mem_nil, or_false] at hq; rcases hq with rfl | rfl <;> simp [Ad.mu]))) (h6.keep0 (Keep.drew _))

def SysM.adv (S : SysM) (to : Nat) : SysM := { S with L := { S.L with mark := to } }
theorem log_Advance (h : Sys w A fw ptr lo S) (hlo : lo = min S.L.mark S.L.written) {to : Int}
    (hstay : ∀ w', Keep [] w w' → min to S.L.no ≤ S.L.mark → Sys w' A fw ptr lo S → R (.returned (.tuple #[])) w')
    (hR : ∀ w' (t : Nat), Keep (A.mu fw) w w' → (t : Int) = min to S.L.no → S.L.mark < t → Sys w' A fw ptr (min t S.L.written) (S.adv t) → R (.returned (.tuple #[])) w') :
    Calls P0 f_log_Log_Advance #[.pointer (some ⟨A.l, 0, none⟩), .int .i64 to] w R := by
  have hbnd := h.at_lt 0
  have hmark := h.bmark
  have hwr := h.bwr
  have hblo := h.blo
  have hmin : (if (S.L.no : Int) < to then (S.L.no : Int) else to) = min to S.L.no := by split <;> omega
  refine C_log_Log_Advance ⟨_, _, rfl, _, h.blk.cell rfl, _, _, rfl, _, h.blk.cell rfl, fun e => ?_, fun e => ?_⟩
  · rw [hmin] at e
    have e := of_decide_eq_true e
    exact hstay w (Keep.refl _ _) e h
  rw [hmin] at e ⊢
  have e := of_decide_eq_false e
  obtain ⟨t, ht⟩ : ∃ t : Nat, (t : Int) = min to S.L.no := ⟨(min to S.L.no).toNat, by omega⟩
  rw [← ht] at e ⊢
  have hb : Blk w.drew A.l _ _ := h.blk
  obtain ⟨mi, ma, m1, m2, m3⟩ := h.maps
  have m1' : MapIs w.drew A.bi mi := m1
  refine ⟨_, _, rfl, _, hb.cell rfl, _, _, rfl, _, hb.cell rfl, fun n15 h15 => ⟨_, _, rfl, _, hb.cell rfl, ?_⟩⟩
  have hn15 : n15 = (lo : Int) + 1 := by
    rw [wrap64 (by split <;> omega) (by split <;> omega)] at h15
    rw [h15, hlo]
    split <;> omega
  subst hn15
  have hnoe : S.L.no = S.L.hn + S.L.es.length := rfl
  obtain ⟨i, hi⟩ : ∃ i, S.L.hn + i + 1 = t := ⟨t - S.L.hn - 1, by omega⟩
  have hil : i < S.L.es.length := by omega
  have hlk := run_lookup_int (ok := false) um ui zp m1' (k := (t : Int))
  have hfi : mfind mi (t : Int) = some (rp ptr i) := by rw [← hi]; exact m3.i1 i (by omega) hil
  rw [hfi] at hlk
  refine ⟨_, hlk, ?_⟩
  obtain ⟨ba, bc, pa, pc, xs, r1, r2, r3, r4, r5, r6, r7, r8, r9, r10⟩ := h.recs i hil (by omega)
  have hxl : xs.length = manyE S.L.es[i] := by
    have := congrArg List.length r9
    simpa [partsOf, manyE] using this
  have hat1 := LogM.at_succ hil
  have hbi := h.at_lt (i + 1)
  refine log_record_end (show Blk w.drew _ _ _ from r1) (by omega) (by
    have h1 := h.top
    have h2 := h.seg.2
    have h3 := h.sml
    have h4 := S.L.at_le (i + 1)
    have h5 := h.bot
    have h6 : S.L.at i = S.L.hp + pN (S.L.es.take i) := rfl
    omega) fun w21 k21 => ⟨_, _, rfl, ?_⟩
  have k0_21 : Keep [] w w21 := (Keep.drew w).trans k21 (by simp)
  have h21 := h.keep0 k0_21
  refine ⟨_, _, rfl, st h21.blk (by simp) fun w26 b26 k26 s26 => st b26 (by simp) fun w27 b27 k27 s27 => ?_⟩
  have k21_27 : Keep [A.l] w21 w27 := k26.trans k27 (by simp)
  have hkm : Keep (A.mu fw) w w27 := (k0_21.mono (by simp)).trans k21_27 (by simp [Ad.mu])
  have e1 : A.l ≠ A.bi := fun e => blk_not_map h.blk (e ▸ m1)
  have e2 : A.l ≠ A.ba := fun e => blk_not_map h.blk (e ▸ m2)
  have h27 : Sys w27 A fw ptr lo (S.adv t) := {
    disk := h21.disk.keep k21_27 (fun q hq hm => by
      simp only [List.mem_cons, List.not_mem_nil, or_false] at hm
      subst hm
      exact h21.disk.off h21.blk (by decide) (by decide) (by decide) hq)
    seg := h21.seg.keep k21_27 (by simpa using h21.seg.1.ne h21.blk (by decide))
    blk := by
      have e3 : (S.adv t).L.at (t - S.L.hn) = S.L.at i + xs.length := by
        show S.L.at (t - S.L.hn) = _
        rw [show t - S.L.hn = i + 1 by omega, hat1, hxl]
      change Blk w27 A.l [_, _, _, _, _, _, _, .int .i64 (t : Int), .int .i64 ((S.adv t).L.at (t - S.L.hn)), _, _] _
      rw [e3]
      have e4 : ((S.L.hn + i + 1 : Nat) : Int) = (t : Int) := by omega
      rw [e4] at b27
      have e5 : ((S.L.at i + xs.length : Nat) : Int) = (S.L.at i : Int) + xs.length := by omega
      rw [e5]
      exact b27
    maps := ⟨mi, ma, (m1.keep k0_21 (by simp)).keep k21_27 (by simpa using e1.symm), (m2.keep k0_21 (by simp)).keep k21_27 (by simpa using e2.symm), ⟨m3.i1, m3.i2, m3.i3, m3.a1, m3.a2⟩⟩
    ne := h.ne
    recs := fun i hi hl => (h.recs i hi hl).step ⟨hkm, fun q hq => .inl hq⟩
    bmark := ⟨by show S.L.hn ≤ t; omega, by show t ≤ S.L.no; omega⟩
    bwr := h.bwr
    blo := h.blo
    bsent := h.bsent
    top := h.top
    bot := h.bot
    laok := h.laok
    sml := h.sml
    mays := h.mays
    kinds := h.kinds
    wsb := h.wsb }
  refine log_trim h27 (by show lo ≤ min t S.L.written; omega) fun w' k' h' => ⟨rfl, ?_⟩
  exact hR w' t (hkm.trans k' (fun q hq => .inl hq)) ht (by omega) h'
end Go.Proofs
