/- From a reading of the arguments to what stands in memory. -/
import Derived.Test.YtbkcpddedpmenaaCb
import Derived.Deep.Slices
import Derived.Carry
set_option maxRecDepth 100000
namespace Go.Proofs
open Go Go.Vc
variable {H : Type} {enc : TypeId × Value → H} {w : World} {base : Nat} {spare : Nat → Bool} {held : Bool}

theorem cell_spot {a : Addr} {v : Value} (h : w.cell? a = some v) : a.spot = none := by
  unfold World.cell? at h
  split at h
  · split at h
    · cases h
    · rename_i hs; simpa using hs
  · cases h
theorem has_of_cells {a : Addr} {len : Nat} {f : Nat → Value} (h : ∀ i, i < len → w.cell? (a.add i) = some (f i)) : Has w (some a) ((List.range len).map f) := by
  cases len with
  | zero => exact .inl rfl
  | succ n =>
    have h0 := h 0 (by omega)
    have hs : a.spot = none := cell_spot (by simpa [Addr.add] using h0)
    obtain ⟨b, o, s⟩ := a
    simp only at hs
    subst hs
    refine .inr ⟨b, o, rfl, fun j v hj => ?_⟩
    have hlt : j < n + 1 := by
      have := (List.getElem?_eq_some_iff.1 hj).1
      simpa using this
    rw [List.getElem?_map, List.getElem?_range hlt] at hj
    have := h j hlt
    rw [add_mk] at this
    simp only [Option.map_some, Option.some.injEq] at hj
    rw [← hj]; exact this

theorem cells_one_of {a : Addr} {cs : List Value} (h : w.cells? base a 1 = some cs) : ∃ v, cs = [v] ∧ w.cell? a = some v := by
  unfold World.cells? at h
  split at h
  · simp only [List.range_one, List.mapM_cons, List.mapM_nil] at h
    have e : a.add 0 = a := by simp [Addr.add]
    rw [e] at h
    cases hc : w.cell? a with
    | none => rw [hc] at h; cases h
    | some v => rw [hc] at h; simp at h; exact ⟨v, h.symm, rfl⟩
  · cases h

/-- Slices whose elements have one cell each: what stands in them. -/
theorem open_one {P : Program} {t e : TypeId} (ht : P.underlying t = some (.slice e)) (he : P.cellsOf e = 1) {fuel : Nat} {a : Option Addr} {len cap : Nat} {x : DataW H × List MemPlace}
    (h : DataW.trod enc P w base spare held fuel t [.slice a len cap] = some x) : len ≤ cap ∧ cap ≤ maxLen ∧ ∀ i, i < len → ∃ ad v n d pl, a = some ad ∧ w.cell? (ad.add i) = some v ∧ DataW.trod enc P w base spare held n e [v] = some (d, pl) := by
  rcases Deep.open_slice ht h with ⟨hcs, hx⟩ | ⟨ad, l, c, m, n, D, Pl, hcs, hb, hl, hc, hm, hx, hi⟩
  · simp only [List.cons.injEq, Value.slice.injEq, and_true] at hcs
    obtain ⟨rfl, rfl, rfl⟩ := hcs
    exact ⟨Nat.le_refl _, Nat.zero_le _, fun i hi => by omega⟩
  · simp only [List.cons.injEq, Value.slice.injEq, and_true] at hcs
    obtain ⟨rfl, rfl, rfl⟩ := hcs
    refine ⟨hl, hc, fun i hlt => ?_⟩
    have hml : i < m := by rw [hm]; split <;> omega
    obtain ⟨cs', h1, h2⟩ := hi i hml
    rw [he, Nat.mul_one] at h1
    obtain ⟨v, rfl, h3⟩ := cells_one_of h1
    exact ⟨ad, v, n, _, _, rfl, h3, h2⟩

theorem u22 : P0.underlying T_slice_slice_uint8 = some (.slice T_slice_uint8) := by kernel_rfl
theorem u47 : P0.underlying T_slice_uint8 = some (.slice T_uint8) := by kernel_rfl
theorem u5 : P0.underlying T_uint8 = some (.int .u8) := by kernel_rfl
theorem u23 : P0.underlying T_slice_api_Keep = some (.slice T_api_Keep) := by kernel_rfl
theorem u96 : P0.underlying T_api_Keep = some (.int .i64) := by kernel_rfl
theorem c47 : P0.cellsOf T_slice_uint8 = 1 := by kernel_rfl
theorem c5 : P0.cellsOf T_uint8 = 1 := by kernel_rfl
theorem c96 : P0.cellsOf T_api_Keep = 1 := by kernel_rfl

theorem trod_slice_form {P : Program} {t e : TypeId} (ht : P.underlying t = some (.slice e)) {fuel : Nat} {v : Value} {x : DataW H × List MemPlace} (h : DataW.trod enc P w base spare held fuel t [v] = some x) : ∃ a len cap, v = .slice a len cap := by
  rcases Deep.open_slice ht h with ⟨hcs, _⟩ | ⟨ad, l, c, m, n, D, Pl, hcs, _⟩
  · simp at hcs; exact ⟨_, _, _, hcs⟩
  · simp at hcs; exact ⟨_, _, _, hcs⟩

theorem open_bytes {fuel : Nat} {a : Option Addr} {len cap : Nat} {x : DataW H × List MemPlace} (h : DataW.trod enc P0 w base spare held fuel T_slice_uint8 [.slice a len cap] = some x) : len ≤ cap ∧ ∃ l : List UInt8, l.length = len ∧ HasB w a l := by
  obtain ⟨h1, h2, h3⟩ := open_one u47 c5 h
  refine ⟨h1, ?_⟩
  have hb : ∀ i, ∃ u : UInt8, i < len → ∃ ad, a = some ad ∧ w.cell? (ad.add i) = some (B u) := fun i => by
    by_cases hi : i < len
    · obtain ⟨ad, v, n, d, pl, ha, hc, ht⟩ := h3 i hi
      obtain ⟨z, hz, _, hwf⟩ := DataW.trod_int u5 ht
      simp only [List.cons.injEq, and_true] at hz
      subst hz
      refine ⟨UInt8.ofNat z.toNat, fun _ => ⟨ad, ha, ?_⟩⟩
      rw [hc]
      simp only [Lit.wf, Bool.and_eq_true, decide_eq_true_eq, IntKind.min, IntKind.max, IntKind.signed, IntKind.bits] at hwf
      have : (UInt8.ofNat z.toNat).toNat = z.toNat % 256 := rfl
      unfold B
      rw [this]
      congr 2
      simp at hwf
      omega
    · exact ⟨0, fun hi' => absurd hi' hi⟩
  refine ⟨(List.range len).map fun i => Classical.choose (hb i), by simp, ?_⟩
  cases len with
  | zero => exact .inl rfl
  | succ n =>
    obtain ⟨ad, ha, _⟩ := Classical.choose_spec (hb 0) (by omega)
    subst ha
    have := has_of_cells (w := w) (a := ad) (len := n + 1) (f := fun i => B (Classical.choose (hb i))) (fun i hi => by
      obtain ⟨ad', ha', hc'⟩ := Classical.choose_spec (hb i) hi
      injection ha' with ha'; subst ha'; exact hc')
    unfold HasB
    rw [List.map_map]
    exact this

theorem open_keeps {fuel : Nat} {a : Option Addr} {len cap : Nat} {x : DataW H × List MemPlace} (h : DataW.trod enc P0 w base spare held fuel T_slice_api_Keep [.slice a len cap] = some x) : ∃ ks : List Int, ks.length = len ∧ Has w a (ks.map (Value.int .i64)) := by
  obtain ⟨h1, h2, h3⟩ := open_one u23 c96 h
  have hb : ∀ i, ∃ u : Int, i < len → ∃ ad, a = some ad ∧ w.cell? (ad.add i) = some (.int .i64 u) := fun i => by
    by_cases hi : i < len
    · obtain ⟨ad, v, n, d, pl, ha, hc, ht⟩ := h3 i hi
      obtain ⟨z, hz, _, hwf⟩ := DataW.trod_int u96 ht
      simp only [List.cons.injEq, and_true] at hz
      subst hz
      exact ⟨z, fun _ => ⟨ad, ha, hc⟩⟩
    · exact ⟨0, fun hi' => absurd hi' hi⟩
  refine ⟨(List.range len).map fun i => Classical.choose (hb i), by simp, ?_⟩
  cases len with
  | zero => exact .inl rfl
  | succ n =>
    obtain ⟨ad, ha, _⟩ := Classical.choose_spec (hb 0) (by omega)
    subst ha
    have := has_of_cells (w := w) (a := ad) (len := n + 1) (f := fun i => .int .i64 (Classical.choose (hb i))) (fun i hi => by
      obtain ⟨ad', ha', hc'⟩ := Classical.choose_spec (hb i) hi
      injection ha' with ha'; subst ha'; exact hc')
    rw [List.map_map]
    exact this

theorem open_bytess {fuel : Nat} {a : Option Addr} {len cap : Nat} {x : DataW H × List MemPlace} (h : DataW.trod enc P0 w base spare held fuel T_slice_slice_uint8 [.slice a len cap] = some x) :
    len ≤ maxLen ∧ ∃ xs : List Pc, xs.length = len ∧ Slcs w a xs ∧ ∀ p ∈ xs, p.len ≤ p.cap := by
  obtain ⟨h1, h2, h3⟩ := open_one u22 c47 h
  refine ⟨Nat.le_trans h1 h2, ?_⟩
  have hb : ∀ i, ∃ u : Pc, (u.l.length = u.len ∧ HasB w u.a u.l ∧ u.len ≤ u.cap) ∧ (i < len → ∃ ad, a = some ad ∧ w.cell? (ad.add i) = some u.v) := fun i => by
    by_cases hi : i < len
    · obtain ⟨ad, v, n, d, pl, ha, hc, ht⟩ := h3 i hi
      obtain ⟨a', l', c', rfl⟩ := trod_slice_form u47 ht
      obtain ⟨g1, l, g2, g3⟩ := open_bytes ht
      exact ⟨⟨a', l', c', l⟩, ⟨g2, g3, g1⟩, fun _ => ⟨ad, ha, hc⟩⟩
    · exact ⟨⟨none, 0, 0, []⟩, ⟨rfl, .inl rfl, Nat.le_refl _⟩, fun hi' => absurd hi' hi⟩
  refine ⟨(List.range len).map fun i => Classical.choose (hb i), by simp, ⟨?_, ?_⟩, ?_⟩
  · cases len with
    | zero => exact .inl rfl
    | succ n =>
      obtain ⟨ad, ha, _⟩ := (Classical.choose_spec (hb 0)).2 (by omega)
      subst ha
      have := has_of_cells (w := w) (a := ad) (len := n + 1) (f := fun i => (Classical.choose (hb i)).v) (fun i hi => by
        obtain ⟨ad', ha', hc'⟩ := (Classical.choose_spec (hb i)).2 hi
        injection ha' with ha'; subst ha'; exact hc')
      rw [List.map_map]
      exact this
  · intro p hp
    simp only [List.mem_map] at hp
    obtain ⟨i, _, rfl⟩ := hp
    have := (Classical.choose_spec (hb i)).1
    exact ⟨this.1, this.2.1⟩
  · intro p hp
    simp only [List.mem_map] at hp
    obtain ⟨i, _, rfl⟩ := hp
    exact (Classical.choose_spec (hb i)).1.2.2
end Go.Proofs
