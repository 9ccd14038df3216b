/- What building and clearing do. -/
import Derived.Test.YtbkcpddedpmenaaVcN
import Derived.Great.BuildSlice
namespace Go.Vc
open Go
variable {P : Program} {w w' w1 w2 : World} {b b' i : Nat} {c c' : List Value} {T T' : TypeId} {v v' : Value} {M : List Nat}

theorem foldl_set : ∀ (l : List Value) (off k : Nat) (cells : Array Value), off + k + l.length ≤ cells.size →
    ((l.zipIdx k).foldl (fun cs (c, j) => cs.setIfInBounds (off + j) c) cells).toList = cells.toList.take (off + k) ++ l ++ cells.toList.drop (off + k + l.length)
  | [], off, k, cells, h => by simp
  | x :: l, off, k, cells, h => by
    simp only [List.length_cons] at h
    rw [List.zipIdx_cons, List.foldl_cons, foldl_set l off (k + 1) _ (by simp; omega)]
    have e1 : (cells.setIfInBounds (off + k) x).toList = cells.toList.set (off + k) x := by simp
    simp only [e1]
    have h1 : (cells.toList.set (off + k) x).take (off + (k + 1)) = cells.toList.take (off + k) ++ [x] := by
      rw [show off + (k + 1) = off + k + 1 by omega, List.take_succ_eq_append_getElem (by simp; omega)]
      simp [List.take_set_of_le]
    have h2 : (cells.toList.set (off + k) x).drop (off + (k + 1) + l.length) = cells.toList.drop (off + k + (x :: l).length) := by
      rw [List.drop_set_of_lt (by omega)]
      congr 1
      simp; omega
    rw [h1, h2]
    simp

theorem fill_at {place : Nat → Option (Nat × Nat)} {z : List Value} {i off size : Nat} {v : Value} {l : List Value} {rest : List (Nat × Value)} (hp : place i = some (off, size)) (hv : v.cells = l.toArray) (hl : l.length = size) (hz : off + size ≤ z.length) :
    Instr.fill place z.toArray ((i, v) :: rest) = Instr.fill place (z.take off ++ l ++ z.drop (off + size)).toArray rest := by
  subst hl
  have := foldl_set l off 0 z.toArray (by simpa using hz)
  have hn : ¬ (z.length < off + l.length) := by omega
  simp only [Instr.fill, hp, hv]
  simp only [List.size_toArray, ne_eq, not_true_eq_false, decide_false, Bool.false_or, gt_iff_lt, decide_eq_true_eq, hn, if_false, Bool.false_eq_true, reduceIte]
  have e : (Array.foldl (fun cs (x : Value × Nat) => cs.setIfInBounds (off + x.snd) x.fst) z.toArray l.toArray.zipIdx) = (z.take off ++ l ++ z.drop (off + l.length)).toArray := by
    apply Array.ext'
    rw [← Array.foldl_toList]
    simpa using this
  rw [e]

theorem built_struct {t : TypeId} {zc : List Value} {places : List (Nat × Nat)} {parts : List (Nat × Value)} (hz : (P.info? t).bind (fun i => i.zero.map (·.cells)) = some zc.toArray)
    (hp : (match P.underlying t with | some (.struct fields) => fields.toList.mapM (fun f => (P.info? f.type).map fun i => (f.offset, i.size)) | _ => none) = some places) :
    P.built t parts = Instr.fill (places.toArray[·]?) zc.toArray parts := by
  unfold Program.built
  cases hi : P.info? t with
  | none => simp [hi] at hz
  | some it =>
    cases hzz : it.zero with
    | none => simp [hi, hzz] at hz
    | some z =>
      simp [hi, hzz] at hz
      cases hu : P.underlying t with
      | none => simp [hu] at hp
      | some d =>
        cases d <;> simp [hu] at hp
        simp [hzz, hp, hz]

/-- A slice of one element that is built. -/
theorem run_buildOne {t e : TypeId} {sz by_ : Nat} {z : List Value} (E : ElemTy P t e sz by_ z) (hsz : sz ≤ 1000) {v : Value} {l : List Value} (hv : v.cells = l.toArray) (hl : l.length = sz) (w : World) :
    (Instr.buildSlice t 1 #[(0, v)]).run P w = .ok (.slice (some ⟨w.heap.size, 0, none⟩) 1 1) (w.alloc (.cells l.toArray e)) := by
  obtain ⟨ht, ⟨i, zv, hi, hs, hby, hzv, hzc⟩, hzl, hpos, hbpos⟩ := E
  refine run_buildSlice w t e 1 _ l.toArray i zv ht hi hzv (by rw [hs]; omega) (by rw [hs]; omega) ?_
  have : ((Array.range (1 * i.size)).map (zv.cells[· % zv.cells.size]!)) = (((Array.range (1 * i.size)).map (zv.cells[· % zv.cells.size]!)).toList).toArray := (Array.toArray_toList ..).symm
  rw [this, fill_at (off := 0) (size := i.size) (l := l) (by simp) hv (by rw [hl, hs]) (by simp)]
  simp only [Instr.fill]
  congr 2
  simp

/-- Clear, a slice that is a block's beginning. -/
theorem run_clear {t e ty : TypeId} {sz by_ : Nat} {z : List Value} (E : ElemTy P t e sz by_ z) (hone : ∀ v ∈ z, v.oneCell' = true) {a : Option Addr} {len cap : Nat} {vs : List Value} {fp : List Nat}
    (h : Own w e sz a len cap vs fp) : ∃ w', (Builtin.clear_ #[t] ty #[.slice a len cap]).run P w = .ok (.tuple #[]) w' ∧ Keep fp w w' := by
  obtain ⟨ht, ⟨i, zv, hi, hs, hby, hzv, hzc⟩, hzl, hpos, hbpos⟩ := E
  rcases h with ⟨rfl, rfl, rfl, rfl, rfl⟩ | ⟨b, c, rfl, rfl, hblk, h1, h2, h3⟩
  · exact ⟨w, by simp [Builtin.clear_, run_underlying ht], Keep.refl _ _⟩
  · cases len with
    | zero => exact ⟨w, by simp [Builtin.clear_, run_underlying ht], Keep.refl _ _⟩
    | succ n =>
      have hlen : (Builtin.zeroCells zv.cells (n + 1)).toList.length = (n + 1) * sz := by rw [Array.length_toList, zeroCells_size, hzc]; simp [hzl]
      have hle : (n + 1) * sz ≤ cap * sz := Nat.mul_le_mul_right _ h2
      have hw := hblk.wr_all 0 (Builtin.zeroCells zv.cells (n + 1)).toList.length (by rw [hlen, h1]; omega)
      have ho : ∀ v ∈ (Builtin.zeroCells zv.cells (n + 1)).toList, v.oneCell' = true := by
        intro v hv
        rw [hzc] at hv
        simp only [Builtin.zeroCells, List.mem_map, Array.toList_map, Array.toList_range, List.mem_range, List.size_toArray] at hv
        obtain ⟨j, hj, rfl⟩ := hv
        have : j % z.length < z.length := Nat.mod_lt _ (by omega)
        simp only [List.getElem!_toArray]
        rw [List.getElem!_eq_getElem?_getD, List.getElem?_eq_getElem this]
        exact hone _ (by simp)
      have hst := run_storeCells_cells (P := P) b 0 (Builtin.zeroCells zv.cells (n + 1)).toList 0 w (fun j hj => by simpa using hw.1 j hj) (fun j hj => by simpa using hw.2 j hj) ho
      refine ⟨w.setCells b 0 (Builtin.zeroCells zv.cells (n + 1)).toList, ?_, Keep.sets w b _ 0⟩
      simp [Builtin.clear_, run_underlying ht, zeroValue, typeInfo, hi, hzv]
      rw [hst]
      simp
end Go.Vc
