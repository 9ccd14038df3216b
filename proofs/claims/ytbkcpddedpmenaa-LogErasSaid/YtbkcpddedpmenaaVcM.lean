/- Memory: blocks, what is kept, slices that are owned, what append, copy and make do. -/
import Derived.Test.YtbkcpddedpmenaaVcG
import Derived.Laws.Append
import Derived.Laws.IdiomCopy
import Derived.Laws.Rows
import Derived.Below
namespace Go.Vc
open Go

/-- A byte as a cell has it. -/
def B (x : UInt8) : Value := .int .u8 (x.toNat : Int)

/-- A block of cells, not frozen. -/
def Blk (w : World) (b : Nat) (c : List Value) (T : TypeId) : Prop := w.heap[b]? = some (.cells c.toArray T (0, 0))

variable {w w' w1 w2 : World} {b b' i : Nat} {c c' : List Value} {T T' : TypeId} {v v' : Value}

theorem Blk.lt (h : Blk w b c T) : b < w.heap.size := (Array.getElem?_eq_some_iff.1 h).1
theorem Blk.cell (h : Blk w b c T) (hi : c[i]? = some v) : w.cell? ⟨b, i, none⟩ = some v := by
  unfold Blk at h; simp [World.cell?, h, hi]
theorem Blk.frozen (h : Blk w b c T) : w.frozen? ⟨b, i, none⟩ = false := by
  unfold Blk at h; simp [World.frozen?, h]
theorem Blk.wr (h : Blk w b c T) (hi : i < c.length) : Wr w ⟨b, i, none⟩ :=
  ⟨⟨c[i], h.cell (by simp [hi])⟩, h.frozen⟩
theorem Blk.set (h : Blk w b c T) (i : Nat) (v : Value) : Blk (w.setCell ⟨b, i, none⟩ v) b (c.set i v) T := by
  unfold Blk at *
  rw [heap_setCell_same w b i _ _ v h]
  simp
theorem heap_setCell_ne (a : Addr) (v : Value) (h : b ≠ a.block) : (w.setCell a v).heap[b]? = w.heap[b]? := by
  simp [World.setCell, Array.getElem?_modify, Ne.symm h]
theorem Blk.alloc_new (w : World) (c : List Value) (T : TypeId) : Blk (w.alloc (.cells c.toArray T)) w.heap.size c T := by
  show (w.heap.push _)[w.heap.size]? = _
  simp
theorem heap_alloc_old {o : Obj} (h : b < w.heap.size) : (w.alloc o).heap[b]? = w.heap[b]? := by
  show (w.heap.push o)[b]? = _
  simp [Array.getElem?_push, Nat.ne_of_lt h]
theorem Blk.det (h : Blk w b c T) (h' : Blk w b c' T') : c = c' ∧ T = T' := by
  unfold Blk at *
  rw [h] at h'
  injection h' with h'
  injection h' with h1 h2
  exact ⟨by simpa using h1, h2⟩
theorem Blk.ne (h : Blk w b c T) (h' : Blk w b' c' T') (hT : T ≠ T') : b ≠ b' := fun e => by subst e; exact hT (h.det h').2

/-- But for these blocks all that was there is as it was. -/
def Keep (M : List Nat) (w w' : World) : Prop := w.heap.size ≤ w'.heap.size ∧ (∀ b, b < w.heap.size → b ∉ M → w'.heap[b]? = w.heap[b]?) ∧ w'.os = w.os ∧ w'.output = w.output

variable {M M' N : List Nat}
theorem Keep.refl (M : List Nat) (w : World) : Keep M w w := ⟨Nat.le_refl _, fun _ _ _ => rfl, rfl, rfl⟩
theorem Keep.size (h : Keep M w w') : w.heap.size ≤ w'.heap.size := h.1
theorem Keep.trans (h : Keep M w w1) (h' : Keep M' w1 w2) (hs : ∀ b ∈ M', b ∈ M ∨ w.heap.size ≤ b) : Keep M w w2 :=
  ⟨Nat.le_trans h.1 h'.1, fun b hb hm => by
    rw [h'.2.1 b (Nat.lt_of_lt_of_le hb h.1) (fun hm' => (hs b hm').elim hm (fun h => absurd hb (Nat.not_lt.2 h))), h.2.1 b hb hm], h'.2.2.1.trans h.2.2.1, h'.2.2.2.trans h.2.2.2⟩
theorem Keep.mono (h : Keep M w w') (hs : ∀ b ∈ M, b ∈ N ∨ w.heap.size ≤ b) : Keep N w w' :=
  ⟨h.1, fun b hb hm => h.2.1 b hb (fun hm' => (hs b hm').elim hm (fun h => absurd hb (Nat.not_lt.2 h))), h.2.2⟩
theorem Keep.blk (h : Keep M w w') (hb : Blk w b c T) (hm : b ∉ M) : Blk w' b c T := by
  have := h.2.1 b hb.lt hm
  unfold Blk at *; rw [this]; exact hb
theorem cell_lt {a : Addr} (h : w.cell? a = some v) : a.block < w.heap.size := by
  unfold World.cell? at h
  rcases Nat.lt_or_ge a.block w.heap.size with hlt | hge
  · exact hlt
  · simp [Array.getElem?_eq_none hge] at h
theorem Keep.cell (h : Keep M w w') {a : Addr} (hc : w.cell? a = some v) (hm : a.block ∉ M) : w'.cell? a = some v := by
  have := h.2.1 _ (cell_lt hc) hm
  unfold World.cell? at *
  rw [this]; exact hc
theorem Keep.obj {o : Obj} (h : Keep M w w') (hb : w.heap[b]? = some o) (hm : b ∉ M) : w'.heap[b]? = some o := by
  rw [h.2.1 b (Array.getElem?_eq_some_iff.1 hb).1 hm]; exact hb
theorem Keep.alloc (w : World) (o : Obj) : Keep [] w (w.alloc o) := ⟨by show _ ≤ (w.heap.push o).size; simp, fun _ hb _ => heap_alloc_old hb, rfl, rfl⟩
theorem Keep.drew (w : World) : Keep [] w w.drew := ⟨Nat.le_refl _, fun _ _ _ => rfl, rfl, rfl⟩
theorem Keep.set (w : World) (b i : Nat) (v : Value) : Keep [b] w (w.setCell ⟨b, i, none⟩ v) :=
  ⟨by simp [World.setCell], fun b' _ hm => heap_setCell_ne _ _ (by simpa using hm), rfl, rfl⟩
theorem Keep.set_size (w : World) (a : Addr) (v : Value) : (w.setCell a v).heap.size = w.heap.size := by simp [World.setCell]
/-- Behind a keeping, one more. -/
theorem Keep.then_alloc (h : Keep M w w1) (o : Obj) : Keep M w (w1.alloc o) := h.trans (Keep.alloc _ _) (by simp)
theorem Keep.then_drew (h : Keep M w w1) : Keep M w w1.drew := h.trans (Keep.drew _) (by simp)
theorem Keep.then_set (h : Keep M w w1) (b i : Nat) (v : Value) (hb : b ∈ M ∨ w.heap.size ≤ b) : Keep M w (w1.setCell ⟨b, i, none⟩ v) :=
  h.trans (Keep.set _ _ _ _) (by simpa using hb)
theorem Keep.blk_size (h : Keep M w w') (hb : b < w.heap.size) : b < w'.heap.size := Nat.lt_of_lt_of_le hb h.1

/-- What stands at b from o on. -/
def Rdb (w : World) (b o : Nat) (vs : List Value) : Prop := ∀ j v, vs[j]? = some v → w.cell? ⟨b, o + j, none⟩ = some v
theorem Rdb.keep {o : Nat} {vs : List Value} (h : Rdb w b o vs) (hk : Keep M w w') (hm : b ∉ M) : Rdb w' b o vs := fun j v hj => hk.cell (h j v hj) hm
theorem Rdb.of_blk (h : Blk w b c T) (o n : Nat) : Rdb w b o ((c.drop o).take n) := fun j v hj => h.cell (by
  rw [List.getElem?_take] at hj
  split at hj
  · simpa [List.getElem?_drop] using hj
  · cases hj)
theorem Rdb.rd {o : Nat} {vs : List Value} (h : Rdb w b o vs) : Rd w ⟨b, o, none⟩ vs := fun j v hj => by rw [add_mk]; exact h j v hj
theorem Rd.rdb {o : Nat} {vs : List Value} (h : Rd w ⟨b, o, none⟩ vs) : Rdb w b o vs := fun j v hj => by have := h j v hj; rwa [add_mk] at this

/-- What a slice's elements are, cell by cell (whatever the element's size). -/
def Has (w : World) (a : Option Addr) (vs : List Value) : Prop := vs = [] ∨ ∃ b o, a = some ⟨b, o, none⟩ ∧ Rdb w b o vs
/-- The block that a slice stands in is none of these. -/
def Off (a : Option Addr) (M : List Nat) : Prop := ∀ x, a = some x → x.block ∉ M
theorem Has.keep {a : Option Addr} {vs : List Value} (h : Has w a vs) (hk : Keep M w w') (hm : Off a M) : Has w' a vs := by
  rcases h with h | ⟨b, o, rfl, h⟩
  · exact .inl h
  · exact .inr ⟨b, o, rfl, h.keep hk (hm _ rfl)⟩
theorem Off.nil (a : Option Addr) : Off a [] := fun _ _ => by simp
theorem Has.nil (w : World) (a : Option Addr) : Has w a [] := .inl rfl

/-- Several cells set. -/
theorem Blk.sets : ∀ (vs : List Value) (o : Nat) {w : World} {c : List Value}, Blk w b c T → o + vs.length ≤ c.length →
    Blk (w.setCells b o vs) b (c.take o ++ vs ++ c.drop (o + vs.length)) T
  | [], o, w, c, h, _ => by simpa [World.setCells] using h
  | v :: vs, o, w, c, h, hl => by
    simp only [List.length_cons] at hl
    have := Blk.sets vs (o + 1) (h.set o v) (by simp; omega)
    simp only [World.setCells]
    have e : (c.set o v).take (o + 1) ++ vs ++ (c.set o v).drop (o + 1 + vs.length) = c.take o ++ (v :: vs) ++ c.drop (o + (v :: vs).length) := by
      have h1 : (c.set o v).take (o + 1) = c.take o ++ [v] := by
        rw [List.take_succ_eq_append_getElem (by simp; omega)]
        simp [List.take_set_of_le]
      have h2 : (c.set o v).drop (o + 1 + vs.length) = c.drop (o + (v :: vs).length) := by
        rw [List.drop_set_of_lt (by omega)]
        simp [Nat.add_assoc, Nat.add_comm 1]
      rw [h1, h2]
      simp
    rw [e] at this
    exact this
theorem Keep.sets (w : World) (b : Nat) : ∀ (vs : List Value) (o : Nat), Keep [b] w (w.setCells b o vs)
  | [], _ => Keep.refl _ _
  | v :: vs, o => by
    have := Keep.sets (w.setCell ⟨b, o, none⟩ v) b vs (o + 1)
    exact (Keep.set w b o v).trans this (by simp)

theorem Blk.wr_all (h : Blk w b c T) (o n : Nat) (hn : o + n ≤ c.length) : (∀ j, j < n → (w.cell? ⟨b, o + j, none⟩).isSome = true) ∧ (∀ j, j < n → w.frozen? ⟨b, o + j, none⟩ = false) :=
  ⟨fun j hj => by rw [h.cell (v := c[o + j]'(by omega)) (by simp)]; rfl, fun _ _ => h.frozen⟩

end Go.Vc
