/- The evaluator's word for one operation is sound. -/
import Derived.Test.YtbkcpddedpmenaaVcB
namespace Go.Vc
open Go

def DT : Option (World → Prop) → World → Prop
  | none, _ => True
  | some D, w => D w

/-- What is had of an operation: it runs, and what follows holds. -/
inductive Did (P : Program) (ρ : Operand → Value) (o : Oper) (w : World) (K : Next3) : Prop
  | value (ann : Ann) (v : Value) (D : Option (World → Prop)) (w' : World) (hr : (execOp ρ o).run P w = .ok (.value v) w') (hk : K ann v D w')
  | skip (ann : Ann) (D : Option (World → Prop)) (w' : World) (hr : (execOp ρ o).run P w = .ok .skip w') (hk : K ann undef D w')
  | enter (f : FuncId) (args : Array Value) (hr : (execOp ρ o).run P w = .ok (.enter f args) w)
      (hk : Calls P f args w fun e w' => ∃ ann v D, e = .returned v ∧ K ann v D w')

/-- What is had of one that leaves the world alone. -/
structure Quiet (P : Program) (ρ : Operand → Value) (o : Oper) (w : World) (K : Next3) : Prop where
  it : ∃ (ann : Ann) (v : Value) (D : Option (World → Prop)), K ann v D w ∧ DT D w ∧ ∀ w', DT D w' → (execOp ρ o).run P w' = .ok (.value v) w'

theorem Quiet.did {P : Program} {ρ : Operand → Value} {o : Oper} {w : World} {K : Next3} (h : Quiet P ρ o w K) : Did P ρ o w K :=
  let ⟨ann, v, D, hk, hd, hr⟩ := h.it
  .value ann v D w (hr w hd) hk

section
variable {P : Program} {ρ : Operand → Value} {o : Oper} {ann : Ann} {w : World} {K : Next3}

theorem quiet_of_pure {v : Value} {ann : Ann} (hr : ∀ w', (execOp ρ o).run P w' = .ok (.value v) w') (hk : K ann v none w) : Quiet P ρ o w K :=
  ⟨ann, v, none, hk, trivial, fun w' _ => hr w'⟩

theorem pureVC_quiet (h : pureVC P ρ o ann w K) : Quiet P ρ o w K := by
  unfold pureVC at h
  split at h
  · rename_i v hp; exact quiet_of_pure (pureRun_run P _ hp) h
  · exact h.elim

theorem run_eqGuard_int (op : BinOp) (t : TypeId) (x y : Operand) (k j : IntKind) (a b : Int) : (eqGuard op t x y (.int k a) (.int j b)).run P w = .ok () w := by
  unfold eqGuard
  cases op <;> simp

theorem run_eqGuard_ptr (op : BinOp) (t : TypeId) (x y : Operand) (a b : Option Addr) : (eqGuard op t x y (.pointer a) (.pointer b)).run P w = .ok () w := by
  unfold eqGuard
  cases op <;> simp

theorem run_eqGuard_slc (op : BinOp) (t : TypeId) (x y : Operand) (a b : Option Addr) (l c l' c' : Nat) : (eqGuard op t x y (.slice a l c) (.slice b l' c')).run P w = .ok () w := by
  unfold eqGuard
  cases op <;> simp

theorem run_equal_ptr_nil {t e : TypeId} (ht : P.underlying t = some (.pointer e)) (p : Option Addr) (w : World) :
    (Op.equal t (.pointer p) (.pointer none)).run P w = .ok p.isNone w := by
  unfold Op.equal Op.maxDepth Op.equalIn
  cases p <;> simp [run_underlying ht]
theorem run_equal_slc_nil {t e : TypeId} (ht : P.underlying t = some (.slice e)) (p : Option Addr) (l c l' c' : Nat) (w : World) :
    (Op.equal t (.slice p l c) (.slice none l' c')).run P w = .ok p.isNone w := by
  unfold Op.equal Op.maxDepth Op.equalIn
  cases p <;> simp [run_underlying ht]

theorem binVC_quiet {op : BinOp} {t u : TypeId} {x y : Operand} (ho : o.op = .binOp op t x y u) (h : binVC P ρ o op t (ρ x) (ρ y) ann w K) : Quiet P ρ o w K := by
  unfold binVC at h
  split at h
  · rename_i k a j b hx hy
    have key : ∀ (v : Value), (∀ w', (binOp op t (.int k a) (.int j b)).run P w' = .ok v w') → ∀ w', (execOp ρ o).run P w' = .ok (.value v) w' := by
      intro v hv w'
      simp [execOp, ho, hx, hy, run_eqGuard_int, hv w']
    split at h
    · split at h
      · rename_i hk
        obtain ⟨hb, h⟩ := h
        obtain rfl := kindEq_eq hk
        exact quiet_of_pure (key _ fun w' => by simp [binOp, Op.intDiv, hb]) (h _ rfl)
      · exact h.elim
    · split at h
      · rename_i hk
        obtain ⟨hb, h⟩ := h
        obtain rfl := kindEq_eq hk
        exact quiet_of_pure (key _ fun w' => by simp [binOp, Op.intDiv, hb]) (h _ rfl)
      · exact h.elim
    · obtain ⟨hb, h⟩ := h
      exact quiet_of_pure (key _ fun w' => by simp [binOp, Op.shift, Int.not_lt.2 hb]) (h _ rfl)
    · obtain ⟨hb, h⟩ := h
      exact quiet_of_pure (key _ fun w' => by simp [binOp, Op.shift, Int.not_lt.2 hb]) (h _ rfl)
    · split at h
      · rename_i hkj
        obtain rfl := kindEq_eq hkj
        split at h
        · rename_i e he
          refine quiet_of_pure (key _ fun w' => ?_) (h _ rfl)
          cases op <;> simp [arithOp] at he <;> subst he <;> simp [binOp, Op.intArith, Op.intBits]
        · split at h
          · rename_i c hc
            refine quiet_of_pure (key _ fun w' => ?_) h
            cases op <;> simp [cmpOp] at hc <;> subst hc <;> simp [binOp, Op.intCmp]
          · exact h.elim
      · exact h.elim
  · rename_i p hx hy
    split at h
    · rename_i e ht
      split at h
      · exact quiet_of_pure (fun w' => by simp [execOp, ho, hx, hy, run_eqGuard_ptr, binOp, run_equal_ptr_nil ht]) h
      · exact quiet_of_pure (fun w' => by simp [execOp, ho, hx, hy, run_eqGuard_ptr, binOp, run_equal_ptr_nil ht]) h
      · exact h.elim
    · exact h.elim
  · rename_i hx hy
    split at h
    · rename_i e ht
      split at h
      · exact quiet_of_pure (fun w' => by simp [execOp, ho, hx, hy, run_eqGuard_slc, binOp, run_equal_slc_nil ht]) h
      · exact quiet_of_pure (fun w' => by simp [execOp, ho, hx, hy, run_eqGuard_slc, binOp, run_equal_slc_nil ht]) h
      · exact h.elim
    · exact h.elim
  · exact pureVC_quiet h

theorem sizeB_eq {t : TypeId} {n : Nat} (h : sizeB P t n = true) : (P.info? t).map (·.size) = some n := by
  unfold sizeB at h
  split at h
  · rename_i m hm; rw [hm, Nat.eq_of_beq_eq_true h]
  · cases h
theorem run_isAgg_of {t : TypeId} {b : Bool} (h : aggB P t = some b) (w : World) : (isAgg t).run P w = .ok b w := by
  unfold aggB at h
  unfold isAgg
  split at h <;> simp at h <;> subst h
  · rename_i ht; simp [run_underlying ht]
  · rename_i ht; simp [run_underlying ht]
  · rename_i d h1 h2 ht
    cases d <;> simp_all [run_underlying ht]
theorem run_sizeOf_of {t : TypeId} {n : Nat} (h : (P.info? t).map (·.size) = some n) (w : World) : (sizeOf t).run P w = .ok n w := by
  cases hi : P.info? t with
  | none => simp [hi] at h
  | some i => simp [hi] at h; subst h; simp [sizeOf, typeInfo, program, Sem.run, hi]

theorem readsEx_elim : ∀ (l : List Sh) (a : Addr) (i : Nat) (w : World) (Q : List Value → (World → Prop) → Prop), readsEx l a i w Q →
    ∃ vs D, vs.length = l.length ∧ Q vs D ∧ D w ∧ ∀ w', D w' → ∀ j v, vs[j]? = some v → w'.cell? (a.add (i + j)) = some v
  | [], a, i, w, Q, h => ⟨[], fun _ => True, rfl, h, trivial, fun _ _ j v hj => by simp at hj⟩
  | [s], a, i, w, Q, h => by
    obtain ⟨v, h1, h2⟩ := Sh.ex_elim s h
    refine ⟨[v], _, rfl, h2, h1, fun w' hd j u hj => ?_⟩
    cases j with
    | zero => simp at hj; subst hj; exact hd
    | succ j => simp at hj
  | s :: s' :: l, a, i, w, Q, h => by
    obtain ⟨v, h1, h2⟩ := Sh.ex_elim s h
    obtain ⟨vs, D, hl, hq, hd, hr⟩ := readsEx_elim (s' :: l) a (i + 1) w _ h2
    refine ⟨v :: vs, _, by simp [hl], hq, ⟨h1, hd⟩, fun w' hd' j u hj => ?_⟩
    cases j with
    | zero => simp at hj; subst hj; exact hd'.1
    | succ j => have := hr w' hd'.2 j u (by simpa using hj); rwa [show i + (j + 1) = i + 1 + j by omega]

theorem loadVC_quiet {t : TypeId} {x : Operand} (ho : o.op = .load t x) (h : loadVC P t (ρ x) ann w K) : Quiet P ρ o w K := by
  unfold loadVC at h
  split at h
  · rename_i a hx
    have key : ∀ (v : Value) (w' : World), (loadVar t a).run P w' = .ok v w' → (execOp ρ o).run P w' = .ok (.value v) w' := by
      intro v w' hv
      simp [execOp, ho, hx, Instr.loadAt, Instr.sureAddr, hv]
    split at h
    · rename_i s rest
      split at h
      · rename_i hagg
        split at h
        · rename_i l
          split at h
          · rename_i n hn
            split at h
            · rename_i hb
              have hb := Nat.eq_of_beq_eq_true hb
              obtain ⟨vs, D, hl, hq, hd, hr⟩ := readsEx_elim l a 0 w _ h
              refine ⟨rest, _, some D, hq, hd, fun w' hd' => key _ w' ?_⟩
              have := run_loadCells_list (P := P) w' a vs (fun j v hj => by simpa using hr w' hd' j v hj)
              rw [hl, hb] at this
              simp [loadVar, run_isAgg_of hagg, run_sizeOf_of hn, this]
            · exact h.elim
          · exact h.elim
        · rename_i n
          split at h
          · exact h.elim
          · rename_i hn
            have hn := sizeB_eq hn
            obtain ⟨vs, hl, hr, hk⟩ := h
            refine ⟨rest, _, some _, hk, hr, fun w' hd' => key _ w' ?_⟩
            have := run_loadCells_list (P := P) w' a vs hd'
            rw [hl] at this
            simp [loadVar, run_isAgg_of hagg, run_sizeOf_of hn, this]
        · exact h.elim
      · rename_i hagg
        obtain ⟨v, h1, h2⟩ := Sh.ex_elim s h
        refine ⟨rest, v, some _, h2, h1, fun w' hd' => key _ w' ?_⟩
        have hc : w'.cell? a = some v := hd'
        simp [loadVar, run_isAgg_of hagg, hc]
      · exact h.elim
    · exact h.elim
  · exact h.elim

theorem whenOne_elim {v : Value} {p : Prop} (h : WhenOne v p) : v.oneCell' = true ∧ p := by
  unfold WhenOne at h
  cases v <;> simp_all [Value.oneCell']

theorem storesVC_elim : ∀ (l : List Value) (a : Addr) (i : Nat) (w : World) (K : World → Prop), storesVC l a i w K →
    ∃ w', (storeCells a l i).run P w = .ok () w' ∧ K w'
  | [], _, _, w, _, h => ⟨w, rfl, h⟩
  | v :: l, a, i, w, K, h => by
    obtain ⟨h1, ⟨⟨u, hu⟩, hf⟩, h2⟩ := whenOne_elim h
    obtain ⟨w', hr, hk⟩ := storesVC_elim l a (i + 1) _ K (h2 _ rfl)
    refine ⟨w', ?_, hk⟩
    rw [storeCells]
    simp only [Sem.run_bind]
    have : (store (a.add i) v).run P w = .ok () (w.setCell (a.add i) v) := by
      cases v <;> simp [store, Sem.run, hu, hf, Value.oneCell'] at h1 ⊢
    rw [this]
    exact hr

theorem storeVC_did {t : TypeId} {x v : Operand} (ho : o.op = .store t x v) (h : storeVC P t (ρ x) (ρ v) ann w K) : Did P ρ o w K := by
  unfold storeVC at h
  split at h
  · rename_i a hx
    have key : ∀ (n : Nat) (w' : World), (P.info? t).map (·.size) = some n → (ρ v).cells.size = n → (storeCells a (ρ v).cells.toList).run P w = .ok () w' →
        (execOp ρ o).run P w = .ok .skip w' := by
      intro n w' hn hs hv
      simp [execOp, ho, hx, Instr.storeAt, Instr.sureAddr, storeVar, run_sizeOf_of hn, hs, hv]
    split at h
    · rename_i n rest
      split at h
      · exact h.elim
      rename_i hn
      have hn := sizeB_eq hn
      obtain ⟨hs, h1, hw, hsp, hk⟩ := h
      obtain ⟨b, off, sp⟩ := a
      simp only at hsp
      subst hsp
      refine .skip rest none _ (key n _ hn hs ?_) (hk _ rfl)
      have := run_storeCells_cells (P := P) b off (ρ v).cells.toList 0 w
        (fun j hj => by
          obtain ⟨⟨u, hu⟩, _⟩ := hw j (by simpa [hs] using hj)
          have e : (⟨b, off, none⟩ : Addr).add j = ⟨b, off + 0 + j, none⟩ := by unfold Addr.add; split <;> simp_all
          rw [← e, hu]; rfl)
        (fun j hj => by
          obtain ⟨_, hf⟩ := hw j (by simpa [hs] using hj)
          have e : (⟨b, off, none⟩ : Addr).add j = ⟨b, off + 0 + j, none⟩ := by unfold Addr.add; split <;> simp_all
          rw [← e, hf])
        (fun u hu => (whenOne_elim (h1 u hu)).1)
      simpa using this
    · split at h
      · rename_i n hn
        split at h
        · rename_i hb
          obtain ⟨w', hr, hk⟩ := storesVC_elim (P := P) _ _ _ _ _ h
          exact .skip _ none w' (key n _ hn (Nat.eq_of_beq_eq_true hb) hr) hk
        · exact h.elim
      · exact h.elim
  · exact h.elim

theorem add_mk (b o n : Nat) : (⟨b, o, none⟩ : Addr).add n = ⟨b, o + n, none⟩ := by unfold Addr.add; split <;> simp_all

theorem indexAddrVC_quiet {t : TypeId} {x i : Operand} (ho : o.op = .indexAddr t x i) (h : indexAddrVC P t (ρ x) (ρ i) ann w K) : Quiet P ρ o w K := by
  unfold indexAddrVC at h
  split at h
  · rename_i k n hi
    split at h
    · rename_i base len cap hx
      split at h
      · rename_i e ht
        split at h
        · rename_i sz hsz
          obtain ⟨b, off, rfl, h0, h1, hk⟩ := h
          refine quiet_of_pure (fun w' => ?_) hk
          simp [execOp, ho, hx, hi, Instr.indexAt, asIntOf, run_underlying ht, h0, h1, run_sizeOf_of hsz, add_mk]
        · exact h.elim
      · exact h.elim
    · rename_i a hx
      split at h
      · rename_i m e ht
        split at h
        · rename_i sz hsz
          obtain ⟨hsp, h0, h1, hk⟩ := h
          obtain ⟨b, off, sp⟩ := a
          simp only at hsp
          subst hsp
          refine quiet_of_pure (fun w' => ?_) hk
          simp [execOp, ho, hx, hi, Instr.indexAt, asIntOf, Instr.sureAddr, run_underlying ht, h0, h1, run_sizeOf_of hsz, add_mk]
        · exact h.elim
      · exact h.elim
    · exact h.elim
  · exact h.elim


theorem sliceBound_run {k : IntKind} {i : Int} {y : Nat} {c : BoundsCode} (h0 : 0 ≤ i) (h1 : i ≤ y) (w : World) :
    (Instr.sliceBound (.int k i) y c).run P w = .ok i.toNat w := by
  simp [Instr.sliceBound, asIntOf, h0, h1]

theorem sliceVC_quiet {t : TypeId} {x : Operand} {lo hi mx : Option Operand} (ho : o.op = .slice t x lo hi mx)
    (h : sliceVC P t (ρ x) (lo.map ρ) (hi.map ρ) (mx.map ρ) ann w K) : Quiet P ρ o w K := by
  have key : ∀ (v : Value), (∀ w', (Instr.sliceAt t (ρ x) (lo.map ρ) (hi.map ρ) (mx.map ρ)).run P w' = .ok v w') → ∀ w', (execOp ρ o).run P w' = .ok (.value v) w' := by
    intro v hv w'
    simp [execOp, ho, hv w']
  unfold sliceVC at h
  split at h
  · rename_i a len cap hx
    split at h
    · rename_i e ht
      split at h
      · rename_i sz hsz
        split at h
        · rename_i e1 e2 e3
          refine quiet_of_pure (key _ fun w' => ?_) h
          simp [hx, e1, e2, e3, Instr.sliceAt, Instr.slice, Instr.sliceBounds, run_underlying ht, run_sizeOf_of hsz, cutBase]
        · rename_i k l e1 e2 e3
          obtain ⟨h0, h1, h⟩ := h
          refine quiet_of_pure (key _ fun w' => ?_) h
          simp [hx, e1, e2, e3, Instr.sliceAt, Instr.slice, Instr.sliceBounds, run_underlying ht, run_sizeOf_of hsz, cutBase, sliceBound_run h0 h1]
        · rename_i k l e1 e2 e3
          obtain ⟨h0, h1, h⟩ := h
          refine quiet_of_pure (key _ fun w' => ?_) h
          simp [hx, e1, e2, e3, Instr.sliceAt, Instr.slice, Instr.sliceBounds, run_underlying ht, run_sizeOf_of hsz, cutBase, sliceBound_run h0 h1]
        · rename_i k l k' m e1 e2 e3
          obtain ⟨h0, h1, h2, h⟩ := h
          have hm : 0 ≤ m := Int.le_trans h0 h1
          refine quiet_of_pure (key _ fun w' => ?_) h
          simp [hx, e1, e2, e3, Instr.sliceAt, Instr.slice, Instr.sliceBounds, run_underlying ht, run_sizeOf_of hsz, cutBase, sliceBound_run hm h2,
            sliceBound_run (P := P) (k := k) (c := .sliceB) (y := m.toNat) h0 (by omega)]
        · rename_i k l k' m e1 e2 e3
          obtain ⟨h0, h1, h2, h⟩ := h
          have hm : 0 ≤ m := Int.le_trans h0 h1
          refine quiet_of_pure (key _ fun w' => ?_) h
          simp [hx, e1, e2, e3, Instr.sliceAt, Instr.slice, Instr.sliceBounds, run_underlying ht, run_sizeOf_of hsz, cutBase, sliceBound_run hm h2,
            sliceBound_run (P := P) (k := k) (c := .slice3B) (y := m.toNat) h0 (by omega)]
        · rename_i k l k' g k'' m e1 e2 e3
          obtain ⟨h0, h1, h2, h3, h⟩ := h
          have hg : 0 ≤ g := Int.le_trans h0 h1
          have hm : 0 ≤ m := Int.le_trans hg h2
          refine quiet_of_pure (key _ fun w' => ?_) h
          simp [hx, e1, e2, e3, Instr.sliceAt, Instr.slice, Instr.sliceBounds, run_underlying ht, run_sizeOf_of hsz, cutBase, sliceBound_run hm h3,
            sliceBound_run (P := P) (k := k') (c := .slice3B) (y := m.toNat) hg (by omega), sliceBound_run (P := P) (k := k) (c := .slice3C) (y := g.toNat) h0 (by omega)]
        · exact h.elim
      · exact h.elim
    · exact h.elim
  · rename_i a hx
    split at h
    · rename_i n e ht
      split at h
      · rename_i sz hsz
        split at h
        · rename_i e1 e2 e3
          refine quiet_of_pure (key _ fun w' => ?_) h
          simp [hx, e1, e2, e3, Instr.sliceAt, Instr.sureAddr, Instr.sliceBounds, run_underlying ht, run_sizeOf_of hsz]
        · rename_i k l e1 e2 e3
          obtain ⟨h0, h1, h⟩ := h
          refine quiet_of_pure (key _ fun w' => ?_) h
          simp [hx, e1, e2, e3, Instr.sliceAt, Instr.sureAddr, Instr.sliceBounds, run_underlying ht, run_sizeOf_of hsz, cutBase, sliceBound_run h0 h1]
          split <;> simp
        · rename_i k l e1 e2 e3
          obtain ⟨h0, h1, h⟩ := h
          refine quiet_of_pure (key _ fun w' => ?_) h
          simp [hx, e1, e2, e3, Instr.sliceAt, Instr.sureAddr, Instr.sliceBounds, run_underlying ht, run_sizeOf_of hsz, cutBase, sliceBound_run h0 h1]
          split <;> simp
        · rename_i k l k' m e1 e2 e3
          obtain ⟨h0, h1, h2, h⟩ := h
          have hm : 0 ≤ m := Int.le_trans h0 h1
          refine quiet_of_pure (key _ fun w' => ?_) h
          simp [hx, e1, e2, e3, Instr.sliceAt, Instr.sureAddr, Instr.sliceBounds, run_underlying ht, run_sizeOf_of hsz, cutBase, sliceBound_run hm h2,
            sliceBound_run (P := P) (k := k) (c := .sliceB) (y := m.toNat) h0 (by omega)]
          split <;> simp
        · exact h.elim
      · exact h.elim
    · exact h.elim
  · exact h.elim

theorem runVC_quiet {s : Sem Value} (key : ∀ v w', s.run P w' = .ok v w' → (execOp ρ o).run P w' = .ok (.value v) w') (h : runVC P s true ann w K) : Quiet P ρ o w K := by
  unfold runVC at h
  split at h
  · obtain ⟨v, h1, h2⟩ := Sh.ex_elim _ h
    exact ⟨_, v, some _, h2, h1, fun w' hd => key v w' hd⟩
  · exact h.elim
theorem runVC_did {s : Sem Value} {b : Bool} (key : ∀ v w', s.run P w = .ok v w' → (execOp ρ o).run P w = .ok (.value v) w') (h : runVC P s b ann w K) : Did P ρ o w K := by
  unfold runVC at h
  split at h
  · split at h
    · obtain ⟨v, h1, h2⟩ := Sh.ex_elim _ h
      exact .value _ v _ w (key v w h1) h2
    · obtain ⟨v, w', h1, h2⟩ := Sh.ex_elim _ h
      exact .value _ v _ w' (key v w' h1) h2
  · exact h.elim

theorem run_callFunc {f : FuncId} (args : Array Value) (h : callableB P f = true) (w : World) : (callFunc f args).run P w = .ok (.enter f args) w := by
  unfold callableB at h
  split at h
  · cases h
  · rename_i fn hf
    simp at h
    obtain ⟨b, hb⟩ := Option.isSome_iff_exists.1 h.2
    simp [callFunc, program, Sem.run, hf, h.1, hb]
theorem callVC_elim {f : FuncId} {args : Array Value} (h : callVC P f args ann w K) : Calls P f args w fun e w' => ∃ ann v D, e = .returned v ∧ K ann v D w' := by
  unfold callVC at h
  split at h
  · exact h.mono fun e w' he => by
      obtain ⟨v, h1, h2⟩ := Sh.ex_elim _ he
      exact ⟨_, v, none, h1, h2⟩
  · exact h.elim

theorem newVC_did (hv : ∀ v w', (execOp ρ o).run P w = .ok (.value v) w' → K ann v none w' → Did P ρ o w K)
    (h : match (execOp ρ o).run P w with | .ok (.value v) w' => ∀ w2, w2 = w' → K ann v none w2 | _ => False) : Did P ρ o w K := by
  split at h
  · rename_i v w' hr; exact hv v w' hr (h _ rfl)
  · exact h.elim

theorem map_toList_toArray {α β : Type} (f : α → β) (l : Array α) : (l.toList.map f).toArray = l.map f := by
  apply Array.ext'; simp

theorem opVC_quiet (hq : quietB o ann = true) (h : opVC P ρ o ann w K) : Quiet P ρ o w K := by
  unfold opVC at h
  split at h
  · rename_i x ho; exact quiet_of_pure (fun w' => by simp [execOp, ho]) h
  · rename_i x ho; exact quiet_of_pure (fun w' => by simp [execOp, ho]) h
  · rename_i op t x y u ho
    split at h
    · obtain ⟨v, h1, h2⟩ := Sh.ex_elim _ h
      refine quiet_of_pure (fun w' => ?_) h2
      have := h1 w'
      simp only [execOp, ho]
      rw [Sem.run_bind, this]
      rfl
    · exact binVC_quiet ho h
  · rename_i t x ho; exact loadVC_quiet ho h
  · rename_i t x v ho; simp [quietB, ho] at hq
  · rename_i x ho
    split at h
    · rename_i p hx
      obtain ⟨b, off, rfl, h⟩ := h
      exact quiet_of_pure (fun w' => by simp [execOp, ho, hx]) h
    · exact pureVC_quiet h
  · rename_i t x i ho; exact indexAddrVC_quiet ho h
  · rename_i t x lo hi mx ho; exact sliceVC_quiet ho h
  · rename_i t x ho
    split at h
    · rename_i a len cap n e hx ht
      obtain ⟨b, off, rfl, h1, h2⟩ := h
      exact quiet_of_pure (fun w' => by simp [execOp, ho, hx, Instr.arrayAt, run_underlying ht, Nat.not_lt.2 h1]) h2
    · exact h.elim
  · rename_i t x i ho
    split at h
    · obtain ⟨v, h1, h2⟩ := Sh.ex_elim _ h
      exact quiet_of_pure (fun w' => by simp [execOp, ho, h1 w']) h2
    · exact pureVC_quiet h
  · rename_i t l c ho; simp [quietB, ho] at hq
  · rename_i t x i ok ho
    exact runVC_quiet (fun v w' hr => by simp [execOp, ho, hr]) h
  · rename_i t m k v ho; simp [quietB, ho] at hq
  · rename_i ho; simp [quietB, ho] at hq
  · rename_i ho; simp [quietB, ho] at hq
  · rename_i ho; simp [quietB, ho] at hq
  · rename_i ho; simp [quietB, ho] at hq
  · rename_i c ho
    split at h
    · rename_i b hb
      split at h
      · simp [quietB, ho, hb] at hq
      · simp [quietB, ho, hb] at hq
      · simp [quietB, ho, hb] at hq
      · simp [quietB, ho, hb] at hq
      · split at h
        · exact runVC_quiet (fun v w' hr => by simp [execOp, ho, resolve, hb, invoke, builtin, hr]) h
        · exact pureVC_quiet h
      · exact pureVC_quiet h
    · rename_i f hf
      simp [quietB, ho, hf] at hq
    · exact h.elim
  · rename_i src dst x ho
    split at h
    · rename_i b s rest hfb
      have hb : b = false := by simpa [quietB, ho, hfb] using hq
      subst hb
      exact runVC_quiet (fun v w' hr => by simp [execOp, ho, hr]) h
    · split at h
      · rename_i k n hx
        split at h
        · rename_i d k' hs hd
          refine quiet_of_pure (fun w' => ?_) (h _ rfl)
          simp [execOp, ho, hx, convert, run_underlying hs, run_underlying hd, Conv.intToInt]
        · exact pureVC_quiet h
      · exact pureVC_quiet h
  · rename_i u t x ho
    split at h
    · rename_i k n hx
      exact quiet_of_pure (fun w' => by simp [execOp, ho, hx, Op.unary, Op.intArith]) (h _ rfl)
    · rename_i k n hx
      exact quiet_of_pure (fun w' => by simp [execOp, ho, hx, Op.unary, Op.intBits]) (h _ rfl)
    · exact pureVC_quiet h
  · rename_i t parts ho
    split at h
    · obtain ⟨v, h1, h2⟩ := Sh.ex_elim _ h
      exact quiet_of_pure (fun w' => by simp [execOp, ho, h1 w']) h2
    · exact pureVC_quiet h
  all_goals first | exact pureVC_quiet h | exact h.elim

theorem enter_did {f : FuncId} {args : Array Value} {ann : Ann} (hr : (execOp ρ o).run P w = .ok (.enter f args) w) (h : callVC P f args ann w K) : Did P ρ o w K :=
  .enter f args hr (callVC_elim h)

theorem opVC_did (hρ : ∀ f, ρ (.func f) = .func (.func f) #[] #[]) (h : opVC P ρ o ann w K) : Did P ρ o w K := by
  by_cases hq : quietB o ann = true
  · exact (opVC_quiet hq h).did
  unfold opVC at h
  split at h
  · rename_i x ho; simp [quietB, ho] at hq
  · rename_i x ho; simp [quietB, ho] at hq
  · rename_i op t x y u ho; simp [quietB, ho] at hq
  · rename_i t x ho; simp [quietB, ho] at hq
  · rename_i t x v ho; exact storeVC_did ho h
  · rename_i x ho; simp [quietB, ho] at hq
  · rename_i t x i ho; simp [quietB, ho] at hq
  · rename_i t x lo hi mx ho; simp [quietB, ho] at hq
  · rename_i t x ho; simp [quietB, ho] at hq
  · rename_i t x i ho; simp [quietB, ho] at hq
  · rename_i t l c ho; exact runVC_did (fun v w' hr => by simp [execOp, ho, hr]) h
  · rename_i t x i ok ho; simp [quietB, ho] at hq
  · rename_i t m k v ho
    obtain ⟨w', h1, h2⟩ := h
    exact .skip ann none w' (by simp [execOp, ho, h1]) h2
  · rename_i t n parts ho
    split at h
    · exact runVC_did (fun v w' hr => by simp [execOp, ho, hr]) h
    · exact newVC_did (fun v w' hr hk => .value _ v none w' hr hk) h
  · rename_i ho; exact newVC_did (fun v w' hr hk => .value ann v none w' hr hk) h
  · rename_i ho; exact newVC_did (fun v w' hr hk => .value ann v none w' hr hk) h
  · rename_i ho; exact newVC_did (fun v w' hr hk => .value ann v none w' hr hk) h
  · rename_i c ho
    split at h
    · rename_i b hb
      split at h
      · exact runVC_did (fun v w' hr => by simp [execOp, ho, resolve, hb, invoke, builtin, hr]) h
      · exact runVC_did (fun v w' hr => by simp [execOp, ho, resolve, hb, invoke, builtin, hr]) h
      · exact runVC_did (fun v w' hr => by simp [execOp, ho, resolve, hb, invoke, builtin, hr]) h
      · exact runVC_did (fun v w' hr => by simp [execOp, ho, resolve, hb, invoke, builtin, hr]) h
      · simp [quietB, ho, hb] at hq
      · exact (pureVC_quiet h).did
    · rename_i f hf
      split at h
      · rename_i g
        split at h
        · rename_i hc
          refine enter_did ?_ h
          rw [map_toList_toArray]
          simp [execOp, ho, resolve, hf, hρ, Deferred.ofValue, invoke, run_callFunc _ hc]
        · exact h.elim
      · split at h
        · obtain ⟨g, first, captured, hv, hc, h⟩ := h
          refine enter_did ?_ h
          rw [map_toList_toArray]
          simp [execOp, ho, resolve, hf, Deferred.ofValue, invoke, hv, run_callFunc _ hc]
        · split at h
          · rename_i g first captured hv
            split at h
            · rename_i hc
              refine enter_did ?_ h
              simp [execOp, ho, resolve, hf, Deferred.ofValue, invoke, hv, run_callFunc _ hc]
            · exact h.elim
          · exact h.elim
    · exact h.elim
  · rename_i src dst x ho
    split at h
    · exact runVC_did (fun v w' hr => by simp [execOp, ho, hr]) h
    · rename_i hfb
      simp [quietB, ho, hfb] at hq
  · rename_i u t x ho; simp [quietB, ho] at hq
  · rename_i t parts ho; simp [quietB, ho] at hq
  all_goals first | exact (pureVC_quiet h).did | exact h.elim
end
end Go.Vc
