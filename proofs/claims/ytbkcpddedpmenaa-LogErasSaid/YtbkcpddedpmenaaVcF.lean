/- Regions in whatever order: soundness. -/
import Derived.Test.YtbkcpddedpmenaaVcE
namespace Go.Vc
open Go

def beforeOf (acc : Array Nat) (o : Oper) : Nat :=
  o.after.foldl (fun s e => if Region.binds .any e then s ||| 2 ^ e.on ||| acc.getD e.on 0 else s) 0

theorem testBit_foldl (acc : Array Nat) (k : Nat) : ∀ (l : List Edge) (s : Nat), (l.foldl (fun s e => if Region.binds .any e then s ||| 2 ^ e.on ||| acc.getD e.on 0 else s) s).testBit k = true →
    s.testBit k = true ∨ ∃ e ∈ l, Region.binds .any e = true ∧ (k = e.on ∨ (acc.getD e.on 0).testBit k = true)
  | [], s, h => .inl h
  | e :: l, s, h => by
    rw [List.foldl_cons] at h
    rcases testBit_foldl acc k l _ h with h1 | ⟨e', he', hb⟩
    · split at h1
      · rename_i hb
        simp only [Nat.testBit_or, Bool.or_eq_true] at h1
        rcases h1 with (h1 | h1) | h1
        · exact .inl h1
        · refine .inr ⟨e, by simp, hb, .inl ?_⟩
          rw [Nat.testBit_two_pow] at h1
          simpa using (of_decide_eq_true h1).symm
        · exact .inr ⟨e, by simp, hb, .inr h1⟩
      · exact .inl h1
    · exact .inr ⟨e', by simp [he'], hb⟩

theorem before_list : ∀ (l : List Oper), let B := l.foldl (fun acc o => acc.push (beforeOf acc o)) #[]
    B.size = l.length ∧ ∀ j o k, l[j]? = some o → (B.getD j 0).testBit k = true → ∃ e ∈ o.after, Region.binds .any e = true ∧ (k = e.on ∨ (e.on < j ∧ (B.getD e.on 0).testBit k = true)) := by
  intro l
  induction h : l.length generalizing l with
  | zero =>
    have : l = [] := by simpa using h
    subst this
    exact ⟨rfl, fun j o k ho => by simp at ho⟩
  | succ n ih =>
    obtain ⟨l', x, rfl⟩ : ∃ l' x, l = l' ++ [x] := ⟨l.dropLast, l.getLast (by intro e; simp [e] at h), (List.dropLast_concat_getLast _).symm⟩
    have hl : l'.length = n := by simpa using h
    obtain ⟨hs, hp⟩ := ih l' hl
    simp only [List.foldl_append, List.foldl_cons, List.foldl_nil]
    generalize hB : l'.foldl (fun acc o => acc.push (beforeOf acc o)) #[] = B at *
    have hg : ∀ i, i < n → (B.push (beforeOf B x)).getD i 0 = B.getD i 0 := fun i hi => by
      have : i < B.size := by omega
      simp [Array.getElem?_push, Nat.ne_of_lt this]
    refine ⟨by simp; omega, fun j o k ho hb => ?_⟩
    rcases Nat.lt_trichotomy j n with hj | hj | hj
    · have ho' : l'[j]? = some o := by rw [List.getElem?_append_left (by omega)] at ho; exact ho
      rw [hg j hj] at hb
      obtain ⟨e, he, hbe, hor⟩ := hp j o k ho' hb
      refine ⟨e, he, hbe, hor.imp id fun ⟨h1, h2⟩ => ⟨h1, by rw [hg _ (by omega)]; exact h2⟩⟩
    · subst hj
      have : o = x := by
        rw [List.getElem?_append_right (by omega)] at ho
        simp [hl] at ho
        exact ho.symm
      subst this
      have hbb : (B.push (beforeOf B o)).getD j 0 = beforeOf B o := by
        have : j = B.size := by omega
        subst this
        simp
      rw [hbb, beforeOf, ← Array.foldl_toList] at hb
      rcases testBit_foldl B k _ _ hb with h1 | ⟨e, he, hbe, hor⟩
      · simp at h1
      · refine ⟨e, by simpa using he, hbe, hor.imp id fun h2 => ?_⟩
        by_cases hlt : e.on < j
        · exact ⟨hlt, by rw [hg _ hlt]; exact h2⟩
        · have : B.getD e.on 0 = 0 := by
            have : B.size ≤ e.on := by omega
            simp [Array.getElem?_eq_none this]
          rw [this] at h2
          simp at h2
    · have : (l' ++ [x])[j]? = none := List.getElem?_eq_none (by simp; omega)
      rw [this] at ho
      cases ho

theorem ahead_elim {ops : Array Oper} {j k : Nat} {o : Oper} (ho : ops[j]? = some o) (h : Ahead ops k j) :
    ∃ e ∈ o.after, Region.binds .any e = true ∧ (k = e.on ∨ (e.on < j ∧ Ahead ops k e.on)) := by
  have := (before_list ops.toList).2 j o k (by simpa using ho)
  simp only [Array.foldl_toList] at this
  exact this h

theorem ahead_listed {ops : Array Oper} {listed : Array Bool} (hs : Shut ops listed) (k : Nat) : ∀ (j : Nat) (o : Oper), ops[j]? = some o →
    (∀ e ∈ o.after, Region.binds .any e = true → listed.getD e.on false = true) → Ahead ops k j → listed.getD k false = true := by
  intro j
  induction j using Nat.strongRecOn with
  | _ j ih =>
    intro o ho hall ha
    obtain ⟨e, he, hb, hor⟩ := ahead_elim ho ha
    rcases hor with rfl | ⟨hlt, ha'⟩
    · exact hall e he hb
    · have hl := hall e he hb
      have hsz : e.on < ops.size := by
        by_cases hx : e.on < listed.size
        · rw [hs.1] at hx; exact hx
        · simp [Array.getElem?_eq_none (Nat.le_of_not_lt hx)] at hl
      exact ih e.on hlt ops[e.on] (by simp [hsz]) (fun e' he' hb' => hs.2 e.on _ (by simp [hsz]) (getD_true_of_false hl) e' he' hb') ha'

section
variable {P : Program} {n : Nat} {ops : Array Oper} {fx : Env} {Q : Exit → Act → World → Prop}

/-- **What yields in all worlds of a class may be taken first**, if whatever may come ahead of it keeps the class. -/
theorem wpAnyI_first {D : World → Prop} {i : Nat} {oi : Oper} {v : Value} {I : Inv} (hQ : Calm Q) (hi : ops[i]? = some oi) (hsel : ∀ (j : Nat) (o : Oper) cs b, ops[j]? = some o → o.op ≠ .select cs b) :
    ∀ (m : Nat) (listed : Array Bool) (a : Act) (w : World), Shut ops listed →
      (∀ j oj, ops[j]? = some oj → j ≠ i → listed.getD j true = false → (∀ e ∈ oj.after, Region.binds .any e = true → e.on ≠ i) → oi.apart ops oj = true) →
      i ∈ Region.ready .any ops listed → YieldsD P ops D oi v a → D w → (∀ w, I i w w) →
      wpAnyI P ops Q m (fun j w w' => I j w w' ∧ (¬ Ahead ops i j → D w → D w')) (listed.setIfInBounds i true) (a.put oi.dst v) w → wpAnyI P ops Q (m + 1) I listed a w := by
  intro m
  induction m with
  | zero =>
    intro listed a w hs _ hr hy hd hI H
    refine ⟨fun h => (by rw [h] at hr; cases hr), fun j hj => ?_⟩
    by_cases hji : j = i
    · subst hji; exact hy.wpOp hi hd ⟨hI w, H⟩
    · have := ready_mono hj hji
      rw [H.1] at this
      cases this
  | succ m ih =>
    intro listed a w hs hfree hr hy hd hI H
    refine ⟨fun h => (by rw [h] at hr; cases hr), fun j hj => ?_⟩
    by_cases hji : j = i
    · subst hji
      exact hy.wpOp hi hd ⟨hI w, wpAnyI_mono (fun _ _ _ h => h.1) _ _ _ _ H⟩
    · have h1 := H.2 j (ready_mono hj hji)
      obtain ⟨hjun, oj, hoj, hall⟩ := mem_ready.1 hj
      have hiun := (mem_ready.1 hr).1
      have hnot : ∀ e ∈ oj.after, Region.binds .any e = true → e.on ≠ i := fun e he hb heq => by
        have h1 := hall e he hb
        rw [heq] at h1
        have := getD_true_of_false h1
        rw [hiun] at this
        cases this
      have hnah : ¬ Ahead ops i j := fun ha => by
        have := getD_true_of_false (ahead_listed hs i j oj hoj hall ha)
        rw [hiun] at this
        cases this
      have h2 := wpOp_putD hoj (hfree j oj hoj hji hjun hnot) (fun cs b => hsel i oi cs b hi) (fun cs b => hsel j oj cs b hoj) hQ hy h1
      have hfree' : ∀ k ok, ops[k]? = some ok → k ≠ i → (listed.setIfInBounds j true).getD k true = false →
          (∀ e ∈ ok.after, Region.binds .any e = true → e.on ≠ i) → oi.apart ops ok = true := fun k ok hk hki hun hno => by
        refine hfree k ok hk hki ?_ hno
        by_cases hjk : j = k
        · subst hjk; exact hjun
        · rw [getD_set_ne true hjk] at hun; exact hun
      refine wpOp_mono (fun a' w' h3 => ?_) h2
      obtain ⟨hy', ⟨hIj, hD⟩, h3⟩ := h3
      refine ⟨hIj, ih (listed.setIfInBounds j true) a' w' (hs.add hj) hfree' (ready_mono hr (Ne.symm hji)) hy' (hD hnah hd) hI ?_⟩
      rw [Array.setIfInBounds_comm _ _ hji]
      exact h3

/-- What is owed for those that came before. -/
def owes (ops : Array Oper) (Ds : List (Nat × (World → Prop))) : Inv := fun j w w' => ∀ p ∈ Ds, ¬ Ahead ops p.1 j → p.2 w → p.2 w'

theorem obl_elim {i : Nat} {w w' : World} : ∀ {Ds : List (Nat × (World → Prop))} {p : Prop}, obl ops i w' Ds p → owes ops Ds i w w' ∧ p
  | [], p, h => ⟨fun _ h => (by cases h), h⟩
  | (k, D) :: l, p, h => by
    unfold obl at h
    split at h
    · rename_i hb
      obtain ⟨h1, h2⟩ := obl_elim (w := w) h
      refine ⟨fun q hq => ?_, h2⟩
      rcases List.mem_cons.1 hq with rfl | hq
      · intro hn; exact absurd hb hn
      · exact h1 q hq
    · obtain ⟨hd, h⟩ := h
      obtain ⟨h1, h2⟩ := obl_elim (w := w) h
      refine ⟨fun q hq => ?_, h2⟩
      rcases List.mem_cons.1 hq with rfl | hq
      · intro _ _; exact hd
      · exact h1 q hq

theorem isReady_spec {listed : Array Bool} {i : Nat} (h : isReady ops listed i = true) : i ∈ Region.ready .any ops listed := by
  unfold isReady at h
  simpa using h

/-- One quiet operation: what it yields, and where. -/
theorem oneVC_quiet {i : Nat} {ann : Ann} {env : Env} {w : World} {K : Ann → Env → Option (World → Prop) → World → Prop} {a : Act} (ha : Agree n a env fx)
    (hq : quietI ops i ann env fx = true) (h : oneVC P n ops fx i ann env w K) :
    ∃ oi v D ann' env', ops[i]? = some oi ∧ YieldsD P ops (DT D) oi v a ∧ DT D w ∧ Agree n (a.put oi.dst v) env' fx ∧ K ann' env' D w := by
  unfold oneVC at h
  unfold quietI at hq
  split at h
  · exact h.elim
  · rename_i o ho
    simp only [ho] at hq
    split at h
    · exact h.elim
    · rename_i hd
      split at h
      · exact h.elim
      · rename_i hw
        exact ⟨o, undef, none, ann, _, ho, .inr ⟨ha.wanted hw, rfl⟩, trivial, ha.put _ _ hd, h⟩
      · rename_i hw
        simp only [hw] at hq
        split at h
        · exact h.elim
        · rename_i hk
          have hx := execOp_congr (ρ := a.eval) (ρ' := evT env fx) o (notSelect_of_opVC h) (fun x hx => ha.known hk x (by simpa using hx))
          obtain ⟨ann', v, D, hk', hdt, hr⟩ := (opVC_quiet hq h).it
          obtain ⟨ann'', env', ha', hk''⟩ := afterVC_elim ha hd hk'
          exact ⟨o, v, D, ann'', env', ho, .inl ⟨ha.wanted hw, fun w' hd' => by rw [hx]; exact hr w' hd'⟩, hdt, ha', hk''⟩

theorem regD_sound (hQ : Calm Q) (hsel : Region.noSelect ops = true) (K : KReg) (hq : ∀ ann' env' a' w', Agree n a' env' fx → K ann' env' w' → Q .normal a' w') :
    ∀ (f m : Nat) (Ds : List (Nat × (World → Prop))) (acc : List Nat) (listed : Array Bool) (ann : Ann) (env : Env) (w : World) (a : Act), Shut ops listed → Agree n a env fx →
      regD P n ops fx f m Ds acc listed ann env w K →
      (acc = [] → wpAnyI P ops Q m (owes ops Ds) listed a w) ∧
      (∀ m', m = m' + 1 → ∀ i ∈ Region.ready .any ops listed, i ∉ acc → wpOp P ops Q i (fun a' w' => owes ops Ds i w w' ∧ wpAnyI P ops Q m' (owes ops Ds) (listed.setIfInBounds i true) a' w') a w) := by
  intro f
  induction f with
  | zero => intro m Ds acc listed ann env w a _ _ h; exact h.elim
  | succ f ih =>
    intro m Ds acc listed ann env w a hs ha h
    unfold regD at h
    split at h
    · rename_i rest
      split at h
      · rename_i hr
        refine ⟨fun _ => ⟨hr, hq _ _ _ _ ha h⟩, fun m' hm => (by cases hm)⟩
      · exact h.elim
    · rename_i i rest
      split at h
      · rename_i m0
        split at h
        · rename_i hb
          simp only [Bool.and_eq_true] at hb
          obtain ⟨⟨hr, hf⟩, hqu⟩ := hb
          have hr := isReady_spec hr
          obtain ⟨oi, v, D, ann', env', hoi, hy, hd, ha', hk⟩ := oneVC_quiet ha hqu h
          have hfirst : wpAnyI P ops Q (m0 + 1) (owes ops Ds) listed a w := by
            refine wpAnyI_first hQ hoi (Region.noSelect_spec hsel) m0 listed a w hs (Region.free_spec hoi hf) hr hy hd (fun w p _ _ h => h) ?_
            cases D with
            | none =>
              refine wpAnyI_mono ?_ _ _ _ _ ((ih _ _ _ _ _ _ _ _ (hs.add hr) ha' hk).1 rfl)
              exact fun j w w' h => ⟨h, fun _ _ => trivial⟩
            | some D =>
              refine wpAnyI_mono ?_ _ _ _ _ ((ih _ _ _ _ _ _ _ _ (hs.add hr) ha' hk).1 rfl)
              exact fun j w w' h => ⟨fun p hp => h p (List.mem_cons_of_mem _ hp), fun hn hd => h (i, D) (by simp) hn hd⟩
          refine ⟨fun _ => hfirst, fun m' hm j hj _ => ?_⟩
          injection hm with hm
          subst hm
          exact hfirst.2 j hj
        · exact h.elim
      · exact h.elim
    · rename_i i one other
      split at h
      · rename_i m0
        split at h
        · rename_i hr
          have hr := isReady_spec hr
          have step : oneVC P n ops fx i one env w (fun ann' env' _ w' => obl ops i w' Ds (regD P n ops fx f m0 Ds [] (listed.setIfInBounds i true) ann' env' w' K)) →
              wpOp P ops Q i (fun a' w' => owes ops Ds i w w' ∧ wpAnyI P ops Q m0 (owes ops Ds) (listed.setIfInBounds i true) a' w') a w := fun h1 => by
            refine wpOp_mono (fun a' w' hh => ?_) (oneVC_wpOp ha h1)
            obtain ⟨ann', env', D, ha', hk⟩ := hh
            obtain ⟨h2, h3⟩ := obl_elim (w := w) hk
            exact ⟨h2, (ih _ _ _ _ _ _ _ _ (hs.add hr) ha' h3).1 rfl⟩
          have both : ∀ m', m0 + 1 = m' + 1 → ∀ j ∈ Region.ready .any ops listed, j ∉ acc → wpOp P ops Q j (fun a' w' => owes ops Ds j w w' ∧ wpAnyI P ops Q m' (owes ops Ds) (listed.setIfInBounds j true) a' w') a w := by
            intro m' hm j hj hacc
            injection hm with hm
            subst hm
            split at h
            · split at h
              · rename_i hall
                have h2 := List.all_eq_true.1 hall j hj
                simp only [Bool.or_eq_true] at h2
                rcases h2 with h2 | h2
                · have := Nat.eq_of_beq_eq_true h2
                  subst this
                  exact step h
                · exact absurd (by simpa using h2) hacc
              · exact h.elim
            · obtain ⟨h1, h2⟩ := h
              by_cases hji : j = i
              · subst hji; exact step h1
              · exact (ih _ _ _ _ _ _ _ _ hs ha h2).2 m0 rfl j hj (by simp [hji, hacc])
          refine ⟨fun hacc => ⟨fun h0 => (by rw [h0] at hr; cases hr), fun j hj => both m0 rfl j hj (by simp [hacc])⟩, both⟩
        · exact h.elim
      · exact h.elim
    · exact h.elim
end
end Go.Vc
