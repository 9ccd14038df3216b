/- Regions: soundness. -/
import Derived.Test.YtbkcpddedpmenaaVcD
namespace Go.Vc
open Go

structure Agree (n : Nat) (a : Act) (env fx : Env) : Prop where
  defers : a.defers = []
  size : a.tmps.size = n
  env : ∀ t v, env.get t = some v → t < n ∧ a.tmps[t]? = some v
  fx : ∀ t v, (t, v) ∈ fx → t < n ∧ a.tmps[t]? = some v

theorem Env.get_mem : ∀ {env : Env} {t : Nat} {v : Value}, env.get t = some v → (t, v) ∈ env
  | [], _, _, h => by simp [Env.get] at h
  | (s, u) :: l, t, v, h => by
    simp only [Env.get] at h
    split at h
    · rename_i hb
      have := Nat.eq_of_beq_eq_true hb
      injection h with h
      subst h; subst this
      simp
    · exact List.mem_cons_of_mem _ (Env.get_mem h)

theorem Agree.look {n : Nat} {a : Act} {env fx : Env} (h : Agree n a env fx) {t : Nat} {v : Value} (hl : look env fx t = some v) : t < n ∧ a.tmps[t]? = some v := by
  unfold Vc.look at hl
  split at hl
  · rename_i u hu; injection hl with hl; subst hl; exact h.env _ _ hu
  · exact h.fx _ _ (Env.get_mem hl)

theorem Env.get_put (d : Nat) (v : Value) (env : Env) (t : Nat) : Env.get ((d, v) :: env) t = if d = t then some v else env.get t := by
  simp only [Env.get]
  by_cases h : d = t
  · subst h; simp
  · have : Nat.beq d t = false := by cases hb : Nat.beq d t with | true => exact absurd (Nat.eq_of_beq_eq_true hb) h | false => rfl
    simp [this, h]

theorem Env.get_has : ∀ {env : Env} {t : Nat} {v : Value}, (t, v) ∈ env → env.has t = true
  | [], _, _, h => by cases h
  | (s, u) :: l, t, v, h => by
    simp only [Env.has]
    rcases List.mem_cons.1 h with h | h
    · injection h with h1 h2; subst h1; simp
    · simp [Env.get_has h]

theorem Agree.put {n : Nat} {a : Act} {env fx : Env} (h : Agree n a env fx) (d : Option Nat) (v : Value) (hd : okDst n fx d = true) : Agree n (a.put d v) (putE d v env) fx := by
  cases d with
  | none => exact h
  | some d =>
    simp only [okDst, Bool.and_eq_true, Bool.not_eq_true'] at hd
    obtain ⟨hlt, hfx⟩ := hd
    have hlt : d < n := Nat.blt_eq.mp hlt
    have hsz : (a.put (some d) v).tmps.size = n := by simp [Act.put, h.size]
    refine ⟨by simp [Act.put, h.defers], hsz, fun t u hu => ?_, fun t u hu => ?_⟩
    · simp only [putE, Env.get_put] at hu
      split at hu
      · rename_i e; subst e; injection hu with hu; subst hu
        exact ⟨hlt, by simp [Act.put, h.size, hlt]⟩
      · rename_i e
        obtain ⟨h1, h2⟩ := h.env _ _ hu
        exact ⟨h1, by simp [Act.put, Array.getElem?_setIfInBounds_ne e, h2]⟩
    · obtain ⟨h1, h2⟩ := h.fx _ _ hu
      have e : d ≠ t := fun e => by subst e; rw [Env.get_has hu] at hfx; cases hfx
      exact ⟨h1, by simp [Act.put, Array.getElem?_setIfInBounds_ne e, h2]⟩

theorem Agree.ev {n : Nat} {a : Act} {env fx : Env} (h : Agree n a env fx) {x : Operand} {v : Value} (he : ev env fx x = some v) : a.eval x = v := by
  cases x with
  | tmp t => simp [Vc.ev] at he; have := (h.look he).2; simp [Act.eval, this]
  | const u => simp [Vc.ev] at he; exact he
  | global g => simp [Vc.ev] at he; subst he; rfl
  | func f => simp [Vc.ev] at he; subst he; rfl

theorem Agree.known {n : Nat} {a : Act} {env fx : Env} (h : Agree n a env fx) : ∀ {l : List Operand}, knownAll env fx l = true → ∀ x ∈ l, a.eval x = evT env fx x
  | [], _, x, hx => by cases hx
  | y :: l, hk, x, hx => by
    simp only [knownAll, Bool.and_eq_true] at hk
    rcases List.mem_cons.1 hx with rfl | hx
    · unfold evT
      cases he : Vc.ev env fx x with
      | none => simp [he] at hk
      | some v => exact h.ev he
    · exact Agree.known h hk.2 x hx

theorem Agree.wanted {n : Nat} {a : Act} {env fx : Env} (h : Agree n a env fx) {ops : Array Oper} {o : Oper} {b : Bool} (hw : wantedE ops env fx o = some b) :
    Region.wanted o (yielded ops a.tmps) = b := by
  unfold wantedE at hw
  unfold Region.wanted yielded
  split at hw
  · rename_i hg; injection hw with hw; simp [hg, hw]
  · rename_i j want hg
    simp only [hg]
    split at hw
    · rename_i t ht
      split at hw
      · rename_i c hc
        have := (h.look hc).2
        simp [ht, this]
        simpa using hw
      · rename_i v hv hc
        have := (h.look hc).2
        injection hw with hw
        subst hw
        simp only [ht, Option.bind_some, this]
        cases v <;> simp_all
      · cases hw
    · rename_i ht
      injection hw with hw; subst hw
      simp [ht]

/-- The exits that a region may take here: none but the normal one. -/
def Calm (Q : Exit → Act → World → Prop) : Prop := ∀ c a w, ¬ Q (.panic c) a w

theorem evT_func (env fx : Env) (f : FuncId) : evT env fx (.func f) = .func (.func f) #[] #[] := rfl

theorem notSelect_of_opVC {P : Program} {ρ : Operand → Value} {o : Oper} {ann : Ann} {w : World} {K : Next3} (h : opVC P ρ o ann w K) : ∀ cs b, o.op ≠ .select cs b := by
  intro cs b e
  unfold opVC at h
  rw [e] at h
  exact h

/-- What an operation does, in a frame that agrees. -/
theorem wp_of_did {P : Program} {o : Oper} {a : Act} {env fx : Env} {w : World} {K : Next3} {next : Act → World → Prop} {Q : Exit → Act → World → Prop}
    (hx : execOp a.eval o = execOp (evT env fx) o) (hd : Did P (evT env fx) o w K) (hn : ∀ ann v D w', K ann v D w' → next (a.put o.dst v) w') : o.wp P a w next Q := by
  unfold Oper.wp
  rw [hx]
  cases hd with
  | value ann v D w' hr hk => rw [hr]; exact hn _ _ _ _ hk
  | skip ann D w' hr hk => rw [hr]; exact hn _ _ _ _ hk
  | enter f args hr hk =>
    rw [hr]
    exact hk.mono fun e w' ⟨ann, v, D, he, hk⟩ => by subst he; exact hn _ _ _ _ hk

theorem afterVC_elim {n : Nat} {fx : Env} {g : Bool} {d : Option Nat} {ann : Ann} {v : Value} {env : Env} {K : Ann → Env → Prop} {a : Act} (h : Agree n a env fx) (hd : okDst n fx d = true)
    (hk : afterVC g d ann v env K) : ∃ ann' env', Agree n (a.put d v) env' fx ∧ K ann' env' := by
  unfold afterVC at hk
  split at hk
  · split at hk
    · split at hk
      · rename_i b
        cases b
        · exact ⟨_, _, h.put d _ hd, hk.2 rfl⟩
        · exact ⟨_, _, h.put d _ hd, hk.1 rfl⟩
      · exact hk.elim
    · exact ⟨_, _, h.put d v hd, hk⟩
    · exact hk.elim
  · exact ⟨_, _, h.put d v hd, hk⟩

section
variable {P : Program} {n : Nat} {ops : Array Oper} {fx : Env} {Q : Exit → Act → World → Prop}

theorem oneVC_wpOp {i : Nat} {ann : Ann} {env : Env} {w : World} {K : Ann → Env → Option (World → Prop) → World → Prop} {a : Act} (ha : Agree n a env fx)
    (h : oneVC P n ops fx i ann env w K) : wpOp P ops Q i (fun a' w' => ∃ ann' env' D, Agree n a' env' fx ∧ K ann' env' D w') a w := by
  unfold oneVC at h
  unfold wpOp
  split at h
  · exact h.elim
  · rename_i o ho
    simp only [ho]
    split at h
    · exact h.elim
    · rename_i hd
      split at h
      · exact h.elim
      · rename_i hw
        rw [ha.wanted hw]
        exact ⟨_, _, none, ha.put _ _ hd, h⟩
      · rename_i hw
        rw [ha.wanted hw]
        simp only [if_true]
        split at h
        · exact h.elim
        · rename_i hk
          refine .inl ?_
          refine wp_of_did (execOp_congr o (notSelect_of_opVC h) (fun x hx => ha.known hk x (by simpa using hx))) (opVC_did (evT_func env fx) h) fun ann' v D w' hk' => ?_
          obtain ⟨ann'', env', ha', hk''⟩ := afterVC_elim ha hd hk'
          exact ⟨ann'', env', D, ha', hk''⟩

theorem regVC_sound : ∀ (l : List Nat) (ann : Ann) (env : Env) (w : World) (K : KReg) (a : Act), Agree n a env fx → regVC P n ops fx l ann env w K →
    (∀ ann' env' a' w', Agree n a' env' fx → K ann' env' w' → Q .normal a' w') → wpOps P ops Q l a w
  | [], ann, env, w, K, a, ha, h, hq => hq _ _ _ _ ha h
  | i :: l, ann, env, w, K, a, ha, h, hq => by
    rw [wpOps_cons]
    refine wpOp_mono (fun a' w' hh => ?_) (oneVC_wpOp ha h)
    obtain ⟨ann', env', D, ha', hk⟩ := hh
    exact regVC_sound l ann' env' w' K a' ha' hk hq

/-! ### whatever order -/
def YieldsD (P : Program) (ops : Array Oper) (D : World → Prop) (o : Oper) (v : Value) (a : Act) : Prop :=
  (Region.wanted o (yielded ops a.tmps) = true ∧ ∀ w, D w → (execOp a.eval o).run P w = .ok (.value v) w) ∨
  (Region.wanted o (yielded ops a.tmps) = false ∧ v = undef)
theorem YieldsD.of_same {D : World → Prop} {o : Oper} {v : Value} {a a' : Act} (hy : YieldsD P ops D o v a) (he : execOp a'.eval o = execOp a.eval o)
    (hw : Region.wanted o (yielded ops a'.tmps) = Region.wanted o (yielded ops a.tmps)) : YieldsD P ops D o v a' := by
  unfold YieldsD at *
  rw [he, hw]
  exact hy
theorem YieldsD.wpOp {D : World → Prop} {i : Nat} {o : Oper} {v : Value} {a : Act} (hi : ops[i]? = some o) (hy : YieldsD P ops D o v a)
    {K : Act → World → Prop} {w : World} (hd : D w) (h : K (a.put o.dst v) w) : wpOp P ops Q i K a w := by
  unfold Go.wpOp
  simp only [hi]
  rcases hy with ⟨hw, hv⟩ | ⟨hw, rfl⟩
  · simp only [hw, if_true, Oper.wp, hv w hd, Oper.upon]; exact .inl h
  · simp only [hw, Bool.false_eq_true, if_false]; exact h

theorem wpOp_putD {D : World → Prop} {j : Nat} {oi oj : Oper} {v : Value} (hj : ops[j]? = some oj) (hap : oi.apart ops oj = true)
    (hsi : ∀ cs b, oi.op ≠ .select cs b) (hsj : ∀ cs b, oj.op ≠ .select cs b)
    (hQ : Calm Q) {K : Act → World → Prop} {a : Act} {w : World}
    (hy : YieldsD P ops D oi v a) (h : wpOp P ops Q j K (a.put oi.dst v) w) :
    wpOp P ops Q j (fun a' w' => YieldsD P ops D oi v a' ∧ K (a'.put oi.dst v) w') a w := by
  obtain ⟨h1, h2, h3⟩ := Oper.apart_spec hap
  have keep : ∀ (a : Act), YieldsD P ops D oi v a → ∀ u, YieldsD P ops D oi v (a.put oj.dst u) := fun a hy u =>
    hy.of_same (execOp_put oi hsi a oj.dst u h3) (wanted_put oi a oj.dst u h3)
  have keepD : ∀ d, YieldsD P ops D oi v { a with defers := d :: a.defers } := fun d => hy.of_same rfl rfl
  unfold wpOp at *
  simp only [hj] at *
  rw [wanted_put oj a oi.dst v h1] at h
  split
  · rename_i hw
    simp only [hw, if_true] at h
    rcases h with h | ⟨hasks, hlets⟩
    case inr => exact .inr ⟨by unfold Oper.asks at *; rw [execOp_put oj hsj a oi.dst v h1] at hasks; exact hasks, hlets⟩
    refine .inl ?_
    unfold Oper.wp at *
    rw [execOp_put oj hsj a oi.dst v h1] at h
    generalize (execOp a.eval oj).run P w = r at *
    cases r with
    | ok n w' =>
      cases n <;> simp only [Oper.upon] at h ⊢
      case value u => exact ⟨keep a hy u, by rw [← Act.put_comm a v u h2]; exact h⟩
      case skip => exact ⟨keep a hy _, by rw [← Act.put_comm a v undef h2]; exact h⟩
      case defer d =>
        refine ⟨keep _ (keepD d) _, ?_⟩
        rw [← Act.put_comm _ v undef h2, ← Act.put_defers]
        exact h
      case enter f args =>
        refine Calls.mono h fun e w'' he => ?_
        cases e with
        | returned u => exact ⟨keep a hy u, by rw [← Act.put_comm a v u h2]; exact he⟩
        | panicked c => exact (hQ _ _ _ he).elim
        | outgrown => exact he
      case row row args => exact Rows.mono h fun u w'' he => ⟨keep a hy u, by rw [← Act.put_comm a v u h2]; exact he⟩
    | halt x w' =>
      cases x <;> simp only [Oper.upon] at h ⊢
      case panic u => exact (hQ _ _ _ h).elim
  · rename_i hw
    simp only [hw] at h
    exact ⟨keep a hy _, by rw [← Act.put_comm a v undef h2]; exact h⟩

abbrev Inv := Nat → World → World → Prop
/-- Whatever order is picked from here on; each operation keeps what it owes. -/
def wpAnyI (P : Program) (ops : Array Oper) (Q : Exit → Act → World → Prop) : Nat → Inv → Array Bool → Act → World → Prop
  | 0, _, listed, a, w => Region.ready .any ops listed = [] ∧ Q .normal a w
  | m + 1, I, listed, a, w => (Region.ready .any ops listed = [] → Q .normal a w) ∧
      ∀ i ∈ Region.ready .any ops listed, wpOp P ops Q i (fun a' w' => I i w w' ∧ wpAnyI P ops Q m I (listed.setIfInBounds i true) a' w') a w

theorem wpAnyI_any : ∀ (m : Nat) (I : Inv) (listed : Array Bool) (a : Act) (w : World), wpAnyI P ops Q m I listed a w → wpAny P .any ops Q m listed a w
  | 0, _, _, _, _, h => h
  | m + 1, I, _, _, _, h => ⟨h.1, fun i hi => wpOp_mono (fun a' w' hh => wpAnyI_any m I _ a' w' hh.2) (h.2 i hi)⟩
theorem wpAnyI_mono {I J : Inv} (hij : ∀ i w w', I i w w' → J i w w') : ∀ (m : Nat) (listed : Array Bool) (a : Act) (w : World), wpAnyI P ops Q m I listed a w → wpAnyI P ops Q m J listed a w
  | 0, _, _, _, h => h
  | m + 1, _, _, _, h => ⟨h.1, fun i hi => wpOp_mono (fun a' w' hh => ⟨hij _ _ _ hh.1, wpAnyI_mono hij m _ a' w' hh.2⟩) (h.2 i hi)⟩

/-- All that a listed one waits for is listed. -/
def Shut (ops : Array Oper) (listed : Array Bool) : Prop :=
  listed.size = ops.size ∧ ∀ j o, ops[j]? = some o → listed.getD j true = true → ∀ e ∈ o.after, Region.binds .any e = true → listed.getD e.on false = true

theorem getD_true_of_false {listed : Array Bool} {i : Nat} (h : listed.getD i false = true) : listed.getD i true = true := by
  by_cases hi : i < listed.size
  · simp [hi] at h ⊢; exact h
  · simp [Array.getElem?_eq_none (Nat.le_of_not_lt hi)]

theorem Shut.add {listed : Array Bool} {i : Nat} (h : Shut ops listed) (hr : i ∈ Region.ready .any ops listed) : Shut ops (listed.setIfInBounds i true) := by
  refine ⟨by simp [h.1], fun j o ho hl e he hb => ?_⟩
  by_cases hij : i = j
  · subst hij
    obtain ⟨_, o', ho', hall⟩ := mem_ready.1 hr
    rw [ho'] at ho; injection ho with ho; subst ho
    exact getD_set_true (hall e he hb)
  · rw [getD_set_ne true hij] at hl
    exact getD_set_true (h.2 j o ho hl e he hb)

/-- 'k' must come ahead of 'j'. -/
def Ahead (ops : Array Oper) (k j : Nat) : Prop := ((Region.before ops).getD j 0).testBit k = true

end
end Go.Vc
