/- The evaluator for code and functions, and that it is sound. -/
import Derived.Test.YtbkcpddedpmenaaVcF
namespace Go.Vc
open Go

abbrev KCode := Exit → Ann → Env → World → Prop

def restrictE (env fx : Env) : List Nat → Env
  | [] => []
  | t :: l => match look env fx t with | some v => (t, v) :: restrictE env fx l | none => restrictE env fx l
def valsOf (env fx : Env) : List (Nat × Sh) → List (Option Value)
  | [] => []
  | (t, _) :: l => look env fx t :: valsOf env fx l
def shs : List (Nat × Sh) → List Sh
  | [] => []
  | (_, s) :: l => s :: shs l
def mkEnv : List (Nat × Sh) → List Value → Env
  | (t, _) :: l, v :: vs => (t, v) :: mkEnv l vs
  | _, _ => []
def somes : List Value → List (Option Value)
  | [] => []
  | v :: l => some v :: somes l

def vc (P : Program) (n : Nat) : Code → Env → Ann → Env → World → KCode → Prop
  | .skip, _, ann, env, w, K => K .normal ann env w
  | .label _, _, ann, env, w, K => K .normal ann env w
  | .region _ ops draw, fx, ann, env, w, K => match draw with
    | false => regVC P n ops fx (List.range ops.size) ann env w fun ann' env' w' => K .normal ann' env' w'
    | true => match P.follows .mixedOrders && Region.noSelect ops with
      | true => regD P n ops fx (3 * ops.size + 8) ops.size [] [] (Array.replicate ops.size false) ann env w.drew fun ann' env' w' => K .normal ann' env' w'
      | false => False
  | .seq x y, fx, ann, env, w, K => match ann with
    | .cut vars fix a b => ∀ J : Curry (shs vars) (World → Prop),
        (allC (shs vars) fun vals => ∀ w', vc P n y fx b (mkEnv vars vals ++ restrictE env fx fix) w' K → applyP (shs vars) J (somes vals) w') →
        vc P n x (restrictE env fx fix ++ fx) a env w fun e a1 env1 w1 => match e with
          | .normal => applyP (shs vars) J (valsOf env1 (restrictE env fx fix ++ fx) vars) w1
          | e => K e a1 (env1 ++ restrictE env fx fix) w1
    | .inl a => vc P n x fx a env w fun e a1 env1 w1 => match e with
      | .normal => match a1 with
        | .keep l a2 => vc P n y fx a2 (restrictE env1 fx l) w1 K
        | _ => False
      | e => K e a1 env1 w1
    | ann => vc P n x fx ann env w fun e a1 env1 w1 => match e with
      | .normal => match a1 with
        | .keep l a2 => vc P n y fx a2 (restrictE env1 fx l) w1 K
        | _ => False
      | e => K e a1 env1 w1
  | .cond c x y, fx, ann, env, w, K => match ev env fx c with
    | some (.bool b) => match ann with
      | .split l r => (b = true → vc P n x fx l env w K) ∧ (b = false → vc P n y fx r env w K)
      | .known t a => match b, t with
        | true, true => vc P n x fx a env w K
        | false, false => vc P n y fx a env w K
        | _, _ => False
      | _ => False
    | _ => False
  | .block id c, fx, ann, env, w, K => vc P n c fx ann env w fun e a1 env1 w1 => match e with
    | .exit id' => match Nat.beq id' id with
      | true => K .normal a1 env1 w1
      | false => K (.exit id') a1 env1 w1
    | e => K e a1 env1 w1
  | .exit id, _, ann, env, w, K => K (.exit id) ann env w
  | .ret, _, ann, env, w, K => K .ret ann env w
  | .loop c, fx, ann, env, w, K => match ann with
    | .loop vars fix a => ∃ (I : Curry (shs vars) (World → Prop)) (μ : Curry (shs vars) (World → Nat)),
        applyP (shs vars) I (valsOf env fx vars) w ∧
        allC (shs vars) fun vals => ∀ w', applyP (shs vars) I (somes vals) w' →
          vc P n c (restrictE env fx fix ++ fx) a (mkEnv vars vals) w' fun e a1 env1 w1 => match e with
            | .normal => applyP (shs vars) I (valsOf env1 (restrictE env fx fix ++ fx) vars) w1 ∧ applyN (shs vars) μ (valsOf env1 (restrictE env fx fix ++ fx) vars) w1 < applyN (shs vars) μ (somes vals) w'
            | e => K e a1 (env1 ++ restrictE env fx fix) w1
    | _ => False
  | _, _, _, _, _, _ => False

def resVC (P : Program) (env : Env) : List ResultVar → Ann → World → (List Value → Prop) → Prop
  | [], _, _, K => K []
  | .tmp t :: l, ann, w, K => match env.get t with | some v => resVC P env l ann w fun vs => K (v :: vs) | none => False
  | .cell a ty :: l, ann, w, K => match env.get a with
    | some x => loadVC P ty x ann w fun ann' v _ _ => resVC P env l ann' w fun vs => K (v :: vs)
    | none => False
def oneOrTuple : List Value → Value
  | [v] => v
  | l => .tuple l.toArray
def argsEnv : Nat → List Value → Env
  | _, [] => []
  | i, v :: l => (i, v) :: argsEnv (i + 1) l
/-- A function's code, at these arguments. -/
def fnVC (P : Program) (fn : Func) (ann : Ann) (args : List Value) (w : World) (R : Ending → World → Prop) : Prop :=
  match fn.body with
  | some c => match Nat.ble args.length fn.ntmps with
    | true => vc P fn.ntmps c [] ann (argsEnv 0 args) w fun e a1 env1 w1 => match e with
      | .normal => resVC P env1 fn.results.toList a1 w1 fun vs => R (.returned (oneOrTuple vs)) w1
      | .ret => resVC P env1 fn.results.toList a1 w1 fun vs => R (.returned (oneOrTuple vs)) w1
      | _ => False
    | false => False
  | none => False

/-! ### soundness -/
def curryP : (l : List Sh) → (List Value → World → Prop) → Curry l (World → Prop)
  | [], Q => Q []
  | s :: l, Q => fun x => curryP l fun vs => Q (s.val x :: vs)

theorem applyP_curryP : ∀ (l : List Sh) (Q : List Value → World → Prop) (vs : List (Option Value)) (w : World), applyP l (curryP l Q) vs w →
    ∃ vals, vs = somes vals ∧ vals.length = l.length ∧ Q vals w
  | [], Q, [], w, h => ⟨[], rfl, rfl, h⟩
  | s :: l, Q, some v :: vs, w, h => by
    simp only [applyP] at h
    split at h
    · rename_i x hx
      obtain ⟨vals, h1, h2, h3⟩ := applyP_curryP l _ vs w h
      exact ⟨v :: vals, by simp [somes, h1], by simp [h2], by rw [← Sh.get_val s v x hx]; exact h3⟩
    · exact h.elim
  | [], _, _ :: _, _, h => h.elim
  | _ :: _, _, [], _, h => h.elim
  | _ :: _, _, none :: _, _, h => h.elim

theorem allC_curryP : ∀ (l : List Sh) (Q : List Value → World → Prop) (R : List Value → World → Prop), (∀ vals w, R vals w → Q vals w) →
    allC l fun vals => ∀ w, R vals w → applyP l (curryP l Q) (somes vals) w
  | [], Q, R, h => fun w hr => h [] w hr
  | s :: l, Q, R, h => fun x => by
    have := allC_curryP l (fun vs => Q (s.val x :: vs)) (fun vs => R (s.val x :: vs)) (fun vals w => h _ w)
    have key : ∀ (l : List Sh) (A B : List Value → Prop), (∀ v, A v → B v) → allC l A → allC l B := by
      intro l
      induction l with
      | nil => exact fun A B h h1 => h _ h1
      | cons t l ih => exact fun A B h h1 x => ih _ _ (fun v => h _) (h1 x)
    refine key l _ _ (fun vals hv w hr => ?_) this
    have hg : s.get (s.val x) = some x := by
      cases s <;> simp [Sh.get, Sh.val] <;> rfl
    simp only [somes, applyP, hg]
    exact hv w hr

/-- What is told of all typed values holds of values that are of these kinds. -/
theorem allC_at : ∀ (l : List Sh) (I : Curry l (World → Prop)) (w : World) (Q : List Value → Prop) (vs : List (Option Value)), allC l Q → applyP l I vs w →
    ∃ vals, vs = somes vals ∧ vals.length = l.length ∧ Q vals
  | [], I, w, Q, [], h, _ => ⟨[], rfl, rfl, h⟩
  | s :: l, I, w, Q, some v :: vs, h, hi => by
    simp only [applyP] at hi
    split at hi
    · rename_i x hx
      obtain ⟨vals, h1, h2, h3⟩ := allC_at l (I x) w _ vs (h x) hi
      exact ⟨v :: vals, by simp [somes, h1], by simp [h2], by rw [← Sh.get_val s v x hx]; exact h3⟩
    · exact hi.elim
  | [], _, _, _, _ :: _, _, h => h.elim
  | _ :: _, _, _, _, [], _, h => h.elim
  | _ :: _, _, _, _, none :: _, _, h => h.elim

theorem Env.get_append : ∀ (x y : Env) (t : Nat), Env.get (x ++ y) t = match Env.get x t with | some v => some v | none => Env.get y t
  | [], y, t => rfl
  | (s, v) :: l, y, t => by
    simp only [List.cons_append, Env.get]
    split
    · rfl
    · exact Env.get_append l y t

theorem restrictE_get : ∀ {env fx : Env} {l : List Nat} {t : Nat} {v : Value}, (restrictE env fx l).get t = some v → look env fx t = some v
  | _, _, [], _, _, h => by simp [restrictE, Env.get] at h
  | env, fx, s :: l, t, v, h => by
    simp only [restrictE] at h
    split at h
    · rename_i u hu
      rw [Env.get_put] at h
      split at h
      · rename_i e; subst e; injection h with h; subst h; exact hu
      · exact restrictE_get h
    · exact restrictE_get h

theorem look_append (x y z : Env) (t : Nat) : look (x ++ y) z t = look x (y ++ z) t := by
  unfold look
  rw [Env.get_append, Env.get_append]
  cases Env.get x t <;> rfl

variable {P : Program} {n : Nat}

theorem Agree.restrict {a : Act} {env fx : Env} (h : Agree n a env fx) (l : List Nat) : Agree n a (restrictE env fx l) fx :=
  ⟨h.defers, h.size, fun _ _ ht => h.look (restrictE_get ht), h.fx⟩
theorem restrictE_mem : ∀ {env fx : Env} {l : List Nat} {t : Nat} {v : Value}, (t, v) ∈ restrictE env fx l → look env fx t = some v
  | _, _, [], _, _, h => by simp [restrictE] at h
  | env, fx, s :: l, t, v, h => by
    simp only [restrictE] at h
    split at h
    · rename_i u hu
      rcases List.mem_cons.1 h with h | h
      · injection h with h1 h2; subst h1; subst h2; exact hu
      · exact restrictE_mem h
    · exact restrictE_mem h
/-- More is held fast. -/
theorem Agree.hold {a : Act} {env fx : Env} (h : Agree n a env fx) (l : List Nat) : Agree n a env (restrictE env fx l ++ fx) :=
  ⟨h.defers, h.size, h.env, fun t v ht => by
    rcases List.mem_append.1 ht with ht | ht
    · exact h.look (restrictE_mem ht)
    · exact h.fx _ _ ht⟩
theorem Agree.free {a : Act} {env x fx : Env} (h : Agree n a env (x ++ fx)) : Agree n a (env ++ x) fx :=
  ⟨h.defers, h.size, fun t v ht => by
    rw [Env.get_append] at ht
    split at ht
    · rename_i u hu; injection ht with ht; subst ht; exact h.env _ _ hu
    · exact h.fx t v (List.mem_append_left _ (Env.get_mem ht)), fun t v ht => h.fx t v (List.mem_append_right _ ht)⟩

/-- What is held of another frame's reading. -/
theorem Agree.hold' {a : Act} {env env' fx : Env} (h : Agree n a env' fx) (l : List Nat) (h0 : Agree n a env fx) : Agree n a env' (restrictE env fx l ++ fx) :=
  ⟨h.defers, h.size, h.env, (h0.hold l).fx⟩

theorem Agree.mk' {a : Act} {env fx : Env} (h : Agree n a env fx) : ∀ (vars : List (Nat × Sh)) (vals : List Value), valsOf env fx vars = somes vals → Agree n a (mkEnv vars vals) fx := by
  intro vars vals hv
  refine ⟨h.defers, h.size, fun t v ht => ?_, h.fx⟩
  induction vars generalizing vals with
  | nil => simp [mkEnv, Env.get] at ht
  | cons p vars ih =>
    obtain ⟨s, sh⟩ := p
    cases vals with
    | nil => simp [mkEnv, Env.get] at ht
    | cons u vals =>
      simp only [valsOf, somes] at hv
      injection hv with h1 h2
      simp only [mkEnv] at ht
      rw [Env.get_put] at ht
      split at ht
      · rename_i e; subst e; injection ht with ht; subst ht; exact h.look h1
      · exact ih vals h2 ht

def measureOf (vars : List (Nat × Sh)) (μ : Curry (shs vars) (World → Nat)) (a : Act) (w : World) : Nat := applyN (shs vars) μ (vars.map fun p => a.tmps[p.1]?) w
theorem Agree.vals {a : Act} {env fx : Env} (h : Agree n a env fx) : ∀ (vars : List (Nat × Sh)) (vals : List Value), valsOf env fx vars = somes vals → (vars.map fun p => a.tmps[p.1]?) = somes vals
  | [], [], _ => rfl
  | (s, sh) :: vars, u :: vals, hv => by
    simp only [valsOf, somes] at hv
    injection hv with h1 h2
    simp only [List.map_cons, somes, (h.look h1).2, Agree.vals h vars vals h2]
  | [], _ :: _, hv => by simp [valsOf, somes] at hv
  | _ :: _, [], hv => by simp [valsOf, somes] at hv

theorem allC_true : ∀ (l : List Sh) (Q : List Value → Prop), (∀ v, Q v) → allC l Q
  | [], _, h => h _
  | _ :: l, _, h => fun _ => allC_true l _ fun _ => h _
theorem somes_inj : ∀ {a b : List Value}, somes a = somes b → a = b
  | [], [], _ => rfl
  | x :: a, y :: b, h => by
    simp only [somes] at h
    injection h with h1 h2
    injection h1 with h1
    rw [h1, somes_inj h2]
  | [], _ :: _, h => by simp [somes] at h
  | _ :: _, [], h => by simp [somes] at h
theorem vals_get (vars : List (Nat × Sh)) (I : Curry (shs vars) (World → Prop)) (env fx : Env) (w : World) (h : applyP (shs vars) I (valsOf env fx vars) w) : ∃ vals, valsOf env fx vars = somes vals := by
  obtain ⟨vals, h1, _, _⟩ := allC_at (shs vars) I w (fun _ => True) (valsOf env fx vars) (allC_true _ _ fun _ => trivial) h
  exact ⟨vals, h1⟩

/-- What an ending of the code says, in a frame that agrees. -/
def Ends (n : Nat) (fx : Env) (K : KCode) : Exit → Act → World → Prop :=
  fun e a w => match e with
    | .panic _ => False
    | .outgrown => False
    | e => ∃ ann env, Agree n a env fx ∧ K e ann env w

theorem ends_calm {fx : Env} {K : KCode} : Calm (Ends n fx K) := fun _ _ _ h => h

theorem vc_sound : ∀ (c : Code) (fx : Env) (ann : Ann) (env : Env) (w : World) (K : KCode) (a : Act), Agree n a env fx → vc P n c fx ann env w K → c.wp P (Ends n fx K) a w := by
  intro c
  induction c with
  | skip => exact fun fx ann env w K a ha h => wp_skip ⟨ann, env, ha, h⟩
  | label l => exact fun fx ann env w K a ha h => wp_label ⟨ann, env, ha, h⟩
  | ret => exact fun fx ann env w K a ha h => wp_ret ⟨ann, env, ha, h⟩
  | exit id => exact fun fx ann env w K a ha h => wp_exit ⟨ann, env, ha, h⟩
  | region id ops draw =>
    intro fx ann env w K a ha h
    unfold vc at h
    split at h
    · exact wp_region (regVC_sound _ _ _ _ _ _ ha h fun ann' env' a' w' ha' hk => ⟨ann', env', ha', hk⟩)
    · split at h
      · rename_i hb
        simp only [Bool.and_eq_true] at hb
        have hs : Shut ops (Array.replicate ops.size false) := ⟨by simp, fun j o ho hl => by
          have : j < ops.size := (Array.getElem?_eq_some_iff.1 ho).1
          simp [this] at hl⟩
        exact wp_region_any hb.1 (wpAnyI_any _ _ _ _ _ ((regD_sound ends_calm hb.2 _ (fun ann' env' a' w' ha' hk => ⟨ann', env', ha', hk⟩) _ _ _ _ _ _ _ _ _ hs ha h).1 rfl))
      · exact h.elim
  | seq x y ihx ihy =>
    intro fx ann env w K a ha h
    unfold vc at h
    split at h
    · rename_i vars fix a1 a2
      have h := h (curryP (shs vars) fun vals w' => vc P n y fx a2 (mkEnv vars vals ++ restrictE env fx fix) w' K) (allC_curryP _ _ _ fun _ _ h => h)
      refine wp_seq (wp_mono (ihx _ _ _ _ _ _ (ha.hold fix) h) fun e a' w' he => ?_)
      cases e with
      | normal =>
        obtain ⟨ann', env', ha', hk⟩ := he
        obtain ⟨vals, hv, _, hy⟩ := applyP_curryP _ _ _ _ hk
        exact ihy _ _ _ _ _ _ (ha'.mk' vars vals hv).free hy
      | panic c => exact he.elim
      | outgrown => exact he.elim
      | exit id => obtain ⟨ann', env', ha', hk⟩ := he; exact ⟨ann', _, ha'.free, hk⟩
      | goto l => obtain ⟨ann', env', ha', hk⟩ := he; exact ⟨ann', _, ha'.free, hk⟩
      | ret => obtain ⟨ann', env', ha', hk⟩ := he; exact ⟨ann', _, ha'.free, hk⟩
    · refine wp_seq (wp_mono (ihx _ _ _ _ _ _ ha h) fun e a' w' he => ?_)
      cases e with
      | normal =>
        obtain ⟨ann', env', ha', hk⟩ := he
        simp only at hk
        split at hk
        · exact ihy _ _ _ _ _ _ (ha'.restrict _) hk
        · exact hk.elim
      | panic c => exact he.elim
      | outgrown => exact he.elim
      | exit id => obtain ⟨ann', env', ha', hk⟩ := he; exact ⟨ann', env', ha', hk⟩
      | goto l => obtain ⟨ann', env', ha', hk⟩ := he; exact ⟨ann', env', ha', hk⟩
      | ret => obtain ⟨ann', env', ha', hk⟩ := he; exact ⟨ann', env', ha', hk⟩
    · refine wp_seq (wp_mono (ihx _ _ _ _ _ _ ha h) fun e a' w' he => ?_)
      cases e with
      | normal =>
        obtain ⟨ann', env', ha', hk⟩ := he
        simp only at hk
        split at hk
        · exact ihy _ _ _ _ _ _ (ha'.restrict _) hk
        · exact hk.elim
      | panic c => exact he.elim
      | outgrown => exact he.elim
      | exit id => obtain ⟨ann', env', ha', hk⟩ := he; exact ⟨ann', env', ha', hk⟩
      | goto l => obtain ⟨ann', env', ha', hk⟩ := he; exact ⟨ann', env', ha', hk⟩
      | ret => obtain ⟨ann', env', ha', hk⟩ := he; exact ⟨ann', env', ha', hk⟩
  | cond c x y ihx ihy =>
    intro fx ann env w K a ha h
    unfold vc at h
    split at h
    · rename_i b hb
      have hb := ha.ev hb
      split at h
      · exact wp_cond_split hb (fun e => ihx _ _ _ _ _ _ ha (h.1 e)) (fun e => ihy _ _ _ _ _ _ ha (h.2 e))
      · split at h
        · exact wp_cond_true hb (ihx _ _ _ _ _ _ ha h)
        · exact wp_cond_false hb (ihy _ _ _ _ _ _ ha h)
        · exact h.elim
      · exact h.elim
    · exact h.elim
  | block id c ih =>
    intro fx ann env w K a ha h
    unfold vc at h
    refine wp_block (wp_mono (ih _ _ _ _ _ _ ha h) fun e a' w' he => ?_)
    cases e with
    | normal => obtain ⟨ann', env', ha', hk⟩ := he; exact ⟨ann', env', ha', hk⟩
    | panic c => exact he.elim
    | outgrown => exact he.elim
    | exit id' =>
      obtain ⟨ann', env', ha', hk⟩ := he
      simp only at hk
      simp only [Exit.inBlock]
      split at hk
      · rename_i hb
        rw [if_pos (Nat.eq_of_beq_eq_true hb)]
        exact ⟨ann', env', ha', hk⟩
      · rename_i hb
        rw [if_neg (fun e => by subst e; simp at hb)]
        exact ⟨ann', env', ha', hk⟩
    | goto l => obtain ⟨ann', env', ha', hk⟩ := he; exact ⟨ann', env', ha', hk⟩
    | ret => obtain ⟨ann', env', ha', hk⟩ := he; exact ⟨ann', env', ha', hk⟩
  | loop c ih =>
    intro fx ann env w K a ha h
    unfold vc at h
    split at h
    · rename_i vars fix a1
      obtain ⟨I, μ, h0, hround⟩ := h
      obtain ⟨vals0, hv0⟩ := vals_get vars I env fx w h0
      refine wp_loop (fun a w => ∃ vals, Agree n a (mkEnv vars vals) (restrictE env fx fix ++ fx) ∧ applyP (shs vars) I (somes vals) w ∧ (vars.map fun p => a.tmps[p.1]?) = somes vals)
        (measureOf vars μ) ⟨vals0, (ha.mk' vars vals0 hv0).hold' fix ha, by rw [← hv0]; exact h0, ha.vals vars vals0 hv0⟩ ?_
      intro a' w' hI
      obtain ⟨vals, ha', hi, hm⟩ := hI
      obtain ⟨vals', hv', _, hr⟩ := allC_at (shs vars) I w' _ (somes vals) hround hi
      have := somes_inj hv'
      subst this
      refine wp_mono (ih _ _ _ _ _ _ ha' (hr w' hi)) fun e a'' w'' he => ?_
      cases e with
      | normal =>
        obtain ⟨ann', env', ha'', hk1, hk2⟩ := he
        obtain ⟨vals'', hv''⟩ := vals_get vars I env' _ w'' hk1
        have hm'' := ha''.vals vars vals'' hv''
        refine ⟨⟨vals'', ha''.mk' vars vals'' hv'', by rw [← hv'']; exact hk1, hm''⟩, ?_⟩
        unfold measureOf
        rw [hm, hm'', ← hv'']
        exact hk2
      | panic c => exact he.elim
      | outgrown => exact he.elim
      | exit id => obtain ⟨ann', env', ha', hk⟩ := he; exact ⟨ann', _, ha'.free, hk⟩
      | goto l => obtain ⟨ann', env', ha', hk⟩ := he; exact ⟨ann', _, ha'.free, hk⟩
      | ret => obtain ⟨ann', env', ha', hk⟩ := he; exact ⟨ann', _, ha'.free, hk⟩
    · exact h.elim
  | _ => exact fun fx ann env w K a ha h => h.elim

theorem argsEnv_get : ∀ (i : Nat) (args : List Value) (t : Nat) (v : Value), (argsEnv i args).get t = some v → ∃ j, t = i + j ∧ args[j]? = some v
  | _, [], _, _, h => by simp [argsEnv, Env.get] at h
  | i, u :: l, t, v, h => by
    simp only [argsEnv] at h
    rw [Env.get_put] at h
    split at h
    · rename_i e; exact ⟨0, by omega, by simpa using h⟩
    · obtain ⟨j, h1, h2⟩ := argsEnv_get (i + 1) l t v h
      exact ⟨j + 1, by omega, by simpa using h2⟩

theorem run_loadVC {t : TypeId} {p : Option Addr} {x : Value} {ann : Ann} {w : World} {K : Next3} (hx : x = .pointer p) (h : loadVC P t x ann w K) :
    ∃ a ann' v D, x = .pointer (some a) ∧ (loadVar t a).run P w = .ok v w ∧ K ann' v D w := by
  subst hx
  cases p with
  | none => exact h.elim
  | some a =>
    obtain ⟨ann', v, D, hk, hd, hr⟩ := (loadVC_quiet (P := P) (ρ := fun _ => .pointer (some a)) (o := { (default : Oper) with op := .load t (.tmp 0) }) rfl h).it
    have := hr w hd
    refine ⟨a, ann', v, D, rfl, ?_, hk⟩
    simp only [execOp, Instr.loadAt, Instr.sureAddr] at this
    simp only [Sem.run_bind, Sem.run_pure, Result.andThen_ok] at this
    cases hl : (loadVar t a).run P w with
    | ok u w' =>
      rw [hl] at this
      simp at this
      obtain ⟨rfl, rfl⟩ := this
      rfl
    | halt x w' =>
      rw [hl] at this
      simp at this

theorem loadVC_ptr {t : TypeId} {x : Value} {ann : Ann} {w : World} {K : Next3} (h : loadVC P t x ann w K) : ∃ p, x = .pointer p := by
  unfold loadVC at h
  split at h
  · exact ⟨_, rfl⟩
  · exact h.elim

def resSem (tmps : Array Value) : ResultVar → Sem Value
  | .tmp t => pure (tmps.getD t undef)
  | .cell a t => do loadVar t (← asAddr (tmps.getD a undef))

theorem resVC_elim {a : Act} {env fx : Env} (ha : Agree n a env fx) : ∀ (l : List ResultVar) (ann : Ann) (w : World) (K : List Value → Prop), resVC P env l ann w K →
    ∃ vs, (l.mapM (resSem a.tmps)).run P w = .ok vs w ∧ K vs
  | [], ann, w, K, h => ⟨[], rfl, h⟩
  | .tmp t :: l, ann, w, K, h => by
    simp only [resVC] at h
    split at h
    · rename_i v hv
      obtain ⟨vs, h1, h3⟩ := resVC_elim ha l ann w _ h
      have := (ha.env _ _ hv).2
      refine ⟨v :: vs, ?_, h3⟩
      have h2 : (resSem a.tmps (.tmp t)).run P w = .ok v w := by simp [resSem, this]
      rw [List.mapM_cons, Sem.run_bind, h2, Result.andThen_ok, Sem.run_bind, h1]
      rfl
    · exact h.elim
  | .cell x ty :: l, ann, w, K, h => by
    simp only [resVC] at h
    split at h
    · rename_i y hy
      obtain ⟨p, hp⟩ := loadVC_ptr h
      obtain ⟨ad, ann', v, D, hx, hr, hk⟩ := run_loadVC hp h
      obtain ⟨vs, h1, h3⟩ := resVC_elim ha l ann' w _ hk
      have := (ha.env _ _ hy).2
      refine ⟨v :: vs, ?_, h3⟩
      have h2 : (resSem a.tmps (.cell x ty)).run P w = .ok v w := by simp [resSem, this, hx, asAddr, hr]
      rw [List.mapM_cons, Sem.run_bind, h2, Result.andThen_ok, Sem.run_bind, h1]
      rfl
    · exact h.elim

theorem results_run {fn : Func} {tmps : Array Value} {w : World} {vs : List Value}
    (h : (fn.results.toList.mapM (resSem tmps)).run P w = .ok vs w) : (results fn tmps).run P w = .ok (oneOrTuple vs) w := by
  have e : results fn tmps = (do let vs ← fn.results.mapM (resSem tmps); pure (if h : vs.size = 1 then vs[0] else .tuple vs)) := by
    unfold results resSem
    rfl
  rw [e, Array.mapM_eq_mapM_toList]
  simp only [Sem.run_bind, Sem.run_map, h, Result.andThen_ok, Sem.run_pure]
  congr 1
  match vs with
  | [] => rfl
  | [v] => rfl
  | v :: u :: l => simp [oneOrTuple]

theorem fnVC_calls {f : FuncId} {fn : Func} {ann : Ann} {args : List Value} {w : World} {R : Ending → World → Prop} (hf : P.funcs[f]? = some fn) (h : fnVC P fn ann args w R) :
    Calls P f args.toArray w R := by
  unfold fnVC at h
  split at h
  · rename_i c hc
    split at h
    · rename_i hle
      have hle := Nat.le_of_ble_eq_true hle
      refine calls_of_wp hf hc (wp_mono (vc_sound (n := fn.ntmps) c [] ann (argsEnv 0 args) w _ _ ?_ h) fun e a' w' he => ?_)
      · refine ⟨rfl, by simp; omega, fun t v ht => ?_, fun t v ht => by cases ht⟩
        obtain ⟨j, h1, h2⟩ := argsEnv_get _ _ _ _ ht
        have hj : j < args.length := (List.getElem?_eq_some_iff.1 h2).1
        have : t = j := by omega
        subst this
        refine ⟨by omega, ?_⟩
        simp [Array.getElem?_append, hj]
        simpa [hj] using h2
      · cases e with
        | normal =>
          obtain ⟨ann', env', ha, hk⟩ := he
          obtain ⟨vs, h1, h3⟩ := resVC_elim ha _ _ _ _ hk
          exact ⟨ha.defers, _, results_run h1, h3⟩
        | ret =>
          obtain ⟨ann', env', ha, hk⟩ := he
          obtain ⟨vs, h1, h3⟩ := resVC_elim ha _ _ _ _ hk
          exact ⟨ha.defers, _, results_run h1, h3⟩
        | panic c => exact he.elim
        | outgrown => exact he.elim
        | exit id => obtain ⟨ann', env', ha, hk⟩ := he; exact hk.elim
        | goto l => obtain ⟨ann', env', ha, hk⟩ := he; exact hk.elim
    · exact h.elim
  · exact h.elim
end Go.Vc
