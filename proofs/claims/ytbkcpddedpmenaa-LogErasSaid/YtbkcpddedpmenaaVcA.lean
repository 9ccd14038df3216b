/- The evaluator of a function's code into a plain statement about values and memory: definitions. -/
import Derived.Orders
import Derived.Laws.Sem
import Derived.Laws.World
import Derived.KernelRfl
namespace Go.Vc
open Go

/-- A slice's three parts. -/
structure Slc where
  a : Option Addr
  len : Nat
  cap : Nat

/-- What kind of value stands somewhere. -/
inductive Sh where
  | int (k : IntKind)
  | bool
  | str
  | ptr
  | slc
  | map
  | any
  | agg (parts : List Sh)
  | tup (parts : List Sh)
  | arr (n : Nat)
  | nil
  | adr

mutual
/-- There is such a value. -/
def Sh.ex : Sh → (Value → Prop) → Prop
  | .int k, Q => ∃ n : Int, Q (.int k n)
  | .bool, Q => ∃ b : Bool, Q (.bool b)
  | .str, Q => ∃ s : ByteArray, Q (.string s)
  | .ptr, Q => ∃ p : Option Addr, Q (.pointer p)
  | .slc, Q => ∃ (a : Option Addr) (len cap : Nat), Q (.slice a len cap)
  | .map, Q => ∃ r : Option Nat, Q (.map r)
  | .any, Q => ∃ v : Value, Q v
  | .agg l, Q => Sh.exL l fun vs => Q (.agg vs.toArray)
  | .tup l, Q => Sh.exL l fun vs => Q (.tuple vs.toArray)
  | .arr n, Q => ∃ vs : List Value, vs.length = n ∧ Q (.agg vs.toArray)
  | .nil, Q => Q (.tuple #[])
  | .adr, Q => ∃ b : Nat, Q (.pointer (some ⟨b, 0, none⟩))
def Sh.exL : List Sh → (List Value → Prop) → Prop
  | [], Q => Q []
  | s :: l, Q => Sh.ex s fun v => Sh.exL l fun vs => Q (v :: vs)
end

mutual
theorem Sh.ex_elim : ∀ (s : Sh) {Q : Value → Prop}, s.ex Q → ∃ v, Q v
  | .int _, _, ⟨_, h⟩ => ⟨_, h⟩
  | .bool, _, ⟨_, h⟩ => ⟨_, h⟩
  | .str, _, ⟨_, h⟩ => ⟨_, h⟩
  | .ptr, _, ⟨_, h⟩ => ⟨_, h⟩
  | .slc, _, ⟨_, _, _, h⟩ => ⟨_, h⟩
  | .map, _, ⟨_, h⟩ => ⟨_, h⟩
  | .any, _, ⟨_, h⟩ => ⟨_, h⟩
  | .agg l, _, h => let ⟨_, hq⟩ := Sh.exL_elim l h; ⟨_, hq⟩
  | .tup l, _, h => let ⟨_, hq⟩ := Sh.exL_elim l h; ⟨_, hq⟩
  | .arr _, _, ⟨_, _, h⟩ => ⟨_, h⟩
  | .nil, _, h => ⟨_, h⟩
  | .adr, _, ⟨_, h⟩ => ⟨_, h⟩
theorem Sh.exL_elim : ∀ (l : List Sh) {Q : List Value → Prop}, Sh.exL l Q → ∃ vs, Q vs
  | [], _, h => ⟨_, h⟩
  | s :: l, _, h => let ⟨_, h1⟩ := Sh.ex_elim s h; let ⟨_, h2⟩ := Sh.exL_elim l h1; ⟨_, h2⟩
end

/-- The type of what is told of a loop's variable. -/
def Sh.T : Sh → Type
  | .int _ => Int
  | .bool => Bool
  | .str => ByteArray
  | .ptr => Option Addr
  | .slc => Slc
  | .map => Option Nat
  | .adr => Nat
  | _ => Value
def Sh.val : (s : Sh) → s.T → Value
  | .int k, n => .int k n
  | .bool, b => .bool b
  | .str, s => .string s
  | .ptr, p => .pointer p
  | .slc, s => .slice s.a s.len s.cap
  | .map, r => .map r
  | .any, v => v
  | .agg _, v => v
  | .tup _, v => v
  | .arr _, v => v
  | .nil, v => v
  | .adr, b => .pointer (some ⟨b, 0, none⟩)
def Sh.get : (s : Sh) → Value → Option s.T
  | .int k, v => match v with | .int k' n => if k = k' then some n else none | _ => none
  | .bool, v => match v with | .bool b => some b | _ => none
  | .str, v => match v with | .string s => some s | _ => none
  | .ptr, v => match v with | .pointer p => some p | _ => none
  | .slc, v => match v with | .slice a l c => some ⟨a, l, c⟩ | _ => none
  | .map, v => match v with | .map r => some r | _ => none
  | .any, v => some v
  | .agg _, v => some v
  | .tup _, v => some v
  | .arr _, v => some v
  | .nil, v => some v
  | .adr, v => match v with | .pointer (some ⟨b, 0, none⟩) => some b | _ => none
theorem Sh.get_val : ∀ (s : Sh) (v : Value) (x : s.T), s.get v = some x → s.val x = v := by
  intro s v x h
  cases s <;> simp only [Sh.get] at h
  case int k => cases v <;> simp at h; obtain ⟨rfl, h⟩ := h; injection h with h; subst h; rfl
  case slc => cases v <;> simp at h; injection h with h; subst h; rfl
  case bool => cases v <;> simp at h; injection h with h; subst h; rfl
  case str => cases v <;> simp at h; injection h with h; subst h; rfl
  case ptr => cases v <;> simp at h; injection h with h; subst h; rfl
  case map => cases v <;> simp at h; injection h with h; subst h; rfl
  case adr =>
    split at h
    · injection h with h; subst h; rfl
    · cases h
  all_goals (injection h with h; subst h; rfl)

/-- A function of values of such kinds, one argument behind the other. -/
def Curry : List Sh → Type → Type
  | [], R => R
  | s :: l, R => s.T → Curry l R
def allC : (l : List Sh) → (List Value → Prop) → Prop
  | [], Q => Q []
  | s :: l, Q => ∀ x : s.T, allC l fun vs => Q (s.val x :: vs)
def applyP : (l : List Sh) → Curry l (World → Prop) → List (Option Value) → World → Prop
  | [], f, [], w => f w
  | s :: l, f, some v :: vs, w => match s.get v with | some x => applyP l (f x) vs w | none => False
  | _, _, _, _ => False
def applyN : (l : List Sh) → Curry l (World → Nat) → List (Option Value) → World → Nat
  | [], f, [], w => f w
  | s :: l, f, some v :: vs, w => match s.get v with | some x => applyN l (f x) vs w | none => 0
  | _, _, _, _ => 0

/-- What is known of the frame's slots. -/
abbrev Env := List (Nat × Value)
def Env.get : Env → Nat → Option Value
  | [], _ => none
  | (t, v) :: l, s => if Nat.beq t s then some v else Env.get l s
/-- Two of them, the first one first. -/
def look (env fx : Env) (t : Nat) : Option Value := match env.get t with | some v => some v | none => fx.get t
def Env.has (env : Env) (t : Nat) : Bool := match env with | [] => false | (s, _) :: l => Nat.beq s t || Env.has l t

/-- How the walk goes: which kind a value has, where to part, what to keep, in which order. -/
inductive Ann where
  | done
  | sh (s : Sh) (rest : Ann)
  | raw (s : Sh) (rest : Ann)
  | fb (d : Nat) (effect : Bool) (s : Sh) (rest : Ann)
  | split (yes no : Ann)
  | known (t : Bool) (rest : Ann)
  | keep (l : List Nat) (rest : Ann)
  | loop (vars : List (Nat × Sh)) (fix : List Nat) (rest : Ann)
  | cut (vars : List (Nat × Sh)) (fix : List Nat) (ahead behind : Ann)
  | gsplit (yes no : Ann)
  | inl (rest : Ann)
  | fin (rest : Ann)
  | q (i : Nat) (rest : Ann)
  | alt (i : Nat) (one other : Ann)
  | stop

def ev (env fx : Env) : Operand → Option Value
  | .tmp t => look env fx t
  | .const v => some v
  | .global g => some (.pointer (some ⟨g, 0, none⟩))
  | .func f => some (.func (.func f) #[] #[])
/-- A total reading of the operands (whose slots are all known). -/
def evT (env fx : Env) (x : Operand) : Value := match ev env fx x with | some v => v | none => undef
def knownAll (env fx : Env) : List Operand → Bool
  | [] => true
  | x :: l => (match ev env fx x with | some _ => true | none => false) && knownAll env fx l

end Go.Vc
