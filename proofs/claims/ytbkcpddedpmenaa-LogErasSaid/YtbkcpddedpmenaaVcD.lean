/- Regions: the evaluator's word for a region, in its own order, or in whatever order is drawn; that it is sound. -/
import Derived.Test.YtbkcpddedpmenaaVcC
namespace Go.Vc
open Go

def putE (d : Option Nat) (v : Value) (env : Env) : Env := match d with | some d => (d, v) :: env | none => env
def okDst (n : Nat) (fx : Env) (d : Option Nat) : Bool := match d with | some d => Nat.blt d n && !fx.has d | none => true
def wantedE (ops : Array Oper) (env fx : Env) (o : Oper) : Option Bool :=
  match o.guard with
  | none => some true
  | some (j, want) =>
    match (ops[j]?).bind (·.dst) with
    | some t => match look env fx t with
      | some (.bool b) => some (b == want)
      | some _ => some false
      | none => none
    | none => some false

/-- Does another operation hang on this one's value? -/
def guardB (ops : Array Oper) (i : Nat) : Bool := ops.toList.any fun o => match o.guard with | some (j, _) => Nat.beq j i | none => false
/-- Behind an operation: part on its value (a guard), or go on. -/
def afterVC (g : Bool) (d : Option Nat) (ann : Ann) (v : Value) (env : Env) (K : Ann → Env → Prop) : Prop :=
  match g with
  | true => match ann with
    | .gsplit l r => match v with
      | .bool b => (b = true → K l (putE d (.bool true) env)) ∧ (b = false → K r (putE d (.bool false) env))
      | _ => False
    | .known _ rest => K rest (putE d v env)
    | _ => False
  | false => K ann (putE d v env)

abbrev KReg := Ann → Env → World → Prop

/-- One operation. -/
def oneVC (P : Program) (n : Nat) (ops : Array Oper) (fx : Env) (i : Nat) (ann : Ann) (env : Env) (w : World) (K : Ann → Env → Option (World → Prop) → World → Prop) : Prop :=
  match ops[i]? with
  | none => False
  | some o =>
    match okDst n fx o.dst with
    | false => False
    | true =>
      match wantedE ops env fx o with
      | none => False
      | some false => K ann (putE o.dst undef env) none w
      | some true =>
        match knownAll env fx o.op.operands.toList with
        | false => False
        | true => opVC P (evT env fx) o ann w fun ann' v D w' => afterVC (guardB ops i) o.dst ann' v env fun ann'' env' => K ann'' env' D w'

/-- A region in its own order. -/
def regVC (P : Program) (n : Nat) (ops : Array Oper) (fx : Env) : List Nat → Ann → Env → World → KReg → Prop
  | [], ann, env, w, K => K ann env w
  | i :: l, ann, env, w, K => oneVC P n ops fx i ann env w fun ann' env' _ w' => regVC P n ops fx l ann' env' w' K

def bitB (l : Nat) (i : Nat) : Bool := l.testBit i
/-- What each operation that came before is to keep. -/
def obl (ops : Array Oper) (i : Nat) (w : World) : List (Nat × (World → Prop)) → Prop → Prop
  | [], p => p
  | (k, D) :: l, p => match ((Region.before ops).getD i 0).testBit k with
    | true => obl ops i w l p
    | false => D w ∧ obl ops i w l p

def isReady (ops : Array Oper) (listed : Array Bool) (i : Nat) : Bool := (Region.ready .any ops listed).contains i
def quietI (ops : Array Oper) (i : Nat) (ann : Ann) (env fx : Env) : Bool :=
  match ops[i]? with
  | some o => match wantedE ops env fx o with | some false => true | _ => quietB o ann
  | none => false

/-- A region in whatever order. -/
def regD (P : Program) (n : Nat) (ops : Array Oper) (fx : Env) : Nat → Nat → List (Nat × (World → Prop)) → List Nat → Array Bool → Ann → Env → World → KReg → Prop
  | 0, _, _, _, _, _, _, _, _ => False
  | f + 1, m, Ds, acc, listed, ann, env, w, K =>
    match ann with
    | .fin rest => match m, acc, Region.ready .any ops listed with
      | 0, [], [] => K rest env w
      | _, _, _ => False
    | .q i rest => match m, acc with
      | m + 1, [] => match isReady ops listed i && Region.free .any ops listed i && quietI ops i rest env fx with
        | true => oneVC P n ops fx i rest env w fun ann' env' D w' => match D with
          | some D => regD P n ops fx f m ((i, D) :: Ds) [] (listed.setIfInBounds i true) ann' env' w' K
          | none => regD P n ops fx f m Ds [] (listed.setIfInBounds i true) ann' env' w' K
        | false => False
      | _, _ => False
    | .alt i one other => match m with
      | m + 1 => match isReady ops listed i with
        | true => match other with
          | .stop => match (Region.ready .any ops listed).all fun j => Nat.beq j i || acc.contains j with
            | true => oneVC P n ops fx i one env w fun ann' env' _ w' => obl ops i w' Ds (regD P n ops fx f m Ds [] (listed.setIfInBounds i true) ann' env' w' K)
            | false => False
          | other => (oneVC P n ops fx i one env w fun ann' env' _ w' => obl ops i w' Ds (regD P n ops fx f m Ds [] (listed.setIfInBounds i true) ann' env' w' K)) ∧
              regD P n ops fx f (m + 1) Ds (i :: acc) listed other env w K
        | false => False
      | 0 => False
    | _ => False

end Go.Vc
