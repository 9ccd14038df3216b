/- The evaluator's word for one operation, and that it is sound. -/
import Derived.Test.YtbkcpddedpmenaaVcA
import Derived.Laws.Cells
import Derived.Laws.IdiomCopy
namespace Go.Vc
open Go

/-- What may be reckoned without memory. -/
def pureRun {α : Type} (P : Program) : Sem α → Option α
  | .pure a => some a
  | .program k => pureRun P (k P)
  | _ => none
theorem pureRun_run {α : Type} (P : Program) : ∀ (s : Sem α) {a : α}, pureRun P s = some a → ∀ w, s.run P w = .ok a w
  | .pure _, _, h, _ => by injection h with h; subst h; rfl
  | .program k, _, h, w => pureRun_run P (k P) h w

def Rd (w : World) (a : Addr) (vs : List Value) : Prop := ∀ j v, vs[j]? = some v → w.cell? (a.add j) = some v
def Wr (w : World) (a : Addr) : Prop := (∃ u, w.cell? a = some u) ∧ w.frozen? a = false
def WhenOne (v : Value) (p : Prop) : Prop :=
  match v with
  | .agg _ => False
  | .tuple _ => False
  | _ => p
/-- One value of the kind, read; then what follows. -/
def readsEx : List Sh → Addr → Nat → World → (List Value → (World → Prop) → Prop) → Prop
  | [], _, _, _, Q => Q [] fun _ => True
  | [s], a, i, w, Q => s.ex fun v => w.cell? (a.add i) = some v ∧ Q [v] fun w' => w'.cell? (a.add i) = some v
  | s :: l, a, i, w, Q => s.ex fun v => w.cell? (a.add i) = some v ∧ readsEx l a (i + 1) w fun vs D => Q (v :: vs) fun w' => w'.cell? (a.add i) = some v ∧ D w'
def storesVC : List Value → Addr → Nat → World → (World → Prop) → Prop
  | [], _, _, w, K => K w
  | v :: l, a, i, w, K => WhenOne v (Wr w (a.add i) ∧ ∀ w', w' = w.setCell (a.add i) v → storesVC l a (i + 1) w' K)

def zeroCellsOf (P : Program) (t : TypeId) : Array Value := match (P.info? t).bind (·.zero) with | some z => z.cells | none => #[]

def aggB (P : Program) (t : TypeId) : Option Bool :=
  match P.underlying t with
  | some (.struct _) => some true
  | some (.array _ _) => some true
  | some _ => some false
  | none => none

def sizeB (P : Program) (t : TypeId) (n : Nat) : Bool := match (P.info? t).map (·.size) with | some m => Nat.beq m n | none => false

/-- What follows an operation: how the walk goes on, the value, where it stays the same, the world. -/
abbrev Next3 := Ann → Value → Option (World → Prop) → World → Prop

/-- What an operation on integers comes to. -/
def arithOp (op : BinOp) (k : IntKind) (a b : Int) : Option Int :=
  match op with
  | .add => some (k.wrap (a + b))
  | .sub => some (k.wrap (a - b))
  | .mul => some (k.wrap (a * b))
  | .and => some (k.wrap ((BitVec.ofInt k.bits a &&& BitVec.ofInt k.bits b).toNat : Int))
  | .or => some (k.wrap ((BitVec.ofInt k.bits a ||| BitVec.ofInt k.bits b).toNat : Int))
  | .xor => some (k.wrap ((BitVec.ofInt k.bits a ^^^ BitVec.ofInt k.bits b).toNat : Int))
  | .andNot => some (k.wrap ((BitVec.ofInt k.bits a &&& ~~~BitVec.ofInt k.bits b).toNat : Int))
  | _ => none
def cmpOp (op : BinOp) (a b : Int) : Option Bool :=
  match op with
  | .eql => some (a == b)
  | .neq => some (a != b)
  | .lss => some (decide (a < b))
  | .leq => some (decide (a ≤ b))
  | .gtr => some (decide (a > b))
  | .geq => some (decide (a ≥ b))
  | _ => none

def kindEq : IntKind → IntKind → Bool
  | .i8, .i8 | .i16, .i16 | .i32, .i32 | .i64, .i64 | .u8, .u8 | .u16, .u16 | .u32, .u32 | .u64, .u64 => true
  | _, _ => false
theorem kindEq_eq : ∀ {j k : IntKind}, kindEq j k = true → j = k := by
  intro j k h; cases j <;> cases k <;> first | rfl | (exact absurd h (by decide))

/-- By the general road: it runs without memory. -/
def pureVC (P : Program) (ρ : Operand → Value) (o : Oper) (ann : Ann) (w : World) (K : Next3) : Prop :=
  match pureRun P (execOp ρ o) with
  | some (.value v) => K ann v none w
  | _ => False

/-- The values of a comparison (or the like) that is left to a lemma. -/
def BinRuns (P : Program) (op : BinOp) (t : TypeId) (x y : Operand) (a b v : Value) : Prop :=
  ∀ w, (do eqGuard op t x y a b; binOp op t a b : Sem Value).run P w = .ok v w

def IndexRuns (P : Program) (t : TypeId) (x i v : Value) : Prop := ∀ w, (Instr.index t x i).run P w = .ok v w
def BuildRuns (P : Program) (t : TypeId) (parts : Array (Nat × Value)) (v : Value) : Prop := ∀ w, (Instr.build t parts).run P w = .ok v w

def binVC (P : Program) (ρ : Operand → Value) (o : Oper) (op : BinOp) (t : TypeId) (x y : Value) (ann : Ann) (w : World) (K : Next3) : Prop :=
  match x, y with
  | .int k a, .int j b =>
    match op with
    | .quo => match kindEq k j with | true => b ≠ 0 ∧ ∀ n : Int, n = k.wrap (a.tdiv b) → K ann (.int k n) none w | false => False
    | .rem => match kindEq k j with | true => b ≠ 0 ∧ ∀ n : Int, n = a.tmod b → K ann (.int k n) none w | false => False
    | .shl => 0 ≤ b ∧ ∀ n : Int, n = k.wrap (a * 2 ^ min b.toNat k.bits) → K ann (.int k n) none w
    | .shr => 0 ≤ b ∧ ∀ n : Int, n = a.fdiv (2 ^ min b.toNat k.bits) → K ann (.int k n) none w
    | op => match kindEq k j with
      | true => match arithOp op k a b with
        | some e => ∀ n : Int, n = e → K ann (.int k n) none w
        | none => match cmpOp op a b with
          | some c => K ann (.bool c) none w
          | none => False
      | false => False
  | .pointer p, .pointer none =>
    match P.underlying t with
    | some (.pointer _) =>
      match op with
      | .eql => K ann (.bool p.isNone) none w
      | .neq => K ann (.bool (!p.isNone)) none w
      | _ => False
    | _ => False
  | .slice a _ _, .slice none _ _ =>
    match P.underlying t with
    | some (.slice _) =>
      match op with
      | .eql => K ann (.bool a.isNone) none w
      | .neq => K ann (.bool (!a.isNone)) none w
      | _ => False
    | _ => False
  | _, _ => pureVC P ρ o ann w K

def storeVC (P : Program) (t : TypeId) (x v : Value) (ann : Ann) (w : World) (K : Next3) : Prop :=
  match x with
  | .pointer (some a) =>
    match ann with
    | .sh (.arr n) rest => match sizeB P t n with | false => False | true => v.cells.size = n ∧ (∀ u ∈ v.cells.toList, WhenOne u True) ∧ (∀ i, i < n → Wr w (a.add i)) ∧ a.spot = none ∧ ∀ w', w' = w.setCells a.block a.off v.cells.toList → K rest undef none w'
    | ann =>
      match (P.info? t).map (·.size) with
      | some n => match Nat.beq v.cells.size n with
        | true => storesVC v.cells.toList a 0 w fun w' => K ann undef none w'
        | false => False
      | none => False
  | _ => False

def loadVC (P : Program) (t : TypeId) (x : Value) (ann : Ann) (w : World) (K : Next3) : Prop :=
  match x with
  | .pointer (some a) =>
    match ann with
    | .sh s rest =>
      match aggB P t with
      | some true =>
        match s with
        | .agg l => match (P.info? t).map (·.size) with
          | some n => match Nat.beq l.length n with
            | true => readsEx l a 0 w fun vs D => K rest (.agg vs.toArray) (some D) w
            | false => False
          | none => False
        | .arr n => match sizeB P t n with | false => False | true => ∃ vs : List Value, vs.length = n ∧ Rd w a vs ∧ K rest (.agg vs.toArray) (some fun w' => Rd w' a vs) w
        | _ => False
      | some false => s.ex fun v => w.cell? a = some v ∧ K rest v (some fun w' => w'.cell? a = some v) w
      | none => False
    | _ => False
  | _ => False

/-- 'x[i]' of a slice, its address. -/
def indexAddrVC (P : Program) (t : TypeId) (x i : Value) (ann : Ann) (w : World) (K : Next3) : Prop :=
  match i with
  | .int _ i =>
    match x with
    | .slice base len _ =>
      match P.underlying t with
      | some (.slice e) => match (P.info? e).map (·.size) with
        | some sz => ∃ b o, base = some ⟨b, o, none⟩ ∧ 0 ≤ i ∧ i < len ∧ K ann (.pointer (some ⟨b, o + i.toNat * sz, none⟩)) none w
        | none => False
      | _ => False
    | .pointer (some a) =>
      match P.underlying t with
      | some (.array n e) => match (P.info? e).map (·.size) with
        | some sz => a.spot = none ∧ 0 ≤ i ∧ i < n ∧ K ann (.pointer (some ⟨a.block, a.off + i.toNat * sz, none⟩)) none w
        | none => False
      | _ => False
    | _ => False
  | _ => False

/-- The address behind a cut. -/
def cutBase (a : Option Addr) (l m sz : Nat) : Option Addr := if m = l then a else a.map (·.add (l * sz))

def boundOf : Option Value → Nat → Option Int
  | none, d => some d
  | some (.int _ n), _ => some n
  | _, _ => none

def sliceVC (P : Program) (t : TypeId) (x : Value) (lo hi mx : Option Value) (ann : Ann) (w : World) (K : Next3) : Prop :=
  match x with
  | .slice a len cap =>
    match P.underlying t with
    | some (.slice e) => match (P.info? e).map (·.size) with
      | some sz =>
        match lo, hi, mx with
        | none, none, none => K ann (.slice (cutBase a 0 cap sz) (len - 0) (cap - 0)) none w
        | some (.int _ l), none, none => 0 ≤ l ∧ l ≤ len ∧ K ann (.slice (cutBase a l.toNat cap sz) (len - l.toNat) (cap - l.toNat)) none w
        | none, some (.int _ h), none => 0 ≤ h ∧ h ≤ cap ∧ K ann (.slice (cutBase a 0 cap sz) (h.toNat - 0) (cap - 0)) none w
        | some (.int _ l), some (.int _ h), none => 0 ≤ l ∧ l ≤ h ∧ h ≤ cap ∧ K ann (.slice (cutBase a l.toNat cap sz) (h.toNat - l.toNat) (cap - l.toNat)) none w
        | none, some (.int _ h), some (.int _ m) => 0 ≤ h ∧ h ≤ m ∧ m ≤ cap ∧ K ann (.slice (cutBase a 0 m.toNat sz) (h.toNat - 0) (m.toNat - 0)) none w
        | some (.int _ l), some (.int _ h), some (.int _ m) => 0 ≤ l ∧ l ≤ h ∧ h ≤ m ∧ m ≤ cap ∧ K ann (.slice (cutBase a l.toNat m.toNat sz) (h.toNat - l.toNat) (m.toNat - l.toNat)) none w
        | _, _, _ => False
      | none => False
    | _ => False
  | .pointer (some a) =>
    match P.underlying t with
    | some (.array n e) => match (P.info? e).map (·.size) with
      | some sz =>
        match lo, hi, mx with
        | none, none, none => K ann (.slice (some (if n = 0 then a else a.add (0 * sz))) (n - 0) (n - 0)) none w
        | some (.int _ l), none, none => 0 ≤ l ∧ l ≤ n ∧ K ann (.slice (cutBase (some a) l.toNat n sz) (n - l.toNat) (n - l.toNat)) none w
        | none, some (.int _ h), none => 0 ≤ h ∧ h ≤ n ∧ K ann (.slice (cutBase (some a) 0 n sz) (h.toNat - 0) (n - 0)) none w
        | some (.int _ l), some (.int _ h), none => 0 ≤ l ∧ l ≤ h ∧ h ≤ n ∧ K ann (.slice (cutBase (some a) l.toNat n sz) (h.toNat - l.toNat) (n - l.toNat)) none w
        | _, _, _ => False
      | none => False
    | _ => False
  | _ => False

/-- By the model's own run: the value is of the kind that is told. -/
def runVC (P : Program) (s : Sem Value) (quiet : Bool) (ann : Ann) (w : World) (K : Next3) : Prop :=
  match ann with
  | .sh sh rest =>
    match quiet with
    | true => sh.ex fun v => s.run P w = .ok v w ∧ K rest v (some fun w' => s.run P w' = .ok v w') w
    | false => sh.ex fun v => ∃ w', s.run P w = .ok v w' ∧ K rest v none w'
  | _ => False
def runVCu (P : Program) (s : Sem Unit) (ann : Ann) (w : World) (K : Next3) : Prop :=
  ∃ w', s.run P w = .ok () w' ∧ K ann undef none w'

def callableB (P : Program) (f : FuncId) : Bool :=
  match P.funcs[f]? with
  | none => false
  | some fn => !(fn.name == "runtime.NumGoroutine") && !fn.body.isNone

def callVC (P : Program) (f : FuncId) (args : Array Value) (ann : Ann) (w : World) (K : Next3) : Prop :=
  match ann with
  | .sh s rest => Calls P f args w fun e w' => s.ex fun v => e = .returned v ∧ K rest v none w'
  | _ => False

/-- Is this operation to be left to a lemma? -/
def fbOf (d : Option Nat) : Ann → Option (Bool × Sh × Ann)
  | .fb e b s rest => match d with
    | some d => match Nat.beq d e with | true => some (b, s, rest) | false => none
    | none => none
  | _ => none

def opVC (P : Program) (ρ : Operand → Value) (o : Oper) (ann : Ann) (w : World) (K : Next3) : Prop :=
  match o.op with
  | .move x => K ann (ρ x) none w
  | .assign x => K ann (ρ x) none w
  | .binOp op t x y _ =>
    match fbOf o.dst ann with
    | some (_, s, rest) => s.ex fun v => BinRuns P op t x y (ρ x) (ρ y) v ∧ K rest v none w
    | none => binVC P ρ o op t (ρ x) (ρ y) ann w K
  | .load t x => loadVC P t (ρ x) ann w K
  | .store t x v => storeVC P t (ρ x) (ρ v) ann w K
  | .nilCheck x =>
    match ρ x with
    | .pointer p => ∃ b o, p = some ⟨b, o, none⟩ ∧ K ann (.pointer (some ⟨b, o, none⟩)) none w
    | _ => pureVC P ρ o ann w K
  | .indexAddr t x i => indexAddrVC P t (ρ x) (ρ i) ann w K
  | .slice t x lo hi mx => sliceVC P t (ρ x) (lo.map ρ) (hi.map ρ) (mx.map ρ) ann w K
  | .sliceToArrayPointer t x =>
    match ρ x, P.underlying t with
    | .slice a len _, some (.array n _) => ∃ b o, a = some ⟨b, o, none⟩ ∧ n ≤ len ∧ K ann (.pointer (some ⟨b, o, none⟩)) none w
    | _, _ => False
  | .index t x i =>
    match fbOf o.dst ann with
    | some (_, s, rest) => s.ex fun v => IndexRuns P t (ρ x) (ρ i) v ∧ K rest v none w
    | none => pureVC P ρ o ann w K
  | .makeSlice t l c => runVC P (Instr.makeSlice t (ρ l) (ρ c)) false ann w K
  | .lookup t x i ok => runVC P (Instr.lookup t (ρ x) (ρ i) ok) true ann w K
  | .mapUpdate t m k v => runVCu P (Instr.mapUpdate t (ρ m) (ρ k) (ρ v)) ann w K
  | .buildSlice t n parts =>
    match fbOf o.dst ann with
    | some (_, s, rest) => runVC P (Instr.buildSlice t n (parts.map fun (i, x) => (i, ρ x))) false (.sh s rest) w K
    | none => match (execOp ρ o).run P w with
      | .ok (.value v) w' => ∀ w2, w2 = w' → K ann v none w2
      | _ => False
  | .alloc _ | .box _ _ | .makeMap _ _ =>
    match (execOp ρ o).run P w with
    | .ok (.value v) w' => ∀ w2, w2 = w' → K ann v none w2
    | _ => False
  | .call c =>
    match c.callee with
    | .builtin b =>
      match b with
      | .append => runVC P (Builtin.append_ c.argTypes o.type (c.args.map ρ)) false ann w K
      | .copy => runVC P (Builtin.copy_ c.argTypes o.type (c.args.map ρ)) false ann w K
      | .clear => runVC P (Builtin.clear_ c.argTypes o.type (c.args.map ρ)) false ann w K
      | .delete => runVC P (Builtin.delete_ c.argTypes o.type (c.args.map ρ)) false ann w K
      | .len => match fbOf o.dst ann with
        | some (_, s, rest) => runVC P (Builtin.len_ c.argTypes o.type (c.args.map ρ)) true (.sh s rest) w K
        | none => pureVC P ρ o ann w K
      | _ => pureVC P ρ o ann w K
    | .value f =>
      match f with
      | .func f => match callableB P f with
        | true => callVC P f (c.args.toList.map ρ).toArray ann w K
        | false => False
      | f =>
        match ann with
        | .raw s rest => ∃ (g : FuncId) (first captured : Array Value), ρ f = .func (.func g) first captured ∧ callableB P g = true ∧
            callVC P g (first ++ (c.args.toList.map ρ).toArray ++ captured) (.sh s rest) w K
        | ann => match ρ f with
          | .func (.func g) first captured => match callableB P g with
            | true => callVC P g (first.toList ++ (c.args.toList.map ρ) ++ captured.toList).toArray ann w K
            | false => False
          | _ => False
    | _ => False
  | .convert src dst x =>
    match fbOf o.dst ann with
    | some (b, s, rest) => runVC P (convert src dst (ρ x)) (!b) (.sh s rest) w K
    | none => match ρ x with
      | .int _ n => match P.underlying src, P.underlying dst with
        | some _, some (.int k) => ∀ m : Int, m = k.wrap n → K ann (.int k m) none w
        | _, _ => pureVC P ρ o ann w K
      | _ => pureVC P ρ o ann w K
  | .unOp u _ x =>
    match u, ρ x with
    | .neg, .int k n => ∀ m : Int, m = k.wrap (0 - n) → K ann (.int k m) none w
    | .xor, .int k n => ∀ m : Int, m = k.wrap ((BitVec.ofInt k.bits (if k.signed then -1 else k.max) ^^^ BitVec.ofInt k.bits n).toNat : Int) → K ann (.int k m) none w
    | _, _ => pureVC P ρ o ann w K
  | .build t parts =>
    match fbOf o.dst ann with
    | some (_, s, rest) => s.ex fun v => BuildRuns P t (parts.map fun (i, x) => (i, ρ x)) v ∧ K rest v none w
    | none => pureVC P ρ o ann w K
  | .pick _ _ _ | .makeInterface _ _ | .makeFunc _ _ _ | .fieldAddr _ _ _ | .field _ _ _ | .extract _ _ => pureVC P ρ o ann w K
  | _ => False

/-- Does it leave the world alone? -/
def quietB (o : Oper) (ann : Ann) : Bool :=
  match o.op with
  | .move _ | .assign _ | .binOp _ _ _ _ _ | .load _ _ | .nilCheck _ | .indexAddr _ _ _ | .slice _ _ _ _ _ | .sliceToArrayPointer _ _ | .index _ _ _ | .lookup _ _ _ _
  | .pick _ _ _ | .unOp _ _ _ | .makeInterface _ _ | .makeFunc _ _ _ | .fieldAddr _ _ _ | .field _ _ _ | .extract _ _ | .build _ _ => true
  | .convert _ _ _ => match fbOf o.dst ann with | some (b, _, _) => !b | none => true
  | .call c => match c.callee with
    | .builtin b => match b with | .len | .cap | .min | .max => true | _ => false
    | _ => false
  | _ => false

end Go.Vc
