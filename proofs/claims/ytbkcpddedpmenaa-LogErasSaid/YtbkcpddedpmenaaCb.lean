/- Contracts: numbers as bytes, copies and joins of bytes. -/
import Derived.Test.YtbkcpddedpmenaaVcN
import Derived.Laws.IdiomStrings
import Derived.Laws.BytesString
import Derived.Test.YtbkcpddedpmenaaNames
import Derived.Test.YtbkcpddedpmenaaT2
set_option maxRecDepth 100000
namespace Go.Proofs
open Go Go.Vc

noncomputable abbrev P0 := Try.prog
theorem E8 : ElemTy P0 T_slice_uint8 T_uint8 1 1 [.int .u8 0] :=
  .of (by kernel_rfl) (by kernel_rfl) (by kernel_rfl) (by kernel_rfl) rfl (by decide) (by decide)

/-- A number's lowest k bytes, the lowest first. -/
def putL (n k : Nat) : List UInt8 := (List.range k).map fun i => UInt8.ofNat (n / 256 ^ i % 256)
theorem putL_length (n k : Nat) : (putL n k).length = k := by simp [putL]

theorem byte_of_shift (n i : Nat) (hi : i < 8) : IntKind.wrap .u8 (Int.fdiv (n : Int) (2 ^ min (Int.toNat (8 * (i : Int))) (IntKind.bits .i64))) = ((UInt8.ofNat (n / 256 ^ i % 256)).toNat : Int) := by
  rw [wrap8_mod]
  have h1 : min (Int.toNat (8 * (i : Int))) (IntKind.bits .i64) = 8 * i := by
    simp only [IntKind.bits]; omega
  rw [h1]
  have h2 : ((2 : Int) ^ (8 * i)) = ((256 ^ i : Nat) : Int) := by
    have : (256 : Nat) ^ i = 2 ^ (8 * i) := by rw [Nat.pow_mul]
    rw [this]; norm_cast
  rw [h2, Int.fdiv_eq_ediv_of_nonneg _ (by exact_mod_cast Nat.zero_le _)]
  have h3 : (UInt8.ofNat (n / 256 ^ i % 256)).toNat = n / 256 ^ i % 256 := by
    rw [UInt8.toNat_ofNat']; exact Nat.mod_eq_of_lt (Nat.mod_lt _ (by decide))
  rw [h3]
  norm_cast

theorem putB_set (n k i : Nat) (hi : i < k) :
    ((((putL n k).take i).map B) ++ List.replicate (k - i) (Value.int .u8 0)).set i (B (UInt8.ofNat (n / 256 ^ i % 256))) =
    (((putL n k).take (i + 1)).map B) ++ List.replicate (k - (i + 1)) (Value.int .u8 0) := by
  have h1 : (((putL n k).take i).map B).length = i := by simp [putL_length]; omega
  rw [List.set_append_right _ _ (by omega), h1, Nat.sub_self]
  have h2 : k - i = (k - (i + 1)) + 1 := by omega
  rw [h2, List.replicate_succ, List.set_cons_zero]
  rw [List.take_succ_eq_append_getElem (by simp [putL_length]; exact hi)]
  simp [putL]

theorem seg_put (n k : Nat) (hn : n < 2 ^ 63) (hk : k ≤ 8) (w : World) (R : Ending → World → Prop)
    (h : ∀ w' b, w.heap.size ≤ b → Keep [] w w' → Blk w' b ((putL n k).map B) T_uint8 → R (.returned (.slice (some ⟨b, 0, none⟩) k k)) w') :
    Calls P0 f_seg_put #[.int .i64 n, .int .i64 k] w R := by
  refine C_seg_put ?_
  refine ⟨_, _, _, _, make_run E8 rfl rfl k (by omega) w, ?_⟩
  refine ⟨fun x w' => 0 ≤ x ∧ x ≤ k ∧ Keep [] w w' ∧ Blk w' w.heap.size ((((putL n k).take x.toNat).map B) ++ List.replicate (k - x.toNat) (.int .u8 0)) T_uint8, fun x _ => (k - x).toNat,
    ⟨by omega, by omega, Keep.alloc _ _, by simpa using Blk.alloc_new w (List.replicate k (.int .u8 0)) T_uint8⟩, ?_⟩
  rintro x w8 ⟨h0, h1, hkeep, hblk⟩
  obtain ⟨i, rfl⟩ := Int.eq_ofNat_of_zero_le h0
  constructor
  · intro hlt
    have hlt : i < k := by simpa using hlt
    intro a ha
    rw [wrap64 (by omega) (by omega)] at ha
    refine ⟨by omega, fun m hm v hv => ⟨_, _, rfl, by omega, by omega, ?_, ?_⟩⟩
    · simpa using hblk.wr (i := i) (by simp [putL_length]; omega)
    · intro w14 hw j hj
      rw [wrap64 (by omega) (by omega)] at hj
      subst hj hw
      have hv' : v = ((UInt8.ofNat (n / 256 ^ i % 256)).toNat : Int) := by rw [hv, hm, ha]; exact byte_of_shift n i (by omega)
      have hbs := hblk.set i (B (UInt8.ofNat (n / 256 ^ i % 256)))
      rw [Int.toNat_natCast, putB_set n k i hlt] at hbs
      refine ⟨⟨by omega, by omega, ?_, ?_⟩, by dsimp only; omega⟩
      · exact hkeep.then_set _ _ _ (.inr (Nat.le_refl _))
      · rw [hv']
        have e : ((i : Int) + 1).toNat = i + 1 := by omega
        rw [e]
        simpa [B] using hbs
  · intro hge
    have hge : k ≤ i := by simpa using hge
    have : i = k := by omega
    subst this
    exact h _ _ (Nat.le_refl _) hkeep (by simpa [List.take_of_length_le, putL_length] using hblk)

/-! ### bytes -/
theorem B_one (x : UInt8) : (B x).oneCell' = true := rfl
theorem mapB_one (l : List UInt8) : ∀ v ∈ l.map B, v.oneCell' = true := by
  intro v hv
  obtain ⟨x, _, rfl⟩ := List.mem_map.1 hv
  rfl
abbrev HasB (w : World) (a : Option Addr) (l : List UInt8) : Prop := Has w a (l.map B)
/-- The block is new. -/
def New (w : World) (a : Option Addr) : Prop := ∀ x, a = some x → w.heap.size ≤ x.block
theorem HasB.none {w : World} {l : List UInt8} (h : HasB w none l) : l = [] := by
  rcases h with h | ⟨b, o, h, _⟩
  · simpa using h
  · cases h
theorem Own.new {w w' : World} {e : TypeId} {sz len cap : Nat} {a : Option Addr} {vs : List Value} {fp : List Nat} (h : Own w' e sz a len cap vs fp) (hf : ∀ b ∈ fp, w.heap.size ≤ b) : New w a := by
  intro x hx
  rcases h with ⟨rfl, _⟩ | ⟨b, c, rfl, rfl, _⟩
  · cases hx
  · injection hx with hx; subst hx; exact hf b (by simp)

/-- slices.Clone of bytes. -/
theorem slices_Clone_byte {a : Option Addr} {len cap : Nat} {w : World} {R : Ending → World → Prop} (l : List UInt8) (hl : l.length = len) (h : HasB w a l) (hb : len ≤ 140737488355328)
    (hR : ∀ w' a' cap' fp, Keep [] w w' → Own w' T_uint8 1 a' len cap' (l.map B) fp → (∀ b ∈ fp, w.heap.size ≤ b) → (a.isNone = a'.isNone) → R (.returned (.slice a' len cap')) w') :
    Calls P0 f_slices_Clone_byte #[.slice a len cap] w R := by
  refine C_slices_Clone_byte ⟨fun hn => ?_, fun hn w2 hw2 => ?_⟩
  · have : a = none := by simpa using hn
    subst this
    have hl0 := h.none
    subst hl0
    have : len = 0 := by simpa using hl.symm
    subst this
    exact hR w none 0 [] (Keep.refl _ _) (.inl ⟨rfl, rfl, rfl, rfl, rfl⟩) (by simp) rfl
  · subst hw2
    have h0 : Own (w.alloc (.cells #[] T_uint8)) T_uint8 1 (some ⟨w.heap.size, 0, none⟩) 0 0 [] [w.heap.size] :=
      .inr ⟨w.heap.size, [], rfl, rfl, Blk.alloc_new w [] T_uint8, rfl, Nat.le_refl _, rfl⟩
    obtain ⟨a', cap', w', fp', hr, ho, hk, hf, hs⟩ := own_append E8 (ty := T_slice_uint8) (x := a) (n := len) (xc := cap) h0 (news := l.map B) (by simp [hl]) (h.keep (Keep.alloc w _) (Off.nil _)) (mapB_one l) (by omega)
    rw [Nat.zero_add] at hr ho
    refine ⟨_, _, _, w', hr, ?_⟩
    refine hR w' a' cap' fp' ?_ (by simpa using ho) ?_ ?_
    · exact (Keep.alloc w _).trans hk (by simp)
    · intro b hb
      rcases hf b hb with hf | hf
      · simp at hf; omega
      · exact Nat.le_trans (Keep.alloc w _).1 hf
    · have : a'.isNone = false := by
        obtain ⟨b, hb⟩ := hs (.inl rfl)
        rcases ho with ⟨_, _, _, _, hx⟩ | ⟨b', c', rfl, _⟩
        · rw [hb] at hx; cases hx
        · rfl
      rw [this]; exact hn

theorem zeroCells_one (x : Value) (n : Nat) : Builtin.zeroCells #[x] n = Array.replicate n x := by
  unfold Builtin.zeroCells
  have hm : ∀ k : Nat, (#[x][k % 1]!) = x := by intro k; rw [Nat.mod_one]; rfl
  have hm' : (fun i : Nat => (#[x][i % (#[x] : Array Value).size]!)) = fun _ => x := funext hm
  rw [hm']
  apply Array.ext'
  simp [List.map_const']

/-- 'append' of so many noughts to nil. -/
theorem run_append_make_nil {n : Nat} (h0 : 0 < n) (hn : n ≤ 140737488355328) (w : World) :
    ∃ g, n ≤ g ∧ (Builtin.append_ #[T_slice_uint8, T_int] T_slice_uint8 #[.slice none 0 0, .int .i64 n]).run P0 w =
      .ok (.slice (some ⟨w.heap.size, 0, none⟩) n g) (w.drew.alloc (.cells (List.replicate g (Value.int .u8 0)).toArray T_uint8)) := by
  obtain ⟨ht, ⟨i, zv, hi, hsz, hby, hzv, hzc⟩, hzl, hpos, hbpos⟩ := E8
  have hti : Program.underlying P0 T_int = some (.int .i64) := by kernel_rfl
  have hw : IntKind.i64.wrap (n : Int) = n := wrap64 (by omega) (by omega)
  have h1 : ¬ ((n : Int) < 0) := by omega
  have h2 : ¬ (281474976710656 < (n : Int)) := by omega
  have h63 : ¬ (9223372036854775807 < (n : Int)) := by omega
  have hn0 : ¬ (n = 0) := by omega
  have hfit : ¬ (281474976710656 < Builtin.nextslicecap n 0 * i.bytes) := by rw [nextslicecap_zero h0, hby]; omega
  refine ⟨grownCap w n 0 T_uint8, grownCap_ge _ _ _ _, ?_⟩
  have hge := grownCap_ge w n 0 T_uint8
  simp [Builtin.append_, run_underlying ht, run_underlying hti, sizeOf, typeInfo, zeroValue, hi, hzv, asInt, asIntOf, hw, h1, hby, h2, hn0, h63, hsz, Question.forced, newRow, grownCap, Builtin.firstCells] at hfit ⊢
  rw [if_neg (by omega), hzc]
  simp only [grownCap] at hge
  generalize (Question.appendCap n 0 T_uint8).cut (w.tape w.drawn (Question.appendCap n 0 T_uint8)) = g at *
  congr 3
  simp only [zeroCells_one]
  apply Array.ext'
  simp
  omega

/-- slices.Grow of nil. -/
theorem slices_Grow_byte {w : World} {R : Ending → World → Prop} (n : Nat) (hn : n ≤ 140737488355328)
    (hR : ∀ w' a' cap' fp, Keep [] w w' → Own w' T_uint8 1 a' 0 cap' [] fp → (∀ b ∈ fp, w.heap.size ≤ b) → R (.returned (.slice a' 0 cap')) w') :
    Calls P0 f_slices_Grow_byte #[.slice none 0 0, .int .i64 n] w R := by
  refine C_slices_Grow_byte ⟨fun h => ?_, fun _ => ?_⟩
  · simp at h; omega
  · intro x hx y hy
    rw [wrap64 (by omega) (by omega)] at hx
    have hx : x = 0 := by simpa using hx
    subst hx
    rw [wrap64 (by omega) (by omega)] at hy
    simp only [Int.sub_zero] at hy
    subst hy
    refine ⟨fun h => ?_, fun h => ?_⟩
    · have h0 : 0 < n := by simpa using h
      obtain ⟨g, hg, hr⟩ := run_append_make_nil h0 hn w
      refine ⟨by omega, by omega, _, _, _, _, hr, by omega, by omega, ?_⟩
      have e : cutBase (some ⟨w.heap.size, 0, none⟩) 0 g 1 = some ⟨w.heap.size, 0, none⟩ := by
        unfold cutBase
        split
        · rfl
        · simp [add_mk]
      rw [e]
      refine hR _ _ _ [w.heap.size] ((Keep.drew w).trans (Keep.alloc _ _) (by simp)) (.inr ⟨w.heap.size, _, rfl, rfl, Blk.alloc_new w.drew _ T_uint8, by simp, by omega, by simp⟩) (by simp)
    · have : n = 0 := by simpa using h
      subst this
      exact hR w none 0 [] (Keep.refl _ _) (.inl ⟨rfl, rfl, rfl, rfl, rfl⟩) (by simp)

/-! ### numbers out of bytes -/
def numL : List UInt8 → Nat
  | [] => 0
  | x :: l => x.toNat + 256 * numL l
theorem numL_lt : ∀ l : List UInt8, numL l < 256 ^ l.length
  | [] => by simp [numL]
  | x :: l => by
    have h1 := numL_lt l
    have h2 := x.toNat_lt
    simp only [numL, List.length_cons, Nat.pow_succ]
    omega
theorem numL_snoc : ∀ (l : List UInt8) (x : UInt8), numL (l ++ [x]) = numL l + x.toNat * 256 ^ l.length
  | [], x => by simp [numL]
  | y :: l, x => by
    simp only [List.cons_append, numL, numL_snoc l x, List.length_cons, Nat.pow_succ]
    rw [Nat.mul_add, ← Nat.mul_assoc, ← Nat.mul_assoc, Nat.add_assoc, Nat.mul_comm 256 x.toNat, Nat.mul_assoc x.toNat 256, Nat.mul_comm 256 (256 ^ l.length)]
    rw [Nat.mul_assoc]
theorem or_shift (n x i : Nat) (hn : n < 256 ^ i) (hx : x < 256) (hi : i < 7) :
    IntKind.wrap .i64 ((BitVec.ofInt (IntKind.bits .i64) (n : Int) ||| BitVec.ofInt (IntKind.bits .i64) (((x * 256 ^ i : Nat) : Int))).toNat : Int) = ((n + x * 256 ^ i : Nat) : Int) := by
  have hp : 256 ^ i ≤ 256 ^ 6 := Nat.pow_le_pow_right (by decide) (by omega)
  have h1 : x * 256 ^ i ≤ 255 * 256 ^ 6 := Nat.mul_le_mul (by omega) hp
  have h2 : n < 256 ^ 6 := Nat.lt_of_lt_of_le hn hp
  have e : (BitVec.ofInt 64 (n : Int) ||| BitVec.ofInt 64 ((x * 256 ^ i : Nat) : Int)).toNat = n + x * 256 ^ i := by
    simp only [BitVec.ofInt_natCast, BitVec.toNat_or, BitVec.toNat_ofNat]
    rw [Nat.mod_eq_of_lt (by omega), Nat.mod_eq_of_lt (by omega)]
    have h3 : (256 : Nat) ^ i = 2 ^ (8 * i) := by rw [Nat.pow_mul]
    rw [h3] at hn ⊢
    rw [Nat.or_comm, Nat.mul_comm x, ← Nat.two_pow_add_eq_or_of_lt hn, Nat.add_comm]
  show IntKind.wrap .i64 ((BitVec.ofInt 64 (n : Int) ||| BitVec.ofInt 64 ((x * 256 ^ i : Nat) : Int)).toNat : Int) = _
  rw [e]
  exact wrap64 (by omega) (by omega)

theorem seg_number {a : Option Addr} {len cap : Nat} {w : World} {R : Ending → World → Prop} (l : List UInt8) (hl : l.length = len) (h : HasB w a l) (h7 : len ≤ 7)
    (hR : R (.returned (.int .i64 (numL l))) w) : Calls P0 f_seg_number #[.slice a len cap] w R := by
  refine C_seg_number ?_
  refine ⟨fun n x w' => w' = w ∧ 0 ≤ x ∧ x ≤ len ∧ n = numL (l.take x.toNat), fun _ x _ => (len - x).toNat, ⟨rfl, by omega, by omega, by simp [numL]⟩, ?_⟩
  rintro n x w' ⟨rfl, h0, h1, rfl⟩
  obtain ⟨i, rfl⟩ := Int.eq_ofNat_of_zero_le h0
  constructor
  · intro hlt
    have hlt : i < len := by simpa using hlt
    rcases h with h | ⟨b, o, rfl, h⟩
    · simp at h; subst h; simp at hl; omega
    · have hil : i < l.length := by omega
      have hc := h i (B l[i]) (by simp [hil])
      refine ⟨b, o, rfl, by omega, by omega, _, by simpa [B] using hc, ?_⟩
      have hx := l[i].toNat_lt
      intro m hm
      rw [wrap64 (by omega) (by omega)] at hm
      subst hm
      intro k hk
      rw [wrap64 (by omega) (by omega)] at hk
      subst hk
      refine ⟨by omega, ?_⟩
      intro q hq
      have hq' : q = ((l[i].toNat * 256 ^ i : Nat) : Int) := by
        rw [hq]
        have h1 : min (Int.toNat (8 * (i : Int))) (IntKind.bits .i64) = 8 * i := by simp only [IntKind.bits]; omega
        rw [h1]
        have h2 : ((2 : Int) ^ (8 * i)) = ((256 ^ i : Nat) : Int) := by
          have : (256 : Nat) ^ i = 2 ^ (8 * i) := by rw [Nat.pow_mul]
          rw [this]; norm_cast
        rw [h2, ← Int.natCast_mul]
        have hp : 256 ^ i ≤ 256 ^ 6 := Nat.pow_le_pow_right (by decide) (by omega)
        have h3 : l[i].toNat * 256 ^ i ≤ 255 * 256 ^ 6 := Nat.mul_le_mul (by omega) hp
        exact wrap64 (by omega) (by omega)
      subst hq'
      intro r hr
      rw [or_shift _ _ i (by have := numL_lt (l.take i); rw [List.length_take, Nat.min_eq_left (by omega)] at this; simpa using this) hx (by omega)] at hr
      intro s hs
      rw [wrap64 (by omega) (by omega)] at hs
      subst hs
      refine ⟨⟨rfl, by omega, by omega, ?_⟩, by dsimp only; omega⟩
      rw [hr]
      have e : ((i : Int) + 1).toNat = i + 1 := by omega
      rw [e, List.take_succ_eq_append_getElem hil, numL_snoc, List.length_take, Nat.min_eq_left (by omega)]
      simp
  · intro hge
    have hge : len ≤ i := by simpa using hge
    have : l.take i = l := List.take_of_length_le (by omega)
    simpa [this] using hR

/-! ### are bytes the same? -/
theorem run_string {a : Option Addr} {len cap : Nat} {w : World} (l : List UInt8) (hl : l.length = len) (h : HasB w a l) :
    (convert T_slice_uint8 T_string (.slice a len cap)).run P0 w = .ok (.string ⟨l.toArray⟩) w := by
  have hs : Program.underlying P0 T_slice_uint8 = some (.slice T_uint8) := by kernel_rfl
  have he : Program.underlying P0 T_uint8 = some (.int .u8) := by kernel_rfl
  have hd : Program.underlying P0 T_string = some .string := by kernel_rfl
  rcases h with h | ⟨b, o, rfl, h⟩
  · have : l = [] := by simpa using h
    subst this
    simp at hl; subst hl
    cases a with
    | none =>
      rw [run_convert_bytes_string w _ _ _ none 0 cap hs he hd]
      rfl
    | some a => exact run_convert_bytes_back w _ _ _ a cap [] hs he hd (fun j hj => by simp at hj)
  · subst hl
    exact run_convert_bytes_back w _ _ _ ⟨b, o, none⟩ cap l hs he hd (fun j hj => by rw [add_mk]; exact h j (B l[j]) (by simp [hj]))

theorem bytes_Equal {a b : Option Addr} {la ca lb cb : Nat} {w : World} {R : Ending → World → Prop} (x y : List UInt8) (hx : x.length = la) (hy : y.length = lb) (ha : HasB w a x) (hb : HasB w b y)
    (hR : R (.returned (.bool (x == y))) w) : Calls P0 f_bytes_Equal #[.slice a la ca, .slice b lb cb] w R := by
  refine C_bytes_Equal ⟨_, run_string x hx ha, _, run_string y hy hb, ?_⟩
  simpa using hR

/-! ### slices of slices of bytes -/
structure Pc where
  a : Option Addr
  len : Nat
  cap : Nat
  l : List UInt8
def Pc.v (p : Pc) : Value := .slice p.a p.len p.cap
structure Slcs (w : World) (a : Option Addr) (xs : List Pc) : Prop where
  has : Has w a (xs.map Pc.v)
  each : ∀ p ∈ xs, p.l.length = p.len ∧ HasB w p.a p.l
def flat (xs : List Pc) : List UInt8 := xs.flatMap Pc.l
theorem flat_take_succ {xs : List Pc} {i : Nat} (h : i < xs.length) : flat (xs.take (i + 1)) = flat (xs.take i) ++ xs[i].l := by
  unfold flat
  rw [List.take_succ_eq_append_getElem h, List.flatMap_append]
  simp
theorem flat_take_le (xs : List Pc) (i : Nat) : (flat (xs.take i)).length ≤ (flat xs).length := by
  have : flat xs = flat (xs.take i) ++ flat (xs.drop i) := by
    unfold flat; rw [← List.flatMap_append, List.take_append_drop]
  rw [this, List.length_append]; omega
theorem Slcs.at {w : World} {a : Option Addr} {xs : List Pc} (h : Slcs w a xs) {i : Nat} (hi : i < xs.length) :
    ∃ b o, a = some ⟨b, o, none⟩ ∧ w.cell? ⟨b, o + i, none⟩ = some (.slice xs[i].a xs[i].len xs[i].cap) := by
  rcases h.has with h1 | ⟨b, o, ha, hr⟩
  · simp at h1; subst h1; simp at hi
  · exact ⟨b, o, ha, hr i _ (by simp [hi, Pc.v])⟩
theorem Slcs.keep {w w' : World} {a : Option Addr} {xs : List Pc} (h : Slcs w a xs) (hk : Keep [] w w') : Slcs w' a xs :=
  ⟨h.has.keep hk (Off.nil _), fun p hp => ⟨(h.each p hp).1, (h.each p hp).2.keep hk (Off.nil _)⟩⟩

theorem slices_Concat_byte {a : Option Addr} {len cap : Nat} {w : World} {R : Ending → World → Prop} (xs : List Pc) (hl : xs.length = len) (h : Slcs w a xs) (hb : (flat xs).length ≤ 1000000000) (hlen : len ≤ 1000000000)
    (hR : ∀ w' a' cap' fp, Keep [] w w' → Own w' T_uint8 1 a' (flat xs).length cap' ((flat xs).map B) fp → (∀ b ∈ fp, w.heap.size ≤ b) → R (.returned (.slice a' (flat xs).length cap')) w') :
    Calls P0 f_slices_Concat_byte #[.slice a len cap] w R := by
  refine C_slices_Concat_byte ?_
  refine ⟨fun n x w' => w = w' ∧ 0 ≤ x ∧ x ≤ len ∧ n = (flat (xs.take x.toNat)).length, fun _ x _ => (len - x).toNat, ⟨rfl, by omega, by omega, by simp [flat]⟩, ?_⟩
  rintro n x w' ⟨rfl, h0, h1, rfl⟩
  obtain ⟨i, rfl⟩ := Int.eq_ofNat_of_zero_le h0
  constructor
  · intro hlt
    have hlt : i < xs.length := by rw [hl]; simpa using hlt
    obtain ⟨b, o, ha, hc⟩ := h.at hlt
    refine ⟨b, o, ha, by omega, by omega, _, _, _, by simpa using hc, ?_⟩
    have h2 := flat_take_le xs (i + 1)
    have h3 := flat_take_succ hlt
    have h4 := (h.each xs[i] (by simp)).1
    have h5 : (flat (xs.take (i + 1))).length = (flat (xs.take i)).length + xs[i].len := by rw [h3, List.length_append, h4]
    intro m hm
    rw [Int.toNat_natCast, wrap64 (by omega) (by omega)] at hm
    subst hm
    refine ⟨fun hneg => ?_, fun _ k hk => ?_⟩
    · have := of_decide_eq_true hneg; omega
    · rw [wrap64 (by omega) (by omega)] at hk
      subst hk
      have e : ((i : Int) + 1).toNat = i + 1 := by omega
      exact ⟨⟨rfl, by omega, by omega, by rw [e, h5]; omega⟩, by dsimp only; omega⟩
  · intro hge
    have hge : len ≤ i := by simpa using hge
    have hi : len = i := by omega
    subst hi
    have ht : xs.take len = xs := List.take_of_length_le (by omega)
    rw [Int.toNat_natCast, ht]
    refine slices_Grow_byte _ (by omega) fun w1 a1 cap1 fp1 hk1 ho1 hf1 => ⟨_, _, _, rfl, ?_⟩
    refine ⟨fun s x w' => 0 ≤ x ∧ x ≤ len ∧ Keep [] w w' ∧ s.len = (flat (xs.take x.toNat)).length ∧ ∃ fp, Own w' T_uint8 1 s.a s.len s.cap ((flat (xs.take x.toNat)).map B) fp ∧ ∀ b ∈ fp, w.heap.size ≤ b,
      fun _ x _ => (len - x).toNat, ⟨by omega, by omega, hk1, by simp [flat], fp1, by simpa [flat] using ho1, hf1⟩, ?_⟩
    rintro ⟨sa, sl, sc⟩ x w2 ⟨g0, g1, hk2, hsl, fp2, ho2, hf2⟩
    obtain ⟨i, rfl⟩ := Int.eq_ofNat_of_zero_le g0
    simp only at hsl ho2
    rw [Int.toNat_natCast] at hsl ho2
    constructor
    · intro hlt
      have hlt : i < xs.length := by rw [hl]; simpa using hlt
      have hs2 := h.keep hk2
      obtain ⟨b, o, ha, hc⟩ := hs2.at hlt
      refine ⟨b, o, ha, by omega, by omega, _, _, _, by simpa using hc, ?_⟩
      have h2 := flat_take_le xs (i + 1)
      have h3 := flat_take_succ hlt
      obtain ⟨h4, h6⟩ := hs2.each xs[i] (by simp)
      have h5 : (flat (xs.take (i + 1))).length = (flat (xs.take i)).length + xs[i].len := by rw [h3, List.length_append, h4]
      obtain ⟨a', cap', w3, fp3, hr, ho3, hk3, hf3, _⟩ := own_append E8 (ty := T_slice_uint8) (xc := xs[i].cap) ho2 (news := xs[i].l.map B) (n := xs[i].len) (by simp [h4]) h6 (mapB_one _) (by omega)
      refine ⟨_, _, _, w3, hr, fun k hk => ?_⟩
      rw [wrap64 (by omega) (by omega)] at hk
      subst hk
      have e : ((i : Int) + 1).toNat = i + 1 := by omega
      refine ⟨⟨by omega, by omega, hk2.trans hk3 (fun b hb => .inr (hf2 b hb)), ?_, fp3, ?_, ?_⟩, by dsimp only; omega⟩
      · simp only [e, h5, hsl]
      · simp only [e, h3, List.map_append]; exact ho3
      · intro b hb
        rcases hf3 b hb with hb | hb
        · exact hf2 b hb
        · exact Nat.le_trans hk2.1 hb
    · intro hge
      have hge : len ≤ i := by simpa using hge
      have hi : len = i := by omega
      subst hi
      rw [ht] at hsl ho2
      subst hsl
      exact hR w2 sa sc fp2 hk2 ho2 hf2
end Go.Proofs
