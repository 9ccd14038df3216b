/- Contracts: parts. -/
import Derived.Test.YtbkcpddedpmenaaCc
set_option maxRecDepth 100000
namespace Go.Proofs
open Go Go.Vc

/-- A block of a record. -/
structure Part where
  place : Int
  no : Int
  index : Int
  era : Int
  parts : Int
  data : List UInt8

def inB (n lo hi : Int) : Bool := decide (n ≥ lo) && decide (n ≤ hi)
def mayB (p : Part) : Bool :=
  inB p.place 0 1099511627776 && (inB p.no 1 1099511627776 && (inB p.era 1 4294967295 && (inB p.parts 1 64 && (inB p.index 0 (p.parts - 1) &&
    (((p.data.length : Int) == 198) || (p.index == p.parts - 1) && inB p.data.length 1 198)))))
/-- A part as its six cells, its data in such a slice. -/
structure PB where
  p : Part
  a : Option Addr
  cap : Nat
def PB.cells (x : PB) : List Value := [.int .i64 x.p.place, .int .i64 x.p.no, .int .i64 x.p.index, .int .i64 x.p.era, .int .i64 x.p.parts, .slice x.a x.p.data.length x.cap]

theorem inB_eq {n lo hi : Int} : inB n lo hi = true ↔ lo ≤ n ∧ n ≤ hi := by simp [inB]

theorem seg_may_lit1 {w : World} {R : Ending → World → Prop} (n lo hi : Int) (hR : R (.returned (.bool (inB n lo hi))) w) : Calls P0 f_seg_may_lit1 #[.int .i64 n, .int .i64 lo, .int .i64 hi] w R := by
  refine C_seg_may_lit1 ⟨fun h => ?_, fun h => ?_⟩
  · rw [inB, h] at hR; exact hR
  · rw [inB, h] at hR; exact hR

theorem seg_may {w : World} {R : Ending → World → Prop} (x : PB) (hR : ∀ w', Keep [] w w' → R (.returned (.bool (mayB x.p))) w') :
    Calls P0 f_seg_may #[.agg #[.int .i64 x.p.place, .int .i64 x.p.no, .int .i64 x.p.index, .int .i64 x.p.era, .int .i64 x.p.parts, .slice x.a x.p.data.length x.cap]] w R := by
  refine C_seg_may ?_
  intro w7 hw7
  have hb : Blk w7 w.heap.size x.cells T_api_Part := by subst hw7; exact Blk.alloc_new w _ _
  have hk : Keep [] w w7 := by subst hw7; exact Keep.alloc _ _
  clear hw7
  have no : ∀ b, mayB x.p = b → R (.returned (.bool b)) w7 := fun b e => e ▸ hR w7 hk
  refine ⟨_, hb.cell rfl, seg_may_lit1 _ _ _ ⟨_, rfl, fun h => ?_, fun h => ?_⟩⟩
  · exact no _ (by simp at h; simp [mayB, h])
  have h1 : inB x.p.place 0 1099511627776 = true := by simpa using h
  refine ⟨_, hb.cell rfl, seg_may_lit1 _ _ _ ⟨_, rfl, fun h => ?_, fun h => ?_⟩⟩
  · exact no _ (by simp at h; simp [mayB, h])
  have h2 : inB x.p.no 1 1099511627776 = true := by simpa using h
  refine ⟨_, hb.cell rfl, seg_may_lit1 _ _ _ ⟨_, rfl, fun h => ?_, fun h => ?_⟩⟩
  · exact no _ (by simp at h; simp [mayB, h])
  have h3 : inB x.p.era 1 4294967295 = true := by simpa using h
  refine ⟨_, hb.cell rfl, seg_may_lit1 _ _ _ ⟨_, rfl, fun h => ?_, fun h => ?_⟩⟩
  · exact no _ (by simp at h; simp [mayB, h])
  have h4 : inB x.p.parts 1 64 = true := by simpa using h
  have h4' := inB_eq.1 h4
  refine ⟨_, hb.cell rfl, _, hb.cell rfl, fun n hn => seg_may_lit1 _ _ _ ⟨_, rfl, fun h => ?_, fun h => ?_⟩⟩
  · rw [wrap64 (by omega) (by omega)] at hn; subst hn
    exact no _ (by simp at h; simp [mayB, h])
  rw [wrap64 (by omega) (by omega)] at hn; subst hn
  have h5 : inB x.p.index 0 (x.p.parts - 1) = true := by simpa using h
  refine ⟨_, _, _, hb.cell rfl, fun h => ?_, fun h => ?_⟩
  · exact no _ (by simp only [mayB, h1, h2, h3, h4, h5, h]; rfl)
  have h6 : ((x.p.data.length : Int) == 198) = false := h
  refine ⟨_, hb.cell rfl, _, hb.cell rfl, fun n hn => ?_⟩
  rw [wrap64 (by omega) (by omega)] at hn; subst hn
  refine ⟨fun h => ⟨_, _, _, hb.cell rfl, seg_may_lit1 _ _ _ ⟨_, rfl, ?_⟩⟩, fun h => ?_⟩
  · exact no _ (by simp only [mayB, h1, h2, h3, h4, h5, h6, h]; simp)
  · exact no _ (by simp only [mayB, h1, h2, h3, h4, h5, h6, h]; rfl)

theorem has_cut {w : World} {a : Option Addr} {l : List UInt8} {lo hi m : Nat} (h : HasB w a l) (h1 : lo ≤ hi) (h2 : hi ≤ m) : HasB w (cutBase a lo m 1) ((l.drop lo).take (hi - lo)) := by
  unfold cutBase
  split
  · rename_i e
    have : hi - lo = 0 := by omega
    rw [this]
    exact .inl rfl
  · rcases h with h | ⟨b, o, rfl, h⟩
    · have : l = [] := by simpa using h
      subst this
      exact .inl (by simp)
    · refine .inr ⟨b, o + lo, by simp [add_mk], fun j v hj => ?_⟩
      rw [List.getElem?_map, List.getElem?_take] at hj
      split at hj
      · rw [List.getElem?_drop] at hj
        have := h (lo + j) v (by rw [List.getElem?_map]; exact hj)
        rwa [Nat.add_assoc]
      · simp at hj
theorem has_drop {w : World} {a : Option Addr} {l : List UInt8} {lo m : Nat} (h : HasB w a l) (h2 : l.length ≤ m) (h1 : lo ≤ l.length) : HasB w (cutBase a lo m 1) (l.drop lo) := by
  have := has_cut (hi := l.length) h h1 h2
  rwa [List.take_of_length_le (by simp)] at this

/-- How many blocks so many bytes are. -/
def manyOf (n : Nat) : Nat := (n + 197) / 198
def partsOf (no place era : Int) (b : List UInt8) : List Part :=
  (List.range (manyOf b.length)).map fun (i : Nat) => { place := place + i, no := no, index := i, era := era, parts := manyOf b.length, data := (b.drop (198 * i)).take 198 }
/-- Which error Parts answers. -/
def partsErr (no place era : Int) (n : Nat) : Int :=
  if 12672 < n then 2 else
  if manyOf n = 0 ∨ place < 0 ∨ 1099511627776 - (manyOf n : Int) + 1 < place ∨ mayB { place := 0, no := no, index := 0, era := era, parts := 1, data := [0] } = false then 1 else 0

def Lt (w : World) (a : Option Addr) : Prop := ∀ q, a = some q → q.block < w.heap.size
theorem cutBase_lt {w : World} {a : Option Addr} {l m sz : Nat} (h : Lt w a) : Lt w (cutBase a l m sz) := by
  intro q hq
  unfold cutBase at hq
  split at hq
  · exact h q hq
  · cases a with
    | none => cases hq
    | some x =>
      simp only [Option.map_some, Option.some.injEq] at hq
      subst hq
      have := h x rfl
      unfold Addr.add
      split <;> exact this
/-- What sort of block a slice stands in. -/
def TyA (w : World) (a : Option Addr) (T : TypeId) : Prop := ∀ q, a = some q → ∃ c, Blk w q.block c T
theorem TyA.keep {w w' : World} {a : Option Addr} {T : TypeId} {M : List Nat} (h : TyA w a T) (hk : Keep M w w') (ho : Off a M) : TyA w' a T := fun q hq => by
  obtain ⟨c, hc⟩ := h q hq
  exact ⟨c, hk.blk hc (ho q hq)⟩
theorem Own.tyA {w : World} {e : TypeId} {sz len cap : Nat} {a : Option Addr} {vs : List Value} {fp : List Nat} (h : Own w e sz a len cap vs fp) : TyA w a e := by
  intro q hq
  rcases h with ⟨rfl, _⟩ | ⟨b, c, rfl, rfl, hb, _⟩
  · cases hq
  · injection hq with hq; subst hq; exact ⟨c, hb⟩
/-- A part's data is at hand, in a block that is newer than w0. -/
structure DataAt (w0 w : World) (x : PB) : Prop where
  has : HasB w x.a x.p.data
  new : New w0 x.a
  lt : Lt w x.a
  ty : TyA w x.a T_uint8
theorem Own.ltA {w : World} {e : TypeId} {sz len cap : Nat} {a : Option Addr} {vs : List Value} {fp : List Nat} (h : Own w e sz a len cap vs fp) : Lt w a := by
  intro q hq
  rcases h with ⟨rfl, _⟩ | ⟨b, c, rfl, rfl, hb, _⟩
  · cases hq
  · injection hq with hq; subst hq; exact hb.lt
theorem DataAt.keep {w0 w w' : World} {x : PB} {M : List Nat} (h : DataAt w0 w x) (hk : Keep M w w') (ho : Off x.a M) : DataAt w0 w' x :=
  ⟨h.has.keep hk ho, h.new, fun q hq => Nat.lt_of_lt_of_le (h.lt q hq) hk.1, h.ty.keep hk ho⟩

theorem EP : ElemTy P0 T_slice_api_Part T_api_Part 6 64 [.int .i64 0, .int .i64 0, .int .i64 0, .int .i64 0, .int .i64 0, .slice none 0 0] :=
  .of (by kernel_rfl) (by kernel_rfl) (by kernel_rfl) (by kernel_rfl) rfl (by decide) (by decide)

theorem cells_one (x : PB) : ∀ v ∈ x.cells, v.oneCell' = true := by
  intro v hv; simp [PB.cells] at hv; rcases hv with rfl | rfl | rfl | rfl | rfl | rfl <;> rfl

theorem seg_Parts {no place era : Int} {a : Option Addr} {len cap : Nat} {w : World} {R : Ending → World → Prop} (b : List UInt8) (hl : b.length = len) (hc : len ≤ cap) (h : HasB w a b) (hlt0 : Lt w a)
    (hp : -1000000000000000 ≤ place) (hpp : place ≤ 1000000000000000) (hll : len ≤ 140737488355328)
    (hbad : ∀ w', Keep [] w w' → partsErr no place era b.length ≠ 0 → R (.returned (.tuple #[.slice none 0 0, .int .i64 (partsErr no place era b.length)])) w')
    (hgood : ∀ (w' : World) (a' : Option Addr) (cap' : Nat) (fp : List Nat) (xs : List PB), Keep [] w w' → partsErr no place era b.length = 0 → xs.map PB.p = partsOf no place era b → Own w' T_api_Part 6 a' xs.length cap' (xs.flatMap PB.cells) fp →
      (∀ x ∈ fp, w.heap.size ≤ x) → (∀ x ∈ xs, DataAt w w' x ∧ Off x.a fp) → R (.returned (.tuple #[.slice a' xs.length cap', .int .i64 0])) w') :
    Calls P0 f_seg_Parts #[.int .i64 no, .int .i64 place, .int .i64 era, .slice a len cap] w R := by
  subst hl
  refine C_seg_Parts ⟨fun hlong => ?_, fun hlong => ?_⟩
  · have hlong : 12672 < b.length := by have := of_decide_eq_true hlong; omega
    have e : partsErr no place era b.length = 2 := by unfold partsErr; rw [if_pos hlong]
    have := hbad w (Keep.refl _ _) (by rw [e]; decide)
    rwa [e] at this
  have hlong : b.length ≤ 12672 := by have := of_decide_eq_false hlong; omega
  intro n5 h5 n6 h6
  rw [wrap64 (by omega) (by omega)] at h5
  rw [wrap64 (by omega) (by omega)] at h6
  refine ⟨by decide, fun n7 h7 => ?_⟩
  have e7 : n7 = (manyOf b.length : Nat) := by
    rw [h7, h6, h5]
    have : ((b.length : Int) + 198 - 1) = ((b.length + 197 : Nat) : Int) := by omega
    rw [this]
    have h : Int.tdiv ((b.length + 197 : Nat) : Int) 198 = (((b.length + 197) / 198 : Nat) : Int) := by
      rw [Int.tdiv_eq_ediv_of_nonneg (by omega)]; rfl
    rw [h]
    have h3 : (b.length + 197) / 198 ≤ 64 := by omega
    exact wrap64 (by omega) (by omega)
  have hm : manyOf b.length ≤ 64 := by unfold manyOf; omega
  clear h7 h6 h5
  subst e7
  have bad1 : (manyOf b.length = 0 ∨ place < 0 ∨ 1099511627776 - (manyOf b.length : Int) + 1 < place ∨ mayB { place := 0, no := no, index := 0, era := era, parts := 1, data := [0] } = false) →
      ∀ w', Keep [] w w' → R (.returned (.tuple #[.slice none 0 0, .int .i64 1])) w' := fun hx w' hk => by
    have e : partsErr no place era b.length = 1 := by unfold partsErr; rw [if_neg (by omega), if_pos hx]
    have := hbad w' hk (by rw [e]; decide)
    rwa [e] at this
  refine ⟨fun hz => ?_, fun hz => ⟨fun hneg => ?_, fun hneg => ?_⟩⟩
  · exact bad1 (.inl (by have := eq_of_beq hz; omega)) w (Keep.refl _ _)
  · exact bad1 (.inr (.inl (of_decide_eq_true hneg))) w (Keep.refl _ _)
  have hz : manyOf b.length ≠ 0 := by have := ne_of_beq_false hz; omega
  have hneg : 0 ≤ place := by have := of_decide_eq_false hneg; omega
  intro n8 h8 n9 h9
  rw [wrap64 (by omega) (by omega)] at h8
  subst h8
  rw [wrap64 (by omega) (by omega)] at h9
  subst h9
  refine ⟨fun hbig => ?_, fun hbig w10 hw10 => ?_⟩
  · exact bad1 (.inr (.inr (.inl (by have := of_decide_eq_true hbig; omega)))) w (Keep.refl _ _)
  have hbig : place ≤ 1099511627776 - (manyOf b.length : Int) + 1 := by have := of_decide_eq_false hbig; omega
  have k10 : Keep [] w w10 := by subst hw10; exact Keep.alloc _ _
  clear hw10
  refine seg_may ⟨⟨0, no, 0, era, 1, [0]⟩, some ⟨w.heap.size, 0, none⟩, 1⟩ fun w12 k12 => ⟨_, rfl, fun hno => ?_, fun hno => ?_⟩
  · exact bad1 (.inr (.inr (.inr (by simpa using hno)))) w12 (k10.trans k12 (by simp))
  have hyes : mayB { place := 0, no := no, index := 0, era := era, parts := 1, data := [0] } = true := by simpa using hno
  have good0 : partsErr no place era b.length = 0 := by
    unfold partsErr; rw [if_neg (by omega), if_neg (by simp [hyes]; omega)]
  have kk : Keep [] w w12 := k10.trans k12 (by simp)
  clear k10 k12 bad1 hbad
  refine ⟨fun s o i w' => 0 ≤ i ∧ i ≤ manyOf b.length ∧ Keep [] w w' ∧ s.len = b.length - 198 * i.toNat ∧ s.len ≤ s.cap ∧ Lt w s.a ∧ HasB w' s.a (b.drop (198 * i.toNat)) ∧
      ∃ (fp : List Nat) (xs : List PB), xs.map PB.p = (partsOf no place era b).take i.toNat ∧ o.len = xs.length ∧ Own w' T_api_Part 6 o.a xs.length o.cap (xs.flatMap PB.cells) fp ∧ (∀ x ∈ fp, w.heap.size ≤ x) ∧
        (∀ x ∈ xs, DataAt w w' x ∧ Off x.a fp),
    fun _ _ i _ => (manyOf b.length - i).toNat, ⟨by omega, by omega, kk, by simp, hc, hlt0, by simpa using h.keep kk (Off.nil _), [], [], by simp, rfl, .inl ⟨rfl, rfl, rfl, rfl, rfl⟩, by simp, by simp⟩, ?_⟩
  rintro s o i w19 ⟨h0, h1, hk, hsl, hsc, hslt, hs, fp, xs, hxs, hol, ho, hfp, hnew⟩
  obtain ⟨i, rfl⟩ := Int.eq_ofNat_of_zero_le h0
  rw [Int.toNat_natCast] at hsl hs hxs
  constructor
  · intro hlt
    have hlt : i < manyOf b.length := by have := of_decide_eq_true hlt; omega
    have hi198 : 198 * i < b.length := by unfold manyOf at hlt; omega
    intro n20 h20
    rw [wrap64 (by omega) (by omega)] at h20
    subst h20
    have hmin : ∃ k : Nat, (if ((s.len : Nat) : Int) < (198 : Int) then ((s.len : Nat) : Int) else (198 : Int)) = (k : Int) ∧ k = min s.len 198 := by
      by_cases hx : s.len < 198
      · exact ⟨s.len, by rw [if_pos (by omega)], by omega⟩
      · exact ⟨198, by rw [if_neg (by omega)]; rfl, by omega⟩
    obtain ⟨k, hk1, hk2⟩ := hmin
    rw [hk1, Int.toNat_natCast]
    refine ⟨by omega, by omega, by omega, ?_⟩
    have hpiece : HasB w19 (cutBase s.a 0 k 1) ((b.drop (198 * i)).take 198) := by
      have := has_cut (lo := 0) (hi := k) (m := k) hs (by omega) (by omega)
      rw [List.drop_zero] at this
      have e : (b.drop (198 * i)).take (k - 0) = (b.drop (198 * i)).take 198 := by
        by_cases hx : s.len < 198
        · rw [List.take_of_length_le (by simp; omega), List.take_of_length_le (by simp; omega)]
        · have : k - 0 = 198 := by omega
          rw [this]
      rwa [e] at this
    have hplen : ((b.drop (198 * i)).take 198).length = k := by simp; omega
    refine slices_Clone_byte ((b.drop (198 * i)).take 198) (by rw [hplen]; omega) hpiece (by omega) fun w22 a' cap' fp2 hk22 ho22 hf22 _ => ⟨_, _, _, rfl, ?_⟩
    have hb22 := ho22.has
    have hn22 : New w19 a' := Own.new ho22 hf22
    intro w24 hw24
    have hk24 : Keep [] w22 w24 := by subst hw24; exact Keep.alloc _ _
    let x : PB := ⟨⟨place + i, no, i, era, manyOf b.length, (b.drop (198 * i)).take 198⟩, a', cap'⟩
    have hblk24 : Blk w24 w22.heap.size x.cells T_api_Part := by
      subst hw24
      have := Blk.alloc_new w22 x.cells T_api_Part
      simpa [PB.cells, x, hplen] using this
    have hhas24 : Has w24 (some ⟨w22.heap.size, 0, none⟩) x.cells := .inr ⟨_, 0, rfl, by have := Rdb.of_blk hblk24 0 6; simpa [PB.cells] using this⟩
    have k19_24 : Keep [] w19 w24 := hk22.trans hk24 (by simp)
    have ho24 := ho.keep k19_24 (by simp)
    have hxlen : xs.length = i := by
      have := congrArg List.length hxs
      simp [partsOf] at this; omega
    obtain ⟨a3, cap3, w26, fp3, hr, ho3, hk3, hf3, _⟩ := own_append EP (ty := T_slice_api_Part) (xc := 1) ho24 (news := x.cells) (n := 1) rfl hhas24 (cells_one x) (by omega)
    rw [← hol] at hr
    refine ⟨_, _, _, w26, hr, by omega, by omega, fun n27 h27 => ?_⟩
    rw [wrap64 (by omega) (by omega)] at h27
    subst h27
    have hx19 : DataAt w w24 x := ⟨hb22.keep hk24 (Off.nil _), fun q hq => Nat.le_trans hk.1 (hn22 q hq), fun q hq => Nat.lt_of_lt_of_le (Own.ltA ho22 q hq) hk24.1, (Own.tyA ho22).keep hk24 (Off.nil _)⟩
    have hxoff : Off x.a fp := fun q hq hm => by
      have h1 := hn22 q hq
      have h2 := ho.lt _ hm
      omega
    have hcutlt : Lt w (cutBase s.a k s.cap 1) := cutBase_lt hslt
    have hall : ∀ y ∈ xs ++ [x], DataAt w w24 y ∧ Off y.a fp := by
      intro y hy
      rcases List.mem_append.1 hy with hy | hy
      · exact ⟨(hnew y hy).1.keep k19_24 (Off.nil _), (hnew y hy).2⟩
      · simp at hy; subst hy; exact ⟨hx19, hxoff⟩
    refine ⟨⟨by omega, by omega, ?_, ?_, ?_, hcutlt, ?_, fp3, xs ++ [x], ?_, ?_, ?_, ?_, ?_⟩, by dsimp only; omega⟩
    · exact (hk.trans k19_24 (by simp)).trans hk3 (fun q hq => .inr (hfp q hq))
    · simp only; rw [show ((i : Int) + 1).toNat = i + 1 by omega]; omega
    · simp only; omega
    · rw [show ((i : Int) + 1).toNat = i + 1 by omega]
      have hd := has_drop (lo := k) (m := s.cap) hs (by simp; omega) (by simp; omega)
      have e : (b.drop (198 * i)).drop k = b.drop (198 * (i + 1)) := by
        rw [List.drop_drop]
        by_cases hx : s.len < 198
        · rw [List.drop_of_length_le (by omega), List.drop_of_length_le (by omega)]
        · congr 1; omega
      rw [e] at hd
      have h1 := hd.keep k19_24 (Off.nil _)
      exact h1.keep hk3 fun q hq hm => by
        have h2 := hcutlt q hq
        have h3 := hfp _ hm
        omega
    · rw [show ((i : Int) + 1).toNat = i + 1 by omega, List.map_append, hxs, List.take_succ_eq_append_getElem (by simp [partsOf]; exact hlt)]
      simp [partsOf, x]
    · simp [hol]
    · simpa using ho3
    · intro q hq
      rcases hf3 q hq with hq | hq
      · exact hfp q hq
      · exact Nat.le_trans (Nat.le_trans hk.1 k19_24.1) hq
    · intro y hy
      obtain ⟨h1, h2⟩ := hall y hy
      refine ⟨h1.keep hk3 h2, fun q hq hm => ?_⟩
      rcases hf3 _ hm with hm | hm
      · exact h2 q hq hm
      · have := h1.lt q hq; omega
  · intro hge
    have hge : manyOf b.length ≤ i := by have := of_decide_eq_false hge; omega
    have : i = manyOf b.length := by omega
    subst this
    have hfull : (partsOf no place era b).take (manyOf b.length) = partsOf no place era b := List.take_of_length_le (by simp [partsOf])
    rw [hfull] at hxs
    rw [hol]
    exact hgood w19 o.a o.cap fp xs hk good0 hxs ho hfp hnew

/-- Is this the i-th of so many parts of one record? -/
def joinAt (n : Nat) (p0 : Part) (i : Nat) (p : Part) : Bool :=
  mayB p && ((p.index == (i : Int)) && ((p.parts == (n : Int)) && ((p.no == p0.no) && ((p.era == p0.era) && (p.place == p0.place + i)))))
def joinOk (ps : List Part) : Bool :=
  match ps with
  | [] => false
  | p0 :: _ => (List.range ps.length).all fun i => match ps[i]? with | some p => joinAt ps.length p0 i p | none => true

theorem joinOk_false {ps : List Part} {i : Nat} {p p0 : Part} (h0 : ps[0]? = some p0) (hi : ps[i]? = some p) (h : joinAt ps.length p0 i p = false) : joinOk ps = false := by
  unfold joinOk
  cases ps with
  | nil => rfl
  | cons q ps =>
    simp at h0; subst h0
    have hlt := (List.getElem?_eq_some_iff.1 hi).1
    rw [List.all_eq_false]
    exact ⟨i, by simpa using hlt, by simp only [hi, h]; decide⟩

theorem cells_len (xs : List PB) : (xs.flatMap PB.cells).length = xs.length * 6 := by
  induction xs with
  | nil => rfl
  | cons y ys ih => simp [List.flatMap_cons, ih, PB.cells]; omega
theorem cells_at : ∀ (xs : List PB) (i : Nat) (hi : i < xs.length) (k : Nat) (v : Value), xs[i].cells[k]? = some v → (xs.flatMap PB.cells)[i * 6 + k]? = some v
  | [], i, hi, _, _, _ => by simp at hi
  | y :: ys, i, hi, k, v, hv => by
    have hk : k < 6 := (List.getElem?_eq_some_iff.1 hv).1
    cases i with
    | zero => simp only [List.flatMap_cons]; rw [List.getElem?_append_left (by simp [PB.cells]; omega)]; simpa using hv
    | succ i =>
      simp only [List.flatMap_cons]
      rw [List.getElem?_append_right (by simp [PB.cells]; omega)]
      have e : (i + 1) * 6 + k - y.cells.length = i * 6 + k := by simp [PB.cells]; omega
      rw [e]
      exact cells_at ys i (by simpa using hi) k v (by simpa using hv)
theorem data_len {xs : List PB} {p0 : Part} : ∀ (i : Nat), i ≤ xs.length → (∀ (j : Nat) (_ : j < i) (hx : j < xs.length), joinAt xs.length p0 j xs[j].p = true) → ((xs.take i).flatMap fun x => x.p.data).length ≤ 198 * i
  | 0, _, _ => by simp
  | i + 1, hlt, hall => by
    have hlt' : i < xs.length := by omega
    rw [List.take_succ_eq_append_getElem hlt', List.flatMap_append, List.length_append]
    have h1 := data_len i (by omega) (fun j hj => hall j (by omega))
    have h2 := hall i (by omega) hlt'
    have h3 : xs[i].p.data.length ≤ 198 := by
      simp only [joinAt, mayB, Bool.and_eq_true, Bool.or_eq_true] at h2
      rcases h2.1.2.2.2.2.2 with hx | hx
      · have := eq_of_beq hx; omega
      · have := (inB_eq.1 hx.2).2; omega
    have e : ([xs[i]].flatMap fun x => x.p.data) = xs[i].p.data := by simp
    rw [e]; omega

theorem seg_Join {a : Option Addr} {len cap : Nat} {w : World} {R : Ending → World → Prop} (xs : List PB) (hl : xs.length = len) (h : Has w a (xs.flatMap PB.cells)) (hd : ∀ x ∈ xs, HasB w x.a x.p.data) (hlen : len ≤ 1000000000)
    (hbad : ∀ w', Keep [] w w' → joinOk (xs.map PB.p) = false → R (.returned (.tuple #[.slice none 0 0, .int .i64 71])) w')
    (hgood : ∀ w' a' cap' fp, Keep [] w w' → joinOk (xs.map PB.p) = true → Own w' T_uint8 1 a' (xs.flatMap fun x => x.p.data).length cap' ((xs.flatMap fun x => x.p.data).map B) fp → (∀ q ∈ fp, w.heap.size ≤ q) →
      R (.returned (.tuple #[.slice a' (xs.flatMap fun x => x.p.data).length cap', .int .i64 0])) w') :
    Calls P0 f_seg_Join #[.slice a len cap] w R := by
  subst hl
  have hat : ∀ (i : Nat) (hi : i < xs.length) (k : Nat) (v : Value), xs[i].cells[k]? = some v → ∃ b o, a = some ⟨b, o, none⟩ ∧ w.cell? ⟨b, o + i * 6 + k, none⟩ = some v := by
    intro i hi k v hv
    have hk : k < 6 := (List.getElem?_eq_some_iff.1 hv).1
    rcases h with h | ⟨b, o, ha, hr⟩
    · have : (xs.flatMap PB.cells).length = 0 := by rw [h]; rfl
      have h2 : (xs.flatMap PB.cells).length = xs.length * 6 := by
        exact cells_len xs
      omega
    · refine ⟨b, o, ha, ?_⟩
      have := hr (i * 6 + k) v (cells_at xs i hi k v hv)
      rwa [Nat.add_assoc]
  refine C_seg_Join ?_
  refine ⟨fun s i w' => 0 ≤ i ∧ i ≤ xs.length ∧ Keep [] w w' ∧ s.len = ((xs.take i.toNat).flatMap fun x => x.p.data).length ∧
      (∀ (j : Nat) (hj : j < i.toNat) (hx : j < xs.length), joinAt xs.length (xs[0]'(by omega)).p j xs[j].p = true) ∧
      ∃ fp, Own w' T_uint8 1 s.a s.len s.cap (((xs.take i.toNat).flatMap fun x => x.p.data).map B) fp ∧ ∀ q ∈ fp, w.heap.size ≤ q,
    fun _ i _ => (xs.length - i).toNat, ⟨by omega, by omega, Keep.refl _ _, by simp, fun j hj => by simp at hj, [], .inl ⟨rfl, rfl, rfl, rfl, rfl⟩, by simp⟩, ?_⟩
  rintro s i w6 ⟨h0, h1, hk, hsl, hall, fp, ho, hfp⟩
  obtain ⟨i, rfl⟩ := Int.eq_ofNat_of_zero_le h0
  simp only [Int.toNat_natCast] at hsl hall ho ⊢
  constructor
  · intro hlt
    have hlt : i < xs.length := by have := of_decide_eq_true hlt; omega
    obtain ⟨b, o, ha, hc0⟩ := hat i hlt 0 _ rfl
    have hcell : ∀ (j : Nat) (hj : j < xs.length) (k : Nat) (v : Value), xs[j].cells[k]? = some v → w.cell? ⟨b, o + j * 6 + k, none⟩ = some v := by
      intro j hj k v hv
      obtain ⟨b', o', ha', hc⟩ := hat j hj k v hv
      rw [ha] at ha'; injection ha' with ha'; injection ha' with e1 e2; subst e1; subst e2; exact hc
    have hk0 : ∀ {w' : World}, Keep [] w w' → ∀ (j : Nat) (hj : j < xs.length) (k : Nat) (v : Value), xs[j].cells[k]? = some v → w'.cell? ⟨b, o + j * 6 + k, none⟩ = some v :=
      fun hk j hj k v hv => hk.cell (hcell j hj k v hv) (by simp)
    have R6 := hk0 hk i hlt
    refine ⟨b, o, ha, by omega, by omega, _, R6 0 _ rfl, _, R6 1 _ rfl, _, R6 2 _ rfl, _, R6 3 _ rfl, _, R6 4 _ rfl, _, _, _, R6 5 _ rfl, ?_⟩
    refine al fun w21 b21 k21 s21 => ?_
    refine st b21 (by simp) fun w22 b22 k22 s22 => ?_
    refine st b22 (by simp) fun w23 b23 k23 s23 => ?_
    refine st b23 (by simp) fun w24 b24 k24 s24 => ?_
    refine st b24 (by simp) fun w25 b25 k25 s25 => ?_
    refine st b25 (by simp) fun w26 b26 k26 s26 => ?_
    refine st b26 (by simp) fun w27 b27 k27 s27 => ?_
    have bb : Blk w27 w6.heap.size xs[i].cells T_api_Part := b27
    have k27' : Keep [] w w27 := by
      have h6 := hk.1
      refine ((((((hk.trans k21 (by simp)).trans k22 ?_).trans k23 ?_).trans k24 ?_).trans k25 ?_).trans k26 ?_).trans k27 ?_ <;> simp [h6]
    have k6_27 : Keep [] w6 w27 := by
      refine (((((k21.trans k22 ?_).trans k23 ?_).trans k24 ?_).trans k25 ?_).trans k26 ?_).trans k27 ?_ <;> simp
    clear b21 b22 b23 b24 b25 b26 b27 k21 k22 k23 k24 k25 k26 s21 s22 s23 s24 s25 s26 s27
    refine ⟨_, bb.cell rfl, _, bb.cell rfl, _, bb.cell rfl, _, bb.cell rfl, _, bb.cell rfl, _, _, _, bb.cell rfl, ?_⟩
    refine seg_may xs[i] fun w41 k41 => ⟨_, rfl, ?_⟩
    have k41' : Keep [] w w41 := (k27'.then_drew).trans k41 (by simp)
    have k6_41 : Keep [] w6 w41 := (k6_27.then_drew).trans k41 (by simp)
    have b41 : Blk w41 w6.heap.size xs[i].cells T_api_Part := k41.blk (w := w27.drew) bb (by simp)
    have hps0 : (xs.map PB.p)[0]? = some (xs[0]'(by omega)).p := by simp [List.getElem?_map, show 0 < xs.length by omega]
    have hpsi : (xs.map PB.p)[i]? = some xs[i].p := by simp [List.getElem?_map, hlt]
    have bad : joinAt xs.length (xs[0]'(by omega)).p i xs[i].p = false → R (.returned (.tuple #[.slice none 0 0, .int .i64 71])) w41 := fun hx =>
      hbad w41 k41' (joinOk_false hps0 hpsi (by simpa using hx))
    refine ⟨fun hno => bad (by simp at hno; simp [joinAt, hno]), fun hno => ?_⟩
    have g1 : mayB xs[i].p = true := by simpa using hno
    refine ⟨_, b41.cell rfl, fun hno => bad (by simp at hno; simp [joinAt, hno]), fun hno => ?_⟩
    have g2 : (xs[i].p.index == (i : Int)) = true := by simpa using hno
    refine ⟨_, b41.cell rfl, fun hno => bad (by simp at hno; simp [joinAt, hno]), fun hno => ?_⟩
    have g3 : (xs[i].p.parts == (xs.length : Int)) = true := by simpa using hno
    have R0 := hk0 k41' 0 (by omega)
    refine ⟨_, b41.cell rfl, b, o, ha, by omega, by omega, _, R0 1 _ rfl, fun hno => bad (by simp at hno; simp [joinAt, hno]), fun hno => ?_⟩
    have g4 : (xs[i].p.no == (xs[0]'(by omega)).p.no) = true := by simpa using hno
    refine ⟨_, b41.cell rfl, b, o, ha, by omega, by omega, _, R0 3 _ rfl, fun hno => bad (by simp at hno; simp [joinAt, hno]), fun hno => ?_⟩
    have g5 : (xs[i].p.era == (xs[0]'(by omega)).p.era) = true := by simpa using hno
    refine ⟨_, b41.cell rfl, b, o, ha, by omega, by omega, _, R0 0 _ rfl, fun n57 h57 => ?_⟩
    have hm0 : mayB (xs[0]'(by omega)).p = true := by
      by_cases hi0 : i = 0
      · subst hi0; exact g1
      · have := hall 0 (by omega) (by omega)
        simp only [joinAt, Bool.and_eq_true] at this
        exact this.1
    have hpl : 0 ≤ (xs[0]'(by omega)).p.place ∧ (xs[0]'(by omega)).p.place ≤ 1099511627776 := by
      simp only [mayB, Bool.and_eq_true] at hm0
      exact inB_eq.1 hm0.1
    have hparts : xs[i].p.parts ≤ 64 ∧ (xs[i].p.data.length : Int) ≤ 198 := by
      simp only [mayB, Bool.and_eq_true, Bool.or_eq_true] at g1
      refine ⟨(inB_eq.1 g1.2.2.2.1).2, ?_⟩
      rcases g1.2.2.2.2.2 with hx | hx
      · have := eq_of_beq hx; omega
      · exact (inB_eq.1 hx.2).2
    have hlen64 : xs.length ≤ 64 := by have := eq_of_beq g3; omega
    rw [wrap64 (by omega) (by omega)] at h57
    subst h57
    refine ⟨fun hno => bad (by simp at hno; simp [joinAt, hno]), fun hno => ?_⟩
    have g6 : (xs[i].p.place == (xs[0]'(by omega)).p.place + (i : Int)) = true := by simpa using hno
    refine ⟨_, _, _, b41.cell rfl, ?_⟩
    have hall' : ∀ (j : Nat) (hj : j < i + 1) (hx : j < xs.length), joinAt xs.length (xs[0]'(by omega)).p j xs[j].p = true := by
      intro j hj hx
      by_cases hji : j = i
      · subst hji; simp only [joinAt, g1, g2, g3, g4, g5, g6]; rfl
      · exact hall j (by omega) hx
    have hbound := data_len (xs := xs) (p0 := (xs[0]'(by omega)).p) i (by omega) hall
    have ho41 := Own.keep ho k6_41 (by simp)
    obtain ⟨a', cap', w60, fp3, hr, ho3, hk3, hf3, _⟩ := own_append E8 (ty := T_slice_uint8) (xc := xs[i].cap) ho41 (news := xs[i].p.data.map B) (n := xs[i].p.data.length) (by simp)
      ((hd xs[i] (by simp)).keep k41' (Off.nil _)) (mapB_one _) (by omega)
    refine ⟨_, _, _, w60, hr, fun n61 h61 => ?_⟩
    rw [wrap64 (by omega) (by omega)] at h61
    subst h61
    have e : ((i : Int) + 1).toNat = i + 1 := by omega
    have e2 : ((xs.take (i + 1)).flatMap fun x => x.p.data) = ((xs.take i).flatMap fun x => x.p.data) ++ xs[i].p.data := by
      rw [List.take_succ_eq_append_getElem hlt, List.flatMap_append]; simp
    refine ⟨⟨by omega, by omega, k41'.trans hk3 (fun q hq => .inr (hfp q hq)), ?_, ?_, fp3, ?_, ?_⟩, by omega⟩
    · simp only [e, e2, List.length_append]; omega
    · simp only [e]; exact hall'
    · simp only [e, e2, List.map_append]; exact ho3
    · intro q hq
      rcases hf3 q hq with hq | hq
      · exact hfp q hq
      · exact Nat.le_trans k41'.1 hq
  · intro hge
    have hge : xs.length ≤ i := by have := of_decide_eq_false hge; omega
    have hi : xs.length = i := by omega
    subst hi
    rw [List.take_length] at hsl ho
    refine ⟨fun hz => ?_, fun hz => ?_⟩
    · have hz : xs.length = 0 := by have := eq_of_beq hz; omega
      have : xs = [] := List.length_eq_zero_iff.1 hz
      exact hbad w6 hk (by rw [this]; rfl)
    · have hz : xs.length ≠ 0 := by have := ne_of_beq_false hz; omega
      have hok : joinOk (xs.map PB.p) = true := by
        cases xs with
        | nil => simp at hz
        | cons y ys =>
          simp only [joinOk, List.map_cons, List.length_cons, List.length_map]
          rw [List.all_eq_true]
          intro j hj
          have hj : j < ys.length + 1 := by simpa using hj
          have h2 := hall j (by simpa using hj) (by simpa using hj)
          have h3 : (y.p :: ys.map PB.p)[j]? = some ((y :: ys)[j]'(by simpa using hj)).p := by
            rw [← List.map_cons, List.getElem?_map, List.getElem?_eq_getElem (by simpa using hj)]; rfl
          rw [h3]
          simpa using h2
      rw [hsl] at ho
      rw [hsl]
      exact hgood w6 s.a s.cap fp hk hok ho hfp
end Go.Proofs
