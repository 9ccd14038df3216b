/- Contracts: sums of bytes. -/
import Derived.Test.YtbkcpddedpmenaaCb
set_option maxRecDepth 100000
namespace Go.Proofs
open Go Go.Vc

def bxor (a b : Int) : Int := IntKind.wrap .u32 ((BitVec.ofInt (IntKind.bits .u32) a ^^^ BitVec.ofInt (IntKind.bits .u32) b).toNat : Int)
def band (a b : Int) : Int := IntKind.wrap .u32 ((BitVec.ofInt (IntKind.bits .u32) a &&& BitVec.ofInt (IntKind.bits .u32) b).toNat : Int)
def shrn (a n : Int) : Int := Int.fdiv a (2 ^ min (Int.toNat n) (IntKind.bits .u32))
def binv (a : Int) : Int := IntKind.wrap .u32 ((BitVec.ofInt (IntKind.bits .u32) (if IntKind.signed .u32 = true then -1 else IntKind.max .u32) ^^^ BitVec.ofInt (IntKind.bits .u32) a).toNat : Int)
def nibStep (x : Int) : Int := if band x 1 == 1 then bxor (shrn x 1) 2197175160 else shrn x 1
def nibN : Nat → Int → Int
  | 0, x => x
  | n + 1, x => nibStep (nibN n x)
def nib (i : Nat) : Int := nibN 4 (IntKind.wrap .u32 (i : Int))
def crcStep (x : Int) (c : UInt8) : Int :=
  let a := bxor x (IntKind.wrap .u32 (c.toNat : Int))
  let b := bxor (nib (band a 15).toNat) (shrn a 4)
  bxor (nib (band b 15).toNat) (shrn b 4)
def crcAdd (s : Int) (l : List UInt8) : Int := binv (l.foldl crcStep (binv s))
def crcOf (l : List UInt8) : Int := crcAdd 0 l
def nibs : List Value := (List.range 16).map fun i => .int .u32 (nib i)

theorem wrap32_range (n : Int) : 0 ≤ IntKind.wrap .u32 n ∧ IntKind.wrap .u32 n < 4294967296 := by
  unfold IntKind.wrap
  simp [IntKind.bits, IntKind.signed]
  omega
theorem crcOf_range (l : List UInt8) : 0 ≤ crcOf l ∧ crcOf l < 4294967296 := wrap32_range _
theorem band15 (a : Int) : 0 ≤ band a 15 ∧ band a 15 < 16 := by
  unfold band
  have h : (BitVec.ofInt (IntKind.bits .u32) a &&& BitVec.ofInt (IntKind.bits .u32) 15).toNat ≤ 15 := by
    rw [BitVec.toNat_and]
    exact Nat.le_trans Nat.and_le_right (by decide)
  rw [Vc.wrap32 (by omega) (by omega)]
  omega

theorem nibs_one : ∀ v ∈ nibs, v.oneCell' = true := by
  intro v hv
  obtain ⟨x, _, rfl⟩ := List.mem_map.1 hv
  rfl
theorem whenOne_of {v : Value} (h : v.oneCell' = true) : WhenOne v True := by
  unfold WhenOne; cases v <;> simp_all [Value.oneCell']
theorem cells_aggL (l : List Value) : (Value.cells (.agg (List.toArray l))).toList = l := rfl

theorem crc_nibbles {w : World} {R : Ending → World → Prop} (hR : ∀ w', Keep [] w w' → R (.returned (.agg nibs.toArray)) w') : Calls P0 f_crc_nibbles #[] w R := by
  refine C_crc_nibbles ?_
  intro w1 hw1 w2 hw2
  have hz : (16 : Nat) = 16 := rfl
  have b1 : Blk w1 w.heap.size (List.replicate 16 (.int .u32 0)) T_arr16_uint32 := by subst hw1; exact Blk.alloc_new w (List.replicate 16 (.int .u32 0)) _
  have k1 : Keep [] w w1 := by subst hw1; exact Keep.alloc _ _
  have b2 : Blk w2 w1.heap.size (List.replicate 16 (.int .u32 0)) T_arr16_uint32 := by subst hw2; exact Blk.alloc_new w1 (List.replicate 16 (.int .u32 0)) _
  have k2 : Keep [] w1 w2 := by subst hw2; exact Keep.alloc _ _
  have s1 : w.heap.size < w1.heap.size := b1.lt
  clear hw1 hw2
  refine ⟨fun x w' => 0 ≤ x ∧ x ≤ 16 ∧ Keep [] w w' ∧ Blk w' w.heap.size (List.replicate 16 (.int .u32 0)) T_arr16_uint32 ∧
      Blk w' w1.heap.size (nibs.take x.toNat ++ List.replicate (16 - x.toNat) (.int .u32 0)) T_arr16_uint32, fun x _ => (16 - x).toNat,
    ⟨by omega, by omega, k1.trans k2 (by simp), k2.blk b1 (by simp), by simpa using b2⟩, ?_⟩
  rintro x w6 ⟨h0, h1, hk, hb1, hb2⟩
  obtain ⟨i, rfl⟩ := Int.eq_ofNat_of_zero_le h0
  rw [Int.toNat_natCast] at hb2
  constructor
  · intro hlt
    have hlt : i < 16 := by have := of_decide_eq_true hlt; omega
    intro n hn
    refine ⟨fun x j w' => w6 = w' ∧ 0 ≤ j ∧ j ≤ 4 ∧ x = nibN j.toNat (IntKind.wrap .u32 (i : Int)), fun _ j _ => (4 - j).toNat, ⟨rfl, by omega, by omega, hn⟩, ?_⟩
    rintro x j w12 ⟨rfl, g0, g1, rfl⟩
    obtain ⟨j, rfl⟩ := Int.eq_ofNat_of_zero_le g0
    rw [Int.toNat_natCast]
    constructor
    · intro hj
      have hj : j < 4 := by have := of_decide_eq_true hj; omega
      intro m hm
      refine ⟨by omega, fun q hq => ⟨fun hc r hr s hs => ?_, fun hc s hs => ?_⟩⟩
      · rw [wrap64 (by omega) (by omega)] at hs
        subst hs
        refine ⟨⟨rfl, by omega, by omega, ?_⟩, by dsimp only; omega⟩
        rw [show ((j : Int) + 1).toNat = j + 1 by omega]
        subst hm hq hr
        show _ = nibStep _
        unfold nibStep
        rw [if_pos (show (band (nibN j (IntKind.wrap .u32 (i : Int))) 1 == 1) = true from hc)]; rfl
      · rw [wrap64 (by omega) (by omega)] at hs
        subst hs
        refine ⟨⟨rfl, by omega, by omega, ?_⟩, by dsimp only; omega⟩
        rw [show ((j : Int) + 1).toNat = j + 1 by omega]
        subst hm hq
        show _ = nibStep _
        unfold nibStep
        rw [if_neg (show ¬ (band (nibN j (IntKind.wrap .u32 (i : Int))) 1 == 1) = true from ne_true_of_eq_false hc)]; rfl
    · intro hj
      have hj : 4 ≤ j := by have := of_decide_eq_false hj; omega
      have : j = 4 := by omega
      subst this
      refine ⟨rfl, by omega, by omega, ?_, ?_⟩
      · simpa using hb2.wr (i := i) (by simp [nibs]; omega)
      · intro w20 hw20 k hkk
        rw [wrap64 (by omega) (by omega)] at hkk
        subst hkk
        have e0 : 0 + Int.toNat (i : Int) * 1 = i := by simp
        rw [e0] at hw20
        subst hw20
        have hset := hb2.set i (.int .u32 (nib i))
        have e1 : (nibs.take i ++ List.replicate (16 - i) (Value.int .u32 0)).set i (.int .u32 (nib i)) = nibs.take (i + 1) ++ List.replicate (16 - (i + 1)) (.int .u32 0) := by
          have hl : (nibs.take i).length = i := by simp [nibs]; omega
          rw [List.set_append_right _ _ (by omega), hl, Nat.sub_self, show 16 - i = (16 - (i + 1)) + 1 by omega, List.replicate_succ, List.set_cons_zero,
            List.take_succ_eq_append_getElem (by simp [nibs]; exact hlt)]
          simp [nibs]
        rw [e1] at hset
        have hne : w.heap.size ≠ w1.heap.size := by omega
        refine ⟨⟨by omega, by omega, hk.then_set _ _ _ (.inr (by omega)), ?_, ?_⟩, by dsimp only; omega⟩
        · have := (Keep.set w6 w1.heap.size i (.int .u32 (nib i))).blk hb1 (by simp; omega)
          exact this
        · rw [show ((i : Int) + 1).toNat = i + 1 by omega]; exact hset
  · intro hge
    have hge : 16 ≤ i := by have := of_decide_eq_false hge; omega
    have : i = 16 := by omega
    subst this
    have hl : nibs.length = 16 := by simp [nibs]
    have hb2 : Blk w6 w1.heap.size nibs T_arr16_uint32 := by simpa [List.take_of_length_le (show nibs.length ≤ 16 by omega)] using hb2
    refine ⟨nibs, hl, (by have := Rdb.of_blk hb2 0 16; simp [List.take_of_length_le (show nibs.length ≤ 16 by omega)] at this; exact this.rd), by simp [Value.cells, hl], ?_, ?_, rfl, ?_⟩
    · intro u hu; exact whenOne_of (nibs_one u hu)
    · intro k hkk; rw [add_mk]; simpa using hb1.wr (i := k) (by simpa using hkk)
    · intro w23 hw23
      rw [cells_aggL] at hw23
      have hs := hb1.sets nibs 0 (by simp [hl])
      have : Blk w23 w.heap.size nibs T_arr16_uint32 := by rw [hw23]; simpa [hl] using hs
      refine ⟨nibs, hl, (by have := Rdb.of_blk this 0 16; simp [List.take_of_length_le (show nibs.length ≤ 16 by omega)] at this; exact this.rd), hR _ ?_⟩
      rw [hw23]
      exact hk.trans (Keep.sets _ _ _ _) (by simp)

theorem crc_Add {a : Option Addr} {len cap : Nat} {w : World} {R : Ending → World → Prop} (s : Int) (l : List UInt8) (hl : l.length = len) (h : HasB w a l) (hb : len ≤ 1000000000)
    (hR : ∀ w', Keep [] w w' → R (.returned (.int .u32 (crcAdd s l))) w') : Calls P0 f_crc_Add #[.int .u32 s, .slice a len cap] w R := by
  refine C_crc_Add ?_
  refine crc_nibbles fun w4 k4 => ⟨nibs, by simp [nibs], rfl, fun w6 hw6 => ?_⟩
  have hn : nibs.length = 16 := by simp [nibs]
  have b6 : Blk w6 w4.heap.size (List.replicate 16 (.int .u32 0)) T_arr16_uint32 := by subst hw6; exact Blk.alloc_new w4 (List.replicate 16 (.int .u32 0)) _
  have k6 : Keep [] w4 w6 := by subst hw6; exact Keep.alloc _ _
  clear hw6
  refine ⟨by simp [Value.cells, hn], fun u hu => whenOne_of (nibs_one u hu), fun k hk => by rw [add_mk]; simpa using b6.wr (i := k) (by simpa using hk), rfl, fun w7 hw7 n hn8 => ?_⟩
  rw [cells_aggL] at hw7
  have b7 : Blk w7 w4.heap.size nibs T_arr16_uint32 := by rw [hw7]; simpa [hn] using b6.sets nibs 0 (by simp [hn])
  have k7 : Keep [] w w7 := by
    rw [hw7]
    exact (k4.trans k6 (by simp)).trans (Keep.sets _ _ _ _) (by simp [k4.1])
  clear hw7
  have hread : ∀ x : Int, 0 ≤ x → x < 16 → w7.cell? ⟨w4.heap.size, 0 + Int.toNat x * 1, none⟩ = some (.int .u32 (nib x.toNat)) := by
    intro x h0 h1
    refine b7.cell ?_
    have : 0 + x.toNat * 1 < nibs.length := by omega
    rw [List.getElem?_eq_getElem this]
    simp [nibs]
  refine ⟨fun x i w' => w7 = w' ∧ 0 ≤ i ∧ i ≤ len ∧ x = (l.take i.toNat).foldl crcStep (binv s), fun _ i _ => (len - i).toNat, ⟨rfl, by omega, by omega, hn8⟩, ?_⟩
  rintro x i w13 ⟨rfl, h0, h1, rfl⟩
  obtain ⟨i, rfl⟩ := Int.eq_ofNat_of_zero_le h0
  rw [Int.toNat_natCast]
  constructor
  · intro hlt
    have hlt : i < l.length := by have := of_decide_eq_true hlt; omega
    have h' := h.keep k7 (Off.nil _)
    rcases h' with h' | ⟨b, o, ha, hr⟩
    · simp at h'; subst h'; simp at hlt
    · have hc := hr i (B l[i]) (by simp [hlt])
      refine ⟨b, o, ha, by omega, by omega, _, by simpa [B] using hc, ?_⟩
      intro n17 h17 n18 h18 n19 h19
      have r19 := band15 n18
      have e19 : n19 = band n18 15 := h19
      refine ⟨rfl, by omega, by omega, _, hread n19 (by omega) (by omega), by omega, ?_⟩
      intro n23 h23 n24 h24 n25 h25
      have r25 := band15 n24
      have e25 : n25 = band n24 15 := h25
      refine ⟨rfl, by omega, by omega, _, hread n25 (by omega) (by omega), by omega, ?_⟩
      intro n29 h29 n30 h30 n31 h31
      rw [wrap64 (by omega) (by omega)] at h31
      subst h31
      refine ⟨⟨rfl, by omega, by omega, ?_⟩, by dsimp only; omega⟩
      rw [show ((i : Int) + 1).toNat = i + 1 by omega, List.take_succ_eq_append_getElem hlt, List.foldl_append]
      simp only [List.foldl_cons, List.foldl_nil]
      subst h17 h18 h23 h29
      rw [h30, e25, h24, e19]
      rfl
  · intro hge
    have hge : len ≤ i := by have := of_decide_eq_false hge; omega
    have : l.take i = l := List.take_of_length_le (by omega)
    intro n hn
    rw [this] at hn
    have : n = crcAdd s l := hn
    rw [this]
    exact hR _ k7

theorem crc_Of {a : Option Addr} {len cap : Nat} {w : World} {R : Ending → World → Prop} (l : List UInt8) (hl : l.length = len) (h : HasB w a l) (hb : len ≤ 1000000000)
    (hR : ∀ w', Keep [] w w' → R (.returned (.int .u32 (crcOf l))) w') : Calls P0 f_crc_Of #[.slice a len cap] w R := by
  refine C_crc_Of ?_
  exact crc_Add 0 l hl h hb fun w' hk => ⟨_, rfl, hR w' hk⟩
end Go.Proofs
