/- What is written is read. -/
import Derived.Test.YtbkcpddedpmenaaCu
set_option maxRecDepth 100000
namespace Go.Proofs
open Go Go.Vc

theorem numL_putL : ∀ (k n : Nat), numL (putL n k) = n % 256 ^ k
  | 0, n => by simp [putL, numL, Nat.mod_one]
  | k + 1, n => by
    have e : putL n (k + 1) = putL n k ++ [UInt8.ofNat (n / 256 ^ k % 256)] := by simp [putL, List.range_succ]
    rw [e, numL_snoc, numL_putL k n, putL_length]
    have h2 : (UInt8.ofNat (n / 256 ^ k % 256)).toNat = n / 256 ^ k % 256 := by
      have : (UInt8.ofNat (n / 256 ^ k % 256)).toNat = n / 256 ^ k % 256 % 256 := rfl
      rw [this]; omega
    rw [h2, Nat.pow_succ, Nat.mod_mul]
    rw [Nat.mul_comm]

theorem flat_four {a b c d : List UInt8} (f : Nat → List UInt8) (h0 : f 0 = a) (h1 : f 1 = b) (h2 : f 2 = c) (h3 : f 3 = d) : (List.range 4).flatMap f = a ++ (b ++ (c ++ d)) := by
  show List.flatMap f [0, 1, 2, 3] = _
  simp [List.flatMap_cons, h0, h1, h2, h3]

theorem dIn_encodeL {p : Part} (h : p.data.length ≤ 198) : dIn (encodeL p) = inS p := by
  have hl := inS_length h
  have hs := fun i (hi : i < 4) => encStep_length h hi
  have he : encodeL p = encStep p 0 ++ (encStep p 1 ++ (encStep p 2 ++ encStep p 3)) := flat_four _ rfl rfl rfl rfl
  have hx : ∀ i, i < 4 → (encStep p i).take 56 = ((inS p).drop (56 * i)).take 56 := fun i hi => by
    unfold encStep
    have : (((inS p).drop (56 * i)).take 56).length = 56 := by simp [hl]; omega
    rw [List.take_append_of_le_length (by omega), List.take_of_length_le (by omega)]
  have t : ∀ i, i < 4 → ∀ r, (encStep p i ++ r).take 56 = ((inS p).drop (56 * i)).take 56 := fun i hi r => by
    rw [List.take_append_of_le_length (by rw [hs i hi]; omega), hx i hi]
  have d : ∀ i, i < 4 → ∀ r k, (encStep p i ++ r).drop (64 + k) = r.drop k := fun i hi r k => by
    rw [List.drop_append, List.drop_of_length_le (by rw [hs i hi]; omega), hs i hi, List.nil_append]
    congr 1; omega
  unfold dIn
  rw [flat_four (a := ((inS p).drop (56 * 0)).take 56) (b := ((inS p).drop (56 * 1)).take 56) (c := ((inS p).drop (56 * 2)).take 56) (d := ((inS p).drop (56 * 3)).take 56)]
  · have e3 : ((inS p).drop (56 * 3)).take 56 = (inS p).drop (56 * 3) := List.take_of_length_le (by simp [hl])
    rw [e3]
    have c : ∀ i, ((inS p).drop (56 * i)).take 56 ++ (inS p).drop (56 * (i + 1)) = (inS p).drop (56 * i) := fun i => by
      rw [show 56 * (i + 1) = 56 * i + 56 by omega, ← List.drop_drop, List.take_append_drop]
    rw [c 2, c 1, c 0]; simp
  · rw [he]; exact t 0 (by decide) _
  · rw [he, show 64 * 1 = 64 + 0 from rfl, d 0 (by decide), List.drop_zero]; exact t 1 (by decide) _
  · rw [he, show 64 * 2 = 64 + (64 + 0) from rfl, d 0 (by decide), d 1 (by decide), List.drop_zero]; exact t 2 (by decide) _
  · rw [he, show 64 * 3 = 64 + (64 + (64 + 0)) from rfl, d 0 (by decide), d 1 (by decide), d 2 (by decide), List.drop_zero]; exact hx 3 (by decide)

theorem sub_of {a b c : List UInt8} {l : List UInt8} {o n : Nat} (h : l = a ++ (b ++ c)) (ha : a.length = o) (hb : b.length = n) : (l.drop o).take n = b := by
  subst ha hb
  rw [h, List.drop_append, List.drop_of_length_le (Nat.le_refl _), List.nil_append, Nat.sub_self, List.drop_zero, List.take_append_of_le_length (Nat.le_refl _), List.take_of_length_le (Nat.le_refl _)]

theorem decode_encode {p : Part} (h : mayB p = true) : decodeL (encodeL p) = some p := by
  obtain ⟨h1, h2⟩ := may_data h
  obtain ⟨g1, g2, g3, g4, g5⟩ := may_nums h
  have hin := dIn_encodeL h1
  have hl := inS_length h1
  have hlen := enc_len h
  obtain ⟨z, hz⟩ : ∃ z, inS p = headL p ++ z := ⟨_, by unfold inS inL; rw [List.append_assoc]⟩
  have hn : ∀ (n : Int) (k : Nat), 0 ≤ n → n < 256 ^ k → ((numL (putL n.toNat k) : Nat) : Int) = n := fun n k h0 h1 => by
    rw [numL_putL, Nat.mod_eq_of_lt]
    · omega
    · have : ((n.toNat : Nat) : Int) < ((256 ^ k : Nat) : Int) := by rw [Int.toNat_of_nonneg h0]; simpa using h1
      exact_mod_cast this
  have hp : inS p = [80, 66] ++ (putL p.parts.toNat 1 ++ (putL p.index.toNat 1 ++ (putL p.data.length 2 ++ (putL p.no.toNat 6 ++ (putL p.place.toNat 6 ++ (putL p.era.toNat 4 ++ (p.data ++ z))))))) := by
    rw [hz, headL]; simp only [List.append_assoc]
  have pl := putL_length
  have s4 : dSub (encodeL p) 4 2 = putL p.data.length 2 := by
    unfold dSub; rw [hin]
    exact sub_of (a := [80, 66] ++ putL p.parts.toNat 1 ++ putL p.index.toNat 1) (c := putL p.no.toNat 6 ++ (putL p.place.toNat 6 ++ (putL p.era.toNat 4 ++ (p.data ++ z)))) (by rw [hp]; simp only [List.append_assoc]) (by simp [pl]) (pl _ _)
  have s6 : dSub (encodeL p) 6 6 = putL p.no.toNat 6 := by
    unfold dSub; rw [hin]
    exact sub_of (a := [80, 66] ++ putL p.parts.toNat 1 ++ putL p.index.toNat 1 ++ putL p.data.length 2) (c := putL p.place.toNat 6 ++ (putL p.era.toNat 4 ++ (p.data ++ z))) (by rw [hp]; simp only [List.append_assoc]) (by simp [pl]) (pl _ _)
  have s12 : dSub (encodeL p) 12 6 = putL p.place.toNat 6 := by
    unfold dSub; rw [hin]
    exact sub_of (a := [80, 66] ++ putL p.parts.toNat 1 ++ putL p.index.toNat 1 ++ putL p.data.length 2 ++ putL p.no.toNat 6) (c := putL p.era.toNat 4 ++ (p.data ++ z)) (by rw [hp]; simp only [List.append_assoc]) (by simp [pl]) (pl _ _)
  have s18 : dSub (encodeL p) 18 4 = putL p.era.toNat 4 := by
    unfold dSub; rw [hin]
    exact sub_of (a := [80, 66] ++ putL p.parts.toNat 1 ++ putL p.index.toNat 1 ++ putL p.data.length 2 ++ putL p.no.toNat 6 ++ putL p.place.toNat 6) (c := p.data ++ z) (by rw [hp]; simp only [List.append_assoc]) (by simp [pl]) (pl _ _)
  have s22 : dSub (encodeL p) 22 p.data.length = p.data := by
    unfold dSub; rw [hin]
    exact sub_of (a := [80, 66] ++ putL p.parts.toNat 1 ++ putL p.index.toNat 1 ++ putL p.data.length 2 ++ putL p.no.toNat 6 ++ putL p.place.toNat 6 ++ putL p.era.toNat 4) (c := z) (by rw [hp]; simp only [List.append_assoc]) (by simp [pl]) rfl
  have hlen2 : numL (putL p.data.length 2) = p.data.length := by rw [numL_putL]; omega
  have one : ∀ n : Nat, putL n 1 = [UInt8.ofNat (n % 256)] := fun n => by simp [putL]
  have hb : ∀ n : Int, 0 ≤ n → n < 256 → ((UInt8.ofNat (n.toNat % 256)).toNat : Int) = n := fun n h0 h1 => by
    have : (UInt8.ofNat (n.toNat % 256)).toNat = n.toNat % 256 % 256 := rfl
    rw [this]; omega
  have hd : dPart (encodeL p) = p := by
    unfold dPart
    rw [s4, s6, s12, s18, hlen2, s22, hin, hp, one, one]
    rw [hn _ 6 (by omega) (by have := g2.2; have : (256 : Int) ^ 6 = 281474976710656 := by decide
                              omega), hn _ 6 (by omega) (by have := g1.2; have : (256 : Int) ^ 6 = 281474976710656 := by decide
                                                            omega), hn _ 4 (by omega) (by have : (256 : Int) ^ 4 = 4294967296 := by decide
                                                                                          omega)]
    have e1 : ((([80, 66] ++ ([UInt8.ofNat (p.parts.toNat % 256)] ++ ([UInt8.ofNat (p.index.toNat % 256)] ++ (putL p.data.length 2 ++ (putL p.no.toNat 6 ++ (putL p.place.toNat 6 ++ (putL p.era.toNat 4 ++ (p.data ++ z)))))))).getD 3 0).toNat : Int) = p.index := hb p.index (by omega) (by omega)
    have e2 : ((([80, 66] ++ ([UInt8.ofNat (p.parts.toNat % 256)] ++ ([UInt8.ofNat (p.index.toNat % 256)] ++ (putL p.data.length 2 ++ (putL p.no.toNat 6 ++ (putL p.place.toNat 6 ++ (putL p.era.toNat 4 ++ (p.data ++ z)))))))).getD 2 0).toNat : Int) = p.parts := hb p.parts (by omega) (by omega)
    rw [e1, e2]
  unfold decodeL
  rw [if_pos ⟨hlen, by rw [s4, hlen2]; exact h1, by rw [hd]; exact h, by rw [hd]⟩, hd]

theorem stands_of {m : DiskM} {sl q : Nat} {p : Part} (hm : mayB p = true) (hp : p.place = q) (h : rg m.nw (64 * secOf sl q) 256 = encodeL p) : standsL m sl q = some p := by
  unfold standsL
  change (match decodeL (rg m.nw (64 * secOf sl q) 256) with | some x => if x.place = q then some x else none | none => none) = _
  rw [h, decode_encode hm]
  simp only
  rw [if_pos hp]

/-- A record's parts, joined. -/
theorem parts_data (no place era : Int) (b : List UInt8) : ((partsOf no place era b).flatMap Part.data) = b := by
  have key : ∀ n, ((List.range n).flatMap fun i => (b.drop (198 * i)).take 198) = b.take (198 * n) := by
    intro n
    induction n with
    | zero => simp
    | succ n ih =>
      rw [List.range_succ, List.flatMap_append, ih, show 198 * (n + 1) = 198 * n + 198 by omega, List.take_add]
      simp
  have : (partsOf no place era b).flatMap Part.data = (List.range (manyOf b.length)).flatMap fun i => (b.drop (198 * i)).take 198 := by
    unfold partsOf; rw [List.flatMap_map]
  rw [this, key, List.take_of_length_le]
  unfold manyOf; omega
theorem partsOf_get (no place era : Int) (b : List UInt8) {i : Nat} (h : i < manyOf b.length) :
    (partsOf no place era b)[i]? = some { place := place + i, no := no, index := i, era := era, parts := manyOf b.length, data := (b.drop (198 * i)).take 198 } := by
  unfold partsOf
  rw [List.getElem?_map, List.getElem?_range h]
  rfl
theorem partsOf_length (no place era : Int) (b : List UInt8) : (partsOf no place era b).length = manyOf b.length := by simp [partsOf]
theorem parts_join {no place era : Int} {b : List UInt8} (hm : ∀ p ∈ partsOf no place era b, mayB p = true) (h : 0 < manyOf b.length) : joinOk (partsOf no place era b) = true := by
  have h0 := partsOf_get no place era b h
  have hl := partsOf_length no place era b
  have hg := fun i (hi : i < manyOf b.length) => partsOf_get no place era b hi
  generalize partsOf no place era b = ps at *
  cases ps with
  | nil => simp at h0
  | cons p0 ps =>
    simp only [List.getElem?_cons_zero, Option.some.injEq] at h0
    unfold joinOk
    rw [List.all_eq_true]
    intro i hi
    simp only [List.mem_range] at hi
    rw [hl] at hi
    have hgi := hg i hi
    have hmi := hm _ (List.mem_of_getElem? hgi)
    rw [hgi]
    subst h0
    simp only [joinAt, hmi, hl]
    simp
end Go.Proofs
