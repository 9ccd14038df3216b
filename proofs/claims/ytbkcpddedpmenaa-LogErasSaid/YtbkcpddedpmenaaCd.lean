/- Contracts: a block's bytes are read. -/
import Derived.Test.YtbkcpddedpmenaaCe
set_option maxRecDepth 100000
namespace Go.Proofs
open Go Go.Vc

/-- A struct of six cells is stored. -/
theorem st6 {w : World} {b : Nat} {c : List Value} {T : TypeId} {v0 v1 v2 v3 v4 v5 : Value} {Q : World → Prop} (h : Blk w b c T) (hc : c.length = 6)
    (hq : ∀ w', Blk w' b [v0, v1, v2, v3, v4, v5] T → Keep [b] w w' → w'.heap.size = w.heap.size → Q w') :
    Wr w ⟨b, 0, none⟩ ∧ ∀ w1, w1 = w.setCell ⟨b, 0, none⟩ v0 → Wr w1 ⟨b, 0 + 1, none⟩ ∧ ∀ w2, w2 = w1.setCell ⟨b, 0 + 1, none⟩ v1 → Wr w2 ⟨b, 0 + 2, none⟩ ∧ ∀ w3, w3 = w2.setCell ⟨b, 0 + 2, none⟩ v2 →
      Wr w3 ⟨b, 0 + 3, none⟩ ∧ ∀ w4, w4 = w3.setCell ⟨b, 0 + 3, none⟩ v3 → Wr w4 ⟨b, 0 + 4, none⟩ ∧ ∀ w5, w5 = w4.setCell ⟨b, 0 + 4, none⟩ v4 → Wr w5 ⟨b, 0 + 5, none⟩ ∧ ∀ w6, w6 = w5.setCell ⟨b, 0 + 5, none⟩ v5 → Q w6 := by
  obtain ⟨c0, c1, c2, c3, c4, c5, rfl⟩ : ∃ c0 c1 c2 c3 c4 c5, c = [c0, c1, c2, c3, c4, c5] := by
    match c, hc with
    | [c0, c1, c2, c3, c4, c5], _ => exact ⟨_, _, _, _, _, _, rfl⟩
  refine st h (by simp) fun w1 h1 k1 s1 => ?_
  refine st h1 (by simp) fun w2 h2 k2 s2 => ?_
  refine st h2 (by simp) fun w3 h3 k3 s3 => ?_
  refine st h3 (by simp) fun w4 h4 k4 s4 => ?_
  refine st h4 (by simp) fun w5 h5 k5 s5 => ?_
  refine st h5 (by simp) fun w6 h6 k6 s6 => ?_
  refine hq w6 h6 ?_ (by omega)
  refine ((((k1.trans k2 ?_).trans k3 ?_).trans k4 ?_).trans k5 ?_).trans k6 ?_ <;> simp

def dIn (l : List UInt8) : List UInt8 := (List.range 4).flatMap fun i => (l.drop (64 * i)).take 56
def dSub (l : List UInt8) (o n : Nat) : List UInt8 := ((dIn l).drop o).take n
def dPart (l : List UInt8) : Part :=
  { place := numL (dSub l 12 6), no := numL (dSub l 6 6), index := (((dIn l).getD 3 0).toNat : Int), era := numL (dSub l 18 4), parts := (((dIn l).getD 2 0).toNat : Int), data := dSub l 22 (numL (dSub l 4 2)) }
/-- The part whose form these bytes are. -/
def decodeL (l : List UInt8) : Option Part :=
  if l.length = 256 ∧ numL (dSub l 4 2) ≤ 198 ∧ mayB (dPart l) = true ∧ encodeL (dPart l) = l then some (dPart l) else none

theorem dRange_length {l : List UInt8} (h : l.length = 256) : ∀ {i : Nat}, i ≤ 4 → ((List.range i).flatMap fun i => (l.drop (64 * i)).take 56).length = 56 * i
  | 0, _ => by simp
  | i + 1, hi => by
    rw [List.range_succ, List.flatMap_append, List.length_append, dRange_length h (by omega)]
    simp [h]; omega
theorem dIn_length {l : List UInt8} (h : l.length = 256) : (dIn l).length = 224 := dRange_length h (Nat.le_refl _)
theorem dSub_length {l : List UInt8} (h : l.length = 256) {o n : Nat} (ho : o + n ≤ 224) : (dSub l o n).length = n := by
  simp [dSub, dIn_length h]; omega

abbrev Z6 : List Value := [.int .i64 0, .int .i64 0, .int .i64 0, .int .i64 0, .int .i64 0, .slice none 0 0]
structure DecSt (w0 w : World) (data : List UInt8) (pb : Option Nat) (cl : Option (Option Addr × Nat)) : Prop where
  keep : Keep [] w0 w
  blk : ∀ b, pb = some b → Blk w b Z6 T_api_Part ∧ w0.heap.size ≤ b
  cl : ∀ p, cl = some p → HasB w p.1 data ∧ New w0 p.1 ∧ Lt w p.1 ∧ (∀ b, pb = some b → Off p.1 [b])

theorem DecSt.cell {w0 w : World} {data : List UInt8} {pb : Option Nat} {cl : Option (Option Addr × Nat)} (h : DecSt w0 w data pb cl) {a : Addr} {v : Value} (hc : w0.cell? a = some v) : w.cell? a = some v := h.keep.cell hc (by simp)
theorem DecSt.make {w0 w : World} {data : List UInt8} {cl : Option (Option Addr × Nat)} (h : DecSt w0 w data none cl) {Q : World → Prop} (hq : ∀ w', DecSt w0 w' data (some w.heap.size) cl → Q w') :
    ∀ w', w' = w.alloc (.cells #[.int .i64 0, .int .i64 0, .int .i64 0, .int .i64 0, .int .i64 0, .slice none 0 0] T_api_Part) → Q w' := by
  refine al (c := Z6) fun w' hb hk _ => hq w' ⟨h.keep.trans hk (by simp), fun b e => ?_, fun p hp => ?_⟩
  · injection e with e; subst e; exact ⟨hb, h.keep.1⟩
  · obtain ⟨h1, h2, h3, _⟩ := h.cl p hp
    refine ⟨h1.keep hk (Off.nil _), h2, fun q hq => Nat.lt_of_lt_of_le (h3 q hq) hk.1, fun b e q hq => ?_⟩
    injection e with e; subst e
    have := h3 q hq
    simp; omega
theorem DecSt.clone {w0 w : World} {data : List UInt8} {pb : Option Nat} {a : Option Addr} {len cap : Nat} {R : Ending → World → Prop} (h : DecSt w0 w data pb none) (ha : HasB w0 a data) (hl : data.length = len) (hb : len ≤ 1000)
    (hq : ∀ w' a' cap', DecSt w0 w' data pb (some (a', cap')) → R (.returned (.slice a' data.length cap')) w') : Calls P0 f_slices_Clone_byte #[.slice a len cap] w R := by
  subst hl
  refine slices_Clone_byte data rfl (ha.keep h.keep (Off.nil _)) (by omega) fun w' a' cap' fp hk ho hf _ => hq w' a' cap' ⟨h.keep.trans hk (by simp), fun b e => ?_, fun p hp => ?_⟩
  · obtain ⟨h1, h2⟩ := h.blk b e
    exact ⟨hk.blk h1 (by simp), h2⟩
  · injection hp with hp; subst hp
    refine ⟨ho.has, fun q hq => Nat.le_trans h.keep.1 (Own.new ho hf q hq), Own.ltA ho, fun b e q hq => ?_⟩
    have h1 := (h.blk b e).1.lt
    have h2 := Own.new ho hf q hq
    simp; omega

theorem dec_leaf {w0 w : World} {data : List UInt8} {b : Nat} {cl : Option Addr × Nat} {v0 v1 v2 v3 v4 : Value} {J : Nat → World → Prop} (h : DecSt w0 w data (some b) (some cl))
    (hJ : ∀ b w', Keep [] w0 w' → w0.heap.size ≤ b → Blk w' b [v0, v1, v2, v3, v4, .slice cl.1 data.length cl.2] T_api_Part → HasB w' cl.1 data → New w0 cl.1 → Lt w' cl.1 → J b w') :
    Wr w ⟨b, 0, none⟩ ∧ ∀ w1, w1 = w.setCell ⟨b, 0, none⟩ v0 → Wr w1 ⟨b, 0 + 1, none⟩ ∧ ∀ w2, w2 = w1.setCell ⟨b, 0 + 1, none⟩ v1 → Wr w2 ⟨b, 0 + 2, none⟩ ∧ ∀ w3, w3 = w2.setCell ⟨b, 0 + 2, none⟩ v2 →
      Wr w3 ⟨b, 0 + 3, none⟩ ∧ ∀ w4, w4 = w3.setCell ⟨b, 0 + 3, none⟩ v3 → Wr w4 ⟨b, 0 + 4, none⟩ ∧ ∀ w5, w5 = w4.setCell ⟨b, 0 + 4, none⟩ v4 → Wr w5 ⟨b, 0 + 5, none⟩ ∧ ∀ w6, w6 = w5.setCell ⟨b, 0 + 5, none⟩ (.slice cl.1 data.length cl.2) → J b w6 := by
  obtain ⟨h1, h2⟩ := h.blk b rfl
  obtain ⟨h3, h4, h5, h6⟩ := h.cl cl rfl
  exact st6 h1 rfl fun w' hb hk hs => hJ b w' (h.keep.trans hk (by simp [h2])) h2 hb (h3.keep hk (h6 b rfl)) h4 (fun q hq => by have := h5 q hq; omega)

theorem numL_lt2 {l : List UInt8} (n : Nat) (h : l.length = n) (hn : n ≤ 7) : numL l < 72057594037927936 := by
  have := numL_lt l
  have h2 : (256 : Nat) ^ l.length ≤ 256 ^ 7 := Nat.pow_le_pow_right (by decide) (by omega)
  omega

set_option maxHeartbeats 2000000 in
theorem seg_Decode {w : World} {R : Ending → World → Prop} {a : Option Addr} {len cap : Nat} (l : List UInt8) (hl : l.length = len) (hc : len ≤ cap) (h : HasB w a l) (hll : len ≤ 140737488355328)
    (hbad : ∀ w', Keep [] w w' → decodeL l = none → R (.returned (.tuple #[.agg #[.int .i64 0, .int .i64 0, .int .i64 0, .int .i64 0, .int .i64 0, .slice none 0 0], .int .i64 70])) w')
    (hgood : ∀ w' (x : PB), Keep [] w w' → decodeL l = some x.p → HasB w' x.a x.p.data → New w x.a → Lt w' x.a →
      R (.returned (.tuple #[.agg #[.int .i64 x.p.place, .int .i64 x.p.no, .int .i64 x.p.index, .int .i64 x.p.era, .int .i64 x.p.parts, .slice x.a x.p.data.length x.cap], .int .i64 0])) w') :
    Calls P0 f_seg_Decode #[.slice a len cap] w R := by
  subst hl
  refine C_seg_Decode ?_
  refine al (c := Z6) fun w2 b2 k2 s2 => ?_
  refine ⟨fun hne => ?_, fun hne => ?_⟩
  · have hne : l.length ≠ 256 := by intro e; rw [e] at hne; simp at hne
    refine st6 b2 rfl fun w8 b8 k8 _ => ?_
    refine ⟨_, b8.cell rfl, _, b8.cell rfl, _, b8.cell rfl, _, b8.cell rfl, _, b8.cell rfl, _, _, _, b8.cell rfl, ?_⟩
    exact hbad w8 (k2.trans k8 (by simp)) (by unfold decodeL; rw [if_neg (by simp [hne])])
  have h256 : l.length = 256 := by have := (bne_eq_false_iff_eq.1 hne); omega
  have h2 := h.keep k2 (Off.nil _)
  refine ⟨fun s i w' => 0 ≤ i ∧ i ≤ 4 ∧ Keep [] w2 w' ∧ s.len = 56 * i.toNat ∧ ∃ fp, Own w' T_uint8 1 s.a s.len s.cap (((List.range i.toNat).flatMap fun i => (l.drop (64 * i)).take 56).map B) fp ∧ (∀ q ∈ fp, w2.heap.size ≤ q),
    fun _ i _ => (4 - i).toNat, ⟨by omega, by omega, Keep.refl _ _, by simp, [], .inl ⟨rfl, rfl, rfl, rfl, rfl⟩, by simp⟩, ?_⟩
  rintro ⟨sa, sl, sc⟩ i w19 ⟨h0, h1, hk19, hsl, fp, ho, hfp⟩
  obtain ⟨i, rfl⟩ := Int.eq_ofNat_of_zero_le h0
  simp only [Int.toNat_natCast] at hsl ho
  constructor
  · intro hlt
    have hlt : i < 4 := by have := of_decide_eq_true hlt; omega
    intro n20 h20 n21 h21 n22 h22
    rw [wrap64 (by omega) (by omega)] at h20 h21
    subst h21
    rw [wrap64 (by omega) (by omega)] at h22
    subst h20 h22
    have t1 : ((i : Int) * 64).toNat = 64 * i := by omega
    rw [t1]
    refine ⟨by omega, by omega, by omega, by omega, by omega, by omega, ?_⟩
    have hp : HasB w19 (cutBase (cutBase a (64 * i) cap 1) 0 (Int.toNat 56) 1) ((l.drop (64 * i)).take 56) := by
      have g1 := has_drop (lo := 64 * i) (m := cap) (h2.keep hk19 (Off.nil _)) (by omega) (by omega)
      have g2 := has_cut (lo := 0) (hi := 56) (m := Int.toNat 56) g1 (by omega) (by decide)
      rw [List.drop_zero] at g2
      exact g2
    have lp : ((l.drop (64 * i)).take 56).length = 56 := by simp [h256]; omega
    obtain ⟨a3, c3, w24, fp3, hr, ho3, hk3, hf3, _⟩ := own_append E8 (ty := T_slice_uint8) (xc := (Int.toNat 56) - 0) ho (news := ((l.drop (64 * i)).take 56).map B) (n := (Int.toNat 56) - 0) (by rw [List.length_map, lp]; rfl) hp (mapB_one _)
      (by have : Int.toNat 56 = 56 := rfl; omega)
    refine ⟨_, _, _, w24, hr, fun n25 h25 => ?_⟩
    rw [wrap64 (by omega) (by omega)] at h25
    subst h25
    have e1 : ((i : Int) + 1).toNat = i + 1 := by omega
    refine ⟨⟨by omega, by omega, hk19.trans hk3 (fun q hq => .inr (hfp q hq)), ?_, fp3, ?_, ?_⟩, by dsimp only; omega⟩
    · simp only [e1]; have : Int.toNat 56 = 56 := rfl; omega
    · simp only [e1]
      rw [List.range_succ, List.flatMap_append, List.map_append]
      simpa using ho3
    · intro q hq
      rcases hf3 q hq with hq | hq
      · exact hfp q hq
      · exact Nat.le_trans hk19.1 hq
  intro hge
  have hge : 4 ≤ i := by have := of_decide_eq_false hge; omega
  have : i = 4 := by omega
  subst this
  clear hge h1 h0
  have hin : HasB w19 sa (dIn l) := ho.has
  have linl := dIn_length h256
  have hsl : sl = 224 := by omega
  have hscap : 224 ≤ sc := by
    rcases ho with ⟨_, h, _⟩ | ⟨_, _, _, _, _, _, h, _⟩
    · omega
    · omega
  have hcut : ∀ (lo hi : Nat), lo ≤ hi → hi ≤ 224 → HasB w19 (cutBase sa lo sc 1) (dSub l lo (hi - lo)) := fun lo hi g1 g2 => has_cut hin g1 (by omega)
  refine ⟨by omega, by omega, by simp only; omega, ?_⟩
  refine seg_number (dSub l 4 2) (dSub_length h256 (by decide)) (hcut 4 6 (by decide) (by decide)) (by decide) ⟨_, rfl, ?_⟩
  have bB : Blk w19 w.heap.size Z6 T_api_Part := hk19.blk b2 (by simp)
  have kk : Keep [] w w19 := k2.trans hk19 (by simp)
  refine ⟨fun hbig => ?_, fun hbig => ?_⟩
  · have hbig := of_decide_eq_true hbig
    refine st6 bB rfl fun w8 b8 k8 _ => ?_
    refine ⟨_, b8.cell rfl, _, b8.cell rfl, _, b8.cell rfl, _, b8.cell rfl, _, b8.cell rfl, _, _, _, b8.cell rfl, ?_⟩
    exact hbad w8 (kk.trans k8 (by simp)) (by unfold decodeL; rw [if_neg (by intro hx; have := hx.2.1; omega)])
  have hmany : numL (dSub l 4 2) ≤ 198 := by have := of_decide_eq_false hbig; omega
  intro J hJ
  have hleaf : ∀ b w', Keep [] w19 w' → w19.heap.size ≤ b → ∀ (cl : Option Addr × Nat), Blk w' b [.int .i64 (dPart l).place, .int .i64 (dPart l).no, .int .i64 (dPart l).index, .int .i64 (dPart l).era, .int .i64 (dPart l).parts, .slice cl.1 (dPart l).data.length cl.2] T_api_Part →
      HasB w' cl.1 (dPart l).data → New w19 cl.1 → Lt w' cl.1 → J b w' := by
    intro b w43 k43 hb43 cl b43 hd43 hn43 hlt43
    refine hJ b w43 ?_
    refine ⟨_, b43.cell rfl, _, b43.cell rfl, _, b43.cell rfl, _, b43.cell rfl, _, b43.cell rfl, _, _, _, b43.cell rfl, ?_⟩
    have k043 : Keep [] w w43 := kk.trans k43 (by simp)
    have bB43 : Blk w43 w.heap.size Z6 T_api_Part := k43.blk bB (by simp)
    have hlB : w.heap.size < w19.heap.size := bB.lt
    have hB43 : w.heap.size ≠ b := by omega
    refine seg_Encode ⟨dPart l, cl.1, cl.2⟩ hd43 (fun w57 k57 hmay => ⟨_, _, _, _, rfl, ?_⟩) (fun w57 a58 c58 fp58 k57 hmay o58 f58 => ⟨_, _, _, _, rfl, ?_⟩)
    all_goals
      intro J60 hJ60
      have H : ∀ (x61 : Bool) (w62 : World), Keep [] w43 w62 → (x61 = true → decodeL l = none) → (x61 = false → decodeL l = some (dPart l)) → J60 x61 w62 := by
        intro x61 w62 k62 g1 g2
        have bB62 : Blk w62 w.heap.size Z6 T_api_Part := k62.blk bB43 (by simp)
        have b62 := k62.blk b43 (by simp)
        have k062 : Keep [] w w62 := k043.trans k62 (by simp)
        refine hJ60 x61 w62 ⟨fun e => ?_, fun e => ?_⟩
        · refine st6 bB62 rfl fun w8 b8 k8 _ => ?_
          refine ⟨_, b8.cell rfl, _, b8.cell rfl, _, b8.cell rfl, _, b8.cell rfl, _, b8.cell rfl, _, _, _, b8.cell rfl, ?_⟩
          exact hbad w8 (k062.trans k8 (by simp)) (g1 e)
        · refine ⟨_, b62.cell rfl, _, b62.cell rfl, _, b62.cell rfl, _, b62.cell rfl, _, b62.cell rfl, _, _, _, b62.cell rfl, ?_⟩
          refine st6 bB62 rfl fun w8 b8 k8 s8 => ?_
          refine ⟨_, b8.cell rfl, _, b8.cell rfl, _, b8.cell rfl, _, b8.cell rfl, _, b8.cell rfl, _, _, _, b8.cell rfl, ?_⟩
          have hoff : Off cl.1 [w.heap.size] := fun q hq => by have := hn43 q hq; simp; omega
          exact hgood w8 ⟨dPart l, cl.1, cl.2⟩ (k062.trans k8 (by simp)) (g2 e) ((hd43.keep k62 (Off.nil _)).keep k8 hoff) (fun q hq => Nat.le_trans kk.1 (hn43 q hq))
            (fun q hq => Nat.lt_of_lt_of_le (hlt43 q hq) (Nat.le_trans k62.1 k8.1))
    · refine ⟨fun _ => H true w57 k57 (fun _ => by unfold decodeL; rw [if_neg (by intro hx; rw [hmay] at hx; exact absurd hx.2.2.1 (by decide))]) (fun e => by cases e), fun e => by simp at e⟩
    · refine ⟨fun e => by simp at e, fun _ => ?_⟩
      have lenc : (encodeL (dPart l)).length = 256 := encRange_length (may_data hmay).1 (Nat.le_refl _)
      refine bytes_Equal (encodeL (dPart l)) l lenc rfl o58.has (h.keep (k043.trans k57 (by simp)) (Off.nil _)) ⟨_, rfl, ?_⟩
      refine H _ w57 k57 (fun e => ?_) (fun e => ?_)
      · have hne : ¬ encodeL (dPart l) = l := by simpa using e
        unfold decodeL; rw [if_neg (by intro hx; exact hne hx.2.2.2)]
      · have he : encodeL (dPart l) = l := by simpa using e
        unfold decodeL; rw [if_pos ⟨h256, hmany, hmay, he⟩]
  clear hJ hgood hbad
  have hS : DecSt w19 w19.drew (dPart l).data none none := ⟨Keep.drew _, by simp, by simp⟩
  obtain ⟨bi, oi, rfl, hri⟩ : ∃ b o, sa = some ⟨b, o, none⟩ ∧ Rdb w19 b o ((dIn l).map B) := by
    rcases hin with hx | hx
    · simp at hx; rw [hx] at linl; simp at linl
    · exact hx
  have hc2 : w19.cell? ⟨bi, oi + 2, none⟩ = some (B ((dIn l).getD 2 0)) := hri 2 _ (by simp [show 2 < (dIn l).length by omega])
  have hc3 : w19.cell? ⟨bi, oi + 3, none⟩ = some (B ((dIn l).getD 3 0)) := hri 3 _ (by simp [show 3 < (dIn l).length by omega])
  have hu2 := ((dIn l).getD 2 0).toNat_lt
  have hu3 := ((dIn l).getD 3 0).toNat_lt
  refine ⟨bi, oi, rfl, by omega, by simp only; omega, _, hc2, fun n105 h105 => ⟨bi, oi, rfl, by omega, by simp only; omega, _, hc3, fun n109 h109 => ?_⟩⟩
  rw [wrap64 (by omega) (by omega)] at h105 h109
  subst h105 h109
  refine ⟨by omega, by omega, by simp only; omega, by omega, by omega, by simp only; omega, by omega, by omega, by simp only; omega, fun n110 h110 => ?_⟩
  rw [wrap64 (by omega) (by omega)] at h110
  subst h110
  refine ⟨by omega, by omega, by simp only; omega, ?_⟩
  have t1 : ((22 : Int) + (numL (dSub l 4 2) : Int)).toNat = 22 + numL (dSub l 4 2) := by omega
  rw [t1]
  have hN6 := hcut 6 12 (by decide) (by decide)
  have hN12 := hcut 12 18 (by decide) (by decide)
  have hN18 := hcut 18 22 (by decide) (by decide)
  have hD := hcut 22 (22 + numL (dSub l 4 2)) (by omega) (by omega)
  rw [show 22 + numL (dSub l 4 2) - 22 = numL (dSub l 4 2) by omega] at hD
  have l6 : (dSub l 6 6).length = 6 := dSub_length h256 (by decide)
  have l12 : (dSub l 12 6).length = 6 := dSub_length h256 (by decide)
  have l18 : (dSub l 18 4).length = 4 := dSub_length h256 (by decide)
  have lD : (dPart l).data.length = 22 + numL (dSub l 4 2) - Int.toNat 22 := by
    show (dSub l 22 (numL (dSub l 4 2))).length = _
    rw [dSub_length h256 (by omega)]
    have : Int.toNat 22 = 22 := rfl
    omega
  repeat' (first
    | (refine ⟨hS.cell hc3, ?_⟩)
    | (refine ⟨hS.cell hc2, ?_⟩)
    | (refine hS.make fun w' hS => ?_)
    | (refine seg_number (dSub l 6 6) l6 (hN6.keep hS.keep (Off.nil _)) (by decide) ⟨_, rfl, ?_⟩)
    | (refine seg_number (dSub l 12 6) l12 (hN12.keep hS.keep (Off.nil _)) (by decide) ⟨_, rfl, ?_⟩)
    | (refine seg_number (dSub l 18 4) l18 (hN18.keep hS.keep (Off.nil _)) (by decide) ⟨_, rfl, ?_⟩)
    | (refine hS.clone hD lD (by have : Int.toNat 22 = 22 := rfl; omega) fun w' a' cap' hS => ⟨_, _, _, rfl, ?_⟩)
    | (exact dec_leaf hS fun b w' g1 g2 g3 g4 g5 g6 => hleaf b w' g1 g2 _ g3 g4 g5 g6)
    | (refine And.intro ?_ ?_))
end Go.Proofs
