/- Contracts: a block's bytes. -/
import Derived.Test.YtbkcpddedpmenaaCs
set_option maxRecDepth 100000
namespace Go.Proofs
open Go Go.Vc

/-! ### the literal's letters, turned into bytes -/
theorem run_stringish {w : World} {b len cap : Nat} {l : List UInt8} (h : Blk w b (l.map B) T_uint8) :
    ∃ w', (convert T_slice_uint8 T_slice_uint8 (.slice (some ⟨b, 0, none⟩) len cap)).run P0 w = .ok (.slice (some ⟨b, 0, none⟩) len cap) w' ∧ HasB w' (some ⟨b, 0, none⟩) l ∧ Keep [b] w w' ∧ w'.heap.size = w.heap.size := by
  have hs : Program.underlying P0 T_slice_uint8 = some (.slice T_uint8) := by kernel_rfl
  have he : Program.underlying P0 T_uint8 = some (.int .u8) := by kernel_rfl
  have hsh : w.shape? b = some (T_uint8, (l.map B).toArray.size) := by unfold Blk at h; simp [World.shape?, h]
  refine ⟨w.freeze { block := b, off := (l.map B).toArray.size } 1, ?_, ?_, ?_, ?_⟩
  · simp [convert, run_underlying hs, run_underlying he, markStringish, shape, freeze, Sem.run, hsh]
  · refine .inr ⟨b, 0, rfl, fun j v hj => ?_⟩
    have e : (w.freeze { block := b, off := (l.map B).toArray.size } 1).heap[b]? = some (.cells (l.map B).toArray T_uint8 ((l.map B).toArray.size, (l.map B).toArray.size + 1)) := by
      unfold Blk at h
      simp only [World.freeze, if_neg (show ¬ (1 : Nat) = 0 by decide)]
      rw [Array.getElem?_modify]
      simp [h]
    have hj' : (l.map B).toArray[0 + j]? = some v := by simpa using hj
    unfold World.cell?
    simp only [e]
    simpa using hj'
  · refine ⟨by simp [World.freeze], fun q hq hm => ?_, rfl, rfl⟩
    have : b ≠ q := by simpa using Ne.symm (by simpa using hm)
    simp [World.freeze, Array.getElem?_modify, this]
  · simp [World.freeze]

/-- Where Encode stands while it lays its parts down: what came out of put; whether the letters are made, and turned. -/
structure EncSt (w0 w : World) (ps : List Pc) (lt : Option (Nat × Bool)) : Prop where
  keep : Keep [] w0 w
  each : ∀ p ∈ ps, (p.l.length = p.len ∧ HasB w p.a p.l) ∧ Lt w p.a ∧ ∀ b f, lt = some (b, f) → Off p.a [b]
  made : ∀ b, lt = some (b, false) → Blk w b ([80, 66].map B) T_uint8 ∧ w0.heap.size ≤ b
  turned : ∀ b, lt = some (b, true) → HasB w (some ⟨b, 0, none⟩) [80, 66] ∧ b < w.heap.size ∧ w0.heap.size ≤ b

theorem EncSt.cell {w0 w : World} {ps : List Pc} {lt : Option (Nat × Bool)} (h : EncSt w0 w ps lt) {b i : Nat} {c : List Value} {T : TypeId} {v : Value} (hb : Blk w0 b c T) (hi : c[i]? = some v) : w.cell? ⟨b, i, none⟩ = some v :=
  (h.keep.blk hb (by simp)).cell hi
theorem EncSt.put {w0 w : World} {ps : List Pc} {lt : Option (Nat × Bool)} (h : EncSt w0 w ps lt) {n k : Int} {R : Ending → World → Prop} (n' k' : Nat) (hn : n = n') (hk : k = k') (hn' : n' < 2 ^ 63) (hk' : k' ≤ 8)
    (hq : ∀ w' b, EncSt w0 w' (ps ++ [⟨some ⟨b, 0, none⟩, k', k', putL n' k'⟩]) lt → R (.returned (.slice (some ⟨b, 0, none⟩) k' k')) w') : Calls P0 f_seg_put #[.int .i64 n, .int .i64 k] w R := by
  subst hn hk
  refine seg_put n' k' hn' hk' w R fun w' b hge hkp hb => hq w' b ⟨h.keep.trans hkp (by simp), fun p hp => ?_, fun q hq => ?_, fun q hq => ?_⟩
  · rcases List.mem_append.1 hp with hp | hp
    · obtain ⟨h1, h2, h3⟩ := h.each p hp
      exact ⟨⟨h1.1, h1.2.keep hkp (Off.nil _)⟩, fun q hq => Nat.lt_of_lt_of_le (h2 q hq) hkp.1, h3⟩
    · simp at hp; subst hp
      refine ⟨⟨putL_length _ _, .inr ⟨b, 0, rfl, by have := Rdb.of_blk hb 0 k'; simpa [List.take_of_length_le, putL_length] using this⟩⟩, fun q hq => ?_, fun q f hq x hx => ?_⟩
      · injection hq with hq; subst hq; exact hb.lt
      · injection hx with hx; subst hx
        have : q < w.heap.size := by
          cases f with
          | false => exact (h.made q hq).1.lt
          | true => exact (h.turned q hq).2.1
        simp; omega
  · obtain ⟨h1, h2⟩ := h.made q hq
    exact ⟨hkp.blk h1 (by simp), h2⟩
  · obtain ⟨h1, h2, h3⟩ := h.turned q hq
    exact ⟨h1.keep hkp (Off.nil _), Nat.lt_of_lt_of_le h2 hkp.1, h3⟩
theorem EncSt.make {w0 w : World} {ps : List Pc} (h : EncSt w0 w ps none) {Q : World → Prop} (hq : ∀ w', EncSt w0 w' ps (some (w.heap.size, false)) → Q w') :
    ∀ w', w' = w.alloc (.cells #[.int .u8 80, .int .u8 66] T_uint8) → Q w' := by
  refine al (c := [.int .u8 80, .int .u8 66]) fun w' hb hk _ => hq w' ⟨h.keep.trans hk (by simp), fun p hp => ?_, fun q hq => ?_, fun q hq => by simp at hq⟩
  · obtain ⟨h1, h2, h3⟩ := h.each p hp
    refine ⟨⟨h1.1, h1.2.keep hk (Off.nil _)⟩, fun q hq => Nat.lt_of_lt_of_le (h2 q hq) hk.1, fun q f hq x hx => ?_⟩
    have := h2 x hx
    simp at hq
    simp; omega
  · simp at hq; subst hq
    exact ⟨hb, h.keep.1⟩
theorem EncSt.turn {w0 w : World} {ps : List Pc} {b : Nat} (h : EncSt w0 w ps (some (b, false))) :
    ∃ w', (convert T_slice_uint8 T_slice_uint8 (.slice (some ⟨b, 0, none⟩) 2 2)).run P0 w = .ok (.slice (some ⟨b, 0, none⟩) 2 2) w' ∧ EncSt w0 w' ps (some (b, true)) := by
  obtain ⟨hb, hge⟩ := h.made b rfl
  obtain ⟨w', hr, hh, hk, hs⟩ := run_stringish (len := 2) (cap := 2) (l := [80, 66]) hb
  refine ⟨w', hr, h.keep.trans hk (by simp [hge]), fun p hp => ?_, fun q hq => by simp at hq, fun q hq => ?_⟩
  · obtain ⟨h1, h2, h3⟩ := h.each p hp
    have ho := h3 b false rfl
    refine ⟨⟨h1.1, h1.2.keep hk ho⟩, fun q hq => by have := h2 q hq; omega, fun q f hq => ?_⟩
    simp at hq; obtain ⟨rfl, _⟩ := hq; exact ho
  · simp at hq; subst hq
    exact ⟨hh, by have := hb.lt; omega, hge⟩

/-! ### a block's form -/
def headL (p : Part) : List UInt8 :=
  [80, 66] ++ (putL p.parts.toNat 1 ++ (putL p.index.toNat 1 ++ (putL p.data.length 2 ++ (putL p.no.toNat 6 ++ (putL p.place.toNat 6 ++ (putL p.era.toNat 4 ++ p.data))))))
def inL (p : Part) : List UInt8 := headL p ++ List.replicate (220 - (headL p).length) 0
def inS (p : Part) : List UInt8 := inL p ++ putL (crcOf (inL p)).toNat 4
def tagL (p : Part) : List UInt8 := putL p.place.toNat 4 ++ putL p.era.toNat 4
def encStep (p : Part) (i : Nat) : List UInt8 := ((inS p).drop (56 * i)).take 56 ++ tagL p
def encodeL (p : Part) : List UInt8 := (List.range 4).flatMap (encStep p)
theorem headL_length (p : Part) : (headL p).length = 22 + p.data.length := by simp [headL, putL_length]; omega
theorem inL_length {p : Part} (h : p.data.length ≤ 198) : (inL p).length = 220 := by simp [inL, headL_length]; omega
theorem inS_length {p : Part} (h : p.data.length ≤ 198) : (inS p).length = 224 := by simp [inS, inL_length h, putL_length]
theorem tagL_length (p : Part) : (tagL p).length = 8 := by simp [tagL, putL_length]
theorem may_data {p : Part} (h : mayB p = true) : p.data.length ≤ 198 ∧ 1 ≤ p.data.length := by
  simp only [mayB, Bool.and_eq_true, Bool.or_eq_true] at h
  rcases h.2.2.2.2.2 with hx | hx
  · have := eq_of_beq hx; omega
  · have := inB_eq.1 hx.2; omega
theorem may_nums {p : Part} (h : mayB p = true) : (0 ≤ p.place ∧ p.place ≤ 1099511627776) ∧ (1 ≤ p.no ∧ p.no ≤ 1099511627776) ∧ (1 ≤ p.era ∧ p.era ≤ 4294967295) ∧ (1 ≤ p.parts ∧ p.parts ≤ 64) ∧ (0 ≤ p.index ∧ p.index ≤ p.parts - 1) := by
  simp only [mayB, Bool.and_eq_true, Bool.or_eq_true] at h
  exact ⟨inB_eq.1 h.1, inB_eq.1 h.2.1, inB_eq.1 h.2.2.1, inB_eq.1 h.2.2.2.1, inB_eq.1 h.2.2.2.2.1⟩

theorem enc_leaf {w0 wc : World} {B1 b : Nat} {x : PB} {p1 p2 p3 p4 p5 p6 : Pc} {J : World → Prop}
    (hS : EncSt w0 wc [p1, p2, p3, p4, p5, p6] (some (b, true))) (hl : p1.l ++ (p2.l ++ (p3.l ++ (p4.l ++ (p5.l ++ (p6.l ++ x.p.data))))) = (headL x.p).drop 2)
    (hB : Blk w0 B1 (List.replicate 220 (.int .u8 0)) T_uint8) (hd : HasB w0 x.a x.p.data) (h198 : x.p.data.length ≤ 198)
    (hJ : ∀ w', Keep [B1] w0 w' → Blk w' B1 ((inL x.p).map B) T_uint8 → J w') :
    ∀ w2, w2 = wc.alloc (.cells #[.slice (some ⟨b, 0, none⟩) 2 2, .slice p1.a p1.len p1.cap, .slice p2.a p2.len p2.cap, .slice p3.a p3.len p3.cap, .slice p4.a p4.len p4.cap, .slice p5.a p5.len p5.cap, .slice p6.a p6.len p6.cap, .slice x.a x.p.data.length x.cap] T_slice_uint8) →
      Calls P0 f_slices_Concat_byte #[.slice (some ⟨wc.heap.size, 0, none⟩) 8 8] w2 (fun e w' => ∃ (a : Option Addr) (l c : Nat), e = .returned (.slice a l c) ∧ ∃ n : Int, ∃ w'',
        Sem.run P0 (Builtin.copy_ #[T_slice_uint8, T_slice_uint8] T_int #[.slice (some ⟨B1, 0, none⟩) 220 220, .slice a l c]) w' = .ok (.int .i64 n) w'' ∧ J w'') := by
  let xs : List Pc := [⟨some ⟨b, 0, none⟩, 2, 2, [80, 66]⟩, p1, p2, p3, p4, p5, p6, ⟨x.a, x.p.data.length, x.cap, x.p.data⟩]
  refine al (c := xs.map Pc.v) fun w2 hb2 hk2 _ => ?_
  obtain ⟨t1, t2, t3⟩ := hS.turned b rfl
  have hS1 := hS.each p1 (by simp)
  have hS2 := hS.each p2 (by simp)
  have hS3 := hS.each p3 (by simp)
  have hS4 := hS.each p4 (by simp)
  have hS5 := hS.each p5 (by simp)
  have hS6 := hS.each p6 (by simp)
  have hflat : flat xs = headL x.p := by
    have h1 : headL x.p = [80, 66] ++ (headL x.p).drop 2 := rfl
    have h2 : flat xs = [80, 66] ++ (p1.l ++ (p2.l ++ (p3.l ++ (p4.l ++ (p5.l ++ (p6.l ++ x.p.data)))))) := by
      simp only [flat, xs, List.flatMap_cons, List.flatMap_nil, List.append_nil]
    rw [h1, ← hl, h2]
  have hlen := headL_length x.p
  have hsl : Slcs w2 (some ⟨wc.heap.size, 0, none⟩) xs := by
    refine ⟨.inr ⟨_, 0, rfl, by have := Rdb.of_blk hb2 0 8; simpa [xs] using this⟩, fun p hp => ?_⟩
    simp only [xs, List.mem_cons, List.not_mem_nil, or_false] at hp
    rcases hp with rfl | rfl | rfl | rfl | rfl | rfl | rfl | rfl
    · exact ⟨rfl, t1.keep hk2 (Off.nil _)⟩
    · exact ⟨hS1.1.1, hS1.1.2.keep hk2 (Off.nil _)⟩
    · exact ⟨hS2.1.1, hS2.1.2.keep hk2 (Off.nil _)⟩
    · exact ⟨hS3.1.1, hS3.1.2.keep hk2 (Off.nil _)⟩
    · exact ⟨hS4.1.1, hS4.1.2.keep hk2 (Off.nil _)⟩
    · exact ⟨hS5.1.1, hS5.1.2.keep hk2 (Off.nil _)⟩
    · exact ⟨hS6.1.1, hS6.1.2.keep hk2 (Off.nil _)⟩
    · exact ⟨rfl, (hd.keep hS.keep (Off.nil _)).keep hk2 (Off.nil _)⟩
  have hfl : (flat xs).length = 22 + x.p.data.length := by rw [hflat, hlen]
  refine slices_Concat_byte xs rfl hsl (by omega) (by omega) fun w3 a3 c3 fp3 hk3 ho3 hf3 => ⟨_, _, _, rfl, ?_⟩
  have hk03 : Keep [] w0 w3 := (hS.keep.trans hk2 (by simp)).trans hk3 (by simp)
  have hB3 := hk03.blk hB (by simp)
  have hr := copy_run E8 (ty := T_int) (o := 0) (dl := 220) (dc := 220) (sl := (flat xs).length) (sc := c3) (x := a3) (news := (flat xs).map B) hB3
    (by rw [Nat.min_eq_left (by omega)]; simp) ho3.has (mapB_one _) (by simp; omega)
  refine ⟨_, _, hr, hJ _ ((hk03.mono (N := [B1]) (by simp)).trans (Keep.sets _ _ _ _) (by simp)) ?_⟩
  have := hB3.sets ((flat xs).map B) 0 (by simp; omega)
  have e : List.take 0 (List.replicate 220 (Value.int .u8 0)) ++ (flat xs).map B ++ (List.replicate 220 (Value.int .u8 0)).drop (0 + ((flat xs).map B).length) = (inL x.p).map B := by
    rw [List.take_zero, List.nil_append, Nat.zero_add, List.drop_replicate, List.length_map, hflat]
    unfold inL
    rw [List.map_append, List.map_replicate]
    rfl
  rw [e] at this
  exact this

/-- Copy into an array's block. -/
theorem copy_arr {w : World} {b o dl dc sl sc : Nat} {x : Option Addr} {c news : List Value} {T : TypeId} (hb : Blk w b c T) (hn : news.length = min sl dl) (hx : Has w x news) (hone : ∀ v ∈ news, v.oneCell' = true)
    (hfit : o + news.length ≤ c.length) :
    (Builtin.copy_ #[T_slice_uint8, T_slice_uint8] T_int #[.slice (some ⟨b, o, none⟩) dl dc, .slice x sl sc]).run P0 w = .ok (.int .i64 (min sl dl : Nat)) (w.setCells b o news) :=
  copy_run' E8 hb (by rw [hn]; simp) hx hone hfit

theorem zero64 : zeroCellsOf P0 T_arr64_uint8 = (List.replicate 64 (Value.int .u8 0)).toArray := by kernel_rfl
theorem arr_base (a : Addr) : (if (64 : Nat) = 0 then a else Addr.add a (0 * 1)) = a := by simp [Addr.add]
theorem encodeL_take (p : Part) (i : Nat) : (List.range (i + 1)).flatMap (encStep p) = (List.range i).flatMap (encStep p) ++ encStep p i := by
  rw [List.range_succ, List.flatMap_append]; simp
theorem encStep_length {p : Part} (h : p.data.length ≤ 198) {i : Nat} (hi : i < 4) : (encStep p i).length = 64 := by
  simp [encStep, inS_length h, tagL_length]; omega
theorem encRange_length {p : Part} (h : p.data.length ≤ 198) : ∀ {i : Nat}, i ≤ 4 → ((List.range i).flatMap (encStep p)).length = 64 * i
  | 0, _ => by simp
  | i + 1, hi => by rw [encodeL_take, List.length_append, encRange_length h (by omega), encStep_length h (by omega)]; omega

/- Behind the parts that are laid down: the sum, the tags, the four sectors. -/
set_option maxHeartbeats 4000000 in
theorem seg_Encode {w : World} {R : Ending → World → Prop} (x : PB) (hd : HasB w x.a x.p.data)
    (hbad : ∀ w', Keep [] w w' → mayB x.p = false → R (.returned (.tuple #[.slice none 0 0, .int .i64 70])) w')
    (hgood : ∀ w' a' cap' fp, Keep [] w w' → mayB x.p = true → Own w' T_uint8 1 a' 256 cap' ((encodeL x.p).map B) fp → (∀ q ∈ fp, w.heap.size ≤ q) → R (.returned (.tuple #[.slice a' 256 cap', .int .i64 0])) w') :
    Calls P0 f_seg_Encode #[.agg #[.int .i64 x.p.place, .int .i64 x.p.no, .int .i64 x.p.index, .int .i64 x.p.era, .int .i64 x.p.parts, .slice x.a x.p.data.length x.cap]] w R := by
  refine C_seg_Encode ?_
  refine al (c := x.cells) fun w7 b7 k7 _ => ?_
  refine ⟨_, b7.cell rfl, _, b7.cell rfl, _, b7.cell rfl, _, b7.cell rfl, _, b7.cell rfl, _, _, _, b7.cell rfl, ?_⟩
  refine seg_may x fun w21 k21 => ⟨_, rfl, fun hno => ?_, fun hno => ?_⟩
  · exact hbad w21 (k7.trans k21 (by simp)) (by simpa using hno)
  have hmay : mayB x.p = true := by simpa using hno
  have hdat := may_data hmay
  have hnum := may_nums hmay
  have h198 := hdat.1
  have k21' : Keep [] w w21 := k7.trans k21 (by simp)
  have b21 := k21.blk b7 (by simp)
  have hsz := k7.1
  refine ⟨_, _, _, _, make_run E8 rfl rfl 220 (by omega) w21, ?_⟩
  have hB : Blk (w21.alloc (.cells (List.replicate 220 (Value.int .u8 0)).toArray T_uint8)) w21.heap.size (List.replicate 220 (.int .u8 0)) T_uint8 := Blk.alloc_new _ _ _
  have hk : Keep [] w21 (w21.alloc (.cells (List.replicate 220 (Value.int .u8 0)).toArray T_uint8)) := Keep.alloc _ _
  generalize hB1 : w21.heap.size = B1 at *
  generalize (w21.alloc (.cells (List.replicate 220 (Value.int .u8 0)).toArray T_uint8)) = w24 at *
  have k24 : Keep [] w w24 := k21'.trans hk (by simp)
  have b24 : Blk w24 w.heap.size x.cells T_api_Part := hk.blk b21 (by simp)
  have hd24 : HasB w24 x.a x.p.data := hd.keep k24 (Off.nil _)
  intro J hJ
  have hleafJ : ∀ w', Keep [B1] w24 w' → Blk w' B1 ((inL x.p).map B) T_uint8 → J w' := fun w26 k26 hin => hJ w26 (by
    have hB1 : w.heap.size < B1 := by have := b21.lt; omega
    have b26 : Blk w26 w.heap.size x.cells T_api_Part := k26.blk b24 (by simp; omega)
    have k026 : Keep [] w w26 := k24.trans k26 (by simp; omega)
    have lin := inL_length h198
    have linS := inS_length h198
    have ltag := tagL_length x.p
    have oin : Own w26 T_uint8 1 (some ⟨B1, 0, none⟩) 220 220 ((inL x.p).map B) [B1] := .inr ⟨B1, _, rfl, rfl, hin, by simp [lin], by omega, by rw [List.take_of_length_le (by simp [lin])]⟩
    refine crc_Of (inL x.p) lin oin.has (by omega) fun w28 k28 => ⟨_, rfl, fun n30 h30 => ?_⟩
    have hr := crcOf_range (inL x.p)
    rw [wrap64 (by omega) (by omega)] at h30
    have h30' : n30 = ((crcOf (inL x.p)).toNat : Int) := by omega
    subst h30'
    refine seg_put _ 4 (by omega) (by decide) w28 _ fun w32 b33 g33 k32 hb33 => ⟨_, _, _, rfl, ?_⟩
    have oin32 := (oin.keep k28 (by simp)).keep k32 (by simp)
    have l33 : (putL (crcOf (inL x.p)).toNat 4).length = 4 := putL_length _ _
    have o33 : Own w32 T_uint8 1 (some ⟨b33, 0, none⟩) 4 4 ((putL (crcOf (inL x.p)).toNat 4).map B) [b33] := .inr ⟨b33, _, rfl, rfl, hb33, by simp [l33], by omega, by rw [List.take_of_length_le (by simp [l33])]⟩
    obtain ⟨a34, c34, w35, fp34, hr34, o34, k35, f34, _⟩ := own_append E8 (ty := T_slice_uint8) (xc := 4) oin32 (news := (putL (crcOf (inL x.p)).toNat 4).map B) (n := 4) (by simp [l33]) o33.has (mapB_one _) (by omega)
    rw [← List.map_append] at o34
    have e34 : inL x.p ++ putL (crcOf (inL x.p)).toNat 4 = inS x.p := rfl
    rw [e34] at o34
    refine ⟨_, _, _, w35, hr34, ?_⟩
    have kk32 : Keep [] w26 w32 := k28.trans k32 (by simp)
    have k2635 : Keep [B1] w26 w35 := (kk32.mono (N := [B1]) (by simp)).trans k35 (by simp)
    have b35 : Blk w35 w.heap.size x.cells T_api_Part := k2635.blk b26 (by simp; omega)
    have k035 : Keep [] w w35 := k026.trans k2635 (by simp; omega)
    have f34' : ∀ q ∈ fp34, w.heap.size ≤ q := fun q hq => by
      rcases f34 q hq with h | h
      · simp at h; omega
      · have := kk32.1; have := k026.1; omega
    have e4 : x.p.place = (x.p.place.toNat : Int) := by omega
    have e5 : x.p.era = (x.p.era.toNat : Int) := by omega
    refine ⟨_, b35.cell rfl, _, b35.cell rfl, ?_⟩
    rw [e4, e5]
    refine seg_put _ 4 (by omega) (by decide) w35.drew _ fun w39 b40 g40 k39 hb40 => ⟨_, _, _, rfl, ?_⟩
    have k35_39 : Keep [] w35 w39 := (Keep.drew w35).trans k39 (by simp)
    refine ⟨by rw [← e5]; exact (k35_39.blk b35 (by simp)).cell rfl, ?_⟩
    refine seg_put _ 4 (by omega) (by decide) w39 _ fun w42 b43 g43 k42 hb43 => ⟨_, _, _, rfl, ?_⟩
    have l40 : (putL x.p.place.toNat 4).length = 4 := putL_length _ _
    have l43 : (putL x.p.era.toNat 4).length = 4 := putL_length _ _
    have o40 : Own w42 T_uint8 1 (some ⟨b40, 0, none⟩) 4 4 ((putL x.p.place.toNat 4).map B) [b40] := .inr ⟨b40, _, rfl, rfl, k42.blk hb40 (by simp), by simp [l40], by omega, by rw [List.take_of_length_le (by simp [l40])]⟩
    have o43 : Own w42 T_uint8 1 (some ⟨b43, 0, none⟩) 4 4 ((putL x.p.era.toNat 4).map B) [b43] := .inr ⟨b43, _, rfl, rfl, hb43, by simp [l43], by omega, by rw [List.take_of_length_le (by simp [l43])]⟩
    obtain ⟨a44, c44, w45, fp44, hr44, o44, k45, f44, _⟩ := own_append E8 (ty := T_slice_uint8) (xc := 4) o40 (news := (putL x.p.era.toNat 4).map B) (n := 4) (by simp [l43]) o43.has (mapB_one _) (by omega)
    rw [← List.map_append] at o44
    have e44 : putL x.p.place.toNat 4 ++ putL x.p.era.toNat 4 = tagL x.p := rfl
    rw [e44] at o44
    refine ⟨_, _, _, w45, hr44, ?_⟩
    have k35_42 : Keep [] w35 w42 := k35_39.trans k42 (by simp)
    have g40' : w35.heap.size ≤ b40 := g40
    have k35_45 : Keep [] w35 w45 := k35_42.trans k45 (by simp; omega)
    have o34' := o34.keep k35_45 (by simp)
    have k045 : Keep [] w w45 := k035.trans k35_45 (by simp)
    have hin45 := o34'.has
    have htag45 := o44.has
    refine ⟨fun s i w' => 0 ≤ i ∧ i ≤ 4 ∧ Keep [] w45 w' ∧ s.len = 64 * i.toNat ∧ ∃ fp, Own w' T_uint8 1 s.a s.len s.cap (((List.range i.toNat).flatMap (encStep x.p)).map B) fp ∧ (∀ q ∈ fp, w45.heap.size ≤ q),
      fun _ i _ => (4 - i).toNat, ⟨by omega, by omega, Keep.refl _ _, by simp, [], .inl ⟨rfl, rfl, rfl, rfl, rfl⟩, by simp⟩, ?_⟩
    rintro ⟨sa, sl, sc⟩ i w50 ⟨h0, h1, hk50, hsl, fp, ho, hfp⟩
    obtain ⟨i, rfl⟩ := Int.eq_ofNat_of_zero_le h0
    simp only [Int.toNat_natCast] at hsl ho
    constructor
    · intro hlt
      have hlt : i < 4 := by have := of_decide_eq_true hlt; omega
      rw [zero64]
      refine al fun w51 b51 k51 s51 => ?_
      intro n52 h52 n53 h53 n54 h54
      rw [wrap64 (by omega) (by omega)] at h52 h53
      subst h53
      rw [wrap64 (by omega) (by omega)] at h54
      subst h52 h54
      have hc34 : 224 ≤ c34 := by
        rcases o34 with ⟨_, h, _⟩ | ⟨_, _, _, _, _, _, h, _⟩
        · omega
        · exact h
      refine ⟨by omega, by omega, by omega, ?_⟩
      rw [arr_base]
      have t1 : ((i : Int) * 56).toNat = 56 * i := by omega
      have t2 : (((i : Int) + 1) * 56).toNat = 56 * i + 56 := by omega
      rw [t1, t2]
      have k45_51 : Keep [] w45 w51.drew := (hk50.trans k51 (by simp)).then_drew
      have hb51 : Blk w51.drew w50.heap.size (List.replicate 64 (.int .u8 0)) T_arr64_uint8 := b51
      have lp : (((inS x.p).drop (56 * i)).take 56).length = 56 := by simp [linS]; omega
      have lpm : ((((inS x.p).drop (56 * i)).take 56).map B).length = 56 := by rw [List.length_map, lp]
      have ltm : ((tagL x.p).map B).length = 8 := by rw [List.length_map, ltag]
      have hp1 : HasB w51.drew (cutBase a34 (56 * i) c34 1) (((inS x.p).drop (56 * i)).take 56) := by
        have := has_cut (lo := 56 * i) (hi := 56 * i + 56) (m := c34) (hin45.keep k45_51 (Off.nil _)) (by omega) (by omega)
        rwa [show 56 * i + 56 - 56 * i = 56 by omega] at this
      have hr1 := copy_arr (b := w50.heap.size) (o := 0) (dl := 64 - 0) (dc := 64 - 0) (sl := 56 * i + 56 - 56 * i) (sc := c34 - 56 * i) (news := (((inS x.p).drop (56 * i)).take 56).map B) hb51
        (by rw [lpm]; omega) hp1 (mapB_one _) (by rw [lpm]; simp)
      have hb56 := hb51.sets ((((inS x.p).drop (56 * i)).take 56).map B) 0 (by rw [lpm]; simp)
      have k56 := Keep.sets w51.drew w50.heap.size ((((inS x.p).drop (56 * i)).take 56).map B) 0
      rw [List.take_zero, List.nil_append, List.length_map, lp, List.drop_replicate] at hb56
      refine ⟨_, _, hr1, by omega, by omega, ?_⟩
      generalize w51.drew.setCells w50.heap.size 0 ((((inS x.p).drop (56 * i)).take 56).map B) = w56 at *
      have ecut : cutBase (some ⟨w50.heap.size, 0, none⟩) (Int.toNat 56) 64 1 = some ⟨w50.heap.size, 56, none⟩ := by
        unfold cutBase; rw [if_neg (by decide)]; simp [add_mk]
      rw [ecut]
      have k45_56 : Keep [] w45 w56 := k45_51.trans k56 (by simp [hk50.1])
      have hr2 := copy_arr (b := w50.heap.size) (o := 56) (dl := 64 - Int.toNat 56) (dc := 64 - Int.toNat 56) (sl := 4 + 4) (sc := c44) (news := (tagL x.p).map B) hb56
        (by rw [ltm]; rfl) (htag45.keep k45_56 (Off.nil _)) (mapB_one _) (by rw [ltm, List.length_append, lpm]; simp)
      have hb58 := hb56.sets ((tagL x.p).map B) 56 (by rw [ltm, List.length_append, lpm]; simp)
      have k58 := Keep.sets w56 w50.heap.size ((tagL x.p).map B) 56
      have ecell : List.take 56 ((((inS x.p).drop (56 * i)).take 56).map B ++ List.replicate (64 - (0 + 56)) (Value.int .u8 0)) ++ (tagL x.p).map B ++
          List.drop (56 + ((tagL x.p).map B).length) ((((inS x.p).drop (56 * i)).take 56).map B ++ List.replicate (64 - (0 + 56)) (Value.int .u8 0)) = (encStep x.p i).map B := by
        have ed : List.drop (56 + ((tagL x.p).map B).length) ((((inS x.p).drop (56 * i)).take 56).map B ++ List.replicate (64 - (0 + 56)) (Value.int .u8 0)) = [] :=
          List.drop_of_length_le (by rw [ltm, List.length_append, lpm]; simp)
        rw [List.take_left' lpm, ed, List.append_nil, ← List.map_append]
        rfl
      rw [ecell] at hb58
      refine ⟨_, _, hr2, ?_⟩
      generalize w56.setCells w50.heap.size 56 ((tagL x.p).map B) = w58 at *
      have k50_58 : Keep [] w50 w58 := ((k51.then_drew).trans k56 (by simp)).trans k58 (by simp)
      have lst := encStep_length h198 hlt
      have hs58 : HasB w58 (some ⟨w50.heap.size, 0, none⟩) (encStep x.p i) := .inr ⟨_, 0, rfl, by have := Rdb.of_blk hb58 0 64; simpa [List.take_of_length_le, lst] using this⟩
      obtain ⟨a60, c60, w60, fp60, hr60, o60, k60, f60, _⟩ := own_append E8 (ty := T_slice_uint8) (xc := 64 - 0) (ho.keep k50_58 (by simp)) (news := (encStep x.p i).map B) (n := 64 - 0) (by simp [lst]) hs58 (mapB_one _) (by omega)
      refine ⟨_, _, _, w60, hr60, fun n61 h61 => ?_⟩
      rw [wrap64 (by omega) (by omega)] at h61
      subst h61
      have e1 : ((i : Int) + 1).toNat = i + 1 := by omega
      refine ⟨⟨by omega, by omega, (hk50.trans k50_58 (by simp)).trans k60 (fun q hq => .inr (hfp q hq)), ?_, fp60, ?_, ?_⟩, by dsimp only; omega⟩
      · simp only [e1]; omega
      · simp only [e1, encodeL_take, List.map_append]; exact o60
      · intro q hq
        rcases f60 q hq with hq | hq
        · exact hfp q hq
        · exact Nat.le_trans (Nat.le_trans hk50.1 k50_58.1) hq
    · intro hge
      have hge : 4 ≤ i := by have := of_decide_eq_false hge; omega
      have : i = 4 := by omega
      subst this
      subst hsl
      exact hgood w50 sa sc fp (k045.trans hk50 (by simp)) hmay ho (fun q hq => Nat.le_trans k045.1 (hfp q hq)))
  clear hJ
  have hS : EncSt w24 w24.drew [] none := ⟨Keep.drew _, by simp, by simp, by simp⟩
  refine ⟨_, b24.cell rfl, _, b24.cell rfl, _, _, _, b24.cell rfl, _, b24.cell rfl, _, b24.cell rfl, _, b24.cell rfl, _, _, _, b24.cell rfl, ?_⟩
  have e1 : x.p.parts = (x.p.parts.toNat : Int) := by omega
  have e2 : x.p.index = (x.p.index.toNat : Int) := by omega
  have e3 : x.p.no = (x.p.no.toNat : Int) := by omega
  have e4 : x.p.place = (x.p.place.toNat : Int) := by omega
  have e5 : x.p.era = (x.p.era.toNat : Int) := by omega
  have e6 : ((x.p.data.length : Nat) : Int) = (x.p.data.length : Int) := rfl
  have f1 : x.p.parts.toNat < 2 ^ 63 := by omega
  have f2 : x.p.index.toNat < 2 ^ 63 := by omega
  have f3 : x.p.no.toNat < 2 ^ 63 := by omega
  have f4 : x.p.place.toNat < 2 ^ 63 := by omega
  have f5 : x.p.era.toNat < 2 ^ 63 := by omega
  have f6 : x.p.data.length < 2 ^ 63 := by omega
  have hl : putL x.p.parts.toNat 1 ++ (putL x.p.index.toNat 1 ++ (putL x.p.data.length 2 ++ (putL x.p.no.toNat 6 ++ (putL x.p.place.toNat 6 ++ (putL x.p.era.toNat 4 ++ x.p.data))))) = (headL x.p).drop 2 := rfl
  clear hmay hdat hnum hno hbad hgood k7 b7 k21 b21 k21' hk hd
  repeat' (first
    | (refine ⟨hS.cell b24 rfl, ?_⟩)
    | (refine hS.make fun w' hS => ?_)
    | (obtain ⟨w', hr, hS⟩ := hS.turn; refine ⟨_, _, _, w', hr, ?_⟩; clear hr)
    | (refine hS.put x.p.parts.toNat 1 e1 rfl f1 (by decide) fun w' b hS => ⟨_, _, _, rfl, ?_⟩)
    | (refine hS.put x.p.index.toNat 1 e2 rfl f2 (by decide) fun w' b hS => ⟨_, _, _, rfl, ?_⟩)
    | (refine hS.put x.p.data.length 2 e6 rfl f6 (by decide) fun w' b hS => ⟨_, _, _, rfl, ?_⟩)
    | (refine hS.put x.p.no.toNat 6 e3 rfl f3 (by decide) fun w' b hS => ⟨_, _, _, rfl, ?_⟩)
    | (refine hS.put x.p.place.toNat 6 e4 rfl f4 (by decide) fun w' b hS => ⟨_, _, _, rfl, ?_⟩)
    | (refine hS.put x.p.era.toNat 4 e5 rfl f5 (by decide) fun w' b hS => ⟨_, _, _, rfl, ?_⟩)
    | (exact enc_leaf hS hl hB hd24 h198 hleafJ)
    | (refine And.intro ?_ ?_))
end Go.Proofs
