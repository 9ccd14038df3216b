/- Contracts: segments. -/
import Derived.Test.YtbkcpddedpmenaaCk
set_option maxRecDepth 100000
namespace Go.Proofs
open Go Go.Vc
variable {w : World} {R : Ending → World → Prop} {d bp bn n s sl fi la : Nat} {fw : List Nat} {m : DiskM}

/-- Segments, of a disk. -/
def SegIs (w : World) (s d sl fi la : Nat) : Prop := Blk w s [.pointer (some ⟨d, 0, none⟩), .int .i64 sl, .int .i64 fi, .int .i64 la] T_seg_Segs ∧ 4 ≤ sl ∧ sl ≤ 1000 ∧ fi ≤ la ∧ la ≤ 68719476736
theorem SegIs.keep {w' : World} {M : List Nat} (h : SegIs w s d sl fi la) (hk : Keep M w w') (hm : s ∉ M) : SegIs w' s d sl fi la := ⟨hk.blk h.1 hm, h.2⟩

theorem seg_New (h : DiskIs w d bp bn fw n m) {fi la : Nat} (hs : 136 ≤ n) (h1 : fi ≤ la) (h2 : la ≤ 68719476736) (h3 : la - fi ≤ (n - 8) / 32)
    (hR : ∀ w' s, Keep [] w w' → w.heap.size ≤ s → SegIs w' s d ((n - 8) / 32) fi la → R (.returned (.tuple #[.pointer (some ⟨s, 0, none⟩), .int .i64 0])) w') :
    Calls P0 f_seg_New #[.pointer (some ⟨d, 0, none⟩), .int .i64 fi, .int .i64 la] w R := by
  have hn := h.n1
  refine C_seg_New (disk_Sectors h ⟨_, rfl, fun n7 h7 => ⟨by decide, fun n8 h8 => ?_⟩⟩)
  rw [wrap64 (by omega) (by omega)] at h7
  subst h7
  rw [if_pos (by omega), Int.tdiv_eq_ediv_of_nonneg (by omega), wrap64 (by omega) (by omega)] at h8
  have h8 : n8 = (((n - 8) / 32 : Nat) : Int) := by omega
  subst h8
  refine ⟨(fun e => by have := of_decide_eq_true e; omega), fun _ => ⟨(fun e => by have := of_decide_eq_true e; omega), fun _ => ⟨(fun e => by have := of_decide_eq_true e; omega), fun _ =>
    ⟨(fun e => by have := of_decide_eq_true e; omega), fun _ n9 h9 => ?_⟩⟩⟩⟩
  rw [wrap64 (by omega) (by omega)] at h9
  subst h9
  refine ⟨(fun e => by have := of_decide_eq_true e; omega), fun _ => ?_⟩
  refine al (c := [.pointer (some ⟨d, 0, none⟩), .int .i64 (((n - 8) / 32 : Nat) : Int), .int .i64 fi, .int .i64 la]) fun w' b' k' s' => ?_
  exact hR w' _ k' (Nat.le_refl _) ⟨b', by omega, by omega, h1, h2⟩

theorem seg_Slots (h : SegIs w s d sl fi la) (hR : R (.returned (.int .i64 sl)) w) : Calls P0 f_seg_Segs_Slots #[.pointer (some ⟨s, 0, none⟩)] w R :=
  C_seg_Segs_Slots ⟨_, _, rfl, _, h.1.cell rfl, hR⟩
theorem seg_First (h : SegIs w s d sl fi la) (hR : R (.returned (.int .i64 fi)) w) : Calls P0 f_seg_Segs_First #[.pointer (some ⟨s, 0, none⟩)] w R :=
  C_seg_Segs_First ⟨_, _, rfl, _, h.1.cell rfl, hR⟩
theorem seg_End (h : SegIs w s d sl fi la) (hR : R (.returned (.int .i64 la)) w) : Calls P0 f_seg_Segs_End #[.pointer (some ⟨s, 0, none⟩)] w R :=
  C_seg_Segs_End ⟨_, _, rfl, _, h.1.cell rfl, hR⟩
theorem seg_Used (h : SegIs w s d sl fi la) (hR : ∀ w', Keep [] w w' → w'.heap.size = w.heap.size → R (.returned (.int .i64 ((la - fi : Nat) : Int))) w') : Calls P0 f_seg_Segs_Used #[.pointer (some ⟨s, 0, none⟩)] w R := by
  have g := h.2
  refine C_seg_Segs_Used ⟨_, _, rfl, _, (show Blk w.drew s _ _ from h.1).cell rfl, _, _, rfl, _, (show Blk w.drew s _ _ from h.1).cell rfl, fun k hk => ?_⟩
  rw [wrap64 (by omega) (by omega)] at hk
  have : k = ((la - fi : Nat) : Int) := by omega
  subst this
  exact hR _ (Keep.drew _) rfl

theorem seg_Grow (h : SegIs w s d sl fi la) (hla : la < 68719476736) (hfull : ∀ w', Keep [] w w' → la - fi = sl → R (.returned (.int .i64 3)) w')
    (hR : ∀ w', Keep [s] w w' → la - fi ≠ sl → SegIs w' s d sl fi (la + 1) → R (.returned (.int .i64 0)) w') : Calls P0 f_seg_Segs_Grow #[.pointer (some ⟨s, 0, none⟩)] w R := by
  have g := h.2
  refine C_seg_Segs_Grow ⟨_, _, rfl, _, (show Blk w.drew s _ _ from h.1).cell rfl, ?_⟩
  have hd : SegIs w.drew s d sl fi la := h
  refine seg_Used hd fun w6 k6 s6 => ⟨_, rfl, (k6.blk hd.1 (by simp)).cell rfl, fun e => ?_, fun e => ?_⟩
  · exact hfull w6 ((Keep.drew w).trans k6 (by simp)) (by simp at e; omega)
  · have h6 := k6.blk hd.1 (by simp)
    refine ⟨_, _, rfl, _, h6.cell rfl, fun k hk => ⟨_, _, rfl, st h6 (by simp) fun w7 b7 k7 s7 => ?_⟩⟩
    rw [wrap64 (by omega) (by omega)] at hk
    have : k = ((la + 1 : Nat) : Int) := by omega
    subst this
    exact hR w7 ((((Keep.drew w).trans k6 (by simp)).mono (by simp)).trans k7 (by simp)) (by simp at e; omega) ⟨b7, g.1, g.2.1, by omega, by omega⟩

theorem seg_has (h : SegIs w s d sl fi la) {p : Int} (hR : R (.returned (.bool (decide (p ≥ 8 * fi) && decide (p < 8 * la)))) w) : Calls P0 f_seg_Segs_has #[.pointer (some ⟨s, 0, none⟩), .int .i64 p] w R := by
  have g := h.2
  refine C_seg_Segs_has ⟨_, _, rfl, _, h.1.cell rfl, fun k hk => ?_⟩
  rw [wrap64 (by omega) (by omega)] at hk
  have : k = 8 * (fi : Int) := by omega
  subst this
  refine ⟨fun e => ⟨_, _, rfl, _, h.1.cell rfl, fun j hj => ?_⟩, fun e => ?_⟩
  · rw [wrap64 (by omega) (by omega)] at hj
    have : j = 8 * (la : Int) := by omega
    subst this
    rw [e] at hR
    exact hR
  · rw [e] at hR
    exact hR

def secOf (sl p : Nat) : Nat := 8 + (p / 8 % sl * 8 + p % 8) * 4
theorem seg_sector (h : SegIs w s d sl fi la) {p : Nat} (hp : p ≤ 1000000000000000) (hR : R (.returned (.int .i64 (secOf sl p))) w) : Calls P0 f_seg_Segs_sector #[.pointer (some ⟨s, 0, none⟩), .int .i64 p] w R := by
  have g := h.2
  refine C_seg_Segs_sector ⟨by decide, fun n3 h3 => ⟨_, _, rfl, _, h.1.cell rfl, by omega, fun n7 h7 n8 h8 => ⟨by decide, fun n9 h9 n10 h10 n11 h11 n12 h12 => ?_⟩⟩⟩
  rw [Int.tdiv_eq_ediv_of_nonneg (by omega), wrap64 (by omega) (by omega)] at h3
  have h3 : n3 = ((p / 8 : Nat) : Int) := by omega
  subst h3
  rw [Int.tmod_eq_emod_of_nonneg (by omega)] at h7
  have h7 : n7 = ((p / 8 % sl : Nat) : Int) := by rw [h7]; exact (Int.natCast_emod _ _).symm
  subst h7
  have hlt : p / 8 % sl < sl := Nat.mod_lt _ (by omega)
  rw [wrap64 (by omega) (by omega)] at h8
  rw [Int.tmod_eq_emod_of_nonneg (by omega)] at h9
  have h9 : n9 = ((p % 8 : Nat) : Int) := by omega
  subst h9
  rw [wrap64 (by omega) (by omega)] at h10
  rw [wrap64 (by omega) (by omega)] at h11
  rw [wrap64 (by omega) (by omega)] at h12
  have : n12 = (secOf sl p : Nat) := by unfold secOf; omega
  rw [this]; exact hR

theorem secOf_le {sl p n : Nat} (hs : sl = (n - 8) / 32) (h4 : 4 ≤ sl) : secOf sl p + 4 ≤ n := by
  have hlt : p / 8 % sl < sl := Nat.mod_lt _ (by omega)
  unfold secOf; omega

abbrev PB.val (x : PB) : Value := .agg #[.int .i64 x.p.place, .int .i64 x.p.no, .int .i64 x.p.index, .int .i64 x.p.era, .int .i64 x.p.parts, .slice x.a x.p.data.length x.cap]

theorem seg_Write (hd : DiskIs w d bp bn fw n m) (h : SegIs w s d sl fi la) (hsl : sl = (n - 8) / 32) (x : PB) (hx : HasB w x.a x.p.data) (hmay : mayB x.p = true) (h1 : 8 * (fi : Int) ≤ x.p.place) (h2 : x.p.place < 8 * (la : Int)) (hws : m.ws.length + 4 ≤ 1000000000)
    (hR : ∀ w' fw', Keep (d :: bp :: bn :: fw) w w' → (∀ q ∈ fw', q ∈ fw ∨ w.heap.size ≤ q) → DiskIs w' d bp bn fw' n (writeN m (secOf sl x.p.place.toNat) (encodeL x.p) 4) → R (.returned (.int .i64 0)) w') :
    Calls P0 f_seg_Segs_Write #[.pointer (some ⟨s, 0, none⟩), x.val] w R := by
  refine C_seg_Segs_Write ?_
  refine al (c := x.cells) fun w8 b8 k8 s8 => ?_
  refine ⟨_, b8.cell rfl, _, b8.cell rfl, _, b8.cell rfl, _, b8.cell rfl, _, b8.cell rfl, _, _, _, b8.cell rfl, ?_⟩
  refine seg_Encode x (hx.keep k8 (Off.nil _)) (fun w' _ hm => by rw [hmay] at hm; cases hm) fun w22 a22 c22 fp k22 _ o22 f22 => ⟨_, _, _, _, rfl, (fun e => by simp at e), fun _ => ?_⟩
  have b22 := k22.blk b8 (by simp)
  have k02 : Keep [] w w22 := k8.trans k22 (by simp)
  have h22 := h.keep k02 (by simp)
  have hpl := (may_nums hmay).1
  refine ⟨_, b22.cell rfl, seg_has h22 ⟨_, rfl, (fun e => ?_), fun _ => ?_⟩⟩
  · rw [decide_eq_true (by omega), decide_eq_true h2] at e; cases e
  refine ⟨_, _, rfl, _, (show Blk w22.drew s _ _ from h22.1).cell rfl, _, (show Blk w22.drew w.heap.size _ _ from b22).cell rfl, ?_⟩
  obtain ⟨p, hp⟩ := Int.eq_ofNat_of_zero_le hpl.1
  rw [hp] at hpl ⊢
  refine seg_sector (show SegIs w22.drew s d sl fi la from h22) (by omega) ⟨_, rfl, (show Blk w22.drew s _ _ from h22.1).cell rfl, ?_⟩
  have hdk : DiskIs w22.drew d bp bn fw n m := hd.keep (k02.then_drew) (by simp)
  have hsec := secOf_le (p := p) hsl h.2.1
  have lenc : (encodeL x.p).length = 256 := encRange_length (may_data hmay).1 (Nat.le_refl _)
  have hcap : 256 ≤ c22 := by
    rcases o22 with ⟨_, h, _⟩ | ⟨_, _, _, _, _, _, h, _⟩
    · omega
    · omega
  have hlt := hd.lt
  refine disk_Write (k := 4) hdk (encodeL x.p) o22.has (by omega) hcap (by omega) ?_ (Own.ltA (w := w22.drew) o22) hws fun w37 fw37 k37 f37 d37 => ⟨_, rfl, ?_⟩
  · intro q hq hm
    have hq2 : q.block ∈ fp := by
      rcases o22 with ⟨rfl, _⟩ | ⟨b, c, rfl, rfl, _⟩
      · cases hq
      · injection hq with hq; subst hq; simp
    have := f22 _ hq2
    have := hlt _ hm
    have := k8.1
    omega
  · refine hR w37 fw37 (((k02.then_drew).mono (by simp)).trans k37 (fun q hq => .inl hq)) (fun q hq => ?_) (by rw [hp, Int.toNat_natCast]; exact d37)
    rcases f37 q hq with h | h
    · exact .inl h
    · have := k02.1; exact .inr (by have : w22.drew.heap.size = w22.heap.size := rfl; omega)

/-- What stands at a place. -/
def standsL (m : DiskM) (sl p : Nat) : Option Part :=
  match decodeL ((m.nw.drop (64 * secOf sl p)).take 256) with
  | some x => if x.place = p then some x else none
  | none => none

abbrev zeroP : Value := .agg #[.int .i64 0, .int .i64 0, .int .i64 0, .int .i64 0, .int .i64 0, .slice none 0 0]

theorem seg_stands (hd : DiskIs w d bp bn fw n m) (h : SegIs w s d sl fi la) (hsl : sl = (n - 8) / 32) {p : Nat} (hp : p ≤ 1000000000000000)
    (hbad : ∀ w', Keep [] w w' → standsL m sl p = none → R (.returned (.tuple #[zeroP, .int .i64 70])) w')
    (hgood : ∀ w' (x : PB), Keep [] w w' → standsL m sl p = some x.p → HasB w' x.a x.p.data → New w x.a → Lt w' x.a → R (.returned (.tuple #[x.val, .int .i64 0])) w') :
    Calls P0 f_seg_Segs_stands #[.pointer (some ⟨s, 0, none⟩), .int .i64 p] w R := by
  refine C_seg_Segs_stands ?_
  refine al (c := Z6) fun w3 b3 k3 s3 => ?_
  have h3 : SegIs w3.drew s d sl fi la := h.keep k3.then_drew (by simp)
  refine ⟨_, _, rfl, _, h3.1.cell rfl, seg_sector h3 hp ⟨_, rfl, h3.1.cell rfl, ?_⟩⟩
  have hd3 : DiskIs w3.drew d bp bn fw n m := hd.keep k3.then_drew (by simp)
  have hsec := secOf_le (p := p) hsl h.2.1
  refine disk_Read (k := 4) hd3 (by decide) hsec fun w11 b11 k11 g11 B11 => ⟨_, _, _, _, rfl, (fun e => by simp at e), fun _ => ?_⟩
  have hln := hd.ln
  have ll : ((m.nw.drop (64 * secOf sl p)).take (64 * 4)).length = 256 := by simp [hln]; omega
  have k0_11 : Keep [] w w11 := (k3.then_drew).trans k11 (by simp)
  have hz : w3.heap.size = w.heap.size + 1 := s3
  have bz : ∀ w44, Keep [] w11 w44 → standsL m sl p = none → Wr w44 ⟨w.heap.size, 0, none⟩ ∧ ∀ w45, w45 = w44.setCell ⟨w.heap.size, 0, none⟩ (.int .i64 (0 : Int)) → Wr w45 ⟨w.heap.size, 0 + 1, none⟩ ∧ ∀ w46, w46 = w45.setCell ⟨w.heap.size, 0 + 1, none⟩ (.int .i64 (0 : Int)) → Wr w46 ⟨w.heap.size, 0 + 2, none⟩ ∧ ∀ w47,
      w47 = w46.setCell ⟨w.heap.size, 0 + 2, none⟩ (.int .i64 (0 : Int)) → Wr w47 ⟨w.heap.size, 0 + 3, none⟩ ∧ ∀ w48, w48 = w47.setCell ⟨w.heap.size, 0 + 3, none⟩ (.int .i64 (0 : Int)) → Wr w48 ⟨w.heap.size, 0 + 4, none⟩ ∧ ∀ w49, w49 = w48.setCell ⟨w.heap.size, 0 + 4, none⟩ (.int .i64 (0 : Int)) →
      Wr w49 ⟨w.heap.size, 0 + 5, none⟩ ∧ ∀ w50, w50 = w49.setCell ⟨w.heap.size, 0 + 5, none⟩ (.slice none 0 0) → ∃ r51 : Int, w50.cell? ⟨w.heap.size, 0, none⟩ = some (.int .i64 r51) ∧ ∃ r52 : Int, w50.cell? ⟨w.heap.size, 0 + 1, none⟩ = some (.int .i64 r52) ∧ ∃ r53 : Int, w50.cell? ⟨w.heap.size, 0 + 2,
      none⟩ = some (.int .i64 r53) ∧ ∃ r54 : Int, w50.cell? ⟨w.heap.size, 0 + 3, none⟩ = some (.int .i64 r54) ∧ ∃ r55 : Int, w50.cell? ⟨w.heap.size, 0 + 4, none⟩ = some (.int .i64 r55) ∧ ∃ (r56a : Option Addr) (r56l r56c : Nat), w50.cell? ⟨w.heap.size, 0 + 5, none⟩ = some (.slice r56a r56l r56c) ∧
      R (.returned (.tuple #[(.agg #[(.int .i64 r51), (.int .i64 r52), (.int .i64 r53), (.int .i64 r54), (.int .i64 r55), (.slice r56a r56l r56c)]), (.int .i64 (70 : Int))])) w50 := by
    intro w44 k44 hno
    have b44 : Blk w44 w.heap.size Z6 T_api_Part := (k11.trans k44 (by simp)).blk (w := w3.drew) b3 (by simp)
    refine st6 b44 rfl fun w8 b8 k8 _ => ?_
    refine ⟨_, b8.cell rfl, _, b8.cell rfl, _, b8.cell rfl, _, b8.cell rfl, _, b8.cell rfl, _, _, _, b8.cell rfl, ?_⟩
    exact hbad w8 ((k0_11.trans k44 (by simp)).trans k8 (by simp)) hno
  refine seg_Decode _ ll (by omega) (.inr ⟨b11, 0, rfl, rdb_all B11⟩) (by omega) (fun w27 k27 hno => ?_) (fun w27 x k27 hyes hx27 hnew hlt27 => ?_)
  · refine ⟨_, _, _, _, _, _, _, _, _, rfl, ?_⟩
    have hst : standsL m sl p = none := by unfold standsL; rw [show (256 : Nat) = 64 * 4 from rfl, hno]
    refine al (c := Z6) fun w35 b35 k35 s35 => ?_
    refine st6 b35 rfl fun w41 b41 k41 s41 => ?_
    intro J hJ
    refine ⟨fun _ => hJ _ _ ⟨fun _ => bz w41 ((k27.trans k35 (by simp)).trans k41 (by have := k27.1; intro q hq; simp at hq; subst hq; exact .inr this)) hst, fun e => by cases e⟩, fun e => by simp at e⟩
  · refine ⟨_, _, _, _, _, _, _, _, _, rfl, ?_⟩
    refine al (c := Z6) fun w35 b35 k35 s35 => ?_
    refine st6 b35 rfl fun w41 b41 k41 s41 => ?_
    have k27_41 : Keep [] w27 w41 := (k35.trans k41 (by simp))
    have k11_41 : Keep [] w11 w41 := k27.trans k27_41 (by simp)
    intro J hJ
    refine ⟨fun e => by simp at e, fun _ => ⟨_, b41.cell rfl, hJ _ _ ⟨fun e => ?_, fun e => ?_⟩⟩⟩
    · refine bz w41 k11_41 ?_
      unfold standsL
      rw [show (256 : Nat) = 64 * 4 from rfl, hyes]
      simp only
      rw [if_neg (by simpa using e)]
    · have e : x.p.place = p := by simpa using e
      refine ⟨_, b41.cell rfl, _, b41.cell rfl, _, b41.cell rfl, _, b41.cell rfl, _, b41.cell rfl, _, _, _, b41.cell rfl, ?_⟩
      have b44 : Blk w41 w.heap.size Z6 T_api_Part := (k11.trans k11_41 (by simp)).blk (w := w3.drew) b3 (by simp)
      refine st6 b44 rfl fun w8 b8 k8 _ => ?_
      refine ⟨_, b8.cell rfl, _, b8.cell rfl, _, b8.cell rfl, _, b8.cell rfl, _, b8.cell rfl, _, _, _, b8.cell rfl, ?_⟩
      have hN : New w x.a := fun q hq => Nat.le_trans k0_11.1 (hnew q hq)
      refine hgood w8 x ((k0_11.trans k11_41 (by simp)).trans k8 (by simp)) ?_ ((hx27.keep k27_41 (Off.nil _)).keep k8 ?_) hN (fun q hq => Nat.lt_of_lt_of_le (hlt27 q hq) (Nat.le_trans k27_41.1 k8.1))
      · unfold standsL
        rw [show (256 : Nat) = 64 * 4 from rfl, hyes]
        simp only
        rw [if_pos e]
      · intro q hq
        have g1 := hnew q hq
        have g2 := k11.1
        have g3 : w3.drew.heap.size = w3.heap.size := rfl
        simp; omega

theorem seg_Read (hd : DiskIs w d bp bn fw n m) (h : SegIs w s d sl fi la) (hsl : sl = (n - 8) / 32) {p : Nat} (hp : p ≤ 1000000000000000)
    (harg : ∀ w', Keep [] w w' → ¬ (8 * fi ≤ p ∧ p < 8 * la) → R (.returned (.tuple #[zeroP, .int .i64 1])) w')
    (hbad : ∀ w', Keep [] w w' → standsL m sl p = none → (8 * fi ≤ p ∧ p < 8 * la) → R (.returned (.tuple #[zeroP, .int .i64 70])) w')
    (hgood : ∀ w' (x : PB), Keep [] w w' → (8 * fi ≤ p ∧ p < 8 * la) → standsL m sl p = some x.p → HasB w' x.a x.p.data → New w x.a → Lt w' x.a → R (.returned (.tuple #[x.val, .int .i64 0])) w') :
    Calls P0 f_seg_Segs_Read #[.pointer (some ⟨s, 0, none⟩), .int .i64 p] w R := by
  refine C_seg_Segs_Read ?_
  refine al (c := Z6) fun w3 b3 k3 s3 => ?_
  have h3 : SegIs w3 s d sl fi la := h.keep k3 (by simp)
  refine seg_has h3 ⟨_, rfl, fun e => ?_, fun e => ?_⟩
  · refine st6 b3 rfl fun w8 b8 k8 _ => ?_
    refine ⟨_, b8.cell rfl, _, b8.cell rfl, _, b8.cell rfl, _, b8.cell rfl, _, b8.cell rfl, _, _, _, b8.cell rfl, ?_⟩
    refine harg w8 (k3.trans k8 (by simp)) fun hh => ?_
    rw [decide_eq_true (by omega), decide_eq_true (by omega)] at e; cases e
  · have hh : 8 * fi ≤ p ∧ p < 8 * la := by
      simp at e; omega
    refine seg_stands (hd.keep k3 (by simp)) h3 hsl hp (fun w20 k20 hno => ⟨_, _, _, _, _, _, _, _, _, rfl, ?_⟩) (fun w20 x k20 hyes hx hnew hlt => ⟨_, _, _, _, _, _, _, _, _, rfl, ?_⟩)
    · refine st6 (k20.blk b3 (by simp)) rfl fun w8 b8 k8 _ => ?_
      refine ⟨_, b8.cell rfl, _, b8.cell rfl, _, b8.cell rfl, _, b8.cell rfl, _, b8.cell rfl, _, _, _, b8.cell rfl, ?_⟩
      exact hbad w8 ((k3.trans k20 (by simp)).trans k8 (by simp)) hno hh
    · refine st6 (k20.blk b3 (by simp)) rfl fun w8 b8 k8 _ => ?_
      refine ⟨_, b8.cell rfl, _, b8.cell rfl, _, b8.cell rfl, _, b8.cell rfl, _, b8.cell rfl, _, _, _, b8.cell rfl, ?_⟩
      refine hgood w8 x ((k3.trans k20 (by simp)).trans k8 (by simp)) hh hyes (hx.keep k8 ?_) (fun q hq => Nat.le_trans k3.1 (hnew q hq)) (fun q hq => Nat.lt_of_lt_of_le (hlt q hq) k8.1)
      intro q hq
      have := hnew q hq
      simp; omega
end Go.Proofs
