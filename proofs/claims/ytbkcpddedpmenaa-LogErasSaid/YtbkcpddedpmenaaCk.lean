/- Contracts: the disk. -/
import Derived.Test.YtbkcpddedpmenaaVcO
import Derived.Test.YtbkcpddedpmenaaCd
set_option maxRecDepth 100000
namespace Go.Proofs
open Go Go.Vc

/-! ### steps -/
theorem put_all {w : World} {b n : Nat} {c l : List Value} {T : TypeId} {Q : World → Prop} (h : Blk w b c T) (hc : c.length = n) (hl : l.length = n) (ho : ∀ v ∈ l, v.oneCell' = true)
    (hq : ∀ w', Blk w' b l T → Keep [b] w w' → w'.heap.size = w.heap.size → Q w') :
    (Value.cells (.agg (List.toArray l))).size = n ∧ (∀ u ∈ (Value.cells (.agg (List.toArray l))).toList, WhenOne u True) ∧ (∀ i, i < n → Wr w (Addr.add ⟨b, 0, none⟩ i)) ∧ (none : Option Nat) = none ∧
      ∀ w', w' = w.setCells b 0 (Value.cells (.agg (List.toArray l))).toList → Q w' := by
  refine ⟨by show l.toArray.size = n; simpa using hl, fun u hu => whenOne_of (ho u hu), fun i hi => by rw [add_mk]; exact h.wr (by omega), rfl, fun w' e => ?_⟩
  rw [cells_aggL] at e
  subst e
  refine hq _ ?_ (Keep.sets _ _ _ _) ?_
  · have := h.sets l 0 (by omega)
    rw [List.take_zero, List.nil_append, List.drop_of_length_le (by omega), List.append_nil] at this
    exact this
  · have : ∀ (l : List Value) (o : Nat) (w : World), (w.setCells b o l).heap.size = w.heap.size := by
      intro l
      induction l with
      | nil => intro o w; rfl
      | cons v l ih => intro o w; simp only [World.setCells]; rw [ih]; simp [World.setCell]
    exact this l 0 w

theorem sets_size {b : Nat} : ∀ (l : List Value) (o : Nat) (w : World), (w.setCells b o l).heap.size = w.heap.size
  | [], _, _ => rfl
  | v :: l, o, w => by simp only [World.setCells]; rw [sets_size l]; simp [World.setCell]

theorem cp {t e ty e' : TypeId} {sz by_ : Nat} {z : List Value} (E : ElemTy P0 t e sz by_ z) {w : World} {b o dl dc sl sc : Nat} {x : Option Addr} {c news : List Value} {Q : World → Prop} (hb : Blk w b c e') (hx : Has w x news) (hn : news.length = min sl dl * sz) (hone : ∀ v ∈ news, v.oneCell' = true) (hfit : o + news.length ≤ c.length)
    (hq : ∀ w', Blk w' b (c.take o ++ news ++ c.drop (o + news.length)) e' → Keep [b] w w' → w'.heap.size = w.heap.size → Q w') :
    ∃ n : Int, ∃ w', Sem.run P0 (Builtin.copy_ #[t, t] ty #[.slice (some ⟨b, o, none⟩) dl dc, .slice x sl sc]) w = .ok (.int .i64 n) w' ∧ Q w' :=
  ⟨_, _, copy_run' E hb hn hx hone hfit, hq _ (hb.sets _ _ hfit) (Keep.sets _ _ _ _) (sets_size _ _ _)⟩

theorem cutBase_ne {b o l m sz : Nat} (h : m ≠ l) : cutBase (some ⟨b, o, none⟩) l m sz = some ⟨b, o + l * sz, none⟩ := by
  unfold cutBase; rw [if_neg h]; simp [add_mk]
theorem cutBase_block {a : Option Addr} {l m sz : Nat} {q : Addr} (h : cutBase a l m sz = some q) : ∃ q', a = some q' ∧ q'.block = q.block := by
  unfold cutBase at h
  split at h
  · exact ⟨q, h, rfl⟩
  · cases a with
    | none => cases h
    | some x =>
      simp at h
      subst h
      refine ⟨x, rfl, ?_⟩
      unfold Addr.add; split <;> rfl

/-! ### what a disk is -/
structure DiskM where
  pl : List UInt8
  nw : List UInt8
  ws : List (Nat × List UInt8)

def wCells (x : Nat × List UInt8) : List Value := .int .i64 (x.1 : Int) :: x.2.map B
abbrev ZW : List Value := .int .i64 0 :: List.replicate 64 (.int .u8 0)
theorem EW : ElemTy P0 T_slice_disk_write T_disk_write 65 72 ZW :=
  .of (by kernel_rfl) (by kernel_rfl) (by kernel_rfl) (by kernel_rfl) rfl (by decide) (by decide)
theorem EK : ElemTy P0 T_slice_api_Keep T_api_Keep 1 8 [.int .i64 0] :=
  .of (by kernel_rfl) (by kernel_rfl) (by kernel_rfl) (by kernel_rfl) rfl (by decide) (by decide)
theorem zeroW : zeroCellsOf P0 T_disk_write = ZW.toArray := by kernel_rfl
theorem wCells_one (x : Nat × List UInt8) : ∀ v ∈ wCells x, v.oneCell' = true := by
  intro v hv
  simp only [wCells, List.mem_cons] at hv
  rcases hv with rfl | hv
  · rfl
  · exact mapB_one _ v hv

theorem built_write (x : Nat × List UInt8) (h : x.2.length = 64) : BuildRuns P0 T_disk_write #[(0, .int .i64 (x.1 : Int)), (1, .agg (List.toArray (x.2.map B)))] (.agg (List.toArray (wCells x))) := fun w => by
  refine run_build w _ _ _ ?_
  rw [built_struct (zc := ZW) (places := [(0, 1), (1, 64)]) (by kernel_rfl) (by kernel_rfl)]
  rw [fill_at (off := 0) (size := 1) (l := [.int .i64 (x.1 : Int)]) rfl rfl rfl (by decide)]
  rw [fill_at (off := 1) (size := 64) (l := x.2.map B) rfl rfl (by simpa using h) (by simp)]
  simp [Instr.fill, wCells]

theorem wCells_length (x : Nat × List UInt8) (h : x.2.length = 64) : (wCells x).length = 65 := by simp [wCells, h]
theorem rdb_all {w : World} {b : Nat} {c : List Value} {T : TypeId} (h : Blk w b c T) : Rdb w b 0 c := by
  have := Rdb.of_blk h 0 c.length
  rwa [List.drop_zero, List.take_of_length_le (Nat.le_refl _)] at this

structure DiskIs (w : World) (d bp bn : Nat) (fw : List Nat) (n : Nat) (m : DiskM) : Prop where
  ex : ∃ wa wc k1 k2, Blk w d [.slice (some ⟨bp, 0, none⟩) (64 * n) (64 * n), .slice (some ⟨bn, 0, none⟩) (64 * n) (64 * n), .slice wa m.ws.length wc, .int .i64 (-1), .bool false, .int .i64 k1, .int .i64 k2] T_disk_Disk ∧
    Own w T_disk_write 65 wa m.ws.length wc (m.ws.flatMap wCells) fw
  pl : Blk w bp (m.pl.map B) T_uint8
  nw : Blk w bn (m.nw.map B) T_uint8
  ne : bp ≠ bn
  lp : m.pl.length = 64 * n
  ln : m.nw.length = 64 * n
  n1 : 1 ≤ n ∧ n ≤ 8192
  ok : ∀ x ∈ m.ws, x.1 < n ∧ x.2.length = 64

variable {w : World} {R : Ending → World → Prop} {d bp bn n : Nat} {fw : List Nat} {m : DiskM}

theorem Own.blk {e : TypeId} {sz len cap : Nat} {a : Option Addr} {vs : List Value} {fp : List Nat} (h : Own w e sz a len cap vs fp) : ∀ q ∈ fp, ∃ c, Blk w q c e := by
  rcases h with ⟨_, _, _, _, rfl⟩ | ⟨b, c, ha, rfl, hb, _⟩
  · simp
  · intro q hq; simp at hq; subst hq; exact ⟨c, hb⟩

theorem DiskIs.off (h : DiskIs w d bp bn fw n m) {b : Nat} {c : List Value} {T : TypeId} (hb : Blk w b c T) (h1 : T ≠ T_disk_Disk) (h2 : T ≠ T_uint8) (h3 : T ≠ T_disk_write) : b ∉ d :: bp :: bn :: fw := by
  obtain ⟨wa, wc, k1, k2, hd, ho⟩ := h.ex
  intro hm
  simp only [List.mem_cons] at hm
  rcases hm with rfl | rfl | rfl | hm
  · exact hb.ne hd h1 rfl
  · exact hb.ne h.pl h2 rfl
  · exact hb.ne h.nw h2 rfl
  · obtain ⟨c', hc'⟩ := Own.blk ho b hm
    exact hb.ne hc' h3 rfl
theorem DiskIs.offMap (h : DiskIs w d bp bn fw n m) {b : Nat} {l : List (Int × Value)} (hb : MapIs w b l) : b ∉ d :: bp :: bn :: fw := by
  obtain ⟨wa, wc, k1, k2, hd, ho⟩ := h.ex
  obtain ⟨es, clk, hx, _⟩ := hb
  have : ∀ {c : List Value} {T : TypeId}, ¬ Blk w b c T := fun h => by unfold Blk at h; rw [hx] at h; cases h
  intro hm
  simp only [List.mem_cons] at hm
  rcases hm with rfl | rfl | rfl | hm
  · exact this hd
  · exact this h.pl
  · exact this h.nw
  · obtain ⟨c', hc'⟩ := Own.blk ho b hm
    exact this hc'
theorem DiskIs.lt (h : DiskIs w d bp bn fw n m) : ∀ q ∈ d :: bp :: bn :: fw, q < w.heap.size := by
  obtain ⟨wa, wc, k1, k2, hd, ho⟩ := h.ex
  intro q hm
  simp only [List.mem_cons] at hm
  rcases hm with rfl | rfl | rfl | hm
  · exact hd.lt
  · exact h.pl.lt
  · exact h.nw.lt
  · exact ho.lt q hm
theorem DiskIs.keep {w' : World} {M : List Nat} (h : DiskIs w d bp bn fw n m) (hk : Keep M w w') (hm : ∀ q ∈ d :: bp :: bn :: fw, q ∉ M) : DiskIs w' d bp bn fw n m := by
  obtain ⟨wa, wc, k1, k2, hd, ho⟩ := h.ex
  exact ⟨⟨wa, wc, k1, k2, hk.blk hd (hm d (by simp)), ho.keep hk (fun q hq => hm q (by simp [hq]))⟩, hk.blk h.pl (hm _ (by simp)), hk.blk h.nw (hm _ (by simp)), h.ne, h.lp, h.ln, h.n1, h.ok⟩

theorem disk_New {k : Int} (hn : 1 ≤ k ∧ k ≤ 8192) (hR : ∀ w' d bp bn, Keep [] w w' → w.heap.size ≤ d → w.heap.size ≤ bp → w.heap.size ≤ bn → DiskIs w' d bp bn [] k.toNat ⟨List.replicate (64 * k.toNat) 0, List.replicate (64 * k.toNat) 0, []⟩ →
    R (.returned (.tuple #[.pointer (some ⟨d, 0, none⟩), .int .i64 0])) w') : Calls P0 f_disk_New #[.int .i64 k] w R := by
  refine C_disk_New ⟨fun h => by simp at h; omega, fun _ => ⟨fun h => by simp at h; omega, fun _ n hn' => ?_⟩⟩
  rw [wrap64 (by omega) (by omega)] at hn'
  obtain ⟨k, rfl⟩ := Int.eq_ofNat_of_zero_le (a := k) (by omega)
  simp only [Int.toNat_natCast] at hR
  have hn2 : n = ((64 * k : Nat) : Int) := by omega
  subst hn2
  clear hn'
  have go : ∀ w7 b1 b2, Keep [] w w7 → w.heap.size ≤ b1 → w.heap.size ≤ b2 → b1 ≠ b2 → Blk w7 b1 (List.replicate (64 * k) (.int .u8 0)) T_uint8 → Blk w7 b2 (List.replicate (64 * k) (.int .u8 0)) T_uint8 → ∀ w8,
      w8 = w7.alloc (.cells #[(.slice (some ⟨b1, 0, none⟩) (64 * k) (64 * k)), (.slice (some ⟨b2, 0, none⟩) (64 * k) (64 * k)), (.slice none 0 0), (.int .i64 (-1 : Int)), (.bool false), (.int .i64 (0 : Int)), (.int .i64 (0 : Int))] T_disk_Disk) →
      R (.returned (.tuple #[.pointer (some ⟨w7.heap.size, 0, none⟩), .int .i64 0])) w8 := by
    intro w7 b1 b2 hk h1 h2 h3 hb1 hb2
    refine al (c := [(.slice (some ⟨b1, 0, none⟩) (64 * k) (64 * k)), (.slice (some ⟨b2, 0, none⟩) (64 * k) (64 * k)), (.slice none 0 0), (.int .i64 (-1 : Int)), (.bool false), (.int .i64 (0 : Int)), (.int .i64 (0 : Int))]) fun w8 b8 k8 _ => ?_
    have er : (List.replicate (64 * k) (0 : UInt8)).map B = List.replicate (64 * k) (.int .u8 0) := by rw [List.map_replicate]; rfl
    refine hR w8 _ b1 b2 (hk.trans k8 (by simp)) hk.1 h1 h2 ⟨⟨none, 0, 0, 0, b8, .inl ⟨rfl, rfl, rfl, rfl, rfl⟩⟩, ?_, ?_, h3, by simp, by simp, by omega, by simp⟩
    · rw [er]; exact k8.blk hb1 (by simp)
    · rw [er]; exact k8.blk hb2 (by simp)
  have m1 := make_run E8 rfl rfl (64 * k) (by omega) w.drew
  have m2 := make_run E8 rfl rfl (64 * k) (by omega) (w.drew.alloc (.cells (List.replicate (64 * k) (.int .u8 0)).toArray T_uint8))
  have B1 := Blk.alloc_new w.drew (List.replicate (64 * k) (.int .u8 0)) T_uint8
  have K1 := (Keep.drew w).trans (Keep.alloc w.drew (.cells (List.replicate (64 * k) (.int .u8 0)).toArray T_uint8)) (by simp)
  generalize hw1 : w.drew.alloc (.cells (List.replicate (64 * k) (.int .u8 0)).toArray T_uint8) = w1 at *
  have B2 := Blk.alloc_new w1 (List.replicate (64 * k) (.int .u8 0)) T_uint8
  have K2 := Keep.alloc w1 (.cells (List.replicate (64 * k) (.int .u8 0)).toArray T_uint8)
  have hlt := B1.lt
  have e0 : w.drew.heap.size = w.heap.size := rfl
  refine ⟨⟨_, _, _, _, m1, _, _, _, _, m2, go _ _ _ (K1.trans K2 (by simp)) (Nat.le_refl _) K1.1 (Nat.ne_of_lt hlt) (K2.blk B1 (by simp)) B2⟩,
    ⟨_, _, _, _, m1, _, _, _, _, m2, go _ _ _ (K1.trans K2 (by simp)) K1.1 (Nat.le_refl _) (Nat.ne_of_lt hlt).symm B2 (K2.blk B1 (by simp))⟩⟩

theorem disk_Sectors (h : DiskIs w d bp bn fw n m) (hR : R (.returned (.int .i64 n)) w) : Calls P0 f_disk_Disk_Sectors #[.pointer (some ⟨d, 0, none⟩)] w R := by
  obtain ⟨wa, wc, k1, k2, hd, ho⟩ := h.ex
  refine C_disk_Disk_Sectors ⟨_, _, rfl, _, _, _, hd.cell rfl, by decide, fun k hk => ?_⟩
  have := h.n1
  have e : Int.tdiv ((64 * n : Nat) : Int) 64 = n := by rw [Int.tdiv_eq_ediv_of_nonneg (by omega)]; omega
  rw [e, wrap64 (by omega) (by omega)] at hk
  rw [hk]; exact hR

theorem disk_has (h : DiskIs w d bp bn fw n m) {a k : Int} (ha : 0 ≤ a ∧ a ≤ 1000000) (hk : 0 ≤ k ∧ k ≤ 1000000) (hR : R (.returned (.bool (decide (k = 0) || decide (a + k ≤ n)))) w) : Calls P0 f_disk_Disk_has #[.pointer (some ⟨d, 0, none⟩), .int .i64 a, .int .i64 k] w R := by
  have hn := h.n1
  refine C_disk_Disk_has ⟨fun e => ?_, fun e => ?_⟩
  · have : k = 0 := by simpa using e
    simpa [this] using hR
  · have : ¬ k = 0 := by simpa using e
    refine disk_Sectors h ⟨_, rfl, fun e => disk_Sectors h ⟨_, rfl, fun q hq => ?_⟩, fun e => ?_⟩
    · rw [wrap64 (by omega) (by omega)] at hq
      subst hq
      have e := of_decide_eq_true e
      have : (decide (k = 0) || decide (a + k ≤ n)) = decide (k ≤ (n : Int) - a) := by
        simp only [this, decide_false, Bool.false_or]
        by_cases h1 : k ≤ (n : Int) - a
        · rw [decide_eq_true h1, decide_eq_true (by omega)]
        · rw [decide_eq_false h1, decide_eq_false (by omega)]
      rw [← this]; exact hR
    · have e := of_decide_eq_false e
      have : (decide (k = 0) || decide (a + k ≤ n)) = false := by
        simp only [this, decide_false, Bool.false_or]
        rw [decide_eq_false (by omega)]
      rw [← this]; exact hR

theorem disk_Read (h : DiskIs w d bp bn fw n m) {a k : Nat} (hk : 1 ≤ k) (hak : a + k ≤ n)
    (hR : ∀ w' b', Keep [] w w' → w.heap.size ≤ b' → Blk w' b' (((m.nw.drop (64 * a)).take (64 * k)).map B) T_uint8 → R (.returned (.tuple #[.slice (some ⟨b', 0, none⟩) (64 * k) (64 * k), .int .i64 0])) w') :
    Calls P0 f_disk_Disk_Read #[.pointer (some ⟨d, 0, none⟩), .int .i64 a, .int .i64 k] w R := by
  obtain ⟨wa, wc, k1, k2, hd, ho⟩ := h.ex
  have hn := h.n1
  refine C_disk_Disk_Read ⟨_, _, rfl, _, hd.cell rfl, (fun e => by cases e), fun _ J hJ => ?_⟩
  refine ⟨(fun e => by have := of_decide_eq_true e; omega), fun _ => ⟨(fun e => by have := of_decide_eq_true e; omega), fun _ => disk_has h (by omega) (by omega) ⟨_, rfl, ?_⟩⟩⟩
  rw [show ((decide ((k : Int) = 0) || decide ((a : Int) + k ≤ n))) = true by rw [Bool.or_eq_true]; right; exact decide_eq_true (by omega)]
  refine hJ _ _ ⟨fun e => by simp at e, fun _ => ⟨fun e => ?_, fun _ x hx => ?_⟩⟩
  · have : (k : Int) = 0 := by simpa using e
    omega
  rw [wrap64 (by omega) (by omega)] at hx
  have hx2 : x = ((64 * k : Nat) : Int) := by omega
  subst hx2
  clear hx
  have m1 := make_run E8 rfl rfl (64 * k) (by omega) w
  refine ⟨_, _, _, _, m1, ?_⟩
  have B1 := Blk.alloc_new w (List.replicate (64 * k) (.int .u8 0)) T_uint8
  have K1 := Keep.alloc w (.cells (List.replicate (64 * k) (.int .u8 0)).toArray T_uint8)
  generalize w.alloc (.cells (List.replicate (64 * k) (.int .u8 0)).toArray T_uint8) = w1 at *
  have hd1 := K1.blk hd (by simp)
  refine ⟨_, _, rfl, _, _, _, hd1.cell rfl, fun x hx => ?_⟩
  rw [wrap64 (by omega) (by omega)] at hx
  have hx2 : x = ((64 * a : Nat) : Int) := by omega
  subst hx2
  rw [Int.toNat_natCast]
  refine ⟨by omega, by omega, ?_⟩
  have hln := h.ln
  have hsrc : HasB w1 (cutBase (some ⟨bn, 0, none⟩) (64 * a) (64 * n) 1) ((m.nw.drop (64 * a)).take (64 * k)) := by
    have h0 : HasB w1 (some ⟨bn, 0, none⟩) m.nw := .inr ⟨bn, 0, rfl, by
      have := Rdb.of_blk (K1.blk h.nw (by simp)) 0 (64 * n)
      simpa [List.take_of_length_le, hln] using this⟩
    have := has_cut (lo := 64 * a) (hi := 64 * a + 64 * k) (m := 64 * n) h0 (by omega) (by omega)
    rwa [show 64 * a + 64 * k - 64 * a = 64 * k by omega] at this
  have ll : (((m.nw.drop (64 * a)).take (64 * k)).map B).length = 64 * k := by simp [hln]; omega
  refine cp E8 B1 hsrc (by rw [ll]; omega) (mapB_one _) (by rw [ll]; simp) fun w2 b2 k2 _ => ?_
  have ed : List.drop (0 + 64 * k) (List.replicate (64 * k) (Value.int .u8 0)) = [] := List.drop_of_length_le (by simp)
  rw [ll, List.take_zero, List.nil_append, ed, List.append_nil] at b2
  exact hR w2 _ (K1.trans k2 (by simp)) (Nat.le_refl _) b2

theorem disk_Sync (h : DiskIs w d bp bn fw n m) (hR : ∀ w', Keep (d :: bp :: bn :: fw) w w' → DiskIs w' d bp bn [] n ⟨m.nw, m.nw, []⟩ → R (.returned (.int .i64 0)) w') :
    Calls P0 f_disk_Disk_Sync #[.pointer (some ⟨d, 0, none⟩)] w R := by
  obtain ⟨wa, wc, k1, k2, hd, ho⟩ := h.ex
  have hn := h.n1
  have hln := h.ln
  have hlp := h.lp
  have hdd : Blk w.drew d _ T_disk_Disk := hd
  have hdp : d ≠ bp := hd.ne h.pl (by decide)
  have hdn : d ≠ bn := hd.ne h.nw (by decide)
  refine C_disk_Disk_Sync ⟨_, _, rfl, _, hd.cell rfl, (fun e => by cases e), fun _ => ⟨_, _, rfl, _, _, _, hdd.cell rfl, _, _, rfl, _, _, _, hdd.cell rfl, ?_⟩⟩
  have hsrc : HasB w.drew (some ⟨bn, 0, none⟩) m.nw := .inr ⟨bn, 0, rfl, by
    have := Rdb.of_blk (w := w.drew) h.nw 0 (64 * n)
    simpa [List.take_of_length_le, hln] using this⟩
  refine cp E8 (w := w.drew) h.pl hsrc (by simp [hln]) (mapB_one _) (by simp [hln, hlp]) fun w2 b2 k2 s2 => ?_
  rw [List.take_zero, List.nil_append, List.drop_of_length_le (by simp [hln, hlp]), List.append_nil] at b2
  have hd2 := k2.blk hdd (by simp [hdp])
  have hn2 : Blk w2 bn _ _ := k2.blk (w := w.drew) h.nw (by simp [h.ne.symm])
  refine ⟨_, _, rfl, st hd2 (by simp) fun w3 b3 k3 s3 => ⟨_, _, rfl, _, b3.cell rfl, fun x _ => ⟨_, _, rfl, st b3 (by simp) fun w4 b4 k4 s4 => ?_⟩⟩⟩
  refine hR w4 (((((Keep.drew w).mono (N := d :: bp :: bn :: fw) (by simp)).trans k2 (by simp)).trans k3 (by simp)).trans k4 (by simp)) ⟨⟨none, 0, _, _, b4, .inl ⟨rfl, rfl, rfl, rfl, rfl⟩⟩, ?_, ?_, h.ne, hln, hln, hn, by simp⟩
  · exact k4.blk (k3.blk b2 (by simp [hdp.symm])) (by simp [hdp.symm])
  · exact k4.blk (k3.blk hn2 (by simp [hdn.symm])) (by simp [hdn.symm])

/-- What a Write of some sectors leaves. -/
def writeN (m : DiskM) (a : Nat) (b : List UInt8) (i : Nat) : DiskM :=
  ⟨m.pl, m.nw.take (64 * a) ++ b.take (64 * i) ++ m.nw.drop (64 * a + 64 * i), m.ws ++ (List.range i).map fun j => (a + j, (b.drop (64 * j)).take 64)⟩

theorem disk_Write (h : DiskIs w d bp bn fw n m) {a : Nat} {ba : Option Addr} {k bc : Nat} (b : List UInt8) (hb : HasB w ba b) (hl : b.length = 64 * k) (hc : 64 * k ≤ bc) (hak : a + k ≤ n)
    (hoff : Off ba (d :: bp :: bn :: fw)) (hlt : Lt w ba) (hws : m.ws.length + k ≤ 1000000000)
    (hR : ∀ w' fw', Keep (d :: bp :: bn :: fw) w w' → (∀ q ∈ fw', q ∈ fw ∨ w.heap.size ≤ q) → DiskIs w' d bp bn fw' n (writeN m a b k) → R (.returned (.int .i64 0)) w') :
    Calls P0 f_disk_Disk_Write #[.pointer (some ⟨d, 0, none⟩), .int .i64 a, .slice ba (64 * k) bc] w R := by
  have hn := h.n1
  have hdc : ∃ off, off = false ∧ w.cell? ⟨d, 0 + 4, none⟩ = some (.bool off) := by
    obtain ⟨wa, wc, k1, k2, hd, ho⟩ := h.ex
    exact ⟨false, rfl, hd.cell rfl⟩
  obtain ⟨off, rfl, hoffc⟩ := hdc
  refine C_disk_Disk_Write ⟨_, _, rfl, _, hoffc, (fun e => by cases e), fun _ J hJ => ?_⟩
  refine ⟨(fun e => by have := of_decide_eq_true e; omega), fun _ => ⟨by decide, fun x hx => ?_⟩⟩
  have hx2 : x = 0 := by rw [Int.tmod_eq_emod_of_nonneg (by omega)] at hx; omega
  subst hx2
  clear hx
  refine hJ _ _ ⟨fun e => by simp at e, fun _ => ⟨by decide, fun x hx => ?_⟩⟩
  rw [Int.tdiv_eq_ediv_of_nonneg (by omega), wrap64 (by omega) (by omega)] at hx
  have hx2 : x = (k : Int) := by omega
  subst hx2
  clear hx hJ
  refine disk_has h (by omega) (by omega) ⟨_, rfl, ?_⟩
  rw [show ((decide ((k : Int) = 0) || decide ((a : Int) + k ≤ n))) = true by rw [Bool.or_eq_true]; right; exact decide_eq_true (by omega)]
  refine ⟨fun e => by simp at e, fun _ => ?_⟩
  have hlt0 := h.lt
  refine ⟨fun x s w' => (a : Int) ≤ x ∧ x ≤ a + k ∧ Keep (d :: bp :: bn :: fw) w w' ∧ (∃ fw', (∀ q ∈ fw', q ∈ fw ∨ w.heap.size ≤ q) ∧ DiskIs w' d bp bn fw' n (writeN m a b (x.toNat - a))) ∧
      s.len = 64 * (k - (x.toNat - a)) ∧ s.len ≤ s.cap ∧ HasB w' s.a (b.drop (64 * (x.toNat - a))) ∧ Off s.a (d :: bp :: bn :: fw) ∧ Lt w s.a, fun x _ _ => (a + k - x).toNat, ⟨by omega, by omega, Keep.refl _ _, ⟨fw, fun q hq => .inl hq, ?_⟩, ?_, ?_, ?_, hoff, hlt⟩, ?_⟩
  · rw [Int.toNat_natCast, Nat.sub_self]; simpa [writeN] using h
  · simp
  · simpa using hc
  · simpa using hb
  rintro x ⟨sa, sl, sc⟩ w18 ⟨h0, h1, hk18, ⟨fw18, hf18, h18⟩, hsl, hsc, hs, hso, hslt⟩
  obtain ⟨i, rfl⟩ : ∃ i : Nat, x = ((a + i : Nat) : Int) := ⟨(x - a).toNat, by omega⟩
  simp only [Int.toNat_natCast, Nat.add_sub_cancel_left] at h18 hsl hs
  simp only at hsl hsc hs hso hslt
  have hi : i ≤ k := by omega
  constructor
  · intro hpos
    have hpos : 0 < sl := by have := of_decide_eq_true hpos; simp only at this; omega
    have hi : i < k := by omega
    obtain ⟨wa, wc, k1, k2, hd, ho⟩ := h18.ex
    refine ⟨_, _, rfl, _, hd.cell rfl, (fun e => by simp at e), fun _ J hJ => ⟨_, _, rfl, _, hd.cell rfl, (fun e => by simp at e), fun _ => hJ _ ?_⟩⟩
    clear hJ
    have hdp : d ≠ bp := hd.ne h18.pl (by decide)
    have hdn : d ≠ bn := hd.ne h18.nw (by decide)
    have hdw : d ∉ fw18 := fun hm => by obtain ⟨c, hc⟩ := Own.blk ho d hm; exact hd.ne hc (by decide) rfl
    have hnw : bn ∉ fw18 := fun hm => by obtain ⟨c, hc⟩ := Own.blk ho bn hm; exact h18.nw.ne hc (by decide) rfl
    have hpw : bp ∉ fw18 := fun hm => by obtain ⟨c, hc⟩ := Own.blk ho bp hm; exact h18.pl.ne hc (by decide) rfl
    refine ⟨_, _, rfl, _, hd.cell rfl, fun n33 _ => ⟨_, _, rfl, st hd (by simp) fun w36 b36 k36 s36 => ?_⟩⟩
    -- the sector
    have hlb : (b.drop (64 * i)).length = 64 * (k - i) := by rw [List.length_drop, hl]; omega
    obtain ⟨b37, o37, rfl, hr37⟩ : ∃ b' o, sa = some ⟨b', o, none⟩ ∧ Rdb w18 b' o ((b.drop (64 * i)).map B) := by
      rcases hs with hx | hx
      · have := congrArg List.length hx
        rw [List.length_map, hlb] at this
        simp at this; omega
      · exact hx
    have hb37 : b37 ∉ d :: bp :: bn :: fw := hso _ rfl
    have hb37lt : b37 < w.heap.size := hslt _ rfl
    have hb37d : b37 ≠ d := by simp only [List.mem_cons, not_or] at hb37; exact hb37.1
    have hr36 : Rdb w36 b37 o37 ((b.drop (64 * i)).map B) := hr37.keep k36 (by simp [hb37d])
    have ls : ((b.drop (64 * i)).take 64).length = 64 := by rw [List.length_take, hlb]; omega
    have lw : (wCells (a + i, (b.drop (64 * i)).take 64)).length = 65 := wCells_length _ ls
    refine ⟨b37, o37, rfl, by show 64 ≤ sl; omega, ((b.drop (64 * i)).take 64).map B, by rw [List.length_map, ls], ?_, ?_⟩
    · refine Rdb.rd fun j v hj => hr36 j v ?_
      rw [List.map_take, List.getElem?_take] at hj
      split at hj
      · exact hj
      · cases hj
    refine ⟨wCells (a + i, (b.drop (64 * i)).take 64), lw, built_write (a + i, (b.drop (64 * i)).take 64) ls, ?_⟩
    rw [zeroW]
    refine al fun w41 b41 k41 s41 => ?_
    refine put_all b41 (by simp) lw (wCells_one _) fun w42 b42 k42 s42 => ?_
    have b42d : Blk w42 d _ _ := k42.blk (k41.blk b36 (by simp)) (by have := b36.lt; simp; omega)
    refine ⟨_, _, rfl, _, _, _, (show Blk w42.drew d _ _ from b42d).cell rfl, wCells (a + i, (b.drop (64 * i)).take 64), lw, ?_, ?_⟩
    · exact Rdb.rd (rdb_all (show Blk w42.drew w36.heap.size _ _ from b42))
    have hm1 := run_buildOne EW (by decide) (v := .agg (List.toArray (wCells (a + i, (b.drop (64 * i)).take 64)))) (l := wCells (a + i, (b.drop (64 * i)).take 64)) rfl lw w42.drew
    refine ⟨_, _, _, _, hm1, ?_⟩
    have b49 := Blk.alloc_new w42.drew (wCells (a + i, (b.drop (64 * i)).take 64)) T_disk_write
    have k49 := (Keep.drew w42).trans (Keep.alloc w42.drew (.cells (wCells (a + i, (b.drop (64 * i)).take 64)).toArray T_disk_write)) (by simp)
    generalize w42.drew.alloc (.cells (wCells (a + i, (b.drop (64 * i)).take 64)).toArray T_disk_write) = w49 at *
    have b49d := k49.blk b42d (by simp)
    refine ⟨b49d.cell rfl, ?_⟩
    have hk18_42 : Keep [d] w18 w42 := (k36.trans k41 (by simp)).trans k42 (by simp [s36])
    have hk18_49 : Keep [d] w18 w49 := hk18_42.trans k49 (by simp)
    have ho49 := ho.keep hk18_49 (fun q hq => by simp; rintro rfl; exact hdw hq)
    have hnews : Has w49 (some ⟨w42.drew.heap.size, 0, none⟩) (wCells (a + i, (b.drop (64 * i)).take 64)) := .inr ⟨_, 0, rfl, rdb_all b49⟩
    have hwl : (writeN m a b i).ws.length = m.ws.length + i := by simp [writeN]
    obtain ⟨a50, c50, w51, fp51, hr51, ho51, hk51, hf51, _⟩ := own_append EW (ty := T_slice_disk_write) (xc := 1) ho49 (n := 1) (by rw [lw]) hnews (wCells_one _) (by rw [hwl]; omega)
    refine ⟨_, _, _, w51, hr51, ?_⟩
    have b51d := hk51.blk b49d hdw
    refine ⟨_, _, rfl, st b51d (by simp) fun w54 b54 k54 s54 => ⟨_, _, rfl, _, _, _, (show Blk w54.drew d _ _ from b54).cell rfl, fun n58 h58 => ?_⟩⟩
    rw [wrap64 (by omega) (by omega)] at h58
    have h58 : n58 = ((64 * (a + i) : Nat) : Int) := by omega
    subst h58
    rw [Int.toNat_natCast]
    refine ⟨by omega, by omega, ?_⟩
    have hs18 := hk18.1
    have s49 : w18.heap.size ≤ w36.heap.size := by omega
    have hk18_51 : Keep (d :: fw18) w18 w51 := (hk18_49.mono (N := d :: fw18) (by simp)).trans hk51 (fun q hq => .inl (by simp [hq]))
    have hk18_54 : Keep (d :: fw18) w18 w54 := hk18_51.trans k54 (by simp)
    have bn54 : Blk w54.drew bn ((writeN m a b i).nw.map B) T_uint8 := hk18_54.blk h18.nw (by simp [hdn.symm, hnw])
    have bv54 : Blk w54.drew w36.heap.size (wCells (a + i, (b.drop (64 * i)).take 64)) T_disk_write := by
      have g1 : Blk w49 w36.heap.size _ _ := k49.blk b42 (by simp)
      have g2 : w36.heap.size ∉ fp51 ∨ True := .inr trivial
      have g3 : w36.heap.size ∉ fw18 := fun hm => by have := ho.lt _ hm; omega
      have g4 := hk51.blk g1 g3
      refine k54.blk g4 ?_
      have := b36.lt
      simp; omega
    have hln := h18.ln
    rw [cutBase_ne (by omega)]
    rw [arr_base]
    have hsrc : Has w54.drew (some ⟨w36.heap.size, 0 + 1, none⟩) (((b.drop (64 * i)).take 64).map B) := .inr ⟨_, _, rfl, by
      have := Rdb.of_blk bv54 1 64
      rwa [show List.drop 1 (wCells (a + i, (b.drop (64 * i)).take 64)) = ((b.drop (64 * i)).take 64).map B from rfl, List.take_of_length_le (by rw [List.length_map, ls]; omega)] at this⟩
    have lsm : (((b.drop (64 * i)).take 64).map B).length = 64 := by rw [List.length_map, ls]
    refine cp E8 bn54 hsrc (by rw [lsm]; omega) (mapB_one _) (by rw [lsm, List.length_map, hln]; omega) fun w60 b60 k60 s60 => ?_
    intro n61 h61
    rw [wrap64 (by omega) (by omega)] at h61
    have h61 : n61 = ((a + (i + 1) : Nat) : Int) := by omega
    subst h61
    have t64 : Int.toNat 64 = 64 := rfl
    rw [t64]
    have hk18_60 : Keep (d :: bn :: fw18) w18 w60.drew := ((hk18_54.then_drew).mono (N := d :: bn :: fw18) (fun q hq => .inl (by simp only [List.mem_cons] at hq ⊢; rcases hq with hq | hq <;> simp [hq]))).trans k60.then_drew (by simp)
    have hsub : ∀ q ∈ d :: bn :: fw18, q ∈ d :: bp :: bn :: fw ∨ w.heap.size ≤ q := by
      intro q hq
      simp only [List.mem_cons] at hq ⊢
      rcases hq with hq | hq | hq
      · exact .inl (.inl hq)
      · exact .inl (.inr (.inr (.inl hq)))
      · rcases hf18 q hq with hq | hq
        · exact .inl (.inr (.inr (.inr hq)))
        · exact .inr hq
    have hb37' : b37 ∉ d :: bn :: fw18 := fun hm => by
      rcases hsub _ hm with h | h
      · exact hb37 h
      · omega
    refine ⟨by omega, by show (64 : Int) ≤ (sl : Int); omega, ⟨by omega, by omega, hk18.trans hk18_60 hsub, ⟨fp51, fun q hq => ?_, ?_⟩, ?_, ?_, ?_, ?_, ?_⟩, by dsimp only; omega⟩
    · rcases hf51 q hq with hq | hq
      · exact hf18 q hq
      · right; have := k49.1; omega
    · rw [Int.toNat_natCast, Nat.add_sub_cancel_left]
      have hws1 : (writeN m a b (i + 1)).ws = (writeN m a b i).ws ++ [(a + i, (b.drop (64 * i)).take 64)] := by
        simp [writeN, List.range_succ]
      have ltk : (List.take (64 * i) b).length = 64 * i := by rw [List.length_take, hl]; omega
      have hmn := h.ln
      have ltn : (List.take (64 * a) m.nw).length = 64 * a := by rw [List.length_take, hmn]; omega
      have hnw1 : (writeN m a b (i + 1)).nw.map B = List.take (0 + 64 * (a + i) * 1) ((writeN m a b i).nw.map B) ++ (((b.drop (64 * i)).take 64).map B) ++ List.drop (0 + 64 * (a + i) * 1 + (((b.drop (64 * i)).take 64).map B).length) ((writeN m a b i).nw.map B) := by
        rw [lsm, ← List.map_take, ← List.map_drop, ← List.map_append, ← List.map_append]
        congr 1
        simp only [writeN]
        have e1 : List.take (0 + 64 * (a + i) * 1) (List.take (64 * a) m.nw ++ List.take (64 * i) b ++ List.drop (64 * a + 64 * i) m.nw) = List.take (64 * a) m.nw ++ List.take (64 * i) b :=
          List.take_left' (by rw [List.length_append, ltn, ltk]; omega)
        have e2 : List.drop (0 + 64 * (a + i) * 1 + 64) (List.take (64 * a) m.nw ++ List.take (64 * i) b ++ List.drop (64 * a + 64 * i) m.nw) = List.drop (64 * a + 64 * (i + 1)) m.nw := by
          rw [List.drop_append, List.drop_of_length_le (by rw [List.length_append, ltn, ltk]; omega), List.nil_append, List.drop_drop, List.length_append, ltn, ltk]
          congr 1
          omega
        rw [e1, e2]
        have e3 : List.take (64 * (i + 1)) b = List.take (64 * i) b ++ List.take 64 (List.drop (64 * i) b) := by
          rw [show 64 * (i + 1) = 64 * i + 64 by omega, List.take_add]
        rw [e3]
        simp
      refine ⟨⟨a50, c50, n33, k2, ?_, ?_⟩, ?_, ?_, h18.ne, h18.lp, ?_, h18.n1, ?_⟩
      · have g : Blk w60 d _ _ := k60.blk b54 (by simp [hdn])
        rw [hws1, List.length_append]
        exact g
      · rw [hws1, List.length_append, List.flatMap_append]
        have g : (List.flatMap wCells [(a + i, (b.drop (64 * i)).take 64)]) = wCells (a + i, (b.drop (64 * i)).take 64) := by simp
        rw [g]
        refine (ho51.keep k54 (fun q hq => ?_)).keep (M := [bn]) (w' := w60.drew) k60 (fun q hq => ?_)
        · simp; rintro rfl
          rcases hf51 q hq with hq | hq
          · exact hdw hq
          · have := b49d.lt; omega
        · simp; rintro rfl
          rcases hf51 q hq with hq | hq
          · exact hnw hq
          · have := h18.nw.lt; have := k49.1; omega
      · have g : Blk w54 bp _ _ := hk18_54.blk h18.pl (by simp [hdp.symm, hpw])
        exact k60.blk (w := w54.drew) g (by simp [h18.ne])
      · rw [hnw1]
        exact b60
      · have := congrArg List.length hnw1
        rw [List.length_map] at this
        rw [this]
        simp [hln, ls]; omega
      · intro x hx
        rw [hws1, List.mem_append] at hx
        rcases hx with hx | hx
        · exact h18.ok x hx
        · simp at hx; subst hx; exact ⟨by simp only; omega, ls⟩
    · rw [Int.toNat_natCast, Nat.add_sub_cancel_left]; simp only; omega
    · simp only; omega
    · rw [Int.toNat_natCast, Nat.add_sub_cancel_left]
      have g : HasB w60.drew (some ⟨b37, o37, none⟩) (b.drop (64 * i)) := Has.keep (.inr ⟨b37, o37, rfl, hr37⟩) hk18_60 (fun q hq => by injection hq with hq; subst hq; exact hb37')
      have := has_drop (lo := 64) (m := sc) g (by omega) (by omega)
      rwa [List.drop_drop, show 64 * i + 64 = 64 * (i + 1) by omega] at this
    · intro q hq
      obtain ⟨q', h1, h2⟩ := cutBase_block hq
      injection h1 with h1; subst h1
      rw [← h2]; exact hb37
    · exact cutBase_lt hslt
  · intro hle
    have hle : sl = 0 := by have := of_decide_eq_false hle; simp only at this; omega
    have : i = k := by omega
    subst this
    exact hR w18 fw18 hk18 hf18 h18

/-- How much of a write stays. -/
def kI (k : Int) : Int := if (64 : Int) < (if k > (0 : Int) then k else (0 : Int)) then (64 : Int) else (if k > (0 : Int) then k else (0 : Int))
theorem kI_range (k : Int) : 0 ≤ kI k ∧ kI k ≤ 64 := by unfold kI; split <;> split <;> omega
def upStep (pl : List UInt8) (x : Nat × List UInt8) (k : Int) : List UInt8 := pl.take (64 * x.1) ++ x.2.take (kI k).toNat ++ pl.drop (64 * x.1 + (kI k).toNat)
/-- The platter behind so many of the writes. -/
def upN (m : DiskM) (ks : List Int) : Nat → List UInt8
  | 0 => m.pl
  | i + 1 => upStep (upN m ks i) (m.ws.getD i (0, [])) (ks.getD i 0)
theorem upStep_length {pl : List UInt8} {x : Nat × List UInt8} {k : Int} {n : Nat} (h : pl.length = 64 * n) (h1 : x.1 < n) (h2 : x.2.length = 64) : (upStep pl x k).length = 64 * n := by
  have := kI_range k
  simp [upStep, h, h2]; omega
theorem upN_length {m : DiskM} {ks : List Int} {n : Nat} (h : m.pl.length = 64 * n) (hok : ∀ x ∈ m.ws, x.1 < n ∧ x.2.length = 64) : ∀ i, i ≤ m.ws.length → (upN m ks i).length = 64 * n
  | 0, _ => h
  | i + 1, hi => by
    have : m.ws.getD i (0, []) ∈ m.ws := by
      rw [List.getD_eq_getElem?_getD, List.getElem?_eq_getElem (by omega)]; simp
    exact upStep_length (upN_length h hok i (by omega)) (hok _ this).1 (hok _ this).2

theorem wsCells_length (l : List (Nat × List UInt8)) (h : ∀ x ∈ l, x.2.length = 64) : (l.flatMap wCells).length = 65 * l.length := by
  induction l with
  | nil => rfl
  | cons x l ih =>
    rw [List.flatMap_cons, List.length_append, wCells_length x (h x (by simp)), ih (fun y hy => h y (by simp [hy]))]
    simp; omega
theorem wsCells_at : ∀ (l : List (Nat × List UInt8)) (i : Nat), (∀ x ∈ l, x.2.length = 64) → i < l.length → ∀ j v, (wCells (l.getD i (0, [])))[j]? = some v → (l.flatMap wCells)[i * 65 + j]? = some v
  | [], i, _, hi, _, _, _ => by simp at hi
  | x :: l, 0, h, _, j, v, hj => by
    have : j < (wCells x).length := by
      have := List.getElem?_eq_some_iff.1 hj
      exact this.1
    rw [List.flatMap_cons, Nat.zero_mul, Nat.zero_add, List.getElem?_append_left this]
    exact hj
  | x :: l, i + 1, h, hi, j, v, hj => by
    have hx := wCells_length x (h x (by simp))
    rw [List.flatMap_cons, List.getElem?_append_right (by omega), hx, show (i + 1) * 65 + j - 65 = i * 65 + j by omega]
    exact wsCells_at l i (fun y hy => h y (by simp [hy])) (by simpa using hi) j v hj

def ksV (ks : List Int) : List Value := ks.map (Value.int .i64)

theorem disk_Up (h : DiskIs w d bp bn fw n m) {sa : Option Addr} {sl sc : Nat} (ks : List Int) (hs : Has w sa (ksV ks)) (hsl : ks.length = sl) (hws : m.ws.length ≤ 1000000000)
    (hR : ∀ w', Keep (d :: bp :: bn :: fw) w w' → DiskIs w' d bp bn [] n ⟨upN m ks m.ws.length, upN m ks m.ws.length, []⟩ → R (.returned (.tuple #[])) w') :
    Calls P0 f_disk_Disk_Up #[.pointer (some ⟨d, 0, none⟩), .slice sa sl sc] w R := by
  subst hsl
  obtain ⟨wa, wc, k1, k2, hd, ho⟩ := h.ex
  have hn := h.n1
  have hdp : d ≠ bp := hd.ne h.pl (by decide)
  have hdn : d ≠ bn := hd.ne h.nw (by decide)
  have hpw : bp ∉ fw := fun hm => by obtain ⟨c, hc⟩ := Own.blk ho bp hm; exact h.pl.ne hc (by decide) rfl
  have hlt0 := h.lt
  refine C_disk_Disk_Up ⟨_, _, rfl, _, _, _, hd.cell rfl, ?_⟩
  have m1 := make_run EK rfl rfl m.ws.length (by omega) w
  refine ⟨_, _, _, _, m1, ?_⟩
  have B1 := Blk.alloc_new w (List.replicate m.ws.length (.int .i64 0)) T_api_Keep
  have K1 := Keep.alloc w (.cells (List.replicate m.ws.length (.int .i64 0)).toArray T_api_Keep)
  generalize w.alloc (.cells (List.replicate m.ws.length (.int .i64 0)).toArray T_api_Keep) = w1 at *
  have ln : ((ksV ks).take (min ks.length m.ws.length)).length = min ks.length m.ws.length := by simp [ksV]
  have hs1 : Has w1 sa ((ksV ks).take (min ks.length m.ws.length)) := by
    rcases hs.keep K1 (Off.nil _) with g | ⟨b, o, rfl, g⟩
    · exact .inl (by rw [g]; simp)
    · refine .inr ⟨b, o, rfl, fun j v hj => g j v ?_⟩
      rw [List.getElem?_take] at hj
      split at hj
      · exact hj
      · cases hj
  refine cp EK B1 hs1 (by rw [ln]; omega) (by intro v hv; have := List.mem_of_mem_take hv; simp only [ksV, List.mem_map] at this; obtain ⟨k, _, rfl⟩ := this; rfl) (by rw [ln]; simp; omega) fun w9 b9 k9 s9 => ?_
  rw [List.take_zero, List.nil_append, ln] at b9
  have hkept : ∀ i, i < m.ws.length → (((ksV ks).take (min ks.length m.ws.length)) ++ (List.replicate m.ws.length (Value.int .i64 0)).drop (0 + min ks.length m.ws.length))[i]? = some (.int .i64 (ks.getD i 0)) := by
    intro i hi
    by_cases h1 : i < ks.length
    · rw [List.getElem?_append_left (by rw [ln]; omega), List.getElem?_take_of_lt (by omega)]
      simp [ksV, h1]
    · rw [List.getElem?_append_right (by rw [ln]; omega), List.getElem?_drop, ln]
      rw [List.getElem?_replicate_of_lt (by omega)]
      simp [List.getElem?_eq_none (Nat.le_of_not_lt h1)]
  generalize ((ksV ks).take (min ks.length m.ws.length)) ++ (List.replicate m.ws.length (Value.int .i64 0)).drop (0 + min ks.length m.ws.length) = kept at *
  have k09 : Keep [] w w9 := K1.trans k9 (by simp)
  have hd9 := k09.blk hd (by simp)
  have ho9 := ho.keep k09 (by simp)
  refine ⟨_, _, rfl, _, _, _, hd9.cell rfl, ?_⟩
  refine ⟨fun x w' => 0 ≤ x ∧ x ≤ m.ws.length ∧ Keep [bp] w9 w' ∧ Blk w' bp ((upN m ks x.toNat).map B) T_uint8, fun x _ => (m.ws.length - x).toNat, ⟨by omega, by omega, Keep.refl _ _, k09.blk h.pl (by simp)⟩, ?_⟩
  rintro x w16 ⟨h0, h1, hk, hbp⟩
  obtain ⟨i, rfl⟩ := Int.eq_ofNat_of_zero_le h0
  rw [Int.toNat_natCast] at hbp
  have hb9w : w.heap.size < w9.heap.size := by rw [s9]; exact B1.lt
  have hd16 := hk.blk hd9 (by simp [hdp])
  constructor
  · intro hlt
    have hi : i < m.ws.length := by have := of_decide_eq_true hlt; omega
    have ho16 := ho9.keep hk (fun q hq => by simp; rintro rfl; exact hpw hq)
    have hok := h.ok
    have hlcells := wsCells_length m.ws (fun x hx => (hok x hx).2)
    have hmem : m.ws.getD i (0, []) ∈ m.ws := by
      rw [List.getD_eq_getElem?_getD, List.getElem?_eq_getElem hi]; simp
    obtain ⟨hx1, hx2⟩ := hok _ hmem
    have hat := wsCells_at m.ws i (fun x hx => (hok x hx).2) hi
    have hup1 : upN m ks (i + 1) = upStep (upN m ks i) (m.ws.getD i (0, [])) (ks.getD i 0) := rfl
    have hupl := upN_length (ks := ks) h.lp hok i (by omega)
    have hki := hkept i hi
    generalize m.ws.getD i (0, []) = xw at *
    generalize ks.getD i 0 = ki at *
    have lw := wCells_length xw hx2
    obtain ⟨b17, o17, rfl, hr17⟩ : ∃ b o, wa = some ⟨b, o, none⟩ ∧ Rdb w16 b o (m.ws.flatMap wCells) := by
      rcases Own.has ho16 with hx | hx
      · rw [hx] at hlcells; simp only [List.length_nil] at hlcells; omega
      · exact hx
    refine ⟨b17, o17, rfl, h0, by omega, wCells xw, lw, ?_, ?_⟩
    · rw [Int.toNat_natCast]
      refine Rdb.rd fun j v hj => ?_
      rw [Nat.add_assoc]
      exact hr17 _ _ (hat j v hj)
    rw [zeroW]
    refine al fun w20 b20 k20 s20 => ?_
    refine put_all b20 (by simp) lw (wCells_one _) fun w21 b21 k21 s21 => ?_
    have k16_21 : Keep [] w16 w21 := (k20.trans k21 (by simp)).mono (by simp)
    have b9' : Blk w21 w.heap.size kept T_api_Keep := k16_21.blk (hk.blk b9 (by have := hlt0 bp (by simp); simp; omega)) (by simp)
    have hd21 := k16_21.blk hd16 (by simp)
    refine ⟨_, _, rfl, h0, by omega, ki, ?_, ?_⟩
    · rw [Int.toNat_natCast, Nat.zero_add, Nat.mul_one]
      exact b9'.cell hki
    refine ⟨_, _, rfl, _, _, _, (show Blk w21.drew d _ _ from hd21).cell rfl, (xw.1 : Int), (show Blk w21.drew w16.heap.size _ _ from b21).cell rfl, fun n29 h29 => ?_⟩
    rw [wrap64 (by omega) (by omega)] at h29
    have h29 : n29 = ((64 * xw.1 : Nat) : Int) := by omega
    subst h29
    have hkr := kI_range ki
    have e64 : cutBase (some ⟨w16.heap.size, 0 + 1, none⟩) 0 64 1 = some ⟨w16.heap.size, 0 + 1, none⟩ := by rw [cutBase_ne (by decide)]
    change (0 : Int) ≤ _ ∧ _ ≤ _ ∧ 0 ≤ kI ki ∧ kI ki ≤ _ ∧ ∃ n30 : Int, ∃ w31, Sem.run Try.prog (Builtin.copy_ #[47, 47] 3 #[_, .slice _ ((kI ki).toNat - 0) _]) _ = _ ∧ _
    rw [e64, Int.toNat_natCast, cutBase_ne (by omega)]
    refine ⟨by omega, by omega, hkr.1, by omega, ?_⟩
    have lnk : ((xw.2.take (kI ki).toNat).map B).length = (kI ki).toNat := by simp [hx2]; omega
    have hsrc : Has w21.drew (some ⟨w16.heap.size, 0 + 1, none⟩) ((xw.2.take (kI ki).toNat).map B) := .inr ⟨_, _, rfl, fun j v hj => by
      rw [List.map_take, List.getElem?_take] at hj
      split at hj
      · refine (show Blk w21.drew w16.heap.size _ _ from b21).cell ?_
        rw [show 0 + 1 + j = j + 1 by omega]
        exact hj
      · cases hj⟩
    have hbp21 : Blk w21.drew bp _ _ := k16_21.blk hbp (by simp)
    refine cp E8 hbp21 hsrc (by rw [lnk]; omega) (mapB_one _) (by rw [lnk, List.length_map, hupl]; omega) fun w31 b31 k31 s31 => ?_
    intro n32 h32
    rw [wrap64 (by omega) (by omega)] at h32
    have h32 : n32 = ((i + 1 : Nat) : Int) := by omega
    subst h32
    refine ⟨⟨by omega, by omega, (hk.trans k16_21.then_drew (by simp)).trans k31 (by simp), ?_⟩, by dsimp only; omega⟩
    rw [Int.toNat_natCast, hup1]
    rw [lnk, ← List.map_take, ← List.map_drop, ← List.map_append, ← List.map_append] at b31
    unfold upStep
    rw [show 0 + 64 * xw.1 * 1 = 64 * xw.1 by omega] at b31
    exact b31
  · intro hle
    have : i = m.ws.length := by have := of_decide_eq_false hle; omega
    subst this
    have k0_16 : Keep [bp] w w16 := (k09.mono (by simp)).trans hk (by simp)
    have ho16 := ho.keep k0_16 (fun q hq => by simp; rintro rfl; exact hpw hq)
    refine ⟨_, _, rfl, _, _, _, hd16.cell rfl, ?_⟩
    obtain ⟨w36, hr36, k36⟩ := run_clear (ty := 0) EW (by simp [ZW, Value.oneCell']) ho16
    have hdw : d ∉ fw := fun hm => by obtain ⟨c, hc⟩ := Own.blk ho d hm; exact hd.ne hc (by decide) rfl
    have hnw : bn ∉ fw := fun hm => by obtain ⟨c, hc⟩ := Own.blk ho bn hm; exact h.nw.ne hc (by decide) rfl
    refine ⟨w36, hr36, ?_⟩
    have hd36 := k36.blk hd16 hdw
    refine ⟨_, _, rfl, st hd36 (by simp) fun w39 b39 k39 s39 => ⟨_, _, rfl, st b39 (by simp) fun w42 b42 k42 s42 => ⟨_, _, rfl, st b42 (by simp) fun w45 b45 k45 s45 => ?_⟩⟩⟩
    have hbn : Blk w45.drew bn (m.nw.map B) T_uint8 := k45.blk (k42.blk (k39.blk (k36.blk (k0_16.blk h.nw (by simp [h.ne.symm])) hnw) (by simp [hdn.symm])) (by simp [hdn.symm])) (by simp [hdn.symm])
    have hbp2 : Blk w45.drew bp _ T_uint8 := k45.blk (k42.blk (k39.blk (k36.blk hbp hpw) (by simp [hdp.symm])) (by simp [hdp.symm])) (by simp [hdp.symm])
    refine ⟨_, _, rfl, _, _, _, (show Blk w45.drew d _ _ from b45).cell rfl, _, _, rfl, _, _, _, (show Blk w45.drew d _ _ from b45).cell rfl, ?_⟩
    have lup := upN_length (ks := ks) h.lp h.ok m.ws.length (Nat.le_refl _)
    have hln := h.ln
    generalize upN m ks m.ws.length = up at *
    have hsrc : Has w45.drew (some ⟨bp, 0, none⟩) (up.map B) := .inr ⟨bp, 0, rfl, rdb_all hbp2⟩
    refine cp E8 hbn hsrc (by simp [lup]) (mapB_one _) (by simp [lup, hln]) fun w53 b53 k53 s53 => ?_
    rw [List.take_zero, List.nil_append, List.drop_of_length_le (by simp [lup, hln]), List.append_nil] at b53
    have kk : Keep (d :: bp :: bn :: fw) w w53 := ((((((k0_16.mono (N := d :: bp :: bn :: fw) (by simp)).trans k36 (fun q hq => .inl (by simp [hq]))).trans k39 (by simp)).trans k42 (by simp)).trans k45 (by simp)).then_drew).trans k53 (by simp)
    refine hR w53 kk ⟨⟨none, 0, k1, k2, k53.blk (w := w45.drew) b45 (by simp [hdn]), .inl ⟨rfl, rfl, rfl, rfl, rfl⟩⟩, k53.blk hbp2 (by simp [h.ne]), b53, h.ne, lup, lup, hn, by simp⟩
end Go.Proofs
