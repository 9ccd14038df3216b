/- LogEras: the walk. -/
import Derived.Test.YtbkcpddedpmenaaC6
set_option maxRecDepth 100000
namespace Go.Proofs
open Go Go.Vc
variable {w w' : World} {R : Ending → World → Prop}

set_option maxHeartbeats 1000000 in
theorem LogEras_ok {a1 a2 a3 a4 : Option Addr} {l1 c1 l2 c2 l3 c3 l4 c4 : Nat} (xs ys zs : List Pc) (ks : List Int) (hx : Args w a1 l1 c1 xs) (hy : Args w a2 l2 c2 ys) (hk : Has w a3 (ksV ks)) (hkl : ks.length = l3) (hz : Args w a4 l4 c4 zs)
    (hR : ∀ w', Keep [] w w' → R (.returned (.bool true)) w') :
    Calls P0 f_pollardlaw08_LogEras #[.slice a1 l1 c1, .slice a2 l2 c2, .slice a3 l3 c3, .slice a4 l4 c4] w R := by
  refine C_pollardlaw08_LogEras ?_
  refine awake_ok fun w6 k6 => ⟨_, rfl, ?_⟩
  refine begun_ok (n := 552) (by omega) fun w9 x A k9 hxn hmu rig9 sys9 => ⟨_, _, _, rfl, fun e => by simp at e, fun _ => ⟨fun e => by simp at e, fun _ => ?_⟩⟩
  have p0 : PhL w w9 x A [] (sys0 552) (sys0 552) 8 0 := ⟨k6.trans k9 (by simp), rig9, ⟨fun _ => 0, sys9 _⟩, good0 552, Ext.refl _, fun q hq => Nat.le_trans k6.1 (hmu q hq), by simp [sys0, disk0]⟩
  have hxw : w.heap.size ≤ x := Nat.le_trans k6.1 hxn
  clear rig9 sys9 hmu k9 k6
  have hxln := hx.ln
  have hyln := hy.ln
  have hzln := hz.ln
  have hxb := hx.big
  have hyb := hy.big
  have hzb := hz.big
  have hsl : (sys0 552).sl = 17 := by show (552 - 8) / 32 = 17; omega
  refine ⟨fun i w' => 0 ≤ i ∧ i ≤ l1 ∧ ∃ S', PhL w w' x A [] (sys0 552) S' 8 0 ∧ S'.L.sent = 8, fun i _ => (l1 - i).toNat, ⟨by omega, by omega, sys0 552, p0, rfl⟩, ?_⟩
  rintro i w16 ⟨h0, h1, S16, ph, sn⟩
  obtain ⟨i, rfl⟩ := Int.eq_ofNat_of_zero_le h0
  constructor
  · intro hlt
    have hlt : i < xs.length := by have := of_decide_eq_true hlt; omega
    have phd := ph.keep0 (Keep.drew _)
    obtain ⟨b, o, ha, hc⟩ := (hx.keep phd.keep).s.at hlt
    refine ⟨_, _, rfl, _, phd.rig.l, _, _, rfl, _, phd.rig.l, b, o, ha, by omega, by omega, xs[i].a, xs[i].len, xs[i].cap, by rw [Int.toNat_natCast, Nat.mul_one]; exact hc, ?_⟩
    obtain ⟨ptr, hs⟩ := phd.sys
    refine log_Head hs fun w27 k27 => ⟨_, _, rfl, ?_⟩
    have ph27 := phd.keep0 k27
    have hpe := hx.s.each xs[i] (by simp)
    refine ⟨slcs_same (hx.keep ph27.keep).s hlt ha, ph27.rig.l, ?_⟩
    refine ph27.append hpe.1 hpe.2 (hx.ok _ (by simp)) fun w31 S' a b e k ph' sn' => ⟨_, _, _, rfl, fun n hn => ?_⟩
    rw [wrap64 (by omega) (by omega)] at hn
    subst hn
    exact ⟨⟨by omega, by omega, S', ph', by rw [sn', sn]⟩, by dsimp only; omega⟩
  intro _
  clear p0 h0 h1
  obtain ⟨ptr, h16⟩ := ph.sys
  have hn16 : S16.n = 552 := ph.ext.n
  have hf16 : S16.fi = 1 := ph.ext.fi
  have hs16 : S16.sl = 17 := by rw [ph.ext.sl]; exact hsl
  have ht16 := h16.top
  rw [hf16, hs16] at ht16
  have hw16 := ph.wsl
  rw [sn] at hw16
  refine rig_flushed ph.rig h16 ph.good (by omega) (by omega) fun w37 fw37 S37 k37 sub37 h37 x37 wr37 sn37 g37 ws37 => ⟨_, rfl, ?_⟩
  have hn37 : S37.n = 552 := x37.n.trans hn16
  have hf37 : S37.fi = 1 := x37.fi.trans hf16
  have hs37 : S37.sl = 17 := by rw [x37.sl]; exact hs16
  have hpl37 := x37.place
  have ph37 : PhL w w37 x A fw37 S37 S37 S37.L.place 5000 := ⟨ph.keep.trans k37 (fun q hq => .inr (ph.new q hq)), ph.rig.keep k37 (ph.rig.off h16), ⟨_, h37⟩, by rw [hpl37]; exact g37, Ext.refl _, fun q hq => by
    rcases mu_sub (k := w.heap.size) (fun q hq => (sub37 q hq).imp id (fun g => Nat.le_trans ph.keep.1 g)) q hq with g | g
    · exact ph.new q g
    · exact g, by omega⟩
  rw [← hpl37] at ht16 sn37
  have hbt := h37.bot
  rw [hf37] at hbt
  have hhp37 : S37.L.hp ≤ S37.L.place := Nat.le_add_right _ _
  have hsm37 := h37.sml.2.1
  have hno37 : S37.L.no ≤ 1000000000 := by
    have h1 : S37.L.no = S37.L.hn + S37.L.es.length := rfl
    have h2 := length_le_pN S37.L.es
    have h3 : S37.L.place = S37.L.hp + pN S37.L.es := rfl
    have h4 : S37.L.hn = 0 := x37.hn.trans ph.ext.hn
    omega
  clear ph sub37 k37 h16 g37 ws37 hw16 wr37 x37 hpl37 sn hn16 hf16 hs16
  refine ⟨_, _, rfl, _, ph37.rig.l, log_Head h37 fun w43 k43 => ⟨_, _, rfl, ?_⟩⟩
  refine al (c := [.int .i64 0, .int .i64 0]) fun w46 b46 k46 s46 => ?_
  refine st b46 (by simp) fun w47 b47 k47 s47 => st b47 (by simp) fun w48 b48 k48 s48 => ?_
  have k37_48 : Keep [] w37 w48 := k43.trans ((k46.trans k47 (by simp)).trans k48 (by simp)) (by simp)
  have ph48 := ph37.keep0 k37_48
  have hbn : w.heap.size ≤ w43.heap.size := (ph37.keep.trans k43 (by simp)).1
  clear k43 b46 k46 s46 b47 k47 s47 k48 s48 k37_48 h37
  generalize w43.heap.size = hb at *
  have b48 : Blk w48 hb [.int .i64 S37.L.no, .int .i64 S37.L.place] T_api_Head := b48
  refine ⟨fun i w' => 0 ≤ i ∧ i ≤ l2 ∧ ∃ S', PhL w w' x A fw37 S37 S' S37.L.place 5000 ∧ S'.L.sent = S37.L.place ∧ Blk w' hb [.int .i64 S37.L.no, .int .i64 S37.L.place] T_api_Head, fun i _ => (l2 - i).toNat, ⟨by omega, by omega, S37, ph48, sn37, b48⟩, ?_⟩
  rintro i w52 ⟨h0, h1, S52, ph, sn, hd⟩
  obtain ⟨i, rfl⟩ := Int.eq_ofNat_of_zero_le h0
  constructor
  · intro hlt
    have hlt : i < ys.length := by have := of_decide_eq_true hlt; omega
    have phd := ph.keep0 (Keep.drew _)
    obtain ⟨b, o, ha, hc⟩ := (hy.keep phd.keep).s.at hlt
    refine ⟨_, _, rfl, _, phd.rig.l, _, _, rfl, _, phd.rig.l, b, o, ha, by omega, by omega, ys[i].a, ys[i].len, ys[i].cap, by rw [Int.toNat_natCast, Nat.mul_one]; exact hc, ?_⟩
    obtain ⟨ptr, hs⟩ := phd.sys
    refine log_Head hs fun w63 k63 => ⟨_, _, rfl, ?_⟩
    have ph63 := phd.keep0 k63
    have hd63 := k63.blk (show Blk w52.drew hb _ _ from hd) (by simp)
    have hpe := hy.s.each ys[i] (by simp)
    refine ⟨slcs_same (hy.keep ph63.keep).s hlt ha, ph63.rig.l, ?_⟩
    refine ph63.append hpe.1 hpe.2 (hy.ok _ (by simp)) fun w67 S' a b e k ph' sn' => ⟨_, _, _, rfl, fun n hn => ?_⟩
    rw [wrap64 (by omega) (by omega)] at hn
    subst hn
    exact ⟨⟨by omega, by omega, S', ph', by rw [sn', sn], k.blk hd63 (ph63.off hd63 (by decide) (by decide) (by decide) (by decide) (by decide))⟩, by dsimp only; omega⟩
  intro _
  clear h0 h1 ph48 b48 ph37
  refine ⟨_, _, rfl, _, ph.rig.l, log_NewFlush fun w76 g k76 hg76 f76 => ⟨_, rfl, fun e => by simp at e, fun _ => ⟨fun e => by simp at e, fun _ => ?_⟩⟩⟩
  have ph76 := ph.keep0 k76
  have hd76 := k76.blk hd (by simp)
  have hgw : w.heap.size ≤ g := Nat.le_trans ph.keep.1 hg76
  clear ph hd k76 hg76
  -- the first block that is written and the others
  refine ⟨fun i w' => 0 ≤ i ∧ ∃ fw' S' F' dur', PhL w w' x A fw' S37 S' dur' 5000 ∧ S37.L.place ≤ dur' ∧ Blk w' hb [.int .i64 S37.L.no, .int .i64 S37.L.place] T_api_Head ∧ FlushIs w' g A.l F' ∧ FInv S' F' dur' ∧ S'.L.place = S52.L.place,
    fun i _ => (S52.L.place + 1 - i).toNat, ⟨by omega, fw37, S52, _, _, ph76, Nat.le_refl _, hd76, f76, trivial, rfl⟩, ?_⟩
  rintro i w81 ⟨h0, fw81, S81, F81, d81, ph, dl81, hd, f81, i81, pl81⟩
  obtain ⟨ptr, h81⟩ := ph.sys
  have hn81 : S81.n = 552 := ph.ext.n.trans hn37
  have hf81 : S81.fi = 1 := ph.ext.fi.trans hf37
  have hs81 : S81.sl = 17 := by rw [ph.ext.sl]; exact hs37
  have ht81 := h81.top
  rw [hf81, hs81] at ht81
  have hsn81 := h81.bsent
  have hhd : Blk w81.drew hb [.int .i64 S37.L.no, .int .i64 S37.L.place] T_api_Head := hd
  refine ⟨_, _, rfl, _, (ph.keep0 (Keep.drew _)).rig.l, _, hhd.cell rfl, log_Head (h81.keep0 (Keep.drew _)) fun w87 k87 => ⟨_, _, rfl, (k87.blk hhd (by simp)).cell rfl, fun n90 h90 => ?_⟩⟩
  have K87 : Keep [] w81 w87 := (Keep.drew w81).trans k87 (by simp)
  rw [wrap64 (by omega) (by omega)] at h90
  subst h90
  have ph87 := ph.keep0 K87
  have hd87 := K87.blk hd (by simp)
  have f87 : FlushIs w87 g A.l F81 := K87.blk f81 (by simp)
  have h87 := h81.keep0 K87
  have hws := ph.wsl
  constructor
  · intro hle
    have hle := of_decide_eq_true hle
    refine flush_Step h87 f87 ph.good i81 (by omega) fun w7 fw7 S7 d7 F7 r hp k7 sub7 h7 g7 f7 i7 => ⟨_, rfl, fun n h => ?_⟩
    rw [wrap64 (by omega) (by omega)] at h
    subst h
    obtain ⟨m1, m2, m3, m4⟩ := hp.mono ph.good
    have hoff : ∀ {q : Nat} {c : List Value} {T : TypeId}, Blk w87 q c T → T ≠ T_disk_Disk → T ≠ T_uint8 → T ≠ T_disk_write → T ≠ T_seg_Segs → T ≠ T_log_Log → T ≠ T_log_Flush → q ∉ g :: A.mu fw81 := fun hq t1 t2 t3 t4 t5 t6 hm => by
      simp only [List.mem_cons] at hm
      rcases hm with rfl | hm
      · exact hq.ne f87 t6 rfl
      · exact h87.off hq t1 t2 t3 t4 t5 hm
    have hnew : ∀ q ∈ g :: A.mu fw81, w.heap.size ≤ q := fun q hq => by
      simp only [List.mem_cons] at hq
      rcases hq with rfl | hq
      · exact hgw
      · exact ph.new q hq
    refine ⟨⟨by omega, fw7, S7, F7, d7, ⟨ph87.keep.trans k7 (fun q hq => .inr (hnew q hq)), ph87.rig.keep k7 (by obtain ⟨v3, v4, v5, hb⟩ := ph87.rig; exact hoff hb (by decide) (by decide) (by decide) (by decide) (by decide) (by decide)), ⟨_, h7⟩, g7, ph.ext.trans hp.fix.ext, fun q hq => ?_, by omega⟩,
      by omega, k7.blk hd87 (hoff hd87 (by decide) (by decide) (by decide) (by decide) (by decide) (by decide)), f7, i7, by rw [hp.fix.place]; exact pl81⟩, by dsimp only; omega⟩
    rcases mu_sub (k := w87.heap.size) sub7 q hq with g | g
    · exact ph.new q g
    · exact Nat.le_trans ph87.keep.1 g
  intro _
  -- the crash
  clear h0 i81 f87 f81 hgw h81 ph hd hhd
  have hnew87 := ph87.new
  have hhp81 : 8 ≤ S81.L.hp := by have := h87.bot; rw [hf81] at this; omega
  have hoffd : ∀ {q : Nat} {c : List Value} {T : TypeId}, Blk w87 q c T → T ≠ T_disk_Disk → T ≠ T_uint8 → T ≠ T_disk_write → q ∉ A.d :: A.bp :: A.bn :: fw81 := fun hq t1 t2 t3 => h87.disk.off hq t1 t2 t3
  refine ⟨_, _, rfl, _, ph87.rig.d0, disk_Up h87.disk ks (hk.keep ph87.keep (Off.nil _)) hkl (by omega) fun w99 k99 d99 => ⟨rfl, ?_⟩⟩
  have rig99 : RigIs w99.drew x A.d A.s A.l := by
    have : RigIs w99 x A.d A.s A.l := ph87.rig.keep k99 (by obtain ⟨v3, v4, v5, hb⟩ := ph87.rig; exact hoffd hb (by decide) (by decide) (by decide))
    exact this
  have hd99 : Blk w99.drew hb [.int .i64 S37.L.no, .int .i64 S37.L.place] T_api_Head := k99.blk hd87 (hoffd hd87 (by decide) (by decide) (by decide))
  have k0_99 : Keep [] w w99.drew := (ph87.keep.trans k99 (fun q hq => .inr (hnew87 q (mu_disk q hq)))).then_drew
  have d99' := d99.keep (Keep.drew w99) (by simp)
  have hnd : w.heap.size ≤ A.d ∧ w.heap.size ≤ A.bp ∧ w.heap.size ≤ A.bn := ⟨hnew87 _ (by simp [Ad.mu]), hnew87 _ (by simp [Ad.mu]), hnew87 _ (by simp [Ad.mu])⟩
  clear k99 d99 hoffd h87 hnew87 ph87 K87 k87 hws
  generalize w99.drew = wc at *
  generalize hm : (⟨upN S81.m ks S81.m.ws.length, upN S81.m ks S81.m.ws.length, []⟩ : DiskM) = m at *
  have hmw : m.ws = [] := by rw [← hm]
  rw [hn81] at d99'
  generalize hhpl : S37.L.place = hp at *
  generalize hhno : S37.L.no = hn at *
  have hpb : 8 ≤ hp ∧ hp ≤ 144 := ⟨by omega, by omega⟩
  refine ⟨_, _, rfl, _, rig99.d0, _, hd99.cell rfl, fun n104 h104 => ?_⟩
  rw [wrap64 (by omega) (by omega)] at h104
  subst h104
  refine ⟨by decide, fun n105 h105 => ?_⟩
  rw [Int.tdiv_eq_ediv_of_nonneg (by omega), wrap64 (by omega) (by omega)] at h105
  have h105 : n105 = (((hp + 7) / 8 : Nat) : Int) := by omega
  subst h105
  have hlab : 1 ≤ (hp + 7) / 8 ∧ (hp + 7) / 8 ≤ 18 ∧ hp ≤ 8 * ((hp + 7) / 8) := by omega
  generalize (hp + 7) / 8 = la at *
  refine seg_New d99' (fi := 1) (la := la) (by omega) (by omega) (by omega) (by omega) fun w107 s k107 hs107 seg107 => ⟨_, _, rfl, fun e => by simp at e, fun _ => ⟨fun e => by simp at e, fun _ => ?_⟩⟩
  have k107d := k107.then_drew
  have hd107 := k107d.blk hd99 (by simp)
  have rig107 := rig99.keep k107d (by simp)
  refine ⟨_, _, rfl, _, rig107.d0, _, hd107.cell rfl, _, hd107.cell rfl, ?_⟩
  refine log_Open (hn := hn) (hp := hp) (era := 2) (d99'.keep k107d (by simp)) (SegIs.keep seg107 (Keep.drew w107) (by simp)) (by omega) (by omega) (by omega) (by omega) (by omega) (by omega) (by omega) (by rw [hmw]; simp) fun w118 l bi ba k118 hl hbi hba sys118 => ⟨_, _, rfl, fun e => by simp at e, fun _ => ⟨fun e => by simp at e, fun _ => ?_⟩⟩
  have kc_118 : Keep [] wc w118 := k107d.trans k118 (by simp)
  have rig118 := rig99.keep kc_118 (by simp)
  have hd118 := kc_118.blk hd99 (by simp)
  obtain ⟨v3, v4, v5, hb118⟩ := rig118
  refine ⟨_, _, rfl, st hb118 (by simp) fun w123 b123 k123 s123 => ⟨_, _, rfl, st b123 (by simp) fun w126 b126 k126 s126 => ?_⟩⟩
  have k118_126 : Keep [x] w118 w126 := k123.trans k126 (by simp)
  have sys126 : ∀ ptr, Sys w126 ⟨A.d, A.bp, A.bn, s, l, bi, ba⟩ [] ptr hn (sysN m la hn hp []) := fun ptr => (sys118 ptr).keepS k118_126 (sortsX hb118)
  have rig126 : RigIs w126 x A.d s l := ⟨v3, v4, v5, b126⟩
  have hd126 := k118_126.blk hd118 (by simpa using hd118.ne hb118 (by decide))
  have k0_126 : Keep [] w w126 := (k0_99.trans kc_118 (by simp)).trans k118_126 (fun q hq => by simp at hq; subst hq; exact .inr (by omega))
  have hcw := k0_99.1
  have hcw7 := k107d.1
  have hw107 : w107.drew.heap.size = w107.heap.size := rfl
  have pn : PhN w w126 x hb ⟨A.d, A.bp, A.bn, s, l, bi, ba⟩ m la hn hp [] ⟨none, 0, 0⟩ [] := {
    keep := k0_126
    rig := rig126
    sys := ⟨_, sys126 fun _ => 0⟩
    good := ⟨by simp [sysN, LogM.at, pN], by simp [sysN], by simp [sysN], fun i j p h => by simp [sysN, LogM.parts] at h, fun i j p h => by simp [sysN, LogM.parts] at h, by simp [sysN, hmw]⟩
    head := hd126
    newA := fun q hq => by simp only [Ad.mu, List.mem_cons, List.not_mem_nil, or_false] at hq; omega
    new1 := by simp
    own1 := .inl ⟨rfl, rfl, rfl, rfl, rfl⟩
    pln := rfl }
  clear sys126 rig126 hd126 k118_126 b123 k123 s123 b126 k126 s126 hb118 hd118 kc_118 sys118 k118 rig107 hd107 k107d k107 seg107 d99' hd99 rig99 k0_99 k0_126
  generalize hA' : (⟨A.d, A.bp, A.bn, s, l, bi, ba⟩ : Ad) = A' at *
  have eD : A.d = A'.d := by rw [← hA']
  have eS : s = A'.s := by rw [← hA']
  have eL : l = A'.l := by rw [← hA']
  subst eS eL
  intro J127 hJ127
  -- reading
  have fin : ∀ pl w' es f1, PhN w w' x hb A' m la hn hp es pl f1 → es.length ≤ zs.length → (∀ i (h : i < es.length) (h' : i < zs.length), es[i] = (3, zs[i].l)) → J127 pl w' := by
    clear pn
    rintro ⟨pla, pll, plc⟩ w129 es f1 pn hle heq
    refine hJ127 _ w129 ?_
    clear hJ127
    obtain ⟨ptr, h129⟩ := pn.sys
    have hlo : (sysN m la hn hp es).lo = hn := by show min hn hn = hn; omega
    have h129 : Sys w129 A' [] ptr (sysN m la hn hp es).lo (sysN m la hn hp es) := by rw [hlo]; exact h129
    have htop := h129.top
    have hsl' : (sysN m la hn hp es).sl = 17 := by show (552 - 8) / 32 = 17; omega
    have hfi' : (sysN m la hn hp es).fi = 1 := rfl
    have hplN : (sysN m la hn hp es).L.place = hp + pN es := rfl
    have hsnN : (sysN m la hn hp es).L.sent = hp := rfl
    have hwsN : (sysN m la hn hp es).m.ws = [] := hmw
    have hpll : pll = es.length := pn.pln
    subst hpll
    have hlp := length_le_pN es
    have hnewA := pn.newA
    refine rig_flushed pn.rig h129 pn.good (by rw [hwsN]; simp) (by omega) fun w131 fw131 S131 k131 sub131 h131 x131 wr131 sn131 g131 _ => ⟨_, rfl, ?_⟩
    have rig131 := pn.rig.keep k131 (pn.rig.off h129)
    have hd131 := k131.blk pn.head (h129.off pn.head (by decide) (by decide) (by decide) (by decide) (by decide))
    have o131 : Own w131 T_int 1 pla es.length plc ((List.range es.length).map fun j => .int .i64 (atN hp es j : Nat)) f1 := pn.own1.keep k131 (h129.offOwn pn.own1 (by decide) (by decide) (by decide) (by decide) (by decide))
    have k0_131 : Keep [] w w131 := pn.keep.trans k131 (fun q hq => .inr (hnewA q hq))
    have hmu131 : ∀ q ∈ A'.mu fw131, w.heap.size ≤ q := fun q hq => by
      rcases mu_sub (k := w.heap.size) (fun q hq => (sub131 q hq).imp id (fun g => Nat.le_trans pn.keep.1 g)) q hq with g | g
      · exact hnewA q g
      · exact g
    have hno131 := x131.no
    have hnoN : (sysN m la hn hp es).L.no = hn + es.length := rfl
    rw [hnoN] at hno131 wr131
    rw [hplN] at sn131 g131
    have hmk131 : S131.L.mark = hn := x131.mark
    -- behind the Advance
    refine log_Advance_all h131 (by omega) (by omega) fun w134 k134 h134 => ⟨rfl, fun e => by simp at e, fun _ => ?_⟩
    have hlo' : (S131.adv S131.L.no).L.no ≤ S131.L.no := Nat.le_refl _
    have g134 : Good (S131.adv S131.L.no) (hp + pN es) := ⟨g131.wrd, g131.dle, g131.hpd, g131.nw, g131.pl, g131.ws⟩
    have es134 : (S131.adv S131.L.no).L.es = es := x131.es
    have hn134 : (S131.adv S131.L.no).L.hn = hn := x131.hn
    have hp134 : (S131.adv S131.L.no).L.hp = hp := x131.hp
    have era134 : (S131.adv S131.L.no).L.era = 2 := x131.era
    have sn134 : (S131.adv S131.L.no).L.sent = hp + pN es := sn131
    generalize S131.adv S131.L.no = S134 at *
    generalize S131.L.no = lo at *
    have hd134 := k134.blk hd131 (h131.off hd131 (by decide) (by decide) (by decide) (by decide) (by decide))
    have o134 := o131.keep k134 (h131.offOwn o131 (by decide) (by decide) (by decide) (by decide) (by decide))
    have k0_134 : Keep [] w w134 := k0_131.trans k134 (fun q hq => .inr (hmu131 q hq))
    have at134 : ∀ i, S134.L.at i = atN hp es i := fun i => by unfold LogM.at atN; rw [es134, hp134]
    refine ⟨fun i w' => 0 ≤ i ∧ i ≤ es.length ∧ Keep [] w134 w' ∧ Sys w' A' fw131 ptr lo S134, fun i _ => (es.length - i).toNat, ⟨by omega, by omega, Keep.refl _ _, h134⟩, ?_⟩
    rintro i w138 ⟨h0, h1, k138, h138⟩
    obtain ⟨i, rfl⟩ := Int.eq_ofNat_of_zero_le h0
    constructor
    · intro hlt
      have hlt : i < es.length := by have := of_decide_eq_true hlt; simp only at this; omega
      have q1 := o134.keep k138 (by simp)
      obtain ⟨b139, o140, hb139, hr139⟩ : ∃ b o, pla = some ⟨b, o, none⟩ ∧ Rdb w138 b o ((List.range es.length).map fun j => .int .i64 (atN hp es j : Nat)) := by
        rcases Own.has q1 with hx | hx
        · have := congrArg List.length hx; rw [List.length_map, List.length_range] at this; simp only [List.length_nil] at this; omega
        · exact hx
      have hc139 := hr139 i (.int .i64 (atN hp es i : Nat)) (by simp [hlt])
      refine ⟨b139, o140, hb139, by omega, by show (i : Int) < ((es.length : Nat) : Int); omega, _, by rw [Int.toNat_natCast, Nat.mul_one]; exact hc139, ?_⟩
      refine log_NewRead (p := atN hp es i) fun w143 r k143 hr143 r143 => ⟨_, rfl, fun e => by simp at e, fun _ => ?_⟩
      have h143 := h138.keep0 k143
      have hei := heq i hlt (by omega)
      have hge : S134.L.es[i]? = some (3, (zs[i]'(by omega)).l) := by rw [es134, List.getElem?_eq_getElem hlt, hei]
      have hst := stands_rec' h143 g134 hge (by rw [at134, sn134]; have := pN_take_le es (i + 1); unfold atN; omega)
      rw [at134, hn134, era134] at hst
      refine runRead h143 hlo' hst r143 fun w146 k146 r146 h146 => ⟨rfl, ?_⟩
      have hlen2 : (zs[i]'(by omega)).l.length ≤ 1000000000 := by have := hst.len; simp only at this; omega
      refine read_Got r146 hlen2 fun w148 a151 c151 k148 hb148 => ⟨_, _, _, _, _, _, rfl, fun e => by simp at e, fun _ => ?_⟩
      have hr143' : w134.heap.size ≤ r := Nat.le_trans k138.1 hr143
      have k148c : Keep [] w134 w148.drew := (((k138.trans k143 (by simp)).trans k146 (by simp [hr143'])).trans k148 (by simp)).then_drew
      have k0_148 : Keep [] w w148.drew := k0_134.trans k148c (by simp)
      refine ⟨_, (k148c.blk hd134 (by simp)).cell rfl, fun n154 h154 n155 h155 => ?_⟩
      rw [wrap64 (by omega) (by omega)] at h154
      subst h154
      rw [wrap64 (by omega) (by omega)] at h155
      subst h155
      refine ⟨fun e => ?_, fun _ => ⟨fun e => by simp at e, fun _ => ?_⟩⟩
      · have : ((hn + i + 1 : Nat) : Int) = (hn : Int) + (i : Int) + 1 := by omega
        rw [this] at e; simp at e
      refine ⟨_, run_string (zs[i]'(by omega)).l rfl (hb148.keep (Keep.drew w148) (Off.nil _)), ?_⟩
      have hzi : i < zs.length := by omega
      obtain ⟨bz, oz, haz, hcz⟩ := (hz.keep k0_148).s.at hzi
      have hze := hz.s.each zs[i] (by simp)
      refine ⟨bz, oz, haz, by omega, by omega, zs[i].a, zs[i].len, zs[i].cap, by rw [Int.toNat_natCast, Nat.mul_one]; exact hcz, _, run_string zs[i].l hze.1 (hze.2.keep k0_148 (Off.nil _)), ?_⟩
      refine ⟨fun e => by simp at e, fun _ n161 h161 => ?_⟩
      rw [wrap64 (by omega) (by omega)] at h161
      subst h161
      exact ⟨⟨by omega, by omega, k148c, (h146.keep0 k148).keep0 (Keep.drew _)⟩, by dsimp only; omega⟩
    · intro _
      exact hR w138 (k0_134.trans k138 (by simp))
  clear hJ127
  -- the loop of the new era's records
  refine ⟨fun pl i w' => 0 ≤ i ∧ i ≤ l4 ∧ ∃ es f1, PhN w w' x hb A' m la hn hp es pl f1 ∧ (es.length : Int) = i ∧ (∀ i (h : i < es.length) (h' : i < zs.length), es[i] = (3, zs[i].l)), fun _ i _ => (l4 - i).toNat, ⟨by omega, by omega, [], [], pn, rfl, by simp⟩, ?_⟩
  rintro ⟨pla, pll, plc⟩ i w166 ⟨h0, h1, es, f1, pn, hlen, heq⟩
  subst hlen
  refine ⟨fun hlt => ?_, fun _ => fin _ _ es f1 pn (by omega) heq⟩
  have hlt : es.length < zs.length := by have := of_decide_eq_true hlt; omega
  obtain ⟨ptr, h166⟩ := pn.sys
  refine log_Head h166 fun w168 k168 => ⟨_, _, rfl, ?_⟩
  refine al (c := [.int .i64 0, .int .i64 0]) fun w171 b171 k171 s171 => ?_
  refine st b171 (by simp) fun w172 b172 k172 s172 => st b172 (by simp) fun w173 b173 k173 s173 => ?_
  have k166_173 : Keep [] w166 w173 := k168.trans ((k171.trans k172 (by simp)).trans k173 (by simp)) (by simp)
  have p173 := pn.keep0 k166_173
  have hat : w166.heap.size ≤ w168.heap.size := k168.1
  clear k171 b171 s171 k172 b172 s172 k173 s173 k168 k166_173
  generalize w168.heap.size = ha at *
  have b173 : Blk w173 ha [.int .i64 (sysN m la hn hp es).L.no, .int .i64 (sysN m la hn hp es).L.place] T_api_Head := b173
  have hpll : pll = es.length := pn.pln
  subst hpll
  have hw166 := pn.keep.1
  intro J174 hJ174
  have hlp := length_le_pN es
  have htop := h166.top
  have hsl' : (sysN m la hn hp es).sl = 17 := by show (552 - 8) / 32 = 17; omega
  have hfi' : (sysN m la hn hp es).fi = 1 := rfl
  have hplN : (sysN m la hn hp es).L.place = hp + pN es := rfl
  have bad : ∀ w' e, e ≠ 0 → PhN w w' x hb A' m la hn hp es ⟨pla, es.length, plc⟩ f1 → J174 e w' := fun w' e he p => by
    refine hJ174 e w' ⟨fun _ => fin _ _ es f1 p (by omega) heq, fun h => absurd (by simpa using h) he⟩
  have good : ∀ w' ptr, Sys w' A' [] ptr hn (sysN m la hn hp (es ++ [(3, zs[es.length].l)])) → Good (sysN m la hn hp (es ++ [(3, zs[es.length].l)])) hp → Keep [] w w' → RigIs w' x A'.d A'.s A'.l → Blk w' hb [.int .i64 hn, .int .i64 hp] T_api_Head →
      Own w' T_int 1 pla es.length plc ((List.range es.length).map fun j => .int .i64 (atN hp es j : Nat)) f1 → Blk w' ha [.int .i64 (sysN m la hn hp es).L.no, .int .i64 (sysN m la hn hp es).L.place] T_api_Head → J174 0 w' := by
    intro w176 ptr h176 g176 k176 rig176 hd176 o176 ha176
    refine hJ174 0 w176 ⟨fun e => by simp at e, fun _ => ⟨_, ha176.cell rfl, ?_⟩⟩
    refine al (c := [.int .i64 ((sysN m la hn hp es).L.place : Nat)]) fun w178 b178 k178 s178 => ?_
    obtain ⟨a179, c179, w180, f179, hr179, o179, k180, f180, _⟩ := own_append EI (ty := T_slice_int) (xc := 1) (o176.keep k178 (by simp)) (n := 1) (news := [.int .i64 ((sysN m la hn hp es).L.place : Nat)]) rfl (.inr ⟨_, 0, rfl, rdb_all b178⟩) (by simp [Value.oneCell']) (by omega)
    refine ⟨_, _, _, w180, hr179, fun n181 h181 => ?_⟩
    rw [wrap64 (by omega) (by omega)] at h181
    subst h181
    have hn1 := pn.new1
    have k176_180 : Keep f1 w176 w180 := (k178.mono (by simp)).trans k180 (fun q hq => .inl hq)
    have hS : Sorts w176 f1 := fun q hq => by
      obtain ⟨c, hc⟩ := Own.blk o176 q hq
      exact ⟨_, _, hc, by decide, by decide, by decide, by decide, by decide, by decide, by decide⟩
    have hoffT : ∀ {q : Nat} {c : List Value} {T : TypeId}, Blk w176 q c T → T ≠ T_int → q ∉ f1 := fun hq t1 hm => by
      obtain ⟨c, hc⟩ := Own.blk o176 _ hm
      exact hq.ne hc t1 rfl
    refine ⟨⟨by omega, by omega, es ++ [(3, zs[es.length].l)], f179, {
      keep := k176.trans k176_180 (fun q hq => .inr (hn1 q hq))
      rig := rig176.keep k176_180 (by obtain ⟨v3, v4, v5, hb⟩ := rig176; exact hoffT hb (by decide))
      sys := ⟨ptr, h176.keepS k176_180 hS⟩
      good := g176
      head := k176_180.blk hd176 (hoffT hd176 (by decide))
      newA := pn.newA
      new1 := fun q hq => by
        rcases f180 q hq with g | g
        · exact hn1 q g
        · have := k176.1; have := k178.1; omega
      own1 := by rw [rangeN_app, List.length_append]; exact o179
      pln := by simp }, by simp, fun j hj hj' => ?_⟩, by dsimp only; omega⟩
    rw [List.getElem_append]
    split
    · exact heq j _ hj'
    · rename_i hjl
      simp only [List.length_append, List.length_cons, List.length_nil] at hj
      have : j = es.length := by omega
      subst this
      simp
  clear hJ174
  have pd := p173.keep0 (Keep.drew _)
  have bd : Blk w173.drew ha _ _ := b173
  obtain ⟨bz, oz, haz, hcz⟩ := (hz.keep pd.keep).s.at hlt
  have hze := hz.s.each zs[es.length] (by simp)
  have hzo := hz.ok zs[es.length] (by simp)
  refine ⟨_, bd.cell rfl, _, bd.cell rfl, bz, oz, haz, by omega, by omega, zs[es.length].a, zs[es.length].len, zs[es.length].cap, by rw [Int.toNat_natCast, Nat.mul_one]; exact hcz, ?_, ?_⟩
  · refine pd.append hze.1 hze.2 hzo (fun w190 e he p190 k190 => ⟨_, _, _, rfl, ?_⟩) (fun w190 ptr k190 h190 g190 q1 q2 q3 q4 => ⟨_, _, _, rfl, ?_⟩)
    · refine al (c := [.int .i64 0, .int .i64 0]) fun w194 b194 k194 s194 => ?_
      have p194 := p190.keep0 k194
      have a194 := (k190.trans k194 (by simp)).blk bd (by simp)
      refine ⟨slcs_same (hz.keep p194.keep).s hlt haz, ⟨a194.cell rfl, a194.cell rfl⟩, st b194 (by simp) fun w195 b195 k195 s195 => st b195 (by simp) fun w196 b196 k196 s196 => ?_⟩
      exact bad w196 e he (p190.keep0 ((k194.trans k195 (by simp)).trans k196 (by simp)))
    · refine al (c := [.int .i64 0, .int .i64 0]) fun w194 b194 k194 s194 => ?_
      obtain ⟨ptr0, hs0⟩ := pd.sys
      have a190 := k190.blk bd (hs0.off bd (by decide) (by decide) (by decide) (by decide) (by decide))
      have a194 := k194.blk a190 (by simp)
      refine ⟨slcs_same (hz.keep (q1.trans k194 (by simp))).s hlt haz, ⟨a194.cell rfl, a194.cell rfl⟩, st b194 (by simp) fun w195 b195 k195 s195 => st b195 (by simp) fun w196 b196 k196 s196 => ?_⟩
      have kk : Keep [] w190 w196 := (k194.trans k195 (by simp)).trans k196 (by simp)
      exact good w196 ptr (h190.keep0 kk) g190 (q1.trans kk (by simp)) (q2.keep kk (by simp)) (kk.blk q3 (by simp)) (q4.keep kk (by simp)) (kk.blk a190 (by simp))
  · refine al (c := [.int .i64 0, .int .i64 0]) fun w197 b197 k197 s197 => ?_
    have p197 := pd.keep0 k197
    have a197 := k197.blk bd (by simp)
    refine ⟨slcs_same (hz.keep p197.keep).s hlt haz, ⟨a197.cell rfl, a197.cell rfl⟩, ?_⟩
    have hne : w173.drew.heap.size ≠ hb := by have := pd.head.lt; omega
    have hne2 : w173.drew.heap.size ≠ ha := by have := bd.lt; omega
    have hwd := pd.keep.1
    refine p197.append hze.1 hze.2 hzo (fun w199 e he p199 k199 => ⟨_, _, _, rfl, ?_⟩) (fun w199 ptr k199 h199 g199 q1 q2 q3 q4 => ⟨_, _, _, rfl, ?_⟩)
    · refine st (k199.blk b197 (by simp)) (by simp) fun w203 b203 k203 s203 => st b203 (by simp) fun w204 b204 k204 s204 => ?_
      have kk : Keep [w173.drew.heap.size] w199 w204 := k203.trans k204 (by simp)
      have kx : Keep [] w173.drew w204 := ((k197.trans k199 (by simp))).trans kk (by simp)
      exact bad w204 e he (pd.keep0 kx)
    · obtain ⟨ptr0, hs0⟩ := p197.sys
      have b199 := k199.blk b197 (hs0.off b197 (by decide) (by decide) (by decide) (by decide) (by decide))
      have a199 := k199.blk a197 (hs0.off a197 (by decide) (by decide) (by decide) (by decide) (by decide))
      refine st b199 (by simp) fun w203 b203 k203 s203 => st b203 (by simp) fun w204 b204 k204 s204 => ?_
      have kk : Keep [w173.drew.heap.size] w199 w204 := k203.trans k204 (by simp)
      have n1 : ∀ q ∈ f1, q ∉ [w173.drew.heap.size] := fun q hq hm => by
        simp at hm; subst hm
        have := Own.lt pd.own1 _ hq; have e0 : w173.drew.heap.size = w173.heap.size := rfl; omega
      have n3 : x ∉ [w173.drew.heap.size] := fun hm => by
        obtain ⟨v3, v4, v5, hb⟩ := pd.rig
        have := hb.lt
        rw [List.mem_singleton] at hm
        omega
      exact good w204 ptr (h199.keepS kk (sortsH b199)) g199 (q1.trans kk (by simpa using hwd)) (q2.keep kk n3) (kk.blk q3 (by rw [List.mem_singleton]; exact hne.symm)) (q4.keep kk n1) (kk.blk a199 (by rw [List.mem_singleton]; exact hne2.symm))
end Go.Proofs
