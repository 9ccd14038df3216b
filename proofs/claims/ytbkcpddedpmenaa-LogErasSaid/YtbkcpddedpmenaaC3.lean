/- LogStays. -/
import Derived.Test.YtbkcpddedpmenaaC2
set_option maxRecDepth 100000
namespace Go.Proofs
open Go Go.Vc
variable {w w' : World} {R : Ending → World → Prop}

theorem sortsH {b : Nat} {c : List Value} (h : Blk w b c T_api_Head) : Sorts w [b] := fun q hq => by
  simp at hq; subst hq
  exact ⟨_, _, h, by decide, by decide, by decide, by decide, by decide, by decide, by decide⟩

set_option maxHeartbeats 1000000 in
theorem LogStays_ok {a1 a2 a4 : Option Addr} {l1 c1 l2 c2 l4 c4 : Nat} {k : Int} (xs ys : List Pc) (ks : List Int) (hx : Args w a1 l1 c1 xs) (hy : Args w a2 l2 c2 ys) (hk : Has w a4 (ksV ks)) (hkl : ks.length = l4)
    (hR : ∀ w', Keep [] w w' → R (.returned (.bool true)) w') :
    Calls P0 f_pollardlaw08_LogStays #[.slice a1 l1 c1, .slice a2 l2 c2, .int .i64 k, .slice a4 l4 c4] w R := by
  refine C_pollardlaw08_LogStays ?_
  refine awake_ok fun w6 k6 => ⟨_, rfl, ?_⟩
  refine begun_ok (n := 552) (by omega) fun w9 x A k9 hxn hmu rig9 sys9 => ⟨_, _, _, rfl, fun e => by simp at e, fun _ => ⟨fun e => by simp at e, fun _ => ?_⟩⟩
  have h9 := sys9 fun _ => 0
  have k0_9 := k6.trans k9 (by simp)
  refine ⟨_, _, rfl, _, rig9.l, log_Head h9 fun w17 k17 => ⟨_, _, rfl, ?_⟩⟩
  refine al (c := [.int .i64 0, .int .i64 0]) fun w20 b20 k20 s20 => ?_
  refine st b20 (by simp) fun w21 b21 k21 s21 => st b21 (by simp) fun w22 b22 k22 s22 => ?_
  have k9_22 : Keep [] w9 w22 := k17.trans ((k20.trans k21 (by simp)).trans k22 (by simp)) (by simp)
  have hw6 := k6.1
  have p0 : PhA w w22 x A w17.heap.size [] [] ⟨none, 0, 0⟩ ⟨none, 0, 0⟩ [] [] := {
    keep := k0_9.trans k9_22 (by simp)
    rig := rig9.keep k9_22 (by simp)
    sys := ⟨_, h9.keep0 k9_22⟩
    good := good0 552
    head := b22
    newH := (k0_9.trans k17 (by simp)).1
    newX := by omega
    newA := fun q hq => Nat.le_trans hw6 (hmu q hq)
    new1 := by simp
    new2 := by simp
    own1 := .inl ⟨rfl, rfl, rfl, rfl, rfl⟩
    pln := rfl
    own2 := .inl ⟨rfl, rfl, rfl, rfl, rfl⟩
    kpn := rfl
    ke := rfl
    kd := by simp }
  clear hmu hxn rig9 sys9 h9 k9_22 k0_9 b22 k22 s22 b21 k21 s21 b20 k20 s20 
  have hhs : w17.heap.size = w17.heap.size := rfl
  generalize hHB : w17.heap.size = hb at *
  refine ⟨fun pl kp i w' => 0 ≤ i ∧ i ≤ l1 ∧ ∃ es ks f1 f2, PhA w w' x A hb es ks pl kp f1 f2, fun _ _ i _ => (l1 - i).toNat, ⟨by omega, by omega, [], [], [], [], p0⟩, ?_⟩
  rintro ⟨pla, pll, plc⟩ ⟨kpa, kpl, kpc⟩ i w28 ⟨h0, h1, es, kept, f1, f2, ph⟩
  obtain ⟨i, rfl⟩ := Int.eq_ofNat_of_zero_le h0
  have hbig := hx.big
  have hxln := hx.ln
  have hyln := hy.ln
  constructor
  · intro hlt
    have hlt : i < xs.length := by have := of_decide_eq_true hlt; rw [hx.ln]; omega
    intro J29 hJ29
    have nxt : ∀ (pl kp : Slc) (w32 : World) es ks f1 f2, PhA w w32 x A hb es ks pl kp f1 f2 → J29 pl kp w32 := fun pl kp w32 es ks f1 f2 p => by
      refine hJ29 pl kp w32 fun n33 h33 => ?_
      rw [wrap64 (by omega) (by omega)] at h33
      subst h33
      exact ⟨⟨by omega, by rw [← hx.ln]; omega, es, ks, f1, f2, p⟩, by dsimp only; rw [← hx.ln]; omega⟩
    clear hJ29
    intro J34 hJ34
    -- when a record was appended
    have good34 : ∀ (b : Nat) (w37 : World) ptr (e : Ent), e.2 = xs[i].l → Keep [] w w37 → RigIs w37 x A.d A.s A.l → Sys w37 A [] ptr 0 (sysE 552 (es ++ [e])) → Good (sysE 552 (es ++ [e])) 8 →
        Blk w37 hb [.int .i64 (sysE 552 es).L.no, .int .i64 (sysE 552 es).L.place] T_api_Head → Blk w37 b [.int .i64 (sysE 552 (es ++ [e])).L.no, .int .i64 (sysE 552 (es ++ [e])).L.place] T_api_Head → w.heap.size ≤ b → b ≠ hb →
        Own w37 T_int 1 pla es.length plc ((List.range es.length).map fun j => .int .i64 (atE es j : Nat)) f1 → Own w37 T_slice_uint8 1 kpa es.length kpc (kept.map Pc.v) f2 → J34 b 0 w37 := by
      intro b w37 ptr e he k37 rig37 h37 g37 hb37 bb37 hbn hne o1 o2
      have hes := ph.len_le
      refine hJ34 b 0 w37 ⟨fun _ => ?_, fun e => by simp at e⟩
      refine ⟨_, hb37.cell rfl, ?_⟩
      refine al (c := [.int .i64 ((sysE 552 es).L.place : Nat)]) fun w39 b39 k39 s39 => ?_
      obtain ⟨a40, c40, w41, f40, hr41, o41, k41, f41, _⟩ := own_append EI (ty := T_slice_int) (xc := 1) (o1.keep k39 (by simp)) (n := 1) (news := [.int .i64 ((sysE 552 es).L.place : Nat)]) rfl (.inr ⟨_, 0, rfl, rdb_all b39⟩) (by simp [Value.oneCell']) (by omega)
      have hpll : pll = es.length := ph.pln
      have hkpl : kpl = es.length := ph.kpn
      subst hpll hkpl
      refine ⟨_, _, _, w41, hr41, ?_⟩
      have hn1 := ph.new1
      have k0_41 : Keep [] w w41 := (k37.trans k39 (by simp)).trans k41 (fun q hq => .inr (hn1 q hq))
      have hx41 := hx.keep k0_41
      obtain ⟨b42, o43, ha42, hc42⟩ := hx41.s.at hlt
      refine ⟨b42, o43, ha42, by omega, by rw [← hx.ln]; omega, xs[i].a, xs[i].len, xs[i].cap, by rw [Int.toNat_natCast, Nat.mul_one]; exact hc42, ?_⟩
      refine al (c := [.slice xs[i].a xs[i].len xs[i].cap]) fun w45 b45 k45 s45 => ?_
      have k37_41 : Keep f1 w37 w41 := (k39.mono (by simp)).trans k41 (fun q hq => .inl hq)
      have k37_45 : Keep f1 w37 w45 := k37_41.trans k45 (by simp)
      have hf12 : ∀ q ∈ f2, q ∉ f1 := fun q hq hq1 => by
        obtain ⟨c, hc⟩ := Own.blk o1 q hq1
        obtain ⟨c', hc'⟩ := Own.blk o2 q hq
        exact hc.ne hc' (by decide) rfl
      obtain ⟨a46, c46, w47, f46, hr47, o47, k47, f47, _⟩ := own_append ESS (ty := T_slice_slice_uint8) (xc := 1) (o2.keep k37_45 hf12) (n := 1) (news := [.slice xs[i].a xs[i].len xs[i].cap]) rfl (.inr ⟨_, 0, rfl, rdb_all b45⟩) (by simp [Value.oneCell']) (by omega)
      refine ⟨_, _, _, w47, hr47, ?_⟩
      have k37_47 : Keep (f1 ++ f2) w37 w47 := (k37_45.mono (fun q hq => .inl (List.mem_append_left _ hq))).trans k47 (fun q hq => .inl (List.mem_append_right _ hq))
      have hS : Sorts w37 (f1 ++ f2) := fun q hq => by
        rcases List.mem_append.1 hq with hq | hq
        · obtain ⟨c, hc⟩ := Own.blk o1 q hq
          exact ⟨_, _, hc, by decide, by decide, by decide, by decide, by decide, by decide, by decide⟩
        · obtain ⟨c, hc⟩ := Own.blk o2 q hq
          exact ⟨_, _, hc, by decide, by decide, by decide, by decide, by decide, by decide, by decide⟩
      have hoffT : ∀ {q : Nat} {c : List Value} {T : TypeId}, Blk w37 q c T → T ≠ T_int → T ≠ T_slice_uint8 → q ∉ f1 ++ f2 := fun hq t1 t2 hm => by
        rcases List.mem_append.1 hm with hm | hm
        · obtain ⟨c, hc⟩ := Own.blk o1 _ hm
          exact hq.ne hc t1 rfl
        · obtain ⟨c, hc⟩ := Own.blk o2 _ hm
          exact hq.ne hc t2 rfl
      have bb47 := k37_47.blk bb37 (hoffT bb37 (by decide) (by decide))
      have hb47 := k37_47.blk hb37 (hoffT hb37 (by decide) (by decide))
      refine ⟨_, bb47.cell rfl, _, bb47.cell rfl, st hb47 (by simp) fun w52 b52 k52 s52 => st b52 (by simp) fun w53 b53 k53 s53 => ?_⟩
      have k47_53 : Keep [hb] w47 w53 := k52.trans k53 (by simp)
      have hn2 := ph.new2
      have k0_47 : Keep [] w w47 := k37.trans k37_47 (fun q hq => by
        rcases List.mem_append.1 hq with hq | hq
        · exact .inr (hn1 q hq)
        · exact .inr (hn2 q hq))
      have hnH := ph.newH
      have h47 := h37.keepS k37_47 hS
      have hw37 := k37.1
      have hw47 := k37_47.1
      have o1' : Own w47 T_int 1 a40 (es.length + 1) c40 (((List.range es.length).map fun j => .int .i64 (atE es j : Nat)) ++ [.int .i64 ((sysE 552 es).L.place : Nat)]) f40 := (o41.keep k45 (by simp)).keep k47 (fun q hq hm => by
        rcases f41 q hq with g | g
        · exact hf12 q hm g
        · have := Own.lt o2 q hm; have := k39.1; omega)
      have hb1 : hb ∉ f40 := fun hm => by
        obtain ⟨c, hc⟩ := Own.blk o1' hb hm
        exact hb47.ne hc (by decide) rfl
      have hb2 : hb ∉ f46 := fun hm => by
        obtain ⟨c, hc⟩ := Own.blk o47 hb hm
        exact hb47.ne hc (by decide) rfl
      refine nxt ⟨a40, es.length + 1, c40⟩ ⟨a46, es.length + 1, c46⟩ w53 (es ++ [e]) (kept ++ [xs[i]]) f40 f46 {
        keep := k0_47.trans k47_53 (by simp [hnH])
        rig := (rig37.keep k37_47 (by obtain ⟨v3, v4, v5, hb⟩ := rig37; exact hoffT hb (by decide) (by decide))).keep k47_53 (by
          obtain ⟨v3, v4, v5, hb⟩ := rig37.keep k37_47 (by obtain ⟨v3, v4, v5, hb⟩ := rig37; exact hoffT hb (by decide) (by decide))
          simpa using hb.ne hb47 (by decide))
        sys := ⟨ptr, h47.keepS k47_53 (sortsH hb47)⟩
        good := g37
        head := b53
        newH := hnH
        newX := ph.newX
        newA := ph.newA
        new1 := fun q hq => by
          rcases f41 q hq with g | g
          · exact hn1 q g
          · have := k39.1; omega
        new2 := fun q hq => by
          rcases f47 q hq with g | g
          · exact hn2 q g
          · have := k37_45.1; omega
        own1 := by
          rw [range_app, List.length_append]
          exact o1'.keep k47_53 (fun q hq hm => by simp at hm; subst hm; exact hb1 hq)
        pln := by simp
        own2 := by
          rw [List.length_append, List.map_append]
          exact o47.keep k47_53 (fun q hq hm => by simp at hm; subst hm; exact hb2 hq)
        kpn := by simp
        ke := by rw [List.map_append, List.map_append, ph.ke]; simp [he]
        kd := fun p hp => by
          rcases List.mem_append.1 hp with hp | hp
          · exact ph.kd p hp
          · simp at hp; subst hp; exact hx.s.each _ (by simp) }
    have bad34 : ∀ (b : Nat) (w37 : World) (e : Int), e ≠ 0 → PhA w w37 x A hb es kept ⟨pla, pll, plc⟩ ⟨kpa, kpl, kpc⟩ f1 f2 → J34 b e w37 := by
      intro b w37 e he p
      refine hJ34 b e w37 ⟨fun h => absurd (by simpa using h) he, fun _ => nxt _ _ w37 es kept f1 f2 p⟩
    clear hJ34
    have phd := ph.keep0 (Keep.drew w28)
    have hxd := hx.keep phd.keep
    obtain ⟨b63, o64, ha63, hc63⟩ := hxd.s.at hlt
    obtain ⟨hpl, hpd⟩ := hx.s.each xs[i] (by simp)
    have hpok := hx.ok xs[i] (by simp)
    have mods : ∀ {w1 w2 : World}, PhA w w1 x A hb es kept ⟨pla, pll, plc⟩ ⟨kpa, kpl, kpc⟩ f1 f2 → Keep (A.mu []) w1 w2 → Keep [] w w2 ∧ RigIs w2 x A.d A.s A.l ∧ Blk w2 hb [.int .i64 (sysE 552 es).L.no, .int .i64 (sysE 552 es).L.place] T_api_Head ∧
        Own w2 T_int 1 pla es.length plc ((List.range es.length).map fun j => .int .i64 (atE es j : Nat)) f1 ∧ Own w2 T_slice_uint8 1 kpa es.length kpc (kept.map Pc.v) f2 := by
      intro w1 w2 p1 k1
      obtain ⟨ptr, hs⟩ := p1.sys
      refine ⟨p1.keep.trans k1 (fun q hq => .inr (p1.newA q hq)), p1.rig.keep k1 (p1.rig.off hs), k1.blk p1.head (hs.off p1.head (by decide) (by decide) (by decide) (by decide) (by decide)),
        p1.own1.keep k1 (hs.offOwn p1.own1 (by decide) (by decide) (by decide) (by decide) (by decide)), p1.own2.keep k1 (hs.offOwn p1.own2 (by decide) (by decide) (by decide) (by decide) (by decide))⟩
    refine ⟨_, _, rfl, _, phd.rig.l, _, phd.head.cell rfl, _, phd.head.cell rfl, by decide, fun n61 _ n62 _ => ⟨b63, o64, ha63, by omega, by rw [← hx.ln]; omega, xs[i].a, xs[i].len, xs[i].cap, by rw [Int.toNat_natCast, Nat.mul_one]; exact hc63, ?_, ?_⟩⟩
    · refine phd.append hpl hpd hpok (fun w67 e he p67 k67 => ⟨_, _, _, rfl, ?_⟩) (fun w67 ptr e he k67 h67 g67 => ⟨_, _, _, rfl, ?_⟩)
      · refine al (c := [.int .i64 0, .int .i64 0]) fun w71 b71 k71 s71 => ?_
        have p71 := p67.keep0 k71
        obtain ⟨b', o', ha', hc'⟩ := (hx.keep p71.keep).s.at hlt
        have hbo : b' = b63 ∧ o' = o64 := by rw [ha63] at ha'; injection ha' with ha'; injection ha' with g1 g2; exact ⟨g1.symm, g2.symm⟩
        rw [hbo.1, hbo.2] at hc'
        refine ⟨by rw [Int.toNat_natCast, Nat.mul_one]; exact hc', ⟨p71.head.cell rfl, p71.head.cell rfl⟩, p71.rig.l, st b71 (by simp) fun w72 b72 k72 s72 => st b72 (by simp) fun w73 b73 k73 s73 => ?_⟩
        exact bad34 _ w73 e he (p67.keep0 ((k71.trans k72 (by simp)).trans k73 (by simp)))
      · obtain ⟨q1, q2, q3, q4, q5⟩ := mods phd k67
        refine al (c := [.int .i64 0, .int .i64 0]) fun w71 b71 k71 s71 => ?_
        obtain ⟨b', o', ha', hc'⟩ := (hx.keep (q1.trans k71 (by simp))).s.at hlt
        have hbo : b' = b63 ∧ o' = o64 := by rw [ha63] at ha'; injection ha' with ha'; injection ha' with g1 g2; exact ⟨g1.symm, g2.symm⟩
        rw [hbo.1, hbo.2] at hc'
        refine ⟨by rw [Int.toNat_natCast, Nat.mul_one]; exact hc', ⟨(k71.blk q3 (by simp)).cell rfl, (k71.blk q3 (by simp)).cell rfl⟩, (q2.keep k71 (by simp)).l, st b71 (by simp) fun w72 b72 k72 s72 => st b72 (by simp) fun w73 b73 k73 s73 => ?_⟩
        have kk : Keep [] w67 w73 := (k71.trans k72 (by simp)).trans k73 (by simp)
        have := q3.lt
        exact good34 _ w73 ptr e he (q1.trans kk (by simp)) (q2.keep kk (by simp)) (h67.keep0 kk) g67 (kk.blk q3 (by simp)) b73 q1.1 (by omega) (q4.keep kk (by simp)) (q5.keep kk (by simp))
    · refine al (c := [.int .i64 0, .int .i64 0]) fun w74 b74 k74 s74 => ?_
      have p74 := phd.keep0 k74
      obtain ⟨b', o', ha', hc'⟩ := (hx.keep p74.keep).s.at hlt
      have hbo : b' = b63 ∧ o' = o64 := by rw [ha63] at ha'; injection ha' with ha'; injection ha' with g1 g2; exact ⟨g1.symm, g2.symm⟩
      rw [hbo.1, hbo.2] at hc'
      refine ⟨by rw [Int.toNat_natCast, Nat.mul_one]; exact hc', ⟨p74.head.cell rfl, p74.head.cell rfl⟩, p74.rig.l, ?_⟩
      have hne : w28.drew.heap.size ≠ hb := by have := phd.head.lt; omega
      have hwd := phd.keep.1
      refine p74.append hpl hpd hpok (fun w76 e he p76 k76 => ⟨_, _, _, rfl, ?_⟩) (fun w76 ptr e he k76 h76 g76 => ⟨_, _, _, rfl, ?_⟩)
      · refine st (k76.blk b74 (by simp)) (by simp) fun w80 b80 k80 s80 => st b80 (by simp) fun w81 b81 k81 s81 => ?_
        have kk : Keep [w28.drew.heap.size] w76 w81 := k80.trans k81 (by simp)
        have kx : Keep [] w28.drew w81 := ((k74.trans k76 (by simp))).trans kk (by simp)
        exact bad34 _ w81 e he (phd.keep0 kx)
      · obtain ⟨q1, q2, q3, q4, q5⟩ := mods p74 k76
        obtain ⟨ptr0, hs74⟩ := p74.sys
        have b76 := k76.blk b74 (hs74.off b74 (by decide) (by decide) (by decide) (by decide) (by decide))
        refine st b76 (by simp) fun w80 b80 k80 s80 => st b80 (by simp) fun w81 b81 k81 s81 => ?_
        have kk : Keep [w28.drew.heap.size] w76 w81 := k80.trans k81 (by simp)
        have n1 : ∀ q ∈ f1, q ∉ [w28.drew.heap.size] := fun q hq hm => by
          simp at hm; subst hm
          have := Own.lt phd.own1 _ hq; have e0 : w28.drew.heap.size = w28.heap.size := rfl; omega
        have n2 : ∀ q ∈ f2, q ∉ [w28.drew.heap.size] := fun q hq hm => by
          simp at hm; subst hm
          have := Own.lt phd.own2 _ hq; have e0 : w28.drew.heap.size = w28.heap.size := rfl; omega
        have n3 : x ∉ [w28.drew.heap.size] := fun hm => by
          obtain ⟨c, hc⟩ := phd.xb
          have := hc.lt
          rw [List.mem_singleton] at hm
          omega
        exact good34 _ w81 ptr e he (q1.trans kk (by simpa using hwd)) (q2.keep kk n3) (h76.keepS kk (sortsH b76)) g76 (kk.blk q3 (by rw [List.mem_singleton]; exact hne.symm)) b81 hwd hne (q4.keep kk n1) (q5.keep kk n2)
  · intro _
    clear h0 h1
    have hpll : pll = es.length := ph.pln
    have hkpl : kpl = es.length := ph.kpn
    subst hpll hkpl
    have hes := ph.len_le
    have hnewA := ph.newA
    have hnewH := ph.newH
    have hnewX := ph.newX
    have hnew1 := ph.new1
    have hnew2 := ph.new2
    obtain ⟨ptr, h28⟩ := ph.sys
    refine ⟨_, _, rfl, _, ph.rig.l, log_Head h28 fun w86 k86 => ⟨_, _, rfl, ?_⟩⟩
    have ph86 := ph.keep0 k86
    refine ⟨_, _, rfl, _, ph86.rig.l, log_NewFlush fun w93 f k93 hf93 f93 => ⟨_, rfl, fun e => by simp at e, fun _ => ?_⟩⟩
    have ph93 := ph86.keep0 k93
    have h93 := (h28.keep0 k86).keep0 k93
    have hno : (sysE 552 es).L.no = es.length := by show 0 + es.length = _; omega
    have hpl : (sysE 552 es).L.place = 8 + pN es := rfl
    have htop := h93.top
    have hfi : (sysE 552 es).fi = 1 := rfl
    have hsl : (sysE 552 es).sl = 17 := by show (552 - 8) / 32 = 17; omega
    have hsent : (sysE 552 es).L.sent = 8 := rfl
    have hw0 : (sysE 552 es).m.ws.length = 0 := rfl
    refine runFlush h93 f93 rfl ph93.good (by omega) (by omega) fun w96 fw96 S1 F1 k96 sub96 h96 x96 wr96 sn96 g96 ws96 f96 fn96 fe96 => ⟨rfl, flush_Upto f96 ⟨_, _, rfl, fun e => ?_, fun _ => ⟨fun e => ?_, fun _ => ?_⟩⟩⟩
    · rw [fe96] at e; simp at e
    · rw [fn96] at e; simp at e
    -- the base: what is read behind the crash
    have hw28 := ph.keep.1
    have hw93 : w.heap.size ≤ w93.heap.size := ph93.keep.1
    have hw86 : w.heap.size ≤ w86.heap.size := ph86.keep.1
    have k98 : Keep [] w w96.drew := (ph93.keep.trans k96 (fun q hq => by
      simp only [List.mem_cons] at hq
      rcases hq with rfl | hq
      · right; omega
      · exact .inr (hnewA q hq))).then_drew
    have hoff93 : ∀ {q : Nat} {c : List Value} {T : TypeId}, Blk w93 q c T → T ≠ T_disk_Disk → T ≠ T_uint8 → T ≠ T_disk_write → T ≠ T_seg_Segs → T ≠ T_log_Log → T ≠ T_log_Flush → q ∉ f :: A.mu [] := fun hq t1 t2 t3 t4 t5 t6 hm => by
      simp only [List.mem_cons] at hm
      rcases hm with rfl | hm
      · exact hq.ne f93 t6 rfl
      · exact h93.off hq t1 t2 t3 t4 t5 hm
    have hold93 : ∀ {T : TypeId} {sz len cap : Nat} {a : Option Addr} {vs : List Value} {fp : List Nat}, Own w93 T sz a len cap vs fp → T ≠ T_disk_Disk → T ≠ T_uint8 → T ≠ T_disk_write → T ≠ T_seg_Segs → T ≠ T_log_Log → T ≠ T_log_Flush → Own w96.drew T sz a len cap vs fp := fun ho t1 t2 t3 t4 t5 t6 =>
      (ho.keep k96 (fun q hq => by
        obtain ⟨c, hc⟩ := Own.blk ho q hq
        exact hoff93 hc t1 t2 t3 t4 t5 t6)).keep (Keep.drew w96) (by simp)
    have o1 := hold93 ph93.own1 (by decide) (by decide) (by decide) (by decide) (by decide) (by decide)
    have o2 := hold93 ph93.own2 (by decide) (by decide) (by decide) (by decide) (by decide) (by decide)
    have hb98 : Blk w96.drew hb _ _ := k96.blk ph93.head (hoff93 ph93.head (by decide) (by decide) (by decide) (by decide) (by decide) (by decide))
    have rig98 : RigIs w96.drew x A.d A.s A.l := by
      have : RigIs w96 x A.d A.s A.l := ph93.rig.keep k96 (by obtain ⟨c, hc⟩ := ph93.xb; exact hoff93 hc (by decide) (by decide) (by decide) (by decide) (by decide) (by decide))
      exact this
    have h98 := h96.keep0 (Keep.drew w96)
    have hfw98 : ∀ q ∈ fw96, w.heap.size ≤ q := fun q hq => by
      rcases sub96 q hq with g | g
      · cases g
      · omega
    have hwk : w.heap.size ≤ w96.drew.heap.size := k98.1
    rw [hpl] at sn96 g96
    rw [hno] at wr96
    generalize hwb : w96.drew = wb at *
    -- what there is while it goes on
    let Inv : World → List Nat → SysM → Nat → Prop := fun w' fw' S' dur' => Keep [] w w' ∧ RigIs w' x A.d A.s A.l ∧ (∃ ptr', Sys w' A fw' ptr' S'.lo S') ∧ (∀ q ∈ fw', w.heap.size ≤ q) ∧ Good S' dur' ∧ 8 + pN es ≤ dur' ∧ Ext (sysE 552 es) S' ∧
      S'.m.ws.length ≤ 5000 + 4 * S'.L.sent ∧ Blk w' hb [.int .i64 (sysE 552 es).L.no, .int .i64 (sysE 552 es).L.place] T_api_Head ∧
      Own w' T_int 1 pla es.length plc ((List.range es.length).map fun j => .int .i64 (atE es j : Nat)) f1 ∧ Own w' T_slice_uint8 1 kpa es.length kpc (kept.map Pc.v) f2
    have invK : ∀ {w1 w2 : World} {fw1 fw2 : List Nat} {S1 S2 : SysM} {d1 d2 : Nat} {M : List Nat}, Inv w1 fw1 S1 d1 → Keep M w1 w2 → (∀ q ∈ M, q ∈ A.mu fw1 ∨ w1.heap.size ≤ q ∨ ∃ c, Blk w1 q c T_log_Flush ∧ w.heap.size ≤ q) → (∃ ptr', Sys w2 A fw2 ptr' S2.lo S2) → (∀ q ∈ fw2, w.heap.size ≤ q) → Good S2 d2 → 8 + pN es ≤ d2 → Ext (sysE 552 es) S2 →
        S2.m.ws.length ≤ 5000 + 4 * S2.L.sent → Inv w2 fw2 S2 d2 := by
      rintro w1 w2 fw1 fw2 S1 S2 d1 d2 M ⟨i1, i2, ⟨ptr', i3⟩, i4, i5, i6, i7, i8, i9, i10, i11⟩ hk hM g1 g2 g3 g4 g5 g6
      have hoff : ∀ {q : Nat} {c : List Value} {T : TypeId}, Blk w1 q c T → T ≠ T_disk_Disk → T ≠ T_uint8 → T ≠ T_disk_write → T ≠ T_seg_Segs → T ≠ T_log_Log → T ≠ T_log_Flush → q ∉ M := fun hq t1 t2 t3 t4 t5 t6 hm => by
        rcases hM _ hm with h | h | ⟨c, h, _⟩
        · exact i3.off hq t1 t2 t3 t4 t5 h
        · have := hq.lt; omega
        · exact hq.ne h t6 rfl
      refine ⟨i1.trans hk (fun q hq => ?_), i2.keep hk ?_, g1, g2, g3, g4, g5, g6, hk.blk i9 (hoff i9 (by decide) (by decide) (by decide) (by decide) (by decide) (by decide)), i10.keep hk (fun q hq => ?_), i11.keep hk (fun q hq => ?_)⟩
      · rcases hM q hq with h | h | ⟨c, _, h⟩
        · rcases mu_sub (k := w.heap.size) (fw := []) (fun q hq => .inr (i4 q hq)) q h with g | g
          · exact .inr (hnewA q g)
          · exact .inr g
        · exact .inr (Nat.le_trans i1.1 h)
        · exact .inr h
      · obtain ⟨v3, v4, v5, hb⟩ := i2
        exact hoff hb (by decide) (by decide) (by decide) (by decide) (by decide) (by decide)
      · obtain ⟨c, hc⟩ := Own.blk i10 q hq
        exact hoff hc (by decide) (by decide) (by decide) (by decide) (by decide) (by decide)
      · obtain ⟨c, hc⟩ := Own.blk i11 q hq
        exact hoff hc (by decide) (by decide) (by decide) (by decide) (by decide) (by decide)
    have inv0 : Inv wb fw96 S1 (8 + pN es) := ⟨k98, rig98, ⟨_, h98⟩, hfw98, g96, Nat.le_refl _, x96.ext, by omega, hb98, o1, o2⟩
    have hybig := hy.big
    refine ⟨fun i w' => 0 ≤ i ∧ i ≤ l2 ∧ ∃ fw' S', Inv w' fw' S' (8 + pN es), fun i _ => (l2 - i).toNat, ⟨by omega, by omega, fw96, S1, inv0⟩, ?_⟩
    rintro i w104 ⟨h0, h1, fw104, S104, inv104⟩
    obtain ⟨i, rfl⟩ := Int.eq_ofNat_of_zero_le h0
    have ⟨j1, j2, ⟨ptr104, j3⟩, j4, j5, j6, j7, j8, j9, j10, j11⟩ := inv104
    constructor
    · intro hlt
      have hlt : i < ys.length := by have := of_decide_eq_true hlt; rw [hy.ln]; omega
      have rigd : RigIs w104.drew x A.d A.s A.l := j2
      have hyd := hy.keep j1.then_drew
      obtain ⟨b111, o112, ha, hc⟩ := hyd.s.at hlt
      refine ⟨_, _, rfl, _, rigd.l, _, _, rfl, _, rigd.l, b111, o112, ha, by omega, by rw [← hy.ln]; omega, ys[i].a, ys[i].len, ys[i].cap, by rw [Int.toNat_natCast, Nat.mul_one]; exact hc, ?_⟩
      refine log_Head (j3.keep0 (Keep.drew _)) fun w115 k115 => ⟨_, _, rfl, ?_⟩
      have k104_115 : Keep [] w104 w115 := (Keep.drew w104).trans k115 (by simp)
      have hy115 := hy.keep (j1.trans k104_115 (by simp))
      obtain ⟨b', o', ha', hc'⟩ := hy115.s.at hlt
      have hbo : b' = b111 ∧ o' = o112 := by rw [ha] at ha'; injection ha' with ha'; injection ha' with g1 g2; exact ⟨g1.symm, g2.symm⟩
      rw [hbo.1, hbo.2] at hc'
      have hpe := hy115.s.each ys[i] (by simp)
      refine ⟨by rw [Int.toNat_natCast, Nat.mul_one]; exact hc', (j2.keep k104_115 (by simp)).l, ?_⟩
      refine append_any (j3.keep0 k104_115) j5 hpe.1 hpe.2 (hy.ok _ (by simp)) fun w119 ptr' S' a b e k119 h119 g119 x119 m119 s119 la119 wr119 => ⟨_, _, _, rfl, fun n h => ?_⟩
      rw [wrap64 (by omega) (by omega)] at h
      subst h
      have k104_119 : Keep (A.mu fw104) w104 w119 := (k104_115.mono (by simp)).trans k119 (fun q hq => .inl hq)
      refine ⟨⟨by omega, by rw [← hy.ln]; omega, fw104, S', invK inv104 k104_119 (fun q hq => .inl hq) ⟨_, h119⟩ j4 g119 j6 (j7.trans x119) (by rw [m119, s119]; exact j8)⟩, by dsimp only; rw [← hy.ln]; omega⟩
    · intro _
      refine ⟨_, _, rfl, _, j2.l, log_NewFlush fun w128 g k128 hg128 f128 => ⟨_, rfl, fun e => by simp at e, fun _ => ?_⟩⟩
      have inv128 : Inv w128 fw104 S104 (8 + pN es) := invK inv104 k128 (by simp) ⟨_, j3.keep0 k128⟩ j4 j5 j6 j7 j8
      have hgw : w.heap.size ≤ g := Nat.le_trans j1.1 hg128
      clear j1 j2 j3 j4 j5 j6 j7 j8 j9 j10 j11 inv104 inv0
      intro J130 hJ130
      have crash : ∀ w131 fw' S' dur', Inv w131 fw' S' dur' → J130 w131 := by
        rintro w131 fw' S' dur' ⟨j1, j2, ⟨ptr', j3⟩, j4, j5, j6, j7, j8, j9, j10, j11⟩
        refine hJ130 w131 ?_
        clear hJ130 invK inv128
        have hn' : S'.n = 552 := j7.n
        have hfi' : S'.fi = 1 := j7.fi
        have hsl' : S'.sl = 17 := by rw [j7.sl]; exact hsl
        have hla' := j3.laok
        have hsn' := j3.bsent
        have htp' := j3.top
        have hdl' := j5.dle
        rw [hfi', hsl'] at htp' hla'
        have kup : ∀ {w136 : World}, Keep (A.d :: A.bp :: A.bn :: fw') w131 w136 → Keep [] w w136 := fun k => j1.trans k (fun q hq => by
          rcases mu_sub (k := w.heap.size) (fw := []) (fun q hq => .inr (j4 q hq)) q (mu_disk q hq) with g | g
          · exact .inr (hnewA q g)
          · exact .inr g)
        have hoffd : ∀ {q : Nat} {c : List Value} {T : TypeId}, Blk w131 q c T → T ≠ T_disk_Disk → T ≠ T_uint8 → T ≠ T_disk_write → q ∉ A.d :: A.bp :: A.bn :: fw' := fun hq t1 t2 t3 => j3.disk.off hq t1 t2 t3
        refine ⟨_, _, rfl, _, j2.d0, disk_Up j3.disk ks (hk.keep j1 (Off.nil _)) hkl (by omega) fun w136 k136 d136 => ⟨rfl, ?_⟩⟩
        have rig136 : RigIs w136.drew x A.d A.s A.l := by
          have : RigIs w136 x A.d A.s A.l := j2.keep k136 (by obtain ⟨v3, v4, v5, hb⟩ := j2; exact hoffd hb (by decide) (by decide) (by decide))
          exact this
        have seg136 : SegIs w136.drew A.s A.d S'.sl S'.fi S'.la := j3.seg.keep k136 (hoffd j3.seg.1 (by decide) (by decide) (by decide))
        have hb136 : Blk w136.drew hb _ _ := k136.blk j9 (hoffd j9 (by decide) (by decide) (by decide))
        have p1 : Own w136.drew T_int 1 pla es.length plc ((List.range es.length).map fun j => .int .i64 (atE es j : Nat)) f1 := (j10.keep k136 (fun q hq => by obtain ⟨c, hc⟩ := Own.blk j10 q hq; exact hoffd hc (by decide) (by decide) (by decide))).keep (Keep.drew _) (by simp)
        have p2 : Own w136.drew T_slice_uint8 1 kpa es.length kpc (kept.map Pc.v) f2 := (j11.keep k136 (fun q hq => by obtain ⟨c, hc⟩ := Own.blk j11 q hq; exact hoffd hc (by decide) (by decide) (by decide))).keep (Keep.drew _) (by simp)
        have k0_136 : Keep [] w w136.drew := (kup k136).then_drew
        have d136' := d136.keep (Keep.drew w136) (by simp)
        clear k136
        generalize w136.drew = wc at *
        refine ⟨_, _, rfl, _, rig136.d0, _, _, rfl, _, rig136.s1, seg_End seg136 ⟨_, rfl, rig136.d0, ?_⟩⟩
        refine seg_New d136' (fi := 1) (la := S'.la) (by omega) (by omega) (by omega) (by omega) fun w147 s k147 hs147 seg147 => ⟨_, _, rfl, fun e => by simp at e, fun _ => ⟨fun e => by simp at e, fun _ => ?_⟩⟩
        have k147d := k147.then_drew
        refine ⟨_, _, rfl, _, (rig136.keep k147d (by simp)).d0, _, (k147d.blk hb136 (by simp)).cell rfl, _, (k147d.blk hb136 (by simp)).cell rfl, ?_⟩
        refine log_Open (hn := (sysE 552 es).L.no) (hp := (sysE 552 es).L.place) (era := 2) (d136'.keep k147d (by simp)) (SegIs.keep seg147 (Keep.drew w147) (by simp)) (by omega) (by omega) (by omega) (by omega) (by omega) (by omega) (by omega) (by simp) fun w158 l bi ba k158 hl _ _ sys158 => ⟨_, _, rfl, fun e => by simp at e, fun _ => ⟨fun e => by simp at e, fun _ => ?_⟩⟩
        have h158 := sys158 fun _ => 0
        have kc_158 : Keep [] wc w158 := k147d.trans k158 (by simp)
        refine ⟨fun i w' => 0 ≤ i ∧ i ≤ es.length ∧ Keep [] wc w' ∧ Sys w' ⟨A.d, A.bp, A.bn, s, l, bi, ba⟩ [] (fun _ => 0) (sysE 552 es).L.no _, fun i _ => (es.length - i).toNat, ⟨by omega, by omega, kc_158, h158⟩, ?_⟩
        rintro i w164 ⟨h0, h1, k164, h164⟩
        obtain ⟨i, rfl⟩ := Int.eq_ofNat_of_zero_le h0
        constructor
        · intro hlt
          have hlt : i < es.length := by have := of_decide_eq_true hlt; simp only at this; omega
          have q1 := p1.keep k164 (by simp)
          have q2 := p2.keep k164 (by simp)
          obtain ⟨b165, o166, hb165, hr165⟩ : ∃ b o, pla = some ⟨b, o, none⟩ ∧ Rdb w164 b o ((List.range es.length).map fun j => .int .i64 (atE es j : Nat)) := by
            rcases Own.has q1 with hx | hx
            · have := congrArg List.length hx; rw [List.length_map, List.length_range] at this; simp only [List.length_nil] at this; omega
            · exact hx
          have hc165 := hr165 i (.int .i64 (atE es i : Nat)) (by simp [hlt])
          refine ⟨b165, o166, hb165, by omega, by show (i : Int) < ((es.length : Nat) : Int); omega, _, by rw [Int.toNat_natCast, Nat.mul_one]; exact hc165, ?_⟩
          refine log_NewRead (p := atE es i) fun w169 r k169 hr169 r169 => ⟨_, rfl, fun e => by simp at e, fun _ => ?_⟩
          have h169 := h164.keep0 k169
          have hge : es[i]? = some es[i] := List.getElem?_eq_getElem hlt
          have hge' : S'.L.es[i]? = some es[i] := j7.get hge
          have hati : S'.L.at i = atE es i := j7.at (Nat.le_of_lt hlt)
          have hati1 : S'.L.at (i + 1) = atE es (i + 1) := j7.at hlt
          have hatle : atE es (i + 1) ≤ 8 + pN es := by have := pN_take_le es (i + 1); unfold atE; omega
          have hst := stands_up (So := ⟨S'.n, ⟨upN S'.m ks S'.m.ws.length, upN S'.m ks S'.m.ws.length, []⟩, 1, S'.la, ⟨2, (sysE 552 es).L.no, (sysE 552 es).L.place, [], (sysE 552 es).L.no, (sysE 552 es).L.no, (sysE 552 es).L.place⟩⟩) (w := w) (A := A) (fw := []) (ptr := fun _ => 0) (lo := 0)
            j3.szs j3.kinds j5 ks rfl hfi'.symm rfl hge' (by omega) (by show _ ≤ 8 * S'.la; omega)
          have hhn' : S'.L.hn = 0 := j7.hn
          have hera' : S'.L.era = 1 := j7.era
          rw [hati, hhn', hera'] at hst
          refine runRead h169 (Nat.le_refl _) hst r169 fun w172 k172 r172 h172 => ⟨rfl, ?_⟩
          have hlen2 : es[i].2.length ≤ 1000000000 := by have := hst.len; omega
          refine read_Got r172 hlen2 fun w174 a177 c177 k174 hb177 => ⟨_, _, _, _, _, _, rfl, fun e => by simp at e, fun _ n179 h179 => ?_⟩
          rw [wrap64 (by omega) (by omega)] at h179
          subst h179
          have hr169' : wc.heap.size ≤ r := Nat.le_trans k164.1 hr169
          have k174c : Keep [] wc w174.drew := (((k164.trans k169 (by simp)).trans k172 (by simp [hr169'])).trans k174 (by simp)).then_drew
          have k0_174 : Keep [] w w174.drew := k0_136.trans k174c (by simp)
          refine ⟨fun e => ?_, fun _ => ?_⟩
          · have : ((0 + i + 1 : Nat) : Int) = (i : Int) + 1 := by omega
            rw [this] at e; simp at e
          refine ⟨_, run_string es[i].2 rfl (hb177.keep (Keep.drew w174) (Off.nil _)), ?_⟩
          have q2' := p2.keep k174c (by simp)
          have hkl2 : kept.length = es.length := by have := congrArg List.length ph.ke; simpa using this.symm
          obtain ⟨b181, o182, hb181, hr181⟩ : ∃ b o, kpa = some ⟨b, o, none⟩ ∧ Rdb w174.drew b o (kept.map Pc.v) := by
            rcases Own.has q2' with hx | hx
            · have := congrArg List.length hx; rw [List.length_map] at this; simp only [List.length_nil] at this; omega
            · exact hx
          have hc181 := hr181 i (kept[i].v) (by simp [show i < kept.length by omega])
          have hkd := ph.kd kept[i] (by simp)
          refine ⟨b181, o182, hb181, by omega, by show (i : Int) < ((es.length : Nat) : Int); omega, kept[i].a, kept[i].len, kept[i].cap, by rw [Int.toNat_natCast, Nat.mul_one]; exact hc181, _, run_string kept[i].l hkd.1 (hkd.2.keep k0_174 (Off.nil _)), ?_⟩
          have heq : es[i].2 = kept[i].l := by
            have := congrArg (fun l => l[i]?) ph.ke
            simp only [List.getElem?_map] at this
            rw [List.getElem?_eq_getElem hlt, List.getElem?_eq_getElem (by omega)] at this
            simpa using this
          refine ⟨fun e => ?_, fun _ n185 h185 => ?_⟩
          · rw [heq] at e; simp at e
          rw [wrap64 (by omega) (by omega)] at h185
          subst h185
          refine ⟨⟨by omega, by omega, k174c, (h172.keep0 k174).keep0 (Keep.drew _)⟩, by dsimp only; omega⟩
        · intro _
          exact hR w164 (k0_136.trans k164 (by simp))
      clear hJ130
      refine ⟨fun i w' => 0 ≤ i ∧ i ≤ 60 ∧ ∃ fw' S' F' dur', Inv w' fw' S' dur' ∧ FlushIs w' g A.l F' ∧ FInv S' F' dur', fun i _ => (60 - i).toNat, ⟨by omega, by omega, fw104, S104, _, _, inv128, f128, trivial⟩, ?_⟩
      rintro i w189 ⟨h0, h1, fw189, S189, F189, d189, inv189, f189, i189⟩
      refine ⟨fun _ => ⟨fun hlt => ?_, fun _ => crash _ _ _ _ inv189⟩, fun _ => crash _ _ _ _ inv189⟩
      have hlt := of_decide_eq_true hlt
      have ⟨j1, j2, ⟨ptr189, j3⟩, j4, j5, j6, j7, j8, j9, j10, j11⟩ := inv189
      have hsn := j3.bsent.2
      have htp := j3.top
      rw [j7.sl, j7.fi, hsl, hfi] at htp
      refine flush_Step j3 f189 j5 i189 (by omega) fun w7 fw7 S7 d7 F7 r hp k7 sub7 h7 g7 f7 i7 => ⟨_, rfl, fun n h => ?_⟩
      rw [wrap64 (by omega) (by omega)] at h
      subst h
      obtain ⟨m1, m2, m3, m4⟩ := hp.mono j5
      refine ⟨⟨by omega, by omega, fw7, S7, F7, d7, invK inv189 k7 (fun q hq => ?_) ⟨_, h7⟩ (fun q hq => (sub7 q hq).elim (fun g => j4 q g) (fun g => Nat.le_trans j1.1 g)) g7 (by omega) (j7.trans hp.fix.ext) (by omega), f7, i7⟩, by dsimp only; omega⟩
      simp only [List.mem_cons] at hq
      rcases hq with rfl | hq
      · exact .inr (.inr ⟨_, f189, hgw⟩)
      · exact .inl hq
end Go.Proofs
