/- Contracts: awake. -/
import Derived.Test.YtbkcpddedpmenaaCz
set_option maxRecDepth 100000
namespace Go.Proofs
open Go Go.Vc
variable {w w' : World} {R : Ending → World → Prop} {A : Ad} {fw : List Nat} {ptr : Nat → Nat} {lo : Nat} {S : SysM}

theorem stands_rg {S S' : SysM} (z : Szs S) {i : Nat} (hi : i < S.L.es.length) (hk : 1 ≤ S.L.es[i].1 ∧ S.L.es[i].1 ≤ 5) (hsl : S'.sl = S.sl) (hb : 8 * S'.fi ≤ S.L.at i) (ht : S.L.at (i + 1) ≤ 8 * S'.la)
    (hrg : ∀ j p, (S.L.parts i)[j]? = some p → rg S'.m.nw (64 * secOf S.sl (S.L.at i + j)) 256 = encodeL p) : Stands S' (S.L.at i) (S.L.hn + i + 1 : Nat) S.L.era S.L.es[i].1 S.L.es[i].2 := by
  have hp : S.L.parts i = partsOf (S.L.hn + i + 1 : Nat) (S.L.at i) S.L.era (UInt8.ofNat S.L.es[i].1 :: S.L.es[i].2) := by
    unfold LogM.parts; rw [List.getElem?_eq_getElem hi]
  have hsucc := LogM.at_succ hi
  refine ⟨fun j p hj => ?_, hb, by rw [hsucc] at ht; exact ht, hk, ?_⟩
  · rw [← hp] at hj
    have hm := z.mays i p (List.mem_of_getElem? hj)
    obtain ⟨_, _, hpl⟩ := parts_some hj
    exact ⟨by rw [hsl]; exact stands_of hm hpl (hrg j p hj), hm⟩
  · have h0 := partsOf_get (S.L.hn + i + 1 : Nat) (S.L.at i) S.L.era (UInt8.ofNat S.L.es[i].1 :: S.L.es[i].2) (i := 0) (by unfold manyOf; simp <;> omega)
    rw [← hp] at h0
    have hm := z.mays i _ (List.mem_of_getElem? h0)
    have := (may_nums hm).2.2.2.1.2
    simp only [List.length_cons] at this
    unfold manyOf at this
    omega

theorem stands_rec (h : Sys w A fw ptr lo S) {dur : Nat} (hg : Good S dur) {i : Nat} (hi : i < S.L.es.length) (hs : S.L.at (i + 1) ≤ S.L.sent) : Stands S (S.L.at i) (S.L.hn + i + 1 : Nat) S.L.era S.L.es[i].1 S.L.es[i].2 := by
  refine stands_rg h.szs hi (h.kinds _ (by simp)) rfl ?_ (Nat.le_trans hs h.laok.1) fun j p hj => ?_
  · have := h.bot; have : S.L.hp ≤ S.L.at i := Nat.le_add_right _ _; omega
  · obtain ⟨_, hjm, _⟩ := parts_some hj
    have := LogM.at_succ hi
    exact hg.nw i j p hj (by omega)

theorem stands_rec' (h : Sys w A fw ptr lo S) {dur : Nat} (hg : Good S dur) {i : Nat} {e : Ent} (he : S.L.es[i]? = some e) (hs : S.L.at (i + 1) ≤ S.L.sent) : Stands S (S.L.at i) (S.L.hn + i + 1 : Nat) S.L.era e.1 e.2 := by
  obtain ⟨hi, rfl⟩ := List.getElem?_eq_some_iff.1 he
  exact stands_rec h hg hi hs
/-- A disk on which nothing stands. -/
theorem good0 (n : Nat) : Good (sys0 n) 8 :=
  ⟨Nat.le_refl _, Nat.le_refl _, Nat.le_refl _, fun i j p h => by simp [sys0, LogM.parts] at h, fun i j p h => by simp [sys0, LogM.parts] at h, by simp [sys0, disk0]⟩

theorem RigIs.keep {x d s l : Nat} {M : List Nat} (h : RigIs w x d s l) (hk : Keep M w w') (hm : x ∉ M) : RigIs w' x d s l := by
  obtain ⟨v3, v4, v5, hb⟩ := h
  exact ⟨v3, v4, v5, hk.blk hb hm⟩
theorem RigIs.off {x : Nat} {d s l : Nat} (hx : RigIs w x d s l) (h : Sys w A fw ptr lo S) : x ∉ A.mu fw := by
  obtain ⟨v3, v4, v5, hb⟩ := hx
  exact h.off hb (by decide) (by decide) (by decide) (by decide) (by decide)
theorem RigIs.l {x d s l : Nat} (h : RigIs w x d s l) : w.cell? ⟨x, 0 + 2, none⟩ = some (.pointer (some ⟨l, 0, none⟩)) := by
  obtain ⟨v3, v4, v5, hb⟩ := h
  exact hb.cell rfl
theorem RigIs.d0 {x d s l : Nat} (h : RigIs w x d s l) : w.cell? ⟨x, 0, none⟩ = some (.pointer (some ⟨d, 0, none⟩)) := by
  obtain ⟨v3, v4, v5, hb⟩ := h
  exact hb.cell rfl
theorem RigIs.s1 {x d s l : Nat} (h : RigIs w x d s l) : w.cell? ⟨x, 0 + 1, none⟩ = some (.pointer (some ⟨s, 0, none⟩)) := by
  obtain ⟨v3, v4, v5, hb⟩ := h
  exact hb.cell rfl

abbrev zs (n : Nat) : List UInt8 := List.replicate n 0
def sysA : SysM := (sys0 328).app (1, zs 198)

theorem err1 : appErr (sys0 328) 0 8 1 198 = 0 := by decide
theorem err2 : appErr sysA 0 8 1 1 = 5 := by decide

theorem make_zs (k : Nat) (hk : k ≤ 1000000) (w : World) {Q : (Option Addr) → World → Prop} (hq : ∀ w' b, Keep [] w w' → w.heap.size ≤ b → HasB w' (some ⟨b, 0, none⟩) (zs k) → Q (some ⟨b, 0, none⟩) w') :
    ∃ (a : Option Addr) (l c : Nat), ∃ w', Sem.run Try.prog (Instr.makeSlice T_slice_uint8 (.int .i64 (k : Int)) (.int .i64 (k : Int))) w = .ok (.slice a l c) w' ∧ (l = k ∧ c = k ∧ Q a w') := by
  refine ⟨_, _, _, _, make_run E8 rfl rfl k (by omega) w, rfl, rfl, hq _ _ (Keep.alloc _ _) (Nat.le_refl _) (.inr ⟨_, 0, rfl, ?_⟩)⟩
  have : (zs k).map B = List.replicate k (.int .u8 0) := by rw [List.map_replicate]; rfl
  rw [this]
  exact rdb_all (Blk.alloc_new w _ _)

theorem zs_has {w w' : World} {b k : Nat} (h : Blk w b (List.replicate k (.int .u8 0)) T_uint8) : HasB w (some ⟨b, 0, none⟩) (zs k) := .inr ⟨b, 0, rfl, by
  have : (zs k).map B = List.replicate k (.int .u8 0) := by rw [List.map_replicate]; rfl
  rw [this]; exact rdb_all h⟩

set_option maxHeartbeats 1000000 in
theorem awake_ok (hR : ∀ w', Keep [] w w' → R (.returned (.bool true)) w') : Calls P0 f_pollardlaw08_awake #[] w R := by
  refine C_pollardlaw08_awake ?_
  refine begun_ok (n := 328) (by omega) fun w2 x A k2 hx hmu rig2 sys2 => ⟨_, _, _, rfl, fun e => by simp at e, fun _ => ?_⟩
  have h2 := sys2 fun _ => 0
  intro J6 hJ6
  -- behind the first record
  have st1 : ∀ (b : Nat) (w9 : World) (ptr : Nat → Nat), Keep [] w w9 → Blk w9 b [.int .i64 1, .int .i64 10] T_api_Head → RigIs w9 x A.d A.s A.l → Sys w9 A [] ptr 0 sysA → J6 b 0 w9 := by
    intro b w9 ptr k9 hb rig9 h9
    refine hJ6 b 0 w9 ?_
    clear hJ6
    intro J10 hJ10
    have st2 : ∀ (w12 : World), Keep [] w9 w12 → J10 5 w12 := by
      intro w12 k9_12
      refine hJ10 5 w12 ?_
      clear hJ10
      have rig12 := rig9.keep k9_12 (by simp)
      have h12 := h9.keep0 k9_12
      have b12 := k9_12.blk hb (by simp)
      refine ⟨_, _, rfl, _, rig12.l, log_NewFlush fun w17 f k17 hf17 f17 => ⟨_, rfl, fun e => by simp at e, fun _ => ?_⟩⟩
      have b17 := k17.blk b12 (by simp)
      refine ⟨_, b17.cell rfl, _, b17.cell rfl, _, neq_head _ _ _ _ _ _, fun e => by simp at e, fun _ => ⟨fun e => by simp at e, fun _ => ⟨fun e => by simp at e, fun _ => ?_⟩⟩⟩
      intro J24 hJ24
      have h17 := h12.keep0 k17
      have rig17 := rig12.keep k17 (by simp)
      have k0_17 : Keep [] w w17 := (k9.trans k9_12 (by simp)).trans k17 (by simp)
      have gA : Good sysA 8 := (good0 328).app (h2.szs)
      have hplA : sysA.L.place = 10 := by decide
      have hnoA : sysA.L.no = 1 := by decide
      have hsnA : sysA.L.sent = 8 := rfl
      refine ⟨fun k w' => 0 ≤ k ∧ ∃ fw' S' F' dur', Keep (f :: A.mu []) w17 w' ∧ (∀ q ∈ fw', w17.heap.size ≤ q) ∧ Sys w' A fw' ptr S'.lo S' ∧ Good S' dur' ∧ FlushIs w' f A.l F' ∧ FInv S' F' dur' ∧ Fix sysA S' ∧ S'.L.written = 0 ∧
          S'.m.ws.length + 4 * 8 ≤ 4 * S'.L.sent ∧ ((F'.st = .start ∧ k = 0 ∧ S'.L.sent = 8) ∨ (F'.st = .work ∧ k + 7 = S'.L.sent ∧ S'.L.sent ≤ 10 ∧ F'.ton = 1 ∧ F'.top = 10) ∨ (F'.st = .stays ∧ k = 4 ∧ S'.L.sent = 10 ∧ dur' = 10 ∧ F'.ton = 1)),
        fun k _ => (5 - k).toNat, ⟨by omega, [], sysA, _, 8, Keep.refl _ _, by simp, h17, gA, f17, trivial, Fix.refl _, rfl, by decide, .inl ⟨rfl, rfl, rfl⟩⟩, ?_⟩
      rintro k w76 ⟨h0, fw76, S76, F76, dur76, k76, sub76, h76, g76, f76, i76, x76, wr76, ws76, ph⟩
      have pl76 := x76.place
      have no76 := x76.no
      rw [hplA] at pl76
      rw [hnoA] at no76
      have sn76 := h76.bsent.2
      constructor
      · intro _
        refine flush_Step h76 f76 g76 i76 (by omega) fun w7 fw7 S7 dur7 F7 r hp hk7 hsub7 h7 hg7 hf7 hi7 => ⟨_, rfl, ?_⟩
        have hx7 := x76.trans hp.fix
        obtain ⟨m1, m2, m3, m4⟩ := hp.mono g76
        have kk : Keep (f :: A.mu []) w17 w7 := k76.trans hk7 (fun q hq => by
          simp only [List.mem_cons] at hq ⊢
          rcases hq with hq | hq
          · exact .inl (.inl hq)
          · exact (mu_sub (k := w17.heap.size) (fun q hq => .inr (sub76 q hq)) q hq).imp .inr id)
        have sub7 : ∀ q ∈ fw7, w17.heap.size ≤ q := fun q hq => by
          rcases hsub7 q hq with g | g
          · exact sub76 q g
          · exact Nat.le_trans k76.1 g
        cases hp with
        | skip g1 g2 => omega
        | begin g1 g2 =>
          refine ⟨fun _ n9 h9 => ?_, fun e => by simp at e⟩
          rcases ph with ⟨_, p2, p3⟩ | ⟨p1, _⟩ | ⟨p1, _⟩
          · rw [wrap64 (by omega) (by omega)] at h9
            subst h9
            exact ⟨⟨by omega, fw7, _, _, _, kk, sub7, h7, hg7, hf7, hi7, hx7, wr76, by omega, .inr (.inl ⟨rfl, by omega, by omega, no76, pl76⟩)⟩, by dsimp only; omega⟩
          · rw [g1] at p1; cases p1
          · rw [g1] at p1; cases p1
        | sync g1 g2 =>
          refine ⟨fun _ n9 h9 => ?_, fun e => by simp at e⟩
          have es : S76.sync.L.sent = S76.L.sent := rfl
          have ew : S76.sync.L.written = S76.L.written := rfl
          rcases ph with ⟨p1, _⟩ | ⟨p1, p2, p3, p4, p5⟩ | ⟨p1, _⟩
          · rw [g1] at p1; cases p1
          · rw [wrap64 (by omega) (by omega)] at h9
            subst h9
            exact ⟨⟨by omega, fw7, _, _, _, kk, sub7, h7, hg7, hf7, hi7, hx7, by omega, by omega, .inr (.inr ⟨rfl, by omega, by omega, by omega, p4⟩)⟩, by dsimp only; omega⟩
          · rw [g1] at p1; cases p1
        | write p g1 g2 =>
          refine ⟨fun _ n9 h9 => ?_, fun e => by simp at e⟩
          have es : (S76.wr p).L.sent = S76.L.sent + 1 := rfl
          have ew : (S76.wr p).L.written = S76.L.written := rfl
          rcases ph with ⟨p1, _⟩ | ⟨p1, p2, p3, p4, p5⟩ | ⟨p1, _⟩
          · rw [g1] at p1; cases p1
          · rw [wrap64 (by omega) (by omega)] at h9
            subst h9
            exact ⟨⟨by omega, fw7, _, _, _, kk, sub7, h7, hg7, hf7, hi7, hx7, by omega, by omega, .inr (.inl ⟨g1, by omega, by omega, p4, p5⟩)⟩, by dsimp only; omega⟩
          · rw [g1] at p1; cases p1
        | done g1 =>
          rcases ph with ⟨p1, _⟩ | ⟨p1, _⟩ | ⟨p1, _⟩ <;> (rw [g1] at p1; cases p1)
        | stays g1 =>
          refine ⟨fun e => by simp at e, fun _ => ?_⟩
          rcases ph with ⟨p1, _⟩ | ⟨p1, _⟩ | ⟨p1, p2, p3, p4, p5⟩
          · rw [g1] at p1; cases p1
          · rw [g1] at p1; cases p1
          subst p2
          refine hJ24 4 w7 ?_
          clear hJ24
          have hwr7 : (S76.stay F76.ton).L.written = 1 := by show max S76.L.written F76.ton = 1; omega
          have hmk7 : (S76.stay F76.ton).L.mark = 0 := x76.mark
          have hno7 : (S76.stay F76.ton).L.no = 1 := no76
          have hsn7 : (S76.stay F76.ton).L.sent = 10 := p3
          have hn7 : max S76.L.written F76.ton = 1 := hwr7
          generalize S76.stay F76.ton = S7 at *
          have rig7 := rig17.keep kk (by
            intro hm
            simp only [List.mem_cons] at hm
            rcases hm with hm | hm
            · obtain ⟨v3, v4, v5, hb⟩ := rig17
              exact hb.ne f17 (by decide) hm
            · exact rig17.off h17 hm)
          refine flush_Upto hf7 ⟨_, _, rfl, ?_⟩
          have h7d := h7.keep0 (Keep.drew w7)
          have rig7d : RigIs w7.drew x A.d A.s A.l := rig7
          refine ⟨_, _, rfl, _, rig7d.l, log_Advance h7d rfl (fun w' _ hle _ => by rw [hno7, hmk7] at hle; omega) fun w35 t k35 ht hlt h35 => ⟨rfl, ?_⟩⟩
          have ht1 : t = 1 := by rw [hno7] at ht; omega
          subst ht1
          rw [hwr7] at h35
          have rig35 := rig7d.keep k35 (rig7d.off h7d)
          refine ⟨_, _, rfl, _, rig35.l, log_NewRead (p := 8) fun w40 r k40 hr40 r40 => ⟨_, rfl, fun e => by simp at e, fun _ => ?_⟩⟩
          have h40 := h35.keep0 k40
          have gA7 : Good (S7.adv 1) 10 := by rw [p4] at hg7; exact ⟨hg7.wrd, hg7.dle, hg7.hpd, hg7.nw, hg7.pl, hg7.ws⟩
          have hes : (S7.adv 1).L.es[0]? = some (1, zs 198) := by
            have := hx7.es
            show S7.L.es[0]? = _
            rw [this]; rfl
          have ha0 : (S7.adv 1).L.at 0 = 8 := hx7.at 0
          have ha1 : (S7.adv 1).L.at 1 = 10 := by have := hx7.at 1; rw [show sysA.L.at 1 = 10 by decide] at this; exact this
          have hst := stands_rec' h40 gA7 hes (by rw [ha1]; show _ ≤ S7.L.sent; omega)
          have hhn : (S7.adv 1).L.hn = 0 := hx7.hn
          have hera : (S7.adv 1).L.era = 1 := hx7.era
          rw [ha0, hhn, hera] at hst
          have hno8 : (S7.adv 1).L.no = 1 := hno7
          have rig40 := rig35.keep k40 (by simp)
          have hm2 : manyOf ((((1, zs 198) : Ent)).2.length + 1) = 2 := by decide
          refine read_next h40 (by rw [hno8]; decide) hst r40 (i := 0) (by simp) (by omega) (by simp) (fun w43 fp43 xs43 _ k43 sub43 r43 hx43 h43 => ⟨_, rfl, ?_⟩) (fun w43 e => by omega)
          refine read_next h43 (by rw [hno8]; decide) hst r43 (i := 1) (by simpa using hx43) (by omega) (fun q hq hm => by
            have g1 := h40.lt q hm
            rcases sub43 q hq with g | g
            · cases g
            · omega) (fun w46 fp46 xs46 e => by omega) (fun w46 _ k46 r46 h46 => ⟨_, rfl, ?_⟩)
          have hxr : x ≠ r := by
            obtain ⟨v3, v4, v5, hb⟩ := rig40
            obtain ⟨⟨pa, pc, hb2, _⟩, _⟩ := r40
            exact hb.ne hb2 (by decide)
          have hxlt : x < w40.heap.size := by
            obtain ⟨v3, v4, v5, hb⟩ := rig40
            exact hb.lt
          have rig43 := rig40.keep k43 (by simp [hxr])
          have rig46 := rig43.keep k46 (by
            simp only [List.mem_cons, not_or]
            refine ⟨hxr, fun hm => ?_⟩
            rcases sub43 x hm with g | g
            · cases g
            · omega)
          refine read_Got r46 (by simp) fun w49 a52 c52 k49 hb52 => ⟨_, _, _, _, _, _, rfl, ?_⟩
          have h49 := h46.keep0 k49
          have rig49 := rig46.keep k49 (by simp)
          rw [hn7]
          refine ⟨fun _ => ⟨fun _ => ⟨fun _ => ⟨fun _ => ⟨fun _ => ⟨fun _ => ⟨fun _ => ?_, fun e => by cases e⟩, fun e => by simp at e⟩, fun e => by cases e⟩, fun e => by cases e⟩, fun e => by cases e⟩, fun e => by cases e⟩, fun e => by cases e⟩
          refine ⟨_, _, rfl, _, rig49.l, log_Held h49 ⟨_, rfl, fun _ => ⟨_, _, rfl, _, rig49.l, log_Written h49 ⟨_, rfl, fun _ => ⟨_, _, rfl, _, rig49.l, log_Mark h49 fun w70 k70 => ⟨_, _, rfl, ?_⟩⟩, fun e => ?_⟩⟩, fun e => ?_⟩⟩
          · have hmk : (S7.adv 1).L.at ((S7.adv 1).L.mark - (S7.adv 1).L.hn) = 10 := by rw [hhn]; exact ha1
            rw [hmk]
            refine hR w70 ?_
            have hw17 := k0_17.1
            have hw12 : w.heap.size ≤ w12.heap.size := (k9.trans k9_12 (by simp)).1
            have K1 : Keep [] w w7 := k0_17.trans kk (fun q hq => by
              simp only [List.mem_cons] at hq
              rcases hq with rfl | hq
              · right; omega
              · exact .inr (hmu q hq))
            have K2 : Keep [] w w35 := (K1.then_drew).trans k35 (fun q hq => by
              rcases mu_sub (k := w.heap.size) (fw := []) (fun q hq => .inr (Nat.le_trans hw17 (sub7 q hq))) q hq with g | g
              · exact .inr (hmu q g)
              · exact .inr g)
            have K3 : Keep [] w w40 := K2.trans k40 (by simp)
            have hw35 := K2.1
            have K4 : Keep [] w w43 := K3.trans k43 (fun q hq => by simp at hq; subst hq; right; omega)
            have hw40 := K3.1
            have K5 : Keep [] w w46 := K4.trans k46 (fun q hq => by
              simp only [List.mem_cons] at hq
              rcases hq with rfl | hq
              · right; omega
              · rcases sub43 q hq with g | g
                · cases g
                · right; omega)
            exact (K5.trans k49 (by simp)).trans k70 (by simp)
          · have : (S7.adv 1).L.written = 1 := hwr7
            rw [this] at e; cases e
          · rw [hno8] at e; cases e
      · intro e
        have := of_decide_eq_false e
        omega
    -- the second record: at a head that is not it
    have b9l := rig9.l
    have app2 : ∀ (w' : World) (a : Option Addr) (Q : Ending → World → Prop), Keep [] w9 w' → HasB w' a (zs 1) → (∀ w'', Keep [] w' w'' → Q (.returned (.tuple #[.agg #[.int .i64 0, .int .i64 0], .int .i64 5])) w'') →
        Calls P0 f_log_Log_Append #[.pointer (some ⟨A.l, 0, none⟩), .agg #[.int .i64 0, .int .i64 8], .int .i64 1, .slice a 1 1] w' Q := fun w' a Q hk ha hq => by
      refine log_Append (h9.keep0 hk) (zs 1) ha rfl (Nat.le_refl _) (fun w'' hk2 _ => ?_) (fun w'' p hk2 he _ => ?_)
      · rw [err2]; exact hq w'' hk2
      · rw [err2] at he; cases he
    have k9d := Keep.drew w9
    refine ⟨_, _, rfl, _, (rig9.keep k9d (by simp)).l, ⟨_, _, _, _, make_run E8 rfl rfl 1 (by omega) w9.drew, ?_⟩, ?_⟩
    · have kM := Keep.alloc w9.drew (.cells (List.replicate 1 (.int .u8 0)).toArray T_uint8)
      have bM := Blk.alloc_new w9.drew (List.replicate 1 (.int .u8 0)) T_uint8
      generalize w9.drew.alloc (.cells (List.replicate 1 (.int .u8 0)).toArray T_uint8) = w85 at *
      have k85 : Keep [] w9 w85 := k9d.trans kM (by simp)
      refine ⟨(rig9.keep k85 (by simp)).l, ?_, ?_⟩
      · refine app2 w85 _ _ k85 (zs_has (w' := w) bM) fun w87 k87 => ⟨_, _, _, rfl, ?_⟩
        refine al (c := [.int .i64 0, .int .i64 0]) fun w91 b91 k91 s91 => ?_
        refine ⟨(rig9.keep ((k85.trans k87 (by simp)).trans k91 (by simp)) (by simp)).l, st b91 (by simp) fun w92 b92 k92 s92 => st b92 (by simp) fun w93 b93 k93 s93 => ?_⟩
        exact st2 w93 (((k85.trans k87 (by simp)).trans ((k91.trans k92 (by simp)).trans k93 (by simp)) (by simp)))
      · refine al (c := [.int .i64 0, .int .i64 0]) fun w94 b94 k94 s94 => ?_
        refine ⟨(rig9.keep (k85.trans k94 (by simp)) (by simp)).l, app2 w94 _ _ (k85.trans k94 (by simp)) ((zs_has (w' := w) bM).keep k94 (Off.nil _)) fun w96 k96 => ⟨_, _, _, rfl, ?_⟩⟩
        refine st (k96.blk b94 (by simp)) (by simp) fun w100 b100 k100 s100 => st b100 (by simp) fun w101 b101 k101 s101 => ?_
        have e1 := k85.1
        exact st2 w101 ((((k85.trans k94 (by simp)).trans k96 (by simp)).trans k100 (by simp [e1])).trans k101 (by simp [e1]))
    · refine al (c := [.int .i64 0, .int .i64 0]) fun w102 b102 k102 s102 => ?_
      refine ⟨(rig9.keep (k9d.trans k102 (by simp)) (by simp)).l, _, _, _, _, make_run E8 rfl rfl 1 (by omega) w102, ?_⟩
      have kM := Keep.alloc w102 (.cells (List.replicate 1 (.int .u8 0)).toArray T_uint8)
      have bM := Blk.alloc_new w102 (List.replicate 1 (.int .u8 0)) T_uint8
      generalize w102.alloc (.cells (List.replicate 1 (.int .u8 0)).toArray T_uint8) = w104 at *
      have k104 : Keep [] w9 w104 := (k9d.trans k102 (by simp)).trans kM (by simp)
      refine ⟨(rig9.keep k104 (by simp)).l, app2 w104 _ _ k104 (zs_has (w' := w) bM) fun w106 k106 => ⟨_, _, _, rfl, ?_⟩⟩
      refine st (k106.blk (kM.blk b102 (by simp)) (by simp)) (by simp) fun w110 b110 k110 s110 => st b110 (by simp) fun w111 b111 k111 s111 => ?_
      have e1 : w9.heap.size ≤ w9.drew.heap.size := k9d.1
      exact st2 w111 (((k104.trans k106 (by simp)).trans k110 (by simp [e1])).trans k111 (by simp [e1]))
  clear hR
  -- the first record
  have rig2d : RigIs w2.drew x A.d A.s A.l := rig2
  have app1 : ∀ (w' : World) (a : Option Addr) (Q : Ending → World → Prop), Keep [] w2 w' → HasB w' a (zs 198) → (∀ w'' ptr, Keep (A.mu []) w' w'' → Sys w'' A [] ptr 0 sysA → Q (.returned (.tuple #[.agg #[.int .i64 1, .int .i64 10], .int .i64 0])) w'') →
      Calls P0 f_log_Log_Append #[.pointer (some ⟨A.l, 0, none⟩), .agg #[.int .i64 0, .int .i64 8], .int .i64 1, .slice a 198 198] w' Q := fun w' a Q hk ha hq => by
    refine log_Append (h2.keep0 hk) (zs 198) ha (by simp) (Nat.le_refl _) (fun w'' hk2 he => ?_) (fun w'' p hk2 he hs => ?_)
    · exact absurd err1 he
    · exact hq w'' _ hk2 hs
  have kmu : ∀ {w' w'' : World}, Keep [] w2 w' → Keep (A.mu []) w' w'' → Keep [] w w'' := fun h1 h2' => (k2.trans h1 (by simp)).trans h2' (fun q hq => .inr (hmu q hq))
  have k2d := Keep.drew w2
  refine ⟨_, _, rfl, _, rig2d.l, ⟨_, _, _, _, make_run E8 rfl rfl 198 (by omega) w2.drew, ?_⟩, ?_⟩
  · have kM := Keep.alloc w2.drew (.cells (List.replicate 198 (.int .u8 0)).toArray T_uint8)
    have bM := Blk.alloc_new w2.drew (List.replicate 198 (.int .u8 0)) T_uint8
    generalize w2.drew.alloc (.cells (List.replicate 198 (.int .u8 0)).toArray T_uint8) = w116 at *
    have k116 : Keep [] w2 w116 := k2d.trans kM (by simp)
    have rig116 := rig2.keep k116 (by simp)
    refine ⟨rig116.l, ?_, ?_⟩
    · refine app1 w116 _ _ k116 (zs_has (w' := w) bM) fun w118 ptr k118 h118 => ⟨_, _, _, rfl, ?_⟩
      have rig118 := rig116.keep k118 (rig116.off (h2.keep0 k116))
      refine al (c := [.int .i64 0, .int .i64 0]) fun w122 b122 k122 s122 => ?_
      refine ⟨(rig118.keep k122 (by simp)).l, st b122 (by simp) fun w123 b123 k123 s123 => st b123 (by simp) fun w124 b124 k124 s124 => ?_⟩
      have kk : Keep [] w118 w124 := (k122.trans k123 (by simp)).trans k124 (by simp)
      exact st1 _ w124 ptr ((kmu k116 k118).trans kk (by simp)) b124 (rig118.keep kk (by simp)) (h118.keep0 kk)
    · refine al (c := [.int .i64 0, .int .i64 0]) fun w125 b125 k125 s125 => ?_
      have rig125 := rig116.keep k125 (by simp)
      refine ⟨rig125.l, app1 w125 _ _ (k116.trans k125 (by simp)) ((zs_has (w' := w) bM).keep k125 (Off.nil _)) fun w127 ptr k127 h127 => ⟨_, _, _, rfl, ?_⟩⟩
      have h125 := (h2.keep0 k116).keep0 k125
      have rig127 := rig125.keep k127 (rig125.off h125)
      have b127 := k127.blk b125 (h125.off b125 (by decide) (by decide) (by decide) (by decide) (by decide))
      refine st b127 (by simp) fun w131 b131 k131 s131 => st b131 (by simp) fun w132 b132 k132 s132 => ?_
      have kk : Keep [w116.heap.size] w127 w132 := k131.trans k132 (by simp)
      have e1 := (k2.trans k116 (by simp)).1
      have hxn : x ≠ w116.heap.size := by
        obtain ⟨v3, v4, v5, hb⟩ := rig116
        have := hb.lt; omega
      exact st1 _ w132 ptr ((kmu (k116.trans k125 (by simp)) k127).trans kk (by simp [e1])) b132 (rig127.keep kk (by simp [hxn])) (h127.keepS kk (fun q hq => by
        simp at hq; subst hq
        exact ⟨_, _, b127, by decide, by decide, by decide, by decide, by decide, by decide, by decide⟩))
  · refine al (c := [.int .i64 0, .int .i64 0]) fun w133 b133 k133 s133 => ?_
    have rig133 := rig2d.keep k133 (by simp)
    refine ⟨rig133.l, _, _, _, _, make_run E8 rfl rfl 198 (by omega) w133, ?_⟩
    have kM := Keep.alloc w133 (.cells (List.replicate 198 (.int .u8 0)).toArray T_uint8)
    have bM := Blk.alloc_new w133 (List.replicate 198 (.int .u8 0)) T_uint8
    generalize w133.alloc (.cells (List.replicate 198 (.int .u8 0)).toArray T_uint8) = w135 at *
    have k135 : Keep [] w2 w135 := (k2d.trans k133 (by simp)).trans kM (by simp)
    have rig135 := rig133.keep kM (by simp)
    have h135 := h2.keep0 k135
    have b135 := kM.blk b133 (by simp)
    refine ⟨rig135.l, app1 w135 _ _ k135 (zs_has (w' := w) bM) fun w137 ptr k137 h137 => ⟨_, _, _, rfl, ?_⟩⟩
    have rig137 := rig135.keep k137 (rig135.off h135)
    have b137 := k137.blk b135 (h135.off b135 (by decide) (by decide) (by decide) (by decide) (by decide))
    refine st b137 (by simp) fun w141 b141 k141 s141 => st b141 (by simp) fun w142 b142 k142 s142 => ?_
    have kk : Keep [w2.drew.heap.size] w137 w142 := k141.trans k142 (by simp)
    have e1 := k2.1
    have e2 : w2.drew.heap.size = w2.heap.size := rfl
    have hxn : x ≠ w2.drew.heap.size := by
      obtain ⟨v3, v4, v5, hb⟩ := rig2d
      have := hb.lt; omega
    exact st1 _ w142 ptr ((kmu k135 k137).trans kk (by simp [e2, e1])) b142 (rig137.keep kk (by rw [List.mem_singleton]; exact hxn)) (h137.keepS kk (fun q hq => by
      simp at hq; subst hq
      exact ⟨_, _, b137, by decide, by decide, by decide, by decide, by decide, by decide, by decide⟩))
end Go.Proofs
