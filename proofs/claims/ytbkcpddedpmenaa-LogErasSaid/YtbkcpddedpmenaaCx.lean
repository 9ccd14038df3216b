/- Contracts: machines' steps as they are used. -/
import Derived.Test.YtbkcpddedpmenaaCw
set_option maxRecDepth 100000
namespace Go.Proofs
open Go Go.Vc
variable {w w' : World} {R : Ending → World → Prop} {A : Ad} {fw : List Nat} {ptr : Nat → Nat} {S : SysM}

def FInv (S : SysM) (F : FlushM) (dur : Nat) : Prop := match F.st with
  | .start => True
  | .work => S.L.hn ≤ F.ton ∧ F.ton ≤ S.L.no ∧ F.top = S.L.at (F.ton - S.L.hn)
  | .stays => S.L.hn ≤ F.ton ∧ F.ton ≤ S.L.no ∧ F.top = S.L.at (F.ton - S.L.hn) ∧ F.top ≤ dur
  | .done => True

inductive FProg : SysM → Nat → FlushM → SysM → Nat → FlushM → Bool → Prop
  | skip {S dur F} : F.st = .start → S.L.no ≤ S.L.written → FProg S dur F S dur ⟨.done, S.L.no, S.L.place, S.L.written, 0⟩ true
  | begin {S dur F} : F.st = .start → S.L.written < S.L.no → FProg S dur F S dur ⟨.work, S.L.no, S.L.place, F.n, F.e⟩ false
  | sync {S dur F} : F.st = .work → F.top ≤ S.L.sent → FProg S dur F S.sync S.L.sent { F with st := .stays } false
  | write {S dur F} (p : Part) : F.st = .work → S.L.sent < F.top → FProg S dur F (S.wr p) dur F false
  | stays {S dur F} : F.st = .stays → FProg S dur F (S.stay F.ton) dur { F with st := .done, n := max S.L.written F.ton, e := 0 } true
  | done {S dur F} : F.st = .done → FProg S dur F S dur F true

theorem Sys.lt90 (h : S.m.ws.length ≤ 90000000) : True := trivial

theorem flush_Step (h : Sys w A fw ptr S.lo S) {f dur : Nat} {F : FlushM} (hf : FlushIs w f A.l F) (hg : Good S dur) (hi : FInv S F dur) (hws : S.m.ws.length ≤ 90000000)
    (hR : ∀ w' fw' S' dur' F' r, FProg S dur F S' dur' F' r → Keep (f :: A.mu fw) w w' → (∀ q ∈ fw', q ∈ fw ∨ w.heap.size ≤ q) → Sys w' A fw' ptr S'.lo S' → Good S' dur' → FlushIs w' f A.l F' → FInv S' F' dur' → R (.returned (.bool r)) w') :
    Calls P0 f_log_Flush_Step #[.pointer (some ⟨f, 0, none⟩)] w R := by
  have z := h.szs
  have hnoe : S.L.no = S.L.hn + S.L.es.length := rfl
  have hwr := h.bwr
  have hself : ∀ q ∈ fw, q ∈ fw ∨ w.heap.size ≤ q := fun q hq => .inl hq
  have hk1 : ∀ w', Keep [f] w w' → Keep (f :: A.mu fw) w w' := fun w' hk => hk.mono (fun q hq => .inl (by simp at hq; simp [hq]))
  cases hst : F.st with
  | start =>
    refine flush_step_of hf (by rw [hst]; rfl) c34 (flush_begin h hf (fun w' h1 hk hf' hs => ⟨_, rfl, ?_⟩) (fun w' h1 hk hf' hs => ⟨_, rfl, ?_⟩))
    · exact hR w' fw S dur _ true (.skip hst h1) (hk1 _ hk) hself hs hg hf' trivial
    · refine hR w' fw S dur _ false (.begin hst h1) (hk1 _ hk) hself hs hg hf' ⟨?_, Nat.le_refl _, ?_⟩
      · show S.L.hn ≤ S.L.no; omega
      · show S.L.place = S.L.at (S.L.no - S.L.hn)
        rw [← S.L.at_len]; congr 1; omega
  | work =>
    have hi' : S.L.hn ≤ F.ton ∧ F.ton ≤ S.L.no ∧ F.top = S.L.at (F.ton - S.L.hn) := by unfold FInv at hi; rw [hst] at hi; exact hi
    refine flush_step_of hf (by rw [hst]; rfl) c44 (flush_work h hf (by rw [hi'.2.2]; exact S.L.at_le _) hws (fun w' h1 hk hf' hs => ⟨_, rfl, ?_⟩) (fun w' fw' i j hil p h1 hij hj hp hk hsub hf' hs => ⟨_, rfl, ?_⟩))
    · exact hR w' [] S.sync S.L.sent _ false (.sync hst h1) hk (by simp) hs hg.sync hf' ⟨hi'.1, hi'.2.1, hi'.2.2, h1⟩
    · refine hR w' fw' (S.wr p) dur F false (.write p hst h1) hk hsub hs (hg.wr z hij hp) hf' ?_
      unfold FInv; rw [hst]; exact hi'
  | stays =>
    have hi' : S.L.hn ≤ F.ton ∧ F.ton ≤ S.L.no ∧ F.top = S.L.at (F.ton - S.L.hn) ∧ F.top ≤ dur := by unfold FInv at hi; rw [hst] at hi; exact hi
    refine flush_step_of hf (by rw [hst]; rfl) c50 (flush_stays h hf ⟨hi'.1, hi'.2.1⟩ (by have := hg.dle; rw [← hi'.2.2.1]; omega) fun w' hk hf' hs => ⟨_, rfl, ?_⟩)
    exact hR w' fw (S.stay F.ton) dur _ true (.stays hst) hk hself hs (hg.stay (by rw [← hi'.2.2.1]; exact hi'.2.2.2)) hf' trivial
  | done =>
    refine flush_step_done hf hst ?_
    exact hR w fw S dur F true (.done hst) (Keep.refl _ _) hself h hg hf hi

/-- What no step of a Flush turns. -/
structure Fix (S S' : SysM) : Prop where
  n : S'.n = S.n
  fi : S'.fi = S.fi
  era : S'.L.era = S.L.era
  hn : S'.L.hn = S.L.hn
  hp : S'.L.hp = S.L.hp
  es : S'.L.es = S.L.es
  mark : S'.L.mark = S.L.mark
theorem Fix.refl (S : SysM) : Fix S S := ⟨rfl, rfl, rfl, rfl, rfl, rfl, rfl⟩
theorem Fix.trans {S S1 S2 : SysM} (h : Fix S S1) (h' : Fix S1 S2) : Fix S S2 := ⟨h'.n.trans h.n, h'.fi.trans h.fi, h'.era.trans h.era, h'.hn.trans h.hn, h'.hp.trans h.hp, h'.es.trans h.es, h'.mark.trans h.mark⟩
theorem Fix.no {S S' : SysM} (h : Fix S S') : S'.L.no = S.L.no := by unfold LogM.no; rw [h.hn, h.es]
theorem Fix.place {S S' : SysM} (h : Fix S S') : S'.L.place = S.L.place := by unfold LogM.place; rw [h.hp, h.es]
theorem Fix.at {S S' : SysM} (h : Fix S S') (i : Nat) : S'.L.at i = S.L.at i := by unfold LogM.at; rw [h.hp, h.es]
theorem Fix.parts {S S' : SysM} (h : Fix S S') (i : Nat) : S'.L.parts i = S.L.parts i := by unfold LogM.parts; rw [h.es, h.hn, h.era, h.at]
theorem Fix.sl {S S' : SysM} (h : Fix S S') : S'.sl = S.sl := by unfold SysM.sl; rw [h.n]
theorem FProg.fix {S S' : SysM} {dur dur' : Nat} {F F' : FlushM} {r : Bool} (h : FProg S dur F S' dur' F' r) : Fix S S' := by
  cases h <;> exact ⟨rfl, rfl, rfl, rfl, rfl, rfl, rfl⟩
theorem FProg.mono {S S' : SysM} {dur dur' : Nat} {F F' : FlushM} {r : Bool} (h : FProg S dur F S' dur' F' r) (hg : Good S dur) : dur ≤ dur' ∧ S.L.sent ≤ S'.L.sent ∧ S'.m.ws.length + 4 * S.L.sent ≤ S.m.ws.length + 4 * S'.L.sent ∧ S.la ≤ S'.la := by
  have := hg.dle
  cases h with
  | skip => exact ⟨Nat.le_refl _, Nat.le_refl _, Nat.le_refl _, Nat.le_refl _⟩
  | begin => exact ⟨Nat.le_refl _, Nat.le_refl _, Nat.le_refl _, Nat.le_refl _⟩
  | sync => exact ⟨this, Nat.le_refl _, by simp [SysM.sync], Nat.le_refl _⟩
  | write p => refine ⟨Nat.le_refl _, by simp [SysM.wr], by simp [SysM.wr, writeN]; omega, by simp only [SysM.wr]; split <;> omega⟩
  | stays => exact ⟨Nat.le_refl _, Nat.le_refl _, Nat.le_refl _, Nat.le_refl _⟩
  | done => exact ⟨Nat.le_refl _, Nat.le_refl _, Nat.le_refl _, Nat.le_refl _⟩

theorem runFlush (h : Sys w A fw ptr S.lo S) {f dur : Nat} {F : FlushM} (hf : FlushIs w f A.l F) (hst : F.st = .start) (hg : Good S dur) (hws : S.m.ws.length ≤ 1000000) (hpl : S.L.place ≤ S.L.sent + 900)
    (hR : ∀ w' fw' S' F', Keep (f :: A.mu fw) w w' → (∀ q ∈ fw', q ∈ fw ∨ w.heap.size ≤ q) → Sys w' A fw' ptr S'.lo S' → Fix S S' → S'.L.written = S.L.no → S'.L.sent = S.L.place → Good S' S.L.place → S'.m.ws.length ≤ S.m.ws.length + 4000 → FlushIs w' f A.l F' → F'.n = S.L.no → F'.e = 0 →
      R (.returned (.tuple #[])) w') :
    Calls P0 f_pollardlaw08_runFlush #[.pointer (some ⟨f, 0, none⟩)] w R := by
  have hsn := h.bsent.2
  have hnoe : S.L.no = S.L.hn + S.L.es.length := rfl
  refine C_pollardlaw08_runFlush ⟨fun i w' => 0 ≤ i ∧ ∃ fw' S' F' dur', Keep (f :: A.mu fw) w w' ∧ (∀ q ∈ fw', q ∈ fw ∨ w.heap.size ≤ q) ∧ Sys w' A fw' ptr S'.lo S' ∧ Good S' dur' ∧ FlushIs w' f A.l F' ∧ FInv S' F' dur' ∧ Fix S S' ∧
      S.L.sent ≤ S'.L.sent ∧ S'.m.ws.length + 4 * S.L.sent ≤ S.m.ws.length + 4 * S'.L.sent ∧
      ((F'.st = .start ∧ i = 0) ∨ (F'.st = .work ∧ i ≤ 1 + (S'.L.sent - S.L.sent : Nat) ∧ F'.ton = S.L.no ∧ F'.top = S.L.place) ∨ (F'.st = .stays ∧ i ≤ 2 + (S'.L.sent - S.L.sent : Nat) ∧ F'.ton = S.L.no ∧ F'.top = S.L.place)),
    fun i _ => (1000 - i).toNat, ⟨by omega, fw, S, F, dur, Keep.refl _ _, fun q hq => .inl hq, h, hg, hf, by unfold FInv; rw [hst]; trivial, Fix.refl S, Nat.le_refl _, Nat.le_refl _, .inl ⟨hst, rfl⟩⟩, ?_⟩
  rintro i w5 ⟨hi0, fw5, S5, F5, dur5, hk5, hsub5, h5, hg5, hf5, hi5, hx5, hs5, hw5, hph⟩
  have hsn5 := h5.bsent.2
  rw [hx5.place] at hsn5
  constructor
  · intro hlt
    have hlt := of_decide_eq_true hlt
    refine flush_Step h5 hf5 hg5 hi5 (by omega) fun w7 fw7 S7 dur7 F7 r hp hk7 hsub7 h7 hg7 hf7 hi7 => ⟨_, rfl, ?_⟩
    have hx7 := hx5.trans hp.fix
    obtain ⟨m1, m2, m3, m4⟩ := hp.mono hg5
    have hk07 : Keep (f :: A.mu fw) w w7 := hk5.trans hk7 (fun q hq => by
      simp only [List.mem_cons] at hq ⊢
      rcases hq with hq | hq
      · exact .inl (.inl hq)
      · exact (mu_sub hsub5 q hq).imp .inr id)
    have hsub07 : ∀ q ∈ fw7, q ∈ fw ∨ w.heap.size ≤ q := fun q hq => by
      rcases hsub7 q hq with g | g
      · exact hsub5 q g
      · exact .inr (Nat.le_trans hk5.1 g)
    have hsn7 := h7.bsent.2
    rw [hx7.place] at hsn7
    -- when it has ended
    have fin : F7.n = S.L.no → F7.e = 0 → S7.L.written = S.L.no → dur7 = S.L.place → R (.returned (.tuple #[])) w7 := fun e1 e2 e3 e4 => by
      have hd := hg7.dle
      refine hR w7 fw7 S7 F7 hk07 hsub07 h7 hx7 e3 (by omega) (e4 ▸ hg7) (by omega) hf7 e1 e2
    have hat : S.L.at (S.L.no - S.L.hn) = S.L.place := by rw [← S.L.at_len]; congr 1; omega
    cases hp with
    | skip g1 g2 =>
      refine ⟨fun _ => ?_, fun e => by cases e⟩
      have hb := h5.bwr
      rw [hx5.no] at g2 hb
      have ew : S5.L.written = S.L.no := by omega
      refine fin ?_ rfl ew ?_
      · exact ew
      · have e1 := hg5.wrd
        have e2 := hg5.dle
        rw [ew, hx5.hn, hx5.at, hat] at e1
        omega
    | begin g1 g2 =>
      refine ⟨fun e => (by cases e), fun _ n9 h9 => ?_⟩
      rw [wrap64 (by omega) (by omega)] at h9
      subst h9
      rcases hph with ⟨_, p2⟩ | ⟨p1, _⟩ | ⟨p1, _⟩
      · refine ⟨⟨by omega, fw7, _, _, _, hk07, hsub07, h7, hg7, hf7, hi7, hx7, hs5, hw5, .inr (.inl ⟨rfl, by omega, hx5.no, hx5.place⟩)⟩, by dsimp only; omega⟩
      · rw [g1] at p1; cases p1
      · rw [g1] at p1; cases p1
    | sync g1 g2 =>
      refine ⟨fun e => (by cases e), fun _ n9 h9 => ?_⟩
      rw [wrap64 (by omega) (by omega)] at h9
      subst h9
      rcases hph with ⟨p1, _⟩ | ⟨p1, p2, p3, p4⟩ | ⟨p1, _⟩
      · rw [g1] at p1; cases p1
      · have es : S5.sync.L.sent = S5.L.sent := rfl
        refine ⟨⟨by omega, fw7, _, _, _, hk07, hsub07, h7, hg7, hf7, hi7, hx7, hs5, by omega, .inr (.inr ⟨rfl, by omega, p3, p4⟩)⟩, by dsimp only; omega⟩
      · rw [g1] at p1; cases p1
    | write p g1 g2 =>
      refine ⟨fun e => (by cases e), fun _ n9 h9 => ?_⟩
      rw [wrap64 (by omega) (by omega)] at h9
      subst h9
      have hsent : (S5.wr p).L.sent = S5.L.sent + 1 := rfl
      rcases hph with ⟨p1, _⟩ | ⟨p1, p2, p3, p4⟩ | ⟨p1, _⟩
      · rw [g1] at p1; cases p1
      · refine ⟨⟨by omega, fw7, _, _, _, hk07, hsub07, h7, hg7, hf7, hi7, hx7, by omega, by omega, .inr (.inl ⟨g1, by omega, p3, p4⟩)⟩, by dsimp only; omega⟩
      · rw [g1] at p1; cases p1
    | stays g1 =>
      refine ⟨fun _ => ?_, fun e => (by cases e)⟩
      rcases hph with ⟨p1, _⟩ | ⟨p1, _⟩ | ⟨p1, p2, p3, p4⟩
      · rw [g1] at p1; cases p1
      · rw [g1] at p1; cases p1
      · have hb := h5.bwr
        rw [hx5.no] at hb
        have hmx : max S5.L.written F5.ton = S.L.no := by omega
        refine fin hmx rfl hmx ?_
        have e2 := hg5.dle
        have hi5' : F5.top ≤ dur5 := by unfold FInv at hi5; rw [g1] at hi5; exact hi5.2.2.2
        omega
    | done g1 =>
      rcases hph with ⟨p1, _⟩ | ⟨p1, _⟩ | ⟨p1, _⟩ <;> (rw [g1] at p1; cases p1)
  · intro hge
    have hge := of_decide_eq_false hge
    rcases hph with ⟨_, p2⟩ | ⟨_, p2, _⟩ | ⟨_, p2, _⟩ <;> omega
end Go.Proofs
