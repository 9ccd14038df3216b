/- LogStays: the row. -/
import Derived.Test.YtbkcpddedpmenaaC3
import Derived.Test.YtbkcpddedpmenaaC4
import Derived.Test.YtbkcpddedpmenaaRows
import Derived.ProofKit
set_option maxRecDepth 100000
namespace Go.Proofs
open Go Go.Vc Go.ChangeShapes Go.WideShapes Go.ChangeAt Go.RowKit

theorem keep_same {W W' : World} (h : Keep [] W W') {p : MemPlace} (hp : p.block < W.heap.size) : W.sameAt W' p := by
  cases p with
  | cell b o => exact World.cell?_of_block (w := W) (h.2.1 b hp (by simp))
  | map b => exact h.2.1 b hp (by simp)
theorem keep_frame {W W' : World} (h : Keep [] W W') (may : MemPlace → Prop) : W.keptBut W' may := by
  refine ⟨h.2.2.1, h.2.2.2, fun i hi => ?_⟩
  rw [h.2.1 i hi (by simp)]
  split <;> simp_all

theorem trodAll_stays {H : Type} {enc : TypeId × Value → H} {P : Program} {W W' : World} {sp' : Nat → Bool} (hl : laidOutB P = true) : ∀ (ts : List TypeId) (vs : List Value) (ds : List (DataW H)) (ps : List MemPlace),
    (ts.all fun t => P.readableRec t && decide (t < P.types.size)) = true → DataW.TrodAll enc P W 0 (fun _ => true) true ts vs ds ps → (∀ p ∈ ps, W.sameAt W' p) → (∀ p ∈ ps, sp' p.block = true) → DataW.TrodAll enc P W' 0 sp' true ts vs ds ps
  | [], _, _, _, _, h, _, _ => by
    obtain ⟨rfl, rfl, rfl⟩ := trodAll_nil h
    exact h
  | t :: ts, _, _, _, ha, h, hs, hp => by
    obtain ⟨v, vs', d, ds', p, q, rfl, rfl, rfl, h1, h2⟩ := trodAll_cons h
    simp only [List.all_cons, Bool.and_eq_true, decide_eq_true_eq] at ha
    exact ⟨p, q, WideElems.Trod_stays hl ha.1.1 ha.1.2 h1 (fun x hx => hs x (by simp [hx])) (fun x hx => hp x (by simp [hx])), trodAll_stays hl ts vs' ds' q (by simpa using ha.2) h2 (fun x hx => hs x (by simp [hx])) (fun x hx => hp x (by simp [hx])), rfl⟩
end Go.Proofs

namespace Go.Proofs.Ytbkcpddedpmenaa
open Go Go.Vc Go.ChangeShapes Go.WideShapes Go.ChangeAt Go.RowKit

theorem own : ownKnob Try.prog.godebug = none := by kernel_rfl
theorem ubool : Try.prog.underlying T_bool = some .bool := by kernel_rfl
theorem laidOut : laidOutB Try.prog = true := by kernel_rfl

theorem logStays_lifted (os : Os) (started : os.Started) (H : Type) (enc : TypeId × Value → H) :
    ReturnsInHanded {} Try.checked os 3 .any (Rows.logStaysSpec.pre6 enc Try.prog Try.f3 Rows.logStaysRow.domain false) (Rows.logStaysSpec.post enc Try.prog Try.f3 false true false false) := by
  refine returnsInHanded_of_change (C := Try.checked) own started (by kernel_rfl) Try.func3
    (ChangeSpec.witness6 (enc := enc) (C := Try.checked) false ⟨#[], #[.slice none 0 0, .slice none 0 0, .int .i64 0, .slice none 0 0], []⟩ 8 (by kernel_rfl) (by kernel_rfl) (by kernel_rfl) (by kernel_rfl)) ?_
  intro W base args ds gs before hval0 hW hcnd _
  have hval : ∀ (j : Nat) t v, Try.f3.params[j]? = some t → args[j]? = some v → Value.okWide Try.prog W .any base t v := hval0
  have hW' := hW
  obtain ⟨p, q, hA0, hV, rfl, hfz, hnd⟩ := hW
  have hA : DataW.TrodAll enc Try.prog W 0 (fun _ => true) true Try.f3.params.toList args.toList ds p := hA0
  have hA1 := hA
  rw [Try.params3] at hA hval
  obtain ⟨v0, v1, v2, v3, d0, d1, d2, d3, p0, p1, p2, p3, rfl, rfl, rfl, h0, h1, h2, h3⟩ := trodAll_four hA
  obtain ⟨rfl, rfl⟩ := trodVars_none hV
  obtain ⟨a0, l0, c0, rfl⟩ := okWide_slice u22 (hval 0 _ v0 rfl rfl)
  obtain ⟨a1, l1, c1, rfl⟩ := okWide_slice u22 (hval 1 _ v1 rfl rfl)
  obtain ⟨k, rfl⟩ := okWide_int (k := .i64) ui (hval 2 _ v2 rfl rfl)
  obtain ⟨a3, l3, c3, rfl⟩ := okWide_slice u23 (hval 3 _ v3 rfl rfl)
  obtain ⟨f0, hf0⟩ := h0
  obtain ⟨f1, hf1⟩ := h1
  obtain ⟨f3, hf3⟩ := h3
  obtain ⟨hm0, xs, hx1, hx2, hx3⟩ := open_bytess hf0
  obtain ⟨hm1, ys, hy1, hy2, hy3⟩ := open_bytess hf1
  obtain ⟨ks, hk1, hk2⟩ := open_keeps hf3
  have hrun := LogStays_ok (w := W) (R := fun e W' => e = .returned (.bool true) ∧ Keep [] W W') (k := k) (c4 := c3) xs ys ks (c1 := c0) (c2 := c1) ⟨hx2, hx1, hx3, hm0⟩ ⟨hy2, hy1, hy3, hm1⟩ hk2 hk1 (fun w' hk => ⟨rfl, hk⟩)
  refine hrun.mono fun e W' ⟨he, hw⟩ => ?_
  subst he
  have hlt : ∀ x ∈ p0 ++ p1 ++ p2 ++ p3 ++ [], x.block < W.heap.size := hW'.lt
  refine ⟨_, rfl, _, _, _, [], p0 ++ p1 ++ p2 ++ p3, [], hW', ?_, ?_, ?_, keep_frame hw _, fun h => by cases h⟩
  · exact trodAll_mk1 (shut_bool ubool true)
  · exact trodAll_stays laidOut _ _ _ _ (by kernel_rfl) hA1 (fun x hx => keep_same hw (hlt x (by simpa using hx))) (fun x hx => by have := hlt x (by simpa using hx); simpa using this)
  · exact rfl

theorem logStays_holds : Rows.LogStaysSaid :=
  OpenClaim.holds_of_wide 3 Try.f3 rfl rfl rfl rfl rfl rfl rfl ⟨rfl, rfl, rfl, rfl, rfl⟩ rfl rfl rfl rfl rfl (by kernel_rfl) Try.func3 (by kernel_rfl)
    (of_decide_eq_true (by kernel_rfl)) (by unfold Func.isWrapper; first | (rw [if_pos (by decide +kernel)]; kernel_rfl) | (rw [if_neg (by decide +kernel)]; exact ⟨rfl, rfl⟩))
    (fun os started H enc _ => logStays_lifted os started H enc)
end Go.Proofs.Ytbkcpddedpmenaa
