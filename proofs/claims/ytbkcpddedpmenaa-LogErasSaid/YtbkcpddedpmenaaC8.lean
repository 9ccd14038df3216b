/- LogEras: the row. -/
import Derived.Test.YtbkcpddedpmenaaC5
import Derived.Test.YtbkcpddedpmenaaC7
set_option maxRecDepth 100000
namespace Go.Proofs.Ytbkcpddedpmenaa
open Go Go.Vc Go.ChangeShapes Go.WideShapes Go.ChangeAt Go.RowKit

theorem logEras_lifted (os : Os) (started : os.Started) (H : Type) (enc : TypeId × Value → H) :
    ReturnsInHanded {} Try.checked os 4 .any (Rows.logErasSpec.pre6 enc Try.prog Try.f4 Rows.logErasRow.domain false) (Rows.logErasSpec.post enc Try.prog Try.f4 false true false false) := by
  refine returnsInHanded_of_change (C := Try.checked) own started (by kernel_rfl) Try.func4
    (ChangeSpec.witness6 (enc := enc) (C := Try.checked) false ⟨#[], #[.slice none 0 0, .slice none 0 0, .slice none 0 0, .slice none 0 0], []⟩ 8 (by kernel_rfl) (by kernel_rfl) (by kernel_rfl) (by kernel_rfl)) ?_
  intro W base args ds gs before hval0 hW hcnd _
  have hval : ∀ (j : Nat) t v, Try.f4.params[j]? = some t → args[j]? = some v → Value.okWide Try.prog W .any base t v := hval0
  have hW' := hW
  obtain ⟨p, q, hA0, hV, rfl, hfz, hnd⟩ := hW
  have hA : DataW.TrodAll enc Try.prog W 0 (fun _ => true) true Try.f4.params.toList args.toList ds p := hA0
  have hA1 := hA
  rw [Try.params4] at hA hval
  obtain ⟨v0, v1, v2, v3, d0, d1, d2, d3, p0, p1, p2, p3, rfl, rfl, rfl, h0, h1, h2, h3⟩ := trodAll_four hA
  obtain ⟨rfl, rfl⟩ := trodVars_none hV
  obtain ⟨a0, l0, c0, rfl⟩ := okWide_slice u22 (hval 0 _ v0 rfl rfl)
  obtain ⟨a1, l1, c1, rfl⟩ := okWide_slice u22 (hval 1 _ v1 rfl rfl)
  obtain ⟨a2, l2, c2, rfl⟩ := okWide_slice u23 (hval 2 _ v2 rfl rfl)
  obtain ⟨a3, l3, c3, rfl⟩ := okWide_slice u22 (hval 3 _ v3 rfl rfl)
  obtain ⟨f0, hf0⟩ := h0
  obtain ⟨f1, hf1⟩ := h1
  obtain ⟨f2, hf2⟩ := h2
  obtain ⟨f3, hf3⟩ := h3
  obtain ⟨hm0, xs, hx1, hx2, hx3⟩ := open_bytess hf0
  obtain ⟨hm1, ys, hy1, hy2, hy3⟩ := open_bytess hf1
  obtain ⟨ks, hk1, hk2⟩ := open_keeps hf2
  obtain ⟨hm3, zs, hz1, hz2, hz3⟩ := open_bytess hf3
  have hrun := LogEras_ok (w := W) (R := fun e W' => e = .returned (.bool true) ∧ Keep [] W W') (c1 := c0) (c2 := c1) (c3 := c2) (c4 := c3) xs ys zs ks ⟨hx2, hx1, hx3, hm0⟩ ⟨hy2, hy1, hy3, hm1⟩ hk2 hk1 ⟨hz2, hz1, hz3, hm3⟩ (fun w' hk => ⟨rfl, hk⟩)
  refine hrun.mono fun e W' ⟨he, hw⟩ => ?_
  subst he
  have hlt : ∀ x ∈ p0 ++ p1 ++ p2 ++ p3 ++ [], x.block < W.heap.size := hW'.lt
  refine ⟨_, rfl, _, _, _, [], p0 ++ p1 ++ p2 ++ p3, [], hW', ?_, ?_, ?_, keep_frame hw _, fun h => by cases h⟩
  · exact trodAll_mk1 (shut_bool ubool true)
  · exact trodAll_stays laidOut _ _ _ _ (by kernel_rfl) hA1 (fun x hx => keep_same hw (hlt x (by simpa using hx))) (fun x hx => by have := hlt x (by simpa using hx); simpa using this)
  · exact rfl

theorem logEras_holds : Rows.LogErasSaid :=
  OpenClaim.holds_of_wide 4 Try.f4 rfl rfl rfl rfl rfl rfl rfl ⟨rfl, rfl, rfl, rfl, rfl⟩ rfl rfl rfl rfl rfl (by kernel_rfl) Try.func4 (by kernel_rfl)
    (of_decide_eq_true (by kernel_rfl)) (by unfold Func.isWrapper; first | (rw [if_pos (by decide +kernel)]; kernel_rfl) | (rw [if_neg (by decide +kernel)]; exact ⟨rfl, rfl⟩))
    (fun os started H enc _ => logEras_lifted os started H enc)
end Go.Proofs.Ytbkcpddedpmenaa
