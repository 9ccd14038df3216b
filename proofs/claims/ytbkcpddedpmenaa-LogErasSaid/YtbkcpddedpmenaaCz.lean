/- Contracts: begun, flushed. -/
import Derived.Test.YtbkcpddedpmenaaCy
set_option maxRecDepth 100000
namespace Go.Proofs
open Go Go.Vc
variable {w w' : World} {R : Ending → World → Prop} {A : Ad} {fw : List Nat} {ptr : Nat → Nat} {lo : Nat} {S : SysM}

theorem neq_bool {P : Program} {t : TypeId} {x y : Operand} (ht : P.underlying t = some .bool) (a b : Bool) : BinRuns P .neq t x y (.bool a) (.bool b) (.bool (a != b)) := fun w => by
  have h : (Op.equalIn 10000 t (.bool a) (.bool b)).run P w = .ok (a == b) w := run_equalIn_bool w 9999 t a b ht
  have h2 : (binOp .neq t (.bool a) (.bool b)).run P w = .ok (.bool (a != b)) w := by
    show (Sem.run P (do let b ← Op.equalIn 10000 t (.bool a) (.bool b); pure (Value.bool !b)) w) = _
    rw [Sem.run_bind, h]
    rfl
  rw [Sem.run_bind]
  show ((pure () : Sem Unit).run P w).andThen _ = _
  rw [Sem.run_pure, Result.andThen_ok, h2]

def disk0 (n : Nat) : DiskM := ⟨List.replicate (64 * n) 0, List.replicate (64 * n) 0, []⟩
def sys0 (n : Nat) : SysM := ⟨n, disk0 n, 1, 1, ⟨1, 0, 8, [], 0, 0, 8⟩⟩
/-- The rig, as it begins. -/
def RigIs (w : World) (x d s l : Nat) : Prop := ∃ v3 v4 v5, Blk w x [.pointer (some ⟨d, 0, none⟩), .pointer (some ⟨s, 0, none⟩), .pointer (some ⟨l, 0, none⟩), v3, v4, v5, .slice none 0 0, .slice none 0 0, .slice none 0 0, .slice none 0 0] T_pollardlaw08_rig
theorem sortsX {x : Nat} {c : List Value} (h : Blk w x c T_pollardlaw08_rig) : Sorts w [x] := fun q hq => by
  simp at hq; subst hq
  exact ⟨_, _, h, by decide, by decide, by decide, by decide, by decide, by decide, by decide⟩

theorem begun_ok {n : Nat} (hn : 136 ≤ n ∧ n ≤ 8192)
    (hR : ∀ w' x A, Keep [] w w' → w.heap.size ≤ x → (∀ q ∈ A.mu [], w.heap.size ≤ q) → RigIs w' x A.d A.s A.l → (∀ ptr, Sys w' A [] ptr 0 (sys0 n)) → R (.returned (.tuple #[.pointer (some ⟨x, 0, none⟩), .bool true, .bool true])) w') :
    Calls P0 f_pollardlaw08_begun #[.int .i64 n, .int .i64 1, .agg #[.int .i64 0, .int .i64 8], .int .i64 1] w R := by
  refine C_pollardlaw08_begun ?_
  refine al (c := [.int .i64 0, .int .i64 8]) fun w6 b6 k6 s6 => ?_
  refine al (c := [.pointer none, .pointer none, .pointer none, .pointer none, .pointer none, .pointer none, .slice none 0 0, .slice none 0 0, .slice none 0 0, .slice none 0 0]) fun w7 b7 k7 s7 => ?_
  have b67 := k7.blk b6 (by simp)
  refine disk_New (k := n) (by omega) fun w9 d bp bn k9 hd1 hd2 hd3 hdk => ⟨_, _, rfl, ?_⟩
  rw [Int.toNat_natCast] at hdk
  refine ref03_New (by omega) fun w13 q pa pc fp c1 c2 c3 c4 c5 k13 hq bq hfp => ⟨_, _, rfl, ?_⟩
  have k7_13 : Keep [] w7 w13 := k9.trans k13 (by simp)
  have b13 := k7_13.blk b7 (by simp)
  have hd13 := hdk.keep k13 (by simp)
  intro J16 hJ16
  refine ⟨fun e => by simp at e, fun _ => ⟨fun e => by simp at e, fun _ => hJ16 _ _ ⟨fun e => by simp at e, fun _ => ?_⟩⟩⟩
  clear hJ16
  refine ⟨_, _, rfl, st b13 (by simp) fun w21 b21 k21 s21 => ⟨_, _, rfl, st b21 (by simp) fun w24 b24 k24 s24 => ?_⟩⟩
  have k13_24 : Keep [w6.heap.size] w13 w24 := k21.trans k24 (by simp)
  have hx13 : ∀ q ∈ d :: bp :: bn :: ([] : List Nat), q ∉ [w6.heap.size] := fun q hq hm => by
    simp only [List.mem_cons, List.not_mem_nil, or_false] at hm
    subst hm
    exact hd13.off b13 (by decide) (by decide) (by decide) hq
  have hd24 := hd13.keep k13_24 hx13
  have bq24 := k13_24.blk bq (by simpa using bq.ne b13 (by decide))
  refine seg_New hd24 (fi := 1) (la := 1) (by omega) (Nat.le_refl _) (by omega) (by omega) fun w26 s k26 hs hseg => ⟨_, _, rfl, ?_⟩
  have bq26 := k26.blk bq24 (by simp)
  refine ref07_New (fi := 1) (by omega) bq26 (by omega) fun w30 t k30 ht bt => ⟨_, _, rfl, ?_⟩
  have k24_30 : Keep [] w24 w30 := k26.trans k30 (by simp)
  have b30 := k24_30.blk b24 (by simp)
  intro J33 hJ33
  refine ⟨fun e => by simp at e, fun _ => ⟨fun e => by simp at e, fun _ => hJ33 _ _ ⟨fun e => by simp at e, fun _ => ?_⟩⟩⟩
  clear hJ33
  refine ⟨_, _, rfl, st b30 (by simp) fun w38 b38 k38 s38 => ⟨_, _, rfl, st b38 (by simp) fun w41 b41 k41 s41 => ?_⟩⟩
  have k30_41 : Keep [w6.heap.size] w30 w41 := k38.trans k41 (by simp)
  have k24_41 : Keep [w6.heap.size] w24 w41 := (k24_30.mono (by simp)).trans k30_41 (by simp)
  have hx24 : ∀ q ∈ d :: bp :: bn :: ([] : List Nat), q ∉ [w6.heap.size] := fun q hq hm => by
    simp only [List.mem_cons, List.not_mem_nil, or_false] at hm
    subst hm
    exact hd24.off b24 (by decide) (by decide) (by decide) hq
  have hd41 := hd24.keep k24_41 hx24
  have b26 := k26.blk b24 (by simp)
  have k26_41 : Keep [w6.heap.size] w26 w41 := (k30.mono (by simp)).trans k30_41 (by simp)
  have hs41 := hseg.keep k26_41 (by simpa using hseg.1.ne b26 (by decide))
  have bq41 := k26_41.blk bq26 (by simpa using bq26.ne b26 (by decide))
  have bt41 := k30_41.blk bt (by simpa using bt.ne b30 (by decide))
  have k7_41 : Keep [w6.heap.size] w7 w41 := ((k7_13.mono (by simp)).trans k13_24 (fun q hq => .inl hq)).trans k24_41 (fun q hq => .inl hq)
  have hne67 : w.heap.size ≠ w6.heap.size := by omega
  have b41h := k7_41.blk b67 (by simpa using hne67)
  refine ⟨_, b41h.cell rfl, _, b41h.cell rfl, ?_⟩
  refine log_Open (hn := 0) (hp := 8) (era := 1) hd41 hs41 (by omega) (by omega) (by omega) (by omega) (by omega) (by omega) (by omega) (by simp) fun w47 l bi ba k47 hl hbi hba hsys => ⟨_, _, rfl, ?_⟩
  have b47h := k47.blk b41h (by simp)
  refine ⟨_, b47h.cell rfl, _, b47h.cell rfl, ref08_Open (n := n) hn (k47.blk bq41 (by simp)) (k47.blk bt41 (by simp)) fun w55 m k55 => ⟨_, _, rfl, ?_⟩⟩
  have b55 := k55.blk (k47.blk b41 (by simp)) (by simp)
  refine ⟨_, _, rfl, st b55 (by simp) fun w60 b60 k60 s60 => ⟨_, _, rfl, st b60 (by simp) fun w63 b63 k63 s63 => ?_⟩⟩
  have k55_63 : Keep [w6.heap.size] w55 w63 := k60.trans k63 (by simp)
  intro J64 hJ64
  have k7_63 : Keep [w6.heap.size] w7 w63 := ((k7_41.trans k47 (by simp)).trans k55 (by simp)).trans k55_63 (fun q hq => .inl hq)
  refine ⟨fun e => by simp at e, fun _ => ⟨_, neq_bool (by kernel_rfl) _ _, hJ64 _ _ ⟨fun e => by simp at e, fun _ => ?_⟩⟩⟩
  refine hR w63 w6.heap.size ⟨d, bp, bn, s, l, bi, ba⟩ ((k6.trans k7 (by simp)).trans k7_63 (by simp [k6.1])) k6.1 (fun q hq => ?_) ⟨_, _, _, b63⟩ fun ptr => ?_
  · have e1 := k7_41.1
    have e2 := k7_13.1
    have e3 := k13_24.1
    simp only [Ad.mu, List.mem_cons, List.not_mem_nil, or_false] at hq
    omega
  exact ((hsys ptr).keep0 k55).keepS k55_63 (sortsX b55)

theorem rig_flushed {x : Nat} {d s : Nat} (hx : RigIs w x d s A.l) (h : Sys w A fw ptr S.lo S) {dur : Nat} (hg : Good S dur) (hws : S.m.ws.length ≤ 1000000) (hpl : S.L.place ≤ S.L.sent + 900)
    (hR : ∀ w' fw' S', Keep (A.mu fw) w w' → (∀ q ∈ fw', q ∈ fw ∨ w.heap.size ≤ q) → Sys w' A fw' ptr S'.lo S' → Fix S S' → S'.L.written = S.L.no → S'.L.sent = S.L.place → Good S' S.L.place → S'.m.ws.length ≤ S.m.ws.length + 4000 → R (.returned (.bool true)) w') :
    Calls P0 f_pollardlaw08_rig_flushed #[.pointer (some ⟨x, 0, none⟩)] w R := by
  obtain ⟨v3, v4, v5, hb⟩ := hx
  refine C_pollardlaw08_rig_flushed ⟨_, _, rfl, _, hb.cell rfl, log_NewFlush fun w6 f k6 hf6 f6 => ⟨_, rfl, fun e => by simp at e, fun _ => ?_⟩⟩
  have h6 := h.keep0 k6
  refine runFlush h6 f6 rfl hg hws hpl fun w9 fw9 S9 F9 k9 sub9 h9 hx9 hwr hsn hg9 hw9 f9 hn he => ⟨rfl, ?_⟩
  refine flush_Upto f9 ⟨_, _, rfl, ?_⟩
  rw [he]
  have hk : Keep (A.mu fw) w w9 := (k6.mono (by simp)).trans k9 (fun q hq => by
    simp only [List.mem_cons] at hq
    rcases hq with rfl | hq
    · exact .inr hf6
    · exact .inl hq)
  exact hR w9.drew fw9 S9 hk.then_drew (fun q hq => (sub9 q hq).imp id (fun g => Nat.le_trans k6.1 g)) (h9.keep0 (Keep.drew _)) hx9 hwr hsn hg9 hw9
end Go.Proofs
