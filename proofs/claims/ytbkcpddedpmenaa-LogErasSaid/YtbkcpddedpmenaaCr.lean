/- Contracts: a Flush's last step; Step. -/
import Derived.Test.YtbkcpddedpmenaaCq
set_option maxRecDepth 100000
namespace Go.Proofs
open Go Go.Vc
variable {w w' : World} {R : Ending → World → Prop} {A : Ad} {fw : List Nat} {ptr : Nat → Nat} {S : SysM}

def SysM.stay (S : SysM) (t : Nat) : SysM := { S with L := { S.L with written := max S.L.written t } }
def SysM.lo (S : SysM) : Nat := min S.L.mark S.L.written

theorem flush_stays (h : Sys w A fw ptr S.lo S) {f : Nat} {F : FlushM} (hf : FlushIs w f A.l F) (hn : S.L.hn ≤ F.ton ∧ F.ton ≤ S.L.no) (hs : S.L.at (F.ton - S.L.hn) ≤ S.L.sent)
    (hR : ∀ w', Keep (f :: A.mu fw) w w' → FlushIs w' f A.l { F with st := .done, n := max S.L.written F.ton, e := 0 } → Sys w' A fw ptr (S.stay F.ton).lo (S.stay F.ton) → R (.returned (.bool true)) w') :
    Calls P0 f_log_Flush_stays #[.pointer (some ⟨f, 0, none⟩)] w R := by
  have hfl : f ∉ A.mu fw := h.offS (sortsF hf) |> fun g hm => g f hm (by simp)
  have hbig := h.at_lt 0
  have hwr := h.bwr
  have hmk := h.bmark
  have hdd : Sys w.drew.drew A fw ptr S.lo S := h.keep0 ((Keep.drew w).then_drew)
  have hb : Blk w.drew A.l _ _ := h.blk
  have fb : Blk w.drew.drew f _ _ := hf
  refine C_log_Flush_stays ⟨_, _, rfl, _, hf.cell rfl, _, _, rfl, _, hb.cell rfl, _, _, rfl, _, hb.cell rfl, fun n11 h11 => ⟨_, _, rfl, _, hdd.blk.cell rfl, _, _, rfl, _, fb.cell rfl, _, _, rfl, st hdd.blk (by simp) fun w20 b20 k20 s20 => ?_⟩⟩
  have e11 : n11 = (S.lo : Int) + 1 := by
    rw [wrap64 (by split <;> omega) (by split <;> omega)] at h11
    unfold SysM.lo
    rw [h11]; split <;> omega
  subst e11
  have emax : (if (F.ton : Int) > (S.L.written : Int) then (F.ton : Int) else (S.L.written : Int)) = ((max S.L.written F.ton : Nat) : Int) := by split <;> omega
  rw [emax] at b20
  have k0_20 : Keep [A.l] w w20 := ((Keep.drew w).then_drew.mono (by simp)).trans k20 (by simp)
  have hmono := LogM.at_mono (L := S.L) (i := S.L.written - S.L.hn) (j := max S.L.written F.ton - S.L.hn) (by omega)
  have s20 : Sys w20 A fw ptr S.lo (S.stay F.ton) := {
    disk := h.disk.keep k0_20 (fun q hq hm => by simp at hm; subst hm; exact h.disk.off h.blk (by decide) (by decide) (by decide) hq)
    seg := h.seg.keep k0_20 (by simpa using h.seg.1.ne h.blk (by decide))
    blk := b20
    maps := by
      obtain ⟨mi, ma, m1, m2, m3⟩ := h.maps
      exact ⟨mi, ma, m1.keep k0_20 (by simp; intro e; exact blk_not_map h.blk (e ▸ m1)), m2.keep k0_20 (by simp; intro e; exact blk_not_map h.blk (e ▸ m2)), ⟨m3.i1, m3.i2, m3.i3, m3.a1, m3.a2⟩⟩
    ne := h.ne
    recs := fun i hi hl => (h.recs i hi hl).step ⟨k0_20.mono (by simp [Ad.mu]), fun q hq => .inl hq⟩
    bmark := h.bmark
    bwr := ⟨by show S.L.hn ≤ max _ _; omega, by show max _ _ ≤ S.L.no; omega⟩
    blo := ⟨h.blo.1, by have := h.blo.2; show S.lo ≤ max _ _; omega⟩
    bsent := ⟨by
      show S.L.at (max S.L.written F.ton - S.L.hn) ≤ S.L.sent
      rcases Nat.le_total S.L.written F.ton with g | g
      · rw [Nat.max_eq_right g]; exact hs
      · rw [Nat.max_eq_left g]; exact h.bsent.1, h.bsent.2⟩
    top := h.top
    bot := h.bot
    laok := h.laok
    sml := h.sml
    mays := h.mays
    kinds := h.kinds
    wsb := h.wsb }
  refine log_trim s20 (by show S.lo ≤ min S.L.mark (max _ _); unfold SysM.lo; omega) fun w22 k22 s22 => ⟨rfl, _, _, rfl, _, s22.blk.cell rfl, ?_⟩
  have k0_22 : Keep (A.mu fw) w w22 := (k0_20.mono (N := A.mu fw) (by simp [Ad.mu])).trans k22 (fun q hq => .inl hq)
  have f22 : FlushIs w22 f A.l F := k0_22.blk hf hfl
  refine flush_end (n := max S.L.written F.ton) (e := 0) f22 fun w27 k27 f27 => ⟨_, rfl, ?_⟩
  exact hR w27 ((k0_22.mono (fun q hq => .inl (by simp [hq]))).trans k27 (by simp)) f27 (s22.keepS k27 (sortsF f22))

theorem uf : ∃ a b c, P0.underlying 24 = some (.func a b c) := by
  have : (match P0.underlying 24 with | some (.func _ _ _) => true | _ => false) = true := by kernel_rfl
  revert this
  cases P0.underlying 24 with
  | none => intro h; cases h
  | some d => cases d <;> intro h <;> first | exact ⟨_, _, _, rfl⟩ | cases h

theorem flush_step_of {f l : Nat} {F : FlushM} (hf : FlushIs w f l F) {g : Nat} (hg : nextV f F.st = .func (.func g) #[.pointer (some ⟨f, 0, none⟩)] #[]) (hc : callableB P0 g = true)
    (h : Calls P0 g #[.pointer (some ⟨f, 0, none⟩)] w (fun e w' => ∃ r : Bool, e = .returned (.bool r) ∧ R (.returned (.bool r)) w')) : Calls P0 f_log_Flush_Step #[.pointer (some ⟨f, 0, none⟩)] w R := by
  refine C_log_Flush_Step ⟨_, _, rfl, _, hf.cell rfl, false, ?_, (fun e => by cases e), fun _ => ⟨_, _, rfl, _, hf.cell rfl, _, _, _, hg, hc, ?_⟩⟩
  · rw [hg]; exact not_nil_func uf
  · exact h

theorem flush_step_done {f l : Nat} {F : FlushM} (hf : FlushIs w f l F) (hd : F.st = .done) (hR : R (.returned (.bool true)) w) : Calls P0 f_log_Flush_Step #[.pointer (some ⟨f, 0, none⟩)] w R := by
  refine C_log_Flush_Step ⟨_, _, rfl, _, hf.cell rfl, true, ?_, fun _ => hR, fun e => by cases e⟩
  rw [hd]; exact nil_func uf

theorem c34 : callableB P0 f_log_Flush_begin = true := by kernel_rfl
theorem c44 : callableB P0 f_log_Flush_work = true := by kernel_rfl
theorem c50 : callableB P0 f_log_Flush_stays = true := by kernel_rfl
end Go.Proofs
