/- Contracts: Flush. -/
import Derived.Test.YtbkcpddedpmenaaCo
set_option maxRecDepth 100000
namespace Go.Proofs
open Go Go.Vc
variable {w w' : World} {R : Ending → World → Prop} {A : Ad} {fw : List Nat} {ptr : Nat → Nat} {lo : Nat} {S : SysM}

/-- The system with its disk turned. -/
theorem Sys.withDisk (h : Sys w A fw ptr lo S) {fw' : List Nat} {m' : DiskM} (hk : Keep (A.d :: A.bp :: A.bn :: fw) w w') (hs : ∀ q ∈ fw', q ∈ fw ∨ w.heap.size ≤ q) (hd : DiskIs w' A.d A.bp A.bn fw' S.n m') (hw : m'.ws.length ≤ 100000000) :
    Sys w' A fw' ptr lo { S with m := m' } := by
  obtain ⟨mi, ma, m1, m2, m3⟩ := h.maps
  have hst : Stp w (A.mu fw) w' (A.mu fw') := ⟨hk.mono (fun q hq => .inl (mu_disk q hq)), mu_sub hs⟩
  exact { h with
    disk := hd
    seg := h.seg.keep hk (h.disk.off h.seg.1 (by decide) (by decide) (by decide))
    blk := hk.blk h.blk (h.disk.off h.blk (by decide) (by decide) (by decide))
    maps := ⟨mi, ma, m1.keep hk (h.disk.offMap m1), m2.keep hk (h.disk.offMap m2), m3⟩
    recs := fun i hi hl => (h.recs i hi hl).step hst
    wsb := hw }

inductive FS where | start | work | stays | done
structure FlushM where
  st : FS
  ton : Nat
  top : Nat
  n : Nat
  e : Nat
def nextV (f : Nat) : FS → Value
  | .start => .func (.func f_log_Flush_begin) #[.pointer (some ⟨f, 0, none⟩)] #[]
  | .work => .func (.func f_log_Flush_work) #[.pointer (some ⟨f, 0, none⟩)] #[]
  | .stays => .func (.func f_log_Flush_stays) #[.pointer (some ⟨f, 0, none⟩)] #[]
  | .done => .nilFunc
def FlushIs (w : World) (f l : Nat) (F : FlushM) : Prop :=
  Blk w f [.pointer (some ⟨l, 0, none⟩), nextV f F.st, .int .i64 F.ton, .int .i64 F.top, .int .i64 F.n, .int .i64 F.e] T_log_Flush

theorem Sys.offF (h : Sys w A fw ptr lo S) {f l : Nat} {F : FlushM} (hf : FlushIs w f l F) : f ∉ A.mu fw := h.off hf (by decide) (by decide) (by decide) (by decide) (by decide)
theorem log_NewFlush {l : Nat} (hR : ∀ w' f, Keep [] w w' → w.heap.size ≤ f → FlushIs w' f l ⟨.start, 0, 0, 0, 1⟩ → R (.returned (.pointer (some ⟨f, 0, none⟩))) w') : Calls P0 f_log_Log_NewFlush #[.pointer (some ⟨l, 0, none⟩)] w R := by
  refine C_log_Log_NewFlush ?_
  refine al (c := [.pointer (some ⟨l, 0, none⟩), .nilFunc, .int .i64 0, .int .i64 0, .int .i64 0, .int .i64 1]) fun w2 b2 k2 s2 => ⟨_, _, rfl, st b2 (by simp) fun w3 b3 k3 s3 => ?_⟩
  exact hR w3 _ (k2.trans k3 (by simp)) (Nat.le_refl _) b3

theorem flush_end {f l : Nat} {F : FlushM} (hf : FlushIs w f l F) {n e : Nat} (hR : ∀ w', Keep [f] w w' → FlushIs w' f l { F with st := .done, n := n, e := e } → R (.returned (.bool true)) w') :
    Calls P0 f_log_Flush_end #[.pointer (some ⟨f, 0, none⟩), .int .i64 n, .int .i64 e] w R := by
  refine C_log_Flush_end ⟨_, _, rfl, st hf (by simp) fun w2 b2 k2 s2 => ⟨_, _, rfl, st b2 (by simp) fun w3 b3 k3 s3 => ⟨_, _, rfl, st b3 (by simp) fun w4 b4 k4 s4 => ?_⟩⟩⟩
  exact hR w4 ((k2.trans k3 (by simp)).trans k4 (by simp)) b4

theorem flush_Upto {f l : Nat} {F : FlushM} (hf : FlushIs w f l F) (hR : R (.returned (.tuple #[.int .i64 F.n, .int .i64 F.e])) w.drew) : Calls P0 f_log_Flush_Upto #[.pointer (some ⟨f, 0, none⟩)] w R := by
  have hb : Blk w.drew f _ _ := hf
  exact C_log_Flush_Upto ⟨_, _, rfl, _, hb.cell rfl, _, _, rfl, _, hb.cell rfl, hR⟩

end Go.Proofs
