/- Contracts: the log's small functions. -/
import Derived.Test.YtbkcpddedpmenaaCl
set_option maxRecDepth 100000
namespace Go.Proofs
open Go Go.Vc
variable {w w' : World} {R : Ending → World → Prop} {A : Ad} {fw : List Nat} {ptr : Nat → Nat} {lo : Nat} {S : SysM}

theorem um : P0.underlying T_map_int_ptr_log_record = some (.map T_int T_ptr_log_record) := by kernel_rfl
theorem ui : P0.underlying T_int = some (.int .i64) := by kernel_rfl
theorem zp : (P0.info? T_ptr_log_record).bind (·.zero) = some (.pointer none) := by kernel_rfl

theorem MapIs.heap {w w' : World} {r : Nat} {m : List (Int × Value)} (h : MapIs w r m) (e : w'.heap[r]? = w.heap[r]?) : MapIs w' r m := by
  obtain ⟨es, clk, h1, h2⟩ := h
  exact ⟨es, clk, by rw [e]; exact h1, h2⟩

theorem log_Open {d bp bn s n fi la hn hp era : Nat} {m : DiskM} (hd : DiskIs w d bp bn fw n m) (hs : SegIs w s d ((n - 8) / 32) fi la) (h1 : 8 * fi ≤ hp) (h2 : hp ≤ 8 * (fi + (n - 8) / 32)) (h3 : 1 ≤ era ∧ era ≤ 4294967295) (h4 : hn ≤ 1000000000)
    (h5 : hp ≤ 8 * la) (h6 : la ≤ fi + (n - 8) / 32) (h7 : fi ≤ 1000000000) (h8 : m.ws.length ≤ 100000000)
    (hR : ∀ w' l bi ba, Keep [] w w' → w.heap.size ≤ l → w.heap.size ≤ bi → w.heap.size ≤ ba → (∀ ptr, Sys w' ⟨d, bp, bn, s, l, bi, ba⟩ fw ptr hn ⟨n, m, fi, la, ⟨era, hn, hp, [], hn, hn, hp⟩⟩) → R (.returned (.tuple #[.pointer (some ⟨l, 0, none⟩), .int .i64 0])) w') :
    Calls P0 f_log_Open #[.pointer (some ⟨d, 0, none⟩), .pointer (some ⟨s, 0, none⟩), .agg #[.int .i64 hn, .int .i64 hp], .int .i64 era] w R := by
  have g := hs.2
  refine C_log_Open ?_
  refine al (c := [.int .i64 hn, .int .i64 hp]) fun w6 b6 k6 s6 => ?_
  have hs6 := hs.keep k6 (by simp)
  refine seg_First hs6 ⟨_, rfl, fun n10 h10 => seg_First hs6 ⟨_, rfl, seg_Slots hs6 ⟨_, rfl, fun n17 h17 n18 h18 => ?_⟩⟩⟩
  rw [wrap64 (by omega) (by omega)] at h10 h17
  rw [wrap64 (by omega) (by omega)] at h18
  refine ⟨_, b6.cell rfl, (fun e => by have := of_decide_eq_true e; omega), fun _ => ⟨_, b6.cell rfl, (fun e => by have := of_decide_eq_true e; omega), fun _ => ⟨_, b6.cell rfl, (fun e => by have := of_decide_eq_true e; omega), fun _ =>
    ⟨_, b6.cell rfl, (fun e => by have := of_decide_eq_true e; omega), fun _ => ⟨(fun e => by have := of_decide_eq_true e; omega), fun _ => ⟨(fun e => by have := of_decide_eq_true e; omega), fun _ => ?_⟩⟩⟩⟩⟩⟩
  intro w23 h23
  have m23 : MapIs w23 w6.heap.size [] := by subst h23; exact MapIs.new _
  have k23 : Keep [] w6 w23 := by subst h23; exact Keep.alloc _ _
  have s23 : w23.heap.size = w6.heap.size + 1 := by subst h23; show (w6.heap.push _).size = _; simp
  clear h23
  intro w24 h24
  have m24 : MapIs w24 w23.heap.size [] := by subst h24; exact MapIs.new _
  have k24 : Keep [] w23 w24 := by subst h24; exact Keep.alloc _ _
  have s24 : w24.heap.size = w23.heap.size + 1 := by subst h24; show (w23.heap.push _).size = _; simp
  clear h24
  have b24 := k24.blk (k23.blk b6 (by simp)) (by simp)
  refine ⟨_, b24.cell rfl, _, b24.cell rfl, _, b24.cell rfl, _, b24.cell rfl, _, b24.cell rfl, _, b24.cell rfl, ?_⟩
  refine al (c := [.pointer (some ⟨d, 0, none⟩), .pointer (some ⟨s, 0, none⟩), .int .i64 era, .map (some w6.heap.size), .map (some w23.heap.size), .int .i64 hn, .int .i64 hp, .int .i64 hn, .int .i64 hp, .int .i64 hn, .int .i64 hp]) fun w35 b35 k35 s35 => ?_
  have kk : Keep [] w w35 := (((k6.trans k23 (by simp)).trans k24 (by simp)).trans k35 (by simp))
  refine hR w35 w24.heap.size w6.heap.size w23.heap.size kk (by omega) (by omega) (by omega) fun ptr => ?_
  exact {
    disk := hd.keep kk (by simp)
    seg := hs.keep kk (by simp)
    blk := by simpa [LogM.no, LogM.place, LogM.at, pN] using b35
    maps := ⟨[], [], (m23.keep k24 (by simp)).keep k35 (by simp), m24.keep k35 (by simp), ⟨by simp, by simp [mfind], by simp, by simp, by simp [mfind]⟩⟩
    ne := by simp only; omega
    recs := by simp
    bmark := by simp [LogM.no]
    bwr := by simp [LogM.no]
    blo := by simp
    bsent := by simp [LogM.at, LogM.place, pN]
    top := by simp only [LogM.place, pN_nil, SysM.sl]; omega
    bot := h1
    laok := ⟨h5, h6⟩
    sml := ⟨h7, h4, h3⟩
    mays := by simp [LogM.parts]
    kinds := by simp
    wsb := h8 }

theorem log_Head (h : Sys w A fw ptr lo S) (hR : ∀ w', Keep [] w w' → R (.returned (.agg #[.int .i64 S.L.no, .int .i64 S.L.place])) w') : Calls P0 f_log_Log_Head #[.pointer (some ⟨A.l, 0, none⟩)] w R := by
  refine C_log_Log_Head ?_
  refine al (c := [.int .i64 0, .int .i64 0]) fun w2 b2 k2 s2 => ?_
  have hb := k2.blk h.blk (by simp)
  refine ⟨_, _, rfl, _, hb.cell rfl, _, hb.cell rfl, st b2 (by simp) fun w3 b3 k3 s3 => st b3 (by simp) fun w4 b4 k4 s4 => ⟨_, b4.cell rfl, _, b4.cell rfl, ?_⟩⟩
  exact hR w4 ((k2.trans k3 (by simp)).trans k4 (by simp))
theorem log_Mark (h : Sys w A fw ptr lo S) (hR : ∀ w', Keep [] w w' → R (.returned (.agg #[.int .i64 S.L.mark, .int .i64 (S.L.at (S.L.mark - S.L.hn))])) w') : Calls P0 f_log_Log_Mark #[.pointer (some ⟨A.l, 0, none⟩)] w R := by
  refine C_log_Log_Mark ?_
  refine al (c := [.int .i64 0, .int .i64 0]) fun w2 b2 k2 s2 => ?_
  have hb := k2.blk h.blk (by simp)
  refine ⟨_, _, rfl, _, hb.cell rfl, _, hb.cell rfl, st b2 (by simp) fun w3 b3 k3 s3 => st b3 (by simp) fun w4 b4 k4 s4 => ⟨_, b4.cell rfl, _, b4.cell rfl, ?_⟩⟩
  exact hR w4 ((k2.trans k3 (by simp)).trans k4 (by simp))
theorem log_Written (h : Sys w A fw ptr lo S) (hR : R (.returned (.int .i64 S.L.written)) w) : Calls P0 f_log_Log_Written #[.pointer (some ⟨A.l, 0, none⟩)] w R :=
  C_log_Log_Written ⟨_, _, rfl, _, h.blk.cell rfl, hR⟩
theorem log_Held (h : Sys w A fw ptr lo S) (hR : R (.returned (.int .i64 ((S.L.no - lo : Nat) : Int))) w) : Calls P0 f_log_Log_Held #[.pointer (some ⟨A.l, 0, none⟩)] w R := by
  obtain ⟨mi, ma, m1, m2, m3⟩ := h.maps
  refine C_log_Log_Held ⟨_, _, rfl, _, h.blk.cell rfl, _, Go.Vc.run_len_map um m1, ?_⟩
  have := m3.i3
  have e : mi.length = S.L.no - lo := by unfold LogM.no; omega
  rw [e]; exact hR

def roomOf (S : SysM) (kind : Int) : Int := 8 * ((S.fi : Int) + S.sl) - (if kind = 4 ∨ kind = 5 then 0 else if kind = 1 then 40 else 16)
theorem log_room (h : Sys w A fw ptr lo S) {k : Int} (hR : ∀ w', Keep [] w w' → R (.returned (.int .i64 (roomOf S k))) w') : Calls P0 f_log_Log_room #[.pointer (some ⟨A.l, 0, none⟩), .int .i64 k] w R := by
  have hb : Blk w.drew A.l _ _ := h.blk
  have hs : SegIs w.drew A.s A.d S.sl S.fi S.la := h.seg
  have g := hs.2
  have g2 := h.sml
  refine C_log_Log_room ⟨_, _, rfl, _, hb.cell rfl, _, _, rfl, _, hb.cell rfl, seg_First hs ⟨_, rfl, hb.cell rfl, seg_Slots hs ⟨_, rfl, fun n15 h15 n16 h16 => ?_⟩⟩⟩
  rw [wrap64 (by omega) (by omega)] at h15
  rw [wrap64 (by omega) (by omega)] at h16
  subst h15
  have hR' := hR w.drew (Keep.drew w)
  intro J hJ
  have hj : J (k == 4 || k == 5) w.drew := by
    refine hJ _ _ ⟨fun e => ?_, fun e => ⟨fun e1 n20 h20 n21 h21 => ?_, fun e1 n22 h22 => ?_⟩⟩
    · have : k = 4 ∨ k = 5 := by simpa using e
      have e2 : n16 = roomOf S k := by unfold roomOf; rw [if_pos this]; omega
      rw [e2]; exact hR'
    · have h1 : ¬ (k = 4 ∨ k = 5) := by simpa using e
      have h2 : k = 1 := by simpa using e1
      rw [wrap64 (by omega) (by omega)] at h20
      rw [wrap64 (by omega) (by omega)] at h21
      have e2 : n21 = roomOf S k := by unfold roomOf; rw [if_neg h1, if_pos h2]; omega
      rw [e2]; exact hR'
    · have h1 : ¬ (k = 4 ∨ k = 5) := by simpa using e
      have h2 : ¬ k = 1 := by simpa using e1
      rw [wrap64 (by omega) (by omega)] at h22
      have e2 : n22 = roomOf S k := by unfold roomOf; rw [if_neg h1, if_neg h2]; omega
      rw [e2]; exact hR'
  exact ⟨fun e => by rw [e] at hj ⊢; exact hj, fun e => by rw [e] at hj; exact hj⟩

theorem log_record_end {p : Nat} {no kind place : Int} {v : Value} {pa : Option Addr} {pl pc : Nat} (h : Blk w p [.int .i64 no, .int .i64 kind, .int .i64 place, v, .slice pa pl pc] T_log_record) (hp : 0 ≤ place ∧ place ≤ 1000000000000000) (hl : pl ≤ 1000000000)
    (hR : ∀ w', Keep [] w w' → R (.returned (.agg #[.int .i64 no, .int .i64 (place + pl)])) w') : Calls P0 f_log_record_end #[.pointer (some ⟨p, 0, none⟩)] w R := by
  refine C_log_record_end ?_
  refine al (c := [.int .i64 0, .int .i64 0]) fun w2 b2 k2 s2 => ?_
  have hb : Blk w2.drew p _ _ := k2.blk h (by simp)
  refine ⟨_, _, rfl, _, hb.cell rfl, _, _, rfl, _, hb.cell rfl, _, _, rfl, _, _, _, hb.cell rfl, fun n12 h12 => st (w := w2.drew) b2 (by simp) fun w3 b3 k3 s3 => st b3 (by simp) fun w4 b4 k4 s4 => ⟨_, b4.cell rfl, _, b4.cell rfl, ?_⟩⟩
  rw [wrap64 (by omega) (by omega)] at h12
  subst h12
  exact hR w4 ((k2.then_drew.trans k3 (by simp [show w2.drew.heap.size = w2.heap.size from rfl])).trans k4 (by simp))

theorem parts_get {L : LogM} {i j : Nat} (h : i < L.es.length) {xs : List PB} (hx : xs.map PB.p = partsOf (L.hn + i + 1 : Nat) (L.at i) L.era (UInt8.ofNat L.es[i].1 :: L.es[i].2)) (hj : j < manyE L.es[i]) :
    ∃ hj' : j < xs.length, (L.parts i)[j]? = some xs[j].p ∧ xs.length = manyE L.es[i] := by
  have hl : xs.length = manyE L.es[i] := by
    have := congrArg List.length hx
    simpa [partsOf, manyE] using this
  refine ⟨by omega, ?_, hl⟩
  unfold LogM.parts
  rw [List.getElem?_eq_getElem h]
  simp only
  rw [← hx, List.getElem?_map, List.getElem?_eq_getElem (by omega)]
  rfl

theorem log_block (h : Sys w A fw ptr lo S) {i j : Nat} (hi : i < S.L.es.length) (hlo : lo ≤ S.L.hn + i) (hj : j < manyE S.L.es[i])
    (hR : ∀ w' (x : PB), Keep [] w w' → (S.L.parts i)[j]? = some x.p → HasB w' x.a x.p.data → Off x.a (A.mu fw) → Lt w x.a → R (.returned x.val) w') :
    Calls P0 f_log_Log_block #[.pointer (some ⟨A.l, 0, none⟩), .int .i64 (S.L.at i + j : Nat)] w R := by
  obtain ⟨mi, ma, m1, m2, m3⟩ := h.maps
  refine C_log_Log_block ?_
  refine al (c := Z6) fun w3 b3 k3 s3 => ?_
  have hb := k3.blk h.blk (by simp)
  have m2' := m2.keep k3 (by simp)
  obtain ⟨ba, bc, pa, pc, xs, r1, r2, r3, r4, r5, r6, r7, r8, r9, r10⟩ := h.recs i hi hlo
  obtain ⟨hj', hp, hl⟩ := parts_get hi r9 hj
  have r1' := k3.blk r1 (by simp)
  have hlk := run_lookup_int (ok := false) um ui zp m2' (k := ((S.L.at i + j : Nat) : Int))
  rw [m3.a1 i j hi hlo hj] at hlk
  have htop := h.top
  have hat := S.L.at_le (i + 1)
  rw [LogM.at_succ hi] at hat
  have hg := h.seg.2
  have hsml := h.sml
  refine ⟨_, _, rfl, _, hb.cell rfl, _, hlk, _, _, rfl, _, _, _, (show Blk w3.drew _ _ _ from r1').cell rfl, _, _, rfl, _, (show Blk w3.drew _ _ _ from r1').cell rfl, fun n14 h14 => ?_⟩
  rw [wrap64 (by omega) (by omega)] at h14
  have h14 : n14 = (j : Int) := by omega
  subst h14
  rw [Int.toNat_natCast]
  obtain ⟨b15, o15, rfl, hr⟩ : ∃ b o, pa = some ⟨b, o, none⟩ ∧ Rdb w b o (xs.flatMap PB.cells) := by
    rcases r6 with hx | hx
    · have := cells_len xs
      rw [hx] at this; simp at this
      omega
    · exact hx
  have hc : ∀ k v, (xs[j].cells)[k]? = some v → w3.drew.cell? ⟨b15, o15 + j * 6 + k, none⟩ = some v := fun k v hv => by
    have := (hr.keep k3 (by simp)) _ _ (cells_at xs j hj' k v hv)
    rw [Nat.add_assoc]; exact this
  refine ⟨_, _, rfl, by omega, by omega, _, hc 0 _ rfl, _, hc 1 _ rfl, _, hc 2 _ rfl, _, hc 3 _ rfl, _, hc 4 _ rfl, _, _, _, hc 5 _ rfl, ?_⟩
  refine st6 (w := w3.drew) b3 rfl fun w4 b4 k4 _ => ?_
  refine ⟨_, b4.cell rfl, _, b4.cell rfl, _, b4.cell rfl, _, b4.cell rfl, _, b4.cell rfl, _, _, _, b4.cell rfl, ?_⟩
  obtain ⟨g1, g2, g3⟩ := r10 xs[j] (by simp)
  have kk : Keep [] w w4 := k3.then_drew.trans k4 (by simp)
  exact hR w4 xs[j] kk hp (g1.keep kk (Off.nil _)) g2 g3
end Go.Proofs
