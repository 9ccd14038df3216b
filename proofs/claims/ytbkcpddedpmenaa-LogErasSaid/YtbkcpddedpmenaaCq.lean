/- Contracts: a Flush's steps. -/
import Derived.Test.YtbkcpddedpmenaaCp
set_option maxRecDepth 100000
namespace Go.Proofs
open Go Go.Vc
variable {w w' : World} {R : Ending → World → Prop} {A : Ad} {fw : List Nat} {ptr : Nat → Nat} {lo : Nat} {S : SysM}

theorem sortsF {f l : Nat} {F : FlushM} (hf : FlushIs w f l F) : Sorts w [f] := fun q hq => by
  simp at hq; subst hq
  exact ⟨_, _, hf, by decide, by decide, by decide, by decide, by decide, by decide, by decide⟩
theorem sorts_cons {a : Nat} {M : List Nat} {c : List Value} {T : TypeId} (hb : Blk w a c T) (hT : T ≠ T_uint8 ∧ T ≠ T_log_record ∧ T ≠ T_api_Part ∧ T ≠ T_disk_Disk ∧ T ≠ T_disk_write ∧ T ≠ T_seg_Segs ∧ T ≠ T_log_Log) (h : Sorts w M) : Sorts w (a :: M) := fun q hq => by
  simp only [List.mem_cons] at hq
  rcases hq with rfl | hq
  · exact ⟨_, _, hb, hT⟩
  · exact h q hq

theorem flush_begin (h : Sys w A fw ptr lo S) {f : Nat} {F : FlushM} (hf : FlushIs w f A.l F)
    (h0 : ∀ w', S.L.no ≤ S.L.written → Keep [f] w w' → FlushIs w' f A.l ⟨.done, S.L.no, S.L.place, S.L.written, 0⟩ → Sys w' A fw ptr lo S → R (.returned (.bool true)) w')
    (h1 : ∀ w', S.L.written < S.L.no → Keep [f] w w' → FlushIs w' f A.l ⟨.work, S.L.no, S.L.place, F.n, F.e⟩ → Sys w' A fw ptr lo S → R (.returned (.bool false)) w') :
    Calls P0 f_log_Flush_begin #[.pointer (some ⟨f, 0, none⟩)] w R := by
  have hne : A.l ≠ f := h.blk.ne hf (by decide)
  refine C_log_Flush_begin ⟨_, _, rfl, _, hf.cell rfl, _, _, rfl, _, h.blk.cell rfl, _, h.blk.cell rfl, _, _, rfl, st hf (by simp) fun w13 b13 k13 s13 => st b13 (by simp) fun w14 b14 k14 s14 => ⟨_, _, rfl, st b14 (by simp) fun w17 b17 k17 s17 => ?_⟩⟩
  have k0_17 : Keep [f] w w17 := (k13.trans k14 (by simp)).trans k17 (by simp)
  have f17 : FlushIs w17 f A.l ⟨.work, S.L.no, S.L.place, F.n, F.e⟩ := b17
  have h17 := h.keepS k0_17 (sortsF hf)
  have hb : Blk w17.drew A.l _ _ := h17.blk
  have fb : Blk w17.drew f _ _ := f17
  refine ⟨_, _, rfl, _, fb.cell rfl, _, _, rfl, _, fb.cell rfl, _, _, rfl, _, hb.cell rfl, fun e => ?_, fun e => ?_⟩
  · have e : (S.L.no : Int) ≤ S.L.written := of_decide_eq_true e
    refine ⟨_, _, rfl, _, fb.cell rfl, _, _, rfl, _, hb.cell rfl, flush_end (e := 0) (show FlushIs w17.drew f A.l _ from f17) fun w' k' f' => ⟨_, rfl, ?_⟩⟩
    exact h0 w' (by omega) ((k0_17.then_drew).trans k' (by simp)) f' ((h17.keep0 (Keep.drew _)).keepS k' (sortsF (show FlushIs w17.drew f A.l _ from f17)))
  · have e : ¬ (S.L.no : Int) ≤ S.L.written := of_decide_eq_false e
    exact h1 w17.drew (by omega) k0_17.then_drew f17 (h17.keep0 (Keep.drew _))

def SysM.sync (S : SysM) : SysM := { S with m := ⟨S.m.nw, S.m.nw, []⟩ }
def SysM.wr (S : SysM) (p : Part) : SysM :=
  { S with m := writeN S.m (secOf S.sl S.L.sent) (encodeL p) 4, la := if S.L.sent = 8 * S.la then S.la + 1 else S.la, L := { S.L with sent := S.L.sent + 1 } }

theorem find_block {L : LogM} {q : Nat} (h1 : L.hp ≤ q) (h2 : q < L.place) : ∃ i j, ∃ h : i < L.es.length, j < manyE L.es[i] ∧ q = L.at i + j := by
  have key : ∀ n, n ≤ L.es.length → q < L.at n → ∃ i j, ∃ h : i < L.es.length, j < manyE L.es[i] ∧ q = L.at i + j := by
    intro n
    induction n with
    | zero => intro _ h; simp [LogM.at, pN] at h; omega
    | succ n ih =>
      intro hn hq
      by_cases hlt : q < L.at n
      · exact ih (by omega) hlt
      · have e := LogM.at_succ (L := L) (i := n) (by omega)
        exact ⟨n, q - L.at n, by omega, by omega, by omega⟩
  exact key L.es.length (Nat.le_refl _) (by rw [L.at_len]; exact h2)

theorem partsOf_place {no place era : Int} {b : List UInt8} {j : Nat} {p : Part} (h : (partsOf no place era b)[j]? = some p) : p.place = place + j ∧ j < manyOf b.length := by
  simp only [partsOf, List.getElem?_map] at h
  cases hri : (List.range (manyOf b.length))[j]? with
  | none => rw [hri] at h; cases h
  | some i' =>
    rw [hri] at h
    simp only [Option.map_some, Option.some.injEq] at h
    obtain ⟨h1, h2⟩ := List.getElem?_eq_some_iff.1 hri
    have : i' = j := by simpa using h2.symm
    subst this
    subst h
    exact ⟨rfl, by simpa using h1⟩

theorem flush_work (h : Sys w A fw ptr lo S) {f : Nat} {F : FlushM} (hf : FlushIs w f A.l F) (htop : F.top ≤ S.L.place) (hws : S.m.ws.length ≤ 90000000)
    (h0 : ∀ w', F.top ≤ S.L.sent → Keep (f :: A.mu fw) w w' → FlushIs w' f A.l { F with st := .stays } → Sys w' A [] ptr lo S.sync → R (.returned (.bool false)) w')
    (h1 : ∀ w' fw' i j (hi : i < S.L.es.length) p, S.L.sent < F.top → S.L.sent = S.L.at i + j → j < manyE S.L.es[i] → (S.L.parts i)[j]? = some p → Keep (f :: A.mu fw) w w' → (∀ q ∈ fw', q ∈ fw ∨ w.heap.size ≤ q) → FlushIs w' f A.l F → Sys w' A fw' ptr lo (S.wr p) → R (.returned (.bool false)) w') :
    Calls P0 f_log_Flush_work #[.pointer (some ⟨f, 0, none⟩)] w R := by
  have hb : Blk w.drew A.l _ _ := h.blk
  have fb : Blk w.drew f _ _ := hf
  have hfl : f ∉ A.mu fw := h.offS (sortsF hf) |> fun g hm => g f hm (by simp)
  refine C_log_Flush_work ⟨_, _, rfl, _, hf.cell rfl, _, _, rfl, _, hb.cell rfl, _, _, rfl, _, fb.cell rfl, fun e => ?_, fun e => ?_⟩
  · have e := of_decide_eq_true e
    refine ⟨_, _, rfl, _, hb.cell rfl, disk_Sync (h.disk.keep (Keep.drew w) (by simp)) fun w15 k15 d15 => ⟨_, rfl, fun e => by simp at e, fun _ => ?_⟩⟩
    have k0_15 : Keep (A.d :: A.bp :: A.bn :: fw) w w15 := ((Keep.drew w).mono (by simp)).trans k15 (fun q hq => .inl hq)
    have f15 : FlushIs w15 f A.l F := k0_15.blk hf (fun hm => hfl (mu_disk _ hm))
    refine ⟨_, _, rfl, st f15 (by simp) fun w22 b22 k22 s22 => ?_⟩
    have s15 := h.withDisk k0_15 (fw' := []) (by simp) d15 (by simp)
    refine h0 w22 (by omega) ?_ b22 (s15.keepS k22 (sortsF f15))
    exact ((k0_15.mono (N := f :: A.mu fw) (fun q hq => .inl (by simp [mu_disk q hq]))).trans k22 (by simp))
  · have e := of_decide_eq_false e
    have hlt : S.L.sent < F.top := by omega
    intro J hJ
    have hbd : Blk w.drew.drew A.l _ _ := h.blk
    have hsd : SegIs w.drew.drew A.s A.d S.sl S.fi S.la := h.seg
    have hla := h.laok
    have hbot := h.bot
    have htp := h.top
    have hsent := h.bsent
    have hsg := h.seg.2
    have hwr := h.bwr
    have hblo := h.blo
    have hnoe : S.L.no = S.L.hn + S.L.es.length := rfl
    have hsml := h.sml
    have hhp : S.L.hp ≤ S.L.at (S.L.written - S.L.hn) := Nat.le_add_right _ _
    obtain ⟨i, j, hi, hj, hij⟩ := find_block (L := S.L) (q := S.L.sent) (by omega) (by omega)
    have hloi : lo ≤ S.L.hn + i := by
      rcases Nat.lt_or_ge i (S.L.written - S.L.hn) with hc | hc
      · have e1 := LogM.at_mono (L := S.L) (i := i + 1) (j := S.L.written - S.L.hn) hc
        have e2 := LogM.at_succ hi
        omega
      · omega
    have hbig := (h.at_lt i)
    -- with a segment for it
    have main : ∀ w24 la', Keep [A.s] w w24 → SegIs w24 A.s A.d S.sl S.fi la' → la' = (if S.L.sent = 8 * S.la then S.la + 1 else S.la) → J w24 := by
      intro w24 la' k24 hs24 hla'
      refine hJ w24 ?_
      clear hJ
      have hlaw : S.L.sent < 8 * la' := by rw [hla']; split <;> omega
      have s24 : Sys w24 A fw ptr lo { S with la := la' } := { h with
        disk := h.disk.keep k24 (fun q hq hm => by simp at hm; subst hm; exact h.disk.off h.seg.1 (by decide) (by decide) (by decide) hq)
        seg := hs24
        blk := k24.blk h.blk (by simpa using h.blk.ne h.seg.1 (by decide))
        maps := by
          obtain ⟨mi, ma, m1, m2, m3⟩ := h.maps
          exact ⟨mi, ma, m1.keep k24 (by simp; intro e; exact blk_not_map h.seg.1 (e ▸ m1)), m2.keep k24 (by simp; intro e; exact blk_not_map h.seg.1 (e ▸ m2)), m3⟩
        recs := fun i hi hl => (h.recs i hi hl).step ⟨k24.mono (by simp [Ad.mu]), fun q hq => .inl hq⟩
        laok := ⟨by show S.L.sent ≤ 8 * la'; omega, by show la' ≤ S.fi + S.sl; rw [hla']; split <;> omega⟩ }
      have s24d := s24.keep0 (Keep.drew w24)
      refine ⟨_, _, rfl, _, s24d.blk.cell rfl, _, _, rfl, _, s24d.blk.cell rfl, ?_⟩
      have hcall := log_block (R := fun e31 w32 => ∃ r33 : Int, ∃ r34 : Int, ∃ r35 : Int, ∃ r36 : Int, ∃ r37 : Int, ∃ (r38a : Option Addr) (r38l r38c : Nat), e31 = .returned (.agg #[(.int .i64 r33), (.int .i64 r34), (.int .i64 r35), (.int .i64 r36),
        (.int .i64 r37), (.slice r38a r38l r38c)]) ∧ w32.cell? ⟨A.l, 0 + 1, none⟩ = some (.pointer (some ⟨A.s, 0, none⟩)) ∧ Calls Try.prog f_seg_Segs_Write #[(.pointer (some ⟨A.s, 0, none⟩)), (.agg #[(.int .i64 r33), (.int .i64 r34), (.int .i64 r35), (.int .i64 r36), (.int .i64 r37),
        (.slice r38a r38l r38c)])] w32 (fun e39 w40 => ∃ r41 : Int, e39 = .returned (.int .i64 r41) ∧ ((r41 != (0 : Int)) = true → Calls Try.prog f_log_Flush_end #[(.pointer (some ⟨f, 0, none⟩)), (.int .i64 (0 : Int)), (.int .i64 r41)] w40 (fun e42 w43 => ∃ r44 : Bool, e42 = .returned (.bool r44) ∧
        R (.returned (.bool r44)) w43)) ∧ ((r41 != (0 : Int)) = false → ∃ b45 o46, some ⟨A.l, 0, none⟩ = some (⟨b45, o46, none⟩ : Addr) ∧ ∃ sent47 : Int, w40.cell? ⟨b45, o46 + 10, none⟩ = some (.int .i64 sent47) ∧ ∀ n48 : Int, n48 = (IntKind.wrap .i64 (sent47 + (1 : Int))) → ∃ b49 o50, some ⟨A.l, 0, none⟩ = some (⟨b49, o50, none⟩ : Addr) ∧ Wr w40 ⟨b49,
        o50 + 10, none⟩ ∧ ∀ w51, w51 = w40.setCell ⟨b49, o50 + 10, none⟩ (.int .i64 n48) → R (.returned (.bool false)) w51))) s24d hi hloi hj (fun w32 x k32 hx hxd hxo hxl => ?_)
      · rw [hij]; exact hcall
      have s32 := s24d.keep0 k32
      have hxp : x.p.place = S.L.sent := by
        have hx' : (S.L.parts i)[j]? = some x.p := hx
        unfold LogM.parts at hx'
        rw [List.getElem?_eq_getElem hi] at hx'
        have := (partsOf_place hx').1
        omega
      have hmay : mayB x.p = true := h.mays i x.p (List.mem_of_getElem? hx)
      refine ⟨_, _, _, _, _, _, _, _, rfl, s32.blk.cell rfl, ?_⟩
      refine seg_Write s32.disk s32.seg rfl x hxd hmay (by show 8 * (S.fi : Int) ≤ _; omega) (by show _ < 8 * (la' : Int); omega) (by show S.m.ws.length + 4 ≤ _; omega) fun w40 fw40 k40 f40 d40 => ⟨_, rfl, fun e => by simp at e, fun _ => ?_⟩
      have hxn : x.p.place.toNat = S.L.sent := by omega
      rw [hxn] at d40
      have s40 := s32.withDisk k40 f40 d40 (by
        show (S.m.ws ++ _).length ≤ _
        simp; omega)
      refine ⟨_, _, rfl, _, s40.blk.cell rfl, fun n48 h48 => ⟨_, _, rfl, st s40.blk (by simp) fun w51 b51 k51 s51 => ?_⟩⟩
      have k0_24d : Keep [A.s] w w24.drew := k24.then_drew
      have k0_32 : Keep [A.s] w w32 := k0_24d.trans k32 (by simp)
      have k0_40 : Keep (A.mu fw) w w40 := (k0_32.mono (N := A.mu fw) (by simp [Ad.mu])).trans k40 (fun q hq => .inl (mu_disk q hq))
      have k0_51 : Keep (A.mu fw) w w51 := k0_40.trans k51 (by simp [Ad.mu])
      have f51 : FlushIs w51 f A.l F := k0_51.blk hf hfl
      have hsl : ∀ q ∈ fw40, q ∈ fw ∨ w.heap.size ≤ q := fun q hq => (f40 q hq).imp id (fun g => by have := k0_32.1; omega)
      have h48 : n48 = IntKind.wrap .i64 ((S.L.sent : Int) + 1) := h48
      rw [wrap64 (by omega) (by omega)] at h48
      refine h1 w51 fw40 i j hi x.p hlt hij hj hx (k0_51.mono (fun q hq => .inl (by simp [hq]))) hsl f51 ?_
      obtain ⟨mi, ma, m1, m2, m3⟩ := s40.maps
      have hmu40 : ∀ q ∈ A.mu fw40, q ∈ A.mu fw ∨ w.heap.size ≤ q := mu_sub hsl
      exact {
        disk := s40.disk.keep k51 (fun q hq hm => by simp at hm; subst hm; exact s40.disk.off s40.blk (by decide) (by decide) (by decide) hq)
        seg := by
          have := s40.seg.keep k51 (by simpa using s40.seg.1.ne s40.blk (by decide))
          show SegIs w51 A.s A.d S.sl S.fi (if S.L.sent = 8 * S.la then S.la + 1 else S.la)
          rw [← hla']; exact this
        blk := by
          have e5 : n48 = ((S.L.sent + 1 : Nat) : Int) := by
            have : n48 = (S.L.sent : Int) + 1 := h48
            omega
          rw [e5] at b51
          exact b51
        maps := ⟨mi, ma, m1.keep k51 (by simp; intro e; exact blk_not_map s40.blk (e ▸ m1)), m2.keep k51 (by simp; intro e; exact blk_not_map s40.blk (e ▸ m2)), ⟨m3.i1, m3.i2, m3.i3, m3.a1, m3.a2⟩⟩
        ne := h.ne
        recs := fun i hi hl => (s40.recs i hi hl).step ⟨k51.mono (by simp [Ad.mu]), fun q hq => .inl hq⟩
        bmark := h.bmark
        bwr := h.bwr
        blo := h.blo
        bsent := ⟨by show _ ≤ S.L.sent + 1; have := hsent.1; exact Nat.le_succ_of_le this, by show S.L.sent + 1 ≤ S.L.place; omega⟩
        top := h.top
        bot := h.bot
        laok := by
          refine ⟨?_, ?_⟩
          · show S.L.sent + 1 ≤ 8 * (if S.L.sent = 8 * S.la then S.la + 1 else S.la)
            split <;> omega
          · show (if S.L.sent = 8 * S.la then S.la + 1 else S.la) ≤ S.fi + S.sl
            split <;> omega
        sml := h.sml
        mays := h.mays
        kinds := h.kinds
        wsb := s40.wsb }
    refine ⟨_, _, rfl, _, hbd.cell rfl, _, _, rfl, _, hbd.cell rfl, seg_End hsd ⟨_, rfl, hbd.cell rfl, fun n61 h61 => ?_⟩⟩
    rw [wrap64 (by omega) (by omega)] at h61
    subst h61
    refine ⟨fun e => ⟨_, _, rfl, _, hbd.cell rfl, ?_⟩, fun e => ?_⟩
    · have e : S.L.sent = 8 * S.la := by
        have : (S.L.sent : Int) = (S.la : Int) * 8 := by simpa using e
        omega
      refine seg_Grow hsd (by omega) (fun w66 _ hfull => by omega) fun w66 k66 _ hs66 => ⟨_, rfl, fun e => by simp at e, fun _ => ?_⟩
      exact main w66 (S.la + 1) (((Keep.drew w).then_drew.mono (by simp)).trans k66 (by simp)) hs66 (by rw [if_pos e])
    · have e : ¬ S.L.sent = 8 * S.la := by
        have : ¬ (S.L.sent : Int) = (S.la : Int) * 8 := by simpa using e
        omega
      exact main w.drew.drew S.la ((Keep.drew w).then_drew.mono (by simp)) hsd (by rw [if_neg e])
end Go.Proofs
