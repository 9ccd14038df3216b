/- LogEras: its parts. -/
import Derived.Test.YtbkcpddedpmenaaC3
set_option maxRecDepth 100000
namespace Go.Proofs
open Go Go.Vc
variable {w w' : World} {R : Ending → World → Prop}

/-- A log that goes on; nothing of what was there at first is turned. -/
structure PhL (w0 w : World) (x : Nat) (A : Ad) (fw : List Nat) (S0 S : SysM) (dur K : Nat) : Prop where
  keep : Keep [] w0 w
  rig : RigIs w x A.d A.s A.l
  sys : ∃ ptr, Sys w A fw ptr S.lo S
  good : Good S dur
  ext : Ext S0 S
  new : ∀ q ∈ A.mu fw, w0.heap.size ≤ q
  wsl : S.m.ws.length ≤ K + 4 * S.L.sent
variable {w0 : World} {x : Nat} {A : Ad} {fw : List Nat} {S0 S : SysM} {dur K : Nat}
theorem PhL.keep0 (h : PhL w0 w x A fw S0 S dur K) (hk : Keep [] w w') : PhL w0 w' x A fw S0 S dur K := by
  obtain ⟨ptr, hs⟩ := h.sys
  exact { h with keep := h.keep.trans hk (by simp), rig := h.rig.keep hk (by simp), sys := ⟨ptr, hs.keep0 hk⟩ }
theorem PhL.off (h : PhL w0 w x A fw S0 S dur K) {b : Nat} {c : List Value} {T : TypeId} (hb : Blk w b c T) (h1 : T ≠ T_disk_Disk) (h2 : T ≠ T_uint8) (h3 : T ≠ T_disk_write) (h4 : T ≠ T_seg_Segs) (h5 : T ≠ T_log_Log) : b ∉ A.mu fw := by
  obtain ⟨ptr, hs⟩ := h.sys
  exact hs.off hb h1 h2 h3 h4 h5
theorem PhL.append (h : PhL w0 w x A fw S0 S dur K) {k : Int} {p : Pc} (hp : p.l.length = p.len) (hd : HasB w0 p.a p.l) (hok : p.len ≤ p.cap) {hn hp' : Int}
    (hR : ∀ w' S' a b e, Keep (A.mu fw) w w' → PhL w0 w' x A fw S0 S' dur K → S'.L.sent = S.L.sent → R (.returned (.tuple #[.agg #[.int .i64 a, .int .i64 b], .int .i64 e])) w') :
    Calls P0 f_log_Log_Append #[.pointer (some ⟨A.l, 0, none⟩), .agg #[.int .i64 hn, .int .i64 hp'], .int .i64 k, .slice p.a p.len p.cap] w R := by
  obtain ⟨ptr, hs⟩ := h.sys
  refine append_any hs h.good hp (hd.keep h.keep (Off.nil _)) hok fun w' ptr' S' a b e hk hs' hg' hx hm hsn hla hwr => ?_
  refine hR w' S' a b e hk ⟨h.keep.trans hk (fun q hq => .inr (h.new q hq)), h.rig.keep hk (h.rig.off hs), ⟨_, hs'⟩, hg', h.ext.trans hx, h.new, by rw [hm, hsn]; exact h.wsl⟩ hsn

theorem slcs_same {w1 : World} {a : Option Addr} {xs : List Pc} (h : Slcs w1 a xs) {i : Nat} (hi : i < xs.length) {b o : Nat} (ha : a = some ⟨b, o, none⟩) : w1.cell? ⟨b, o + (Int.toNat (i : Int)) * 1, none⟩ = some (.slice xs[i].a xs[i].len xs[i].cap) := by
  obtain ⟨b', o', ha', hc'⟩ := h.at hi
  have hbo : b' = b ∧ o' = o := by rw [ha] at ha'; injection ha' with ha'; injection ha' with g1 g2; exact ⟨g1.symm, g2.symm⟩
  rw [hbo.1, hbo.2] at hc'
  rw [Int.toNat_natCast, Nat.mul_one]; exact hc'

/-- An Advance as far as it goes, when all stay. -/
theorem log_Advance_all {ptr : Nat → Nat} (h : Sys w A fw ptr S.lo S) (hwr : S.L.written = S.L.no) {to : Int} (hto : (S.L.no : Int) ≤ to)
    (hR : ∀ w', Keep (A.mu fw) w w' → Sys w' A fw ptr S.L.no (S.adv S.L.no) → R (.returned (.tuple #[])) w') :
    Calls P0 f_log_Log_Advance #[.pointer (some ⟨A.l, 0, none⟩), .int .i64 to] w R := by
  have hmk := h.bmark
  refine log_Advance h rfl (fun w' hk hle h' => ?_) (fun w' t hk ht hlt h' => ?_)
  · have e : S.L.mark = S.L.no := by omega
    have e2 : S.adv S.L.no = S := by unfold SysM.adv; rw [← e]
    have e3 : S.lo = S.L.no := by unfold SysM.lo; omega
    refine hR w' (hk.mono (by simp)) ?_
    rw [e2, ← e3]; exact h'
  · have e : t = S.L.no := by omega
    subst e
    rw [hwr, Nat.min_self] at h'
    exact hR w' hk h'

/-- The log of the second era. -/
def sysN (m : DiskM) (la hn hp : Nat) (es : List Ent) : SysM := ⟨552, m, 1, la, ⟨2, hn, hp, es, hn, hn, hp⟩⟩
def atN (hp : Nat) (es : List Ent) (i : Nat) : Nat := hp + pN (es.take i)
theorem atN_app {hp : Nat} {es : List Ent} {e : Ent} {j : Nat} (h : j ≤ es.length) : atN hp (es ++ [e]) j = atN hp es j := by
  unfold atN; rw [List.take_append_of_le_length h]
theorem rangeN_app (hp : Nat) (es : List Ent) (e : Ent) : ((List.range (es ++ [e]).length).map fun j => Value.int .i64 (atN hp (es ++ [e]) j : Nat)) = ((List.range es.length).map fun j => Value.int .i64 (atN hp es j : Nat)) ++ [.int .i64 ((hp + pN es : Nat) : Int)] := by
  rw [List.length_append, List.length_singleton, List.range_succ, List.map_append]
  congr 1
  · apply List.map_congr_left
    intro j hj
    simp only [List.mem_range] at hj
    rw [atN_app (by omega)]
  · simp only [List.map_cons, List.map_nil]
    rw [atN_app (Nat.le_refl _)]
    congr 3
    unfold atN; rw [List.take_length]

/-- Where LogEras stands while it appends in the second era. -/
structure PhN (w0 w : World) (x hb : Nat) (A : Ad) (m : DiskM) (la hn hp : Nat) (es : List Ent) (pl : Slc) (f1 : List Nat) : Prop where
  keep : Keep [] w0 w
  rig : RigIs w x A.d A.s A.l
  sys : ∃ ptr, Sys w A [] ptr hn (sysN m la hn hp es)
  good : Good (sysN m la hn hp es) hp
  head : Blk w hb [.int .i64 hn, .int .i64 hp] T_api_Head
  newA : ∀ q ∈ A.mu [], w0.heap.size ≤ q
  new1 : ∀ q ∈ f1, w0.heap.size ≤ q
  own1 : Own w T_int 1 pl.a es.length pl.cap ((List.range es.length).map fun j => .int .i64 (atN hp es j : Nat)) f1
  pln : pl.len = es.length
variable {m : DiskM} {la hn hp hb : Nat} {es : List Ent} {pl : Slc} {f1 : List Nat}
theorem PhN.keep0 (h : PhN w0 w x hb A m la hn hp es pl f1) (hk : Keep [] w w') : PhN w0 w' x hb A m la hn hp es pl f1 := by
  obtain ⟨ptr, hs⟩ := h.sys
  exact { h with keep := h.keep.trans hk (by simp), rig := h.rig.keep hk (by simp), sys := ⟨ptr, hs.keep0 hk⟩, head := hk.blk h.head (by simp), own1 := h.own1.keep hk (by simp) }
theorem PhN.append (h : PhN w0 w x hb A m la hn hp es pl f1) {p : Pc} (hp' : p.l.length = p.len) (hd : HasB w0 p.a p.l) (hok : p.len ≤ p.cap)
    (hbad : ∀ w' e, e ≠ 0 → PhN w0 w' x hb A m la hn hp es pl f1 → Keep [] w w' → R (.returned (.tuple #[.agg #[.int .i64 0, .int .i64 0], .int .i64 e])) w')
    (hgood : ∀ w' ptr, Keep (A.mu []) w w' → Sys w' A [] ptr hn (sysN m la hn hp (es ++ [(3, p.l)])) → Good (sysN m la hn hp (es ++ [(3, p.l)])) hp → Keep [] w0 w' → RigIs w' x A.d A.s A.l → Blk w' hb [.int .i64 hn, .int .i64 hp] T_api_Head →
      Own w' T_int 1 pl.a es.length pl.cap ((List.range es.length).map fun j => .int .i64 (atN hp es j : Nat)) f1 →
      R (.returned (.tuple #[.agg #[.int .i64 (sysN m la hn hp (es ++ [(3, p.l)])).L.no, .int .i64 (sysN m la hn hp (es ++ [(3, p.l)])).L.place], .int .i64 0])) w') :
    Calls P0 f_log_Log_Append #[.pointer (some ⟨A.l, 0, none⟩), .agg #[.int .i64 (sysN m la hn hp es).L.no, .int .i64 (sysN m la hn hp es).L.place], .int .i64 3, .slice p.a p.len p.cap] w R := by
  obtain ⟨ptr, hs⟩ := h.sys
  refine log_Append hs p.l (hd.keep h.keep (Off.nil _)) hp' hok (fun w' hk he => hbad w' _ he (h.keep0 hk) hk) (fun w' q hk he hs' => ?_)
  exact hgood w' _ hk hs' (h.good.app hs.szs) (h.keep.trans hk (fun q hq => .inr (h.newA q hq))) (h.rig.keep hk (h.rig.off hs)) (hk.blk h.head (hs.off h.head (by decide) (by decide) (by decide) (by decide) (by decide)))
    (h.own1.keep hk (hs.offOwn h.own1 (by decide) (by decide) (by decide) (by decide) (by decide)))
end Go.Proofs
