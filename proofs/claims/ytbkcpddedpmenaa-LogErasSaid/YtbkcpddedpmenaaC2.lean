/- LogStays: its first part. -/
import Derived.Test.YtbkcpddedpmenaaC1
set_option maxRecDepth 100000
namespace Go.Proofs
open Go Go.Vc
variable {w w' : World} {R : Ending → World → Prop} {A : Ad} {fw : List Nat} {ptr : Nat → Nat} {lo : Nat} {S : SysM}

/-- Slices of bytes, as they are handed in. -/
structure Args (w : World) (a : Option Addr) (len cap : Nat) (xs : List Pc) : Prop where
  s : Slcs w a xs
  ln : xs.length = len
  ok : ∀ p ∈ xs, p.len ≤ p.cap
  big : len ≤ 9223372036854775807
theorem Args.keep {a : Option Addr} {len cap : Nat} {xs : List Pc} (h : Args w a len cap xs) (hk : Keep [] w w') : Args w' a len cap xs := ⟨h.s.keep hk, h.ln, h.ok, h.big⟩

def sysE (n : Nat) (es : List Ent) : SysM := { sys0 n with L := { (sys0 n).L with es := es } }
theorem sysE_app (n : Nat) (es : List Ent) (e : Ent) : (sysE n es).app e = sysE n (es ++ [e]) := rfl
def atE (es : List Ent) (i : Nat) : Nat := 8 + pN (es.take i)

theorem EI : ElemTy P0 T_slice_int T_int 1 8 [.int .i64 0] :=
  .of (by kernel_rfl) (by kernel_rfl) (by kernel_rfl) (by kernel_rfl) rfl (by decide) (by decide)

theorem Sys.offOwn (h : Sys w A fw ptr lo S) {T : TypeId} {sz len cap : Nat} {a : Option Addr} {vs : List Value} {fp : List Nat} (ho : Own w T sz a len cap vs fp) (h1 : T ≠ T_disk_Disk) (h2 : T ≠ T_uint8) (h3 : T ≠ T_disk_write) (h4 : T ≠ T_seg_Segs) (h5 : T ≠ T_log_Log) : ∀ q ∈ fp, q ∉ A.mu fw := fun q hq => by
  obtain ⟨c, hc⟩ := Own.blk ho q hq
  exact h.off hc h1 h2 h3 h4 h5

/-- Where LogStays stands while it appends. -/
structure PhA (w0 w : World) (x : Nat) (A : Ad) (hb : Nat) (es : List Ent) (ks : List Pc) (pl kp : Slc) (f1 f2 : List Nat) : Prop where
  keep : Keep [] w0 w
  rig : RigIs w x A.d A.s A.l
  sys : ∃ ptr, Sys w A [] ptr 0 (sysE 552 es)
  good : Good (sysE 552 es) 8
  head : Blk w hb [.int .i64 (sysE 552 es).L.no, .int .i64 (sysE 552 es).L.place] T_api_Head
  newH : w0.heap.size ≤ hb
  newX : w0.heap.size ≤ x
  newA : ∀ q ∈ A.mu [], w0.heap.size ≤ q
  new1 : ∀ q ∈ f1, w0.heap.size ≤ q
  new2 : ∀ q ∈ f2, w0.heap.size ≤ q
  own1 : Own w T_int 1 pl.a es.length pl.cap ((List.range es.length).map fun j => .int .i64 (atE es j : Nat)) f1
  pln : pl.len = es.length
  own2 : Own w T_slice_uint8 1 kp.a es.length kp.cap (ks.map Pc.v) f2
  kpn : kp.len = es.length
  ke : es.map Prod.snd = ks.map Pc.l
  kd : ∀ k ∈ ks, k.l.length = k.len ∧ HasB w0 k.a k.l

variable {w0 : World} {x hb : Nat} {es : List Ent} {ks : List Pc} {pl kp : Slc} {f1 f2 : List Nat}
theorem PhA.keep0 (h : PhA w0 w x A hb es ks pl kp f1 f2) (hk : Keep [] w w') : PhA w0 w' x A hb es ks pl kp f1 f2 := by
  obtain ⟨ptr, hs⟩ := h.sys
  exact { h with keep := h.keep.trans hk (by simp), rig := h.rig.keep hk (by simp), sys := ⟨ptr, hs.keep0 hk⟩, head := hk.blk h.head (by simp), own1 := h.own1.keep hk (by simp), own2 := h.own2.keep hk (by simp) }
theorem PhA.xb (h : PhA w0 w x A hb es ks pl kp f1 f2) : ∃ c, Blk w x c T_pollardlaw08_rig := by
  obtain ⟨v3, v4, v5, hb⟩ := h.rig
  exact ⟨_, hb⟩

theorem PhA.len_le (h : PhA w0 w x A hb es ks pl kp f1 f2) : es.length ≤ 136 := by
  obtain ⟨ptr, hs⟩ := h.sys
  have h1 := hs.top
  have h2 := length_le_pN es
  have h3 : (sysE 552 es).L.place = 8 + pN es := rfl
  have h4 : (sysE 552 es).fi = 1 := rfl
  have h5 : (sysE 552 es).sl = 17 := by show (552 - 8) / 32 = 17; omega
  omega

theorem atE_app {es : List Ent} {e : Ent} {j : Nat} (h : j ≤ es.length) : atE (es ++ [e]) j = atE es j := by
  unfold atE; rw [List.take_append_of_le_length h]
theorem range_app (es : List Ent) (e : Ent) : ((List.range (es ++ [e]).length).map fun j => Value.int .i64 (atE (es ++ [e]) j : Nat)) = ((List.range es.length).map fun j => Value.int .i64 (atE es j : Nat)) ++ [.int .i64 ((sysE 552 es).L.place : Nat)] := by
  rw [List.length_append, List.length_singleton, List.range_succ, List.map_append]
  congr 1
  · apply List.map_congr_left
    intro j hj
    simp only [List.mem_range] at hj
    rw [atE_app (by omega)]
  · simp only [List.map_cons, List.map_nil]
    rw [atE_app (Nat.le_refl _)]
    congr 3
    unfold atE; rw [List.take_length]; rfl

/-- An Append that goes well or not, of the log as it stands. -/
theorem PhA.append (h : PhA w0 w x A hb es ks pl kp f1 f2) {k : Int} {p : Pc} (hp : p.l.length = p.len) (hd : HasB w0 p.a p.l) (hok : p.len ≤ p.cap)
    (hbad : ∀ w' e, e ≠ 0 → PhA w0 w' x A hb es ks pl kp f1 f2 → Keep [] w w' → R (.returned (.tuple #[.agg #[.int .i64 0, .int .i64 0], .int .i64 e])) w')
    (hgood : ∀ w' ptr e, e.2 = p.l → Keep (A.mu []) w w' → Sys w' A [] ptr 0 (sysE 552 (es ++ [e])) → Good (sysE 552 (es ++ [e])) 8 →
      R (.returned (.tuple #[.agg #[.int .i64 (sysE 552 (es ++ [e])).L.no, .int .i64 (sysE 552 (es ++ [e])).L.place], .int .i64 0])) w') :
    Calls P0 f_log_Log_Append #[.pointer (some ⟨A.l, 0, none⟩), .agg #[.int .i64 (sysE 552 es).L.no, .int .i64 (sysE 552 es).L.place], .int .i64 k, .slice p.a p.len p.cap] w R := by
  obtain ⟨ptr, hs⟩ := h.sys
  refine log_Append hs p.l (hd.keep h.keep (Off.nil _)) hp hok (fun w' hk he => hbad w' _ he (h.keep0 hk) hk) (fun w' q hk he hs' => ?_)
  exact hgood w' _ (k.toNat, p.l) rfl hk hs' (h.good.app hs.szs)

/-- A system that has gone on: what it had is there still. -/
structure Ext (S S' : SysM) : Prop where
  n : S'.n = S.n
  fi : S'.fi = S.fi
  era : S'.L.era = S.L.era
  hn : S'.L.hn = S.L.hn
  hp : S'.L.hp = S.L.hp
  mark : S'.L.mark = S.L.mark
  es : ∃ t, S'.L.es = S.L.es ++ t
theorem Ext.refl (S : SysM) : Ext S S := ⟨rfl, rfl, rfl, rfl, rfl, rfl, [], by simp⟩
theorem Ext.trans {S S1 S2 : SysM} (h : Ext S S1) (h' : Ext S1 S2) : Ext S S2 := by
  obtain ⟨t, ht⟩ := h.es
  obtain ⟨t', ht'⟩ := h'.es
  exact ⟨h'.n.trans h.n, h'.fi.trans h.fi, h'.era.trans h.era, h'.hn.trans h.hn, h'.hp.trans h.hp, h'.mark.trans h.mark, t ++ t', by rw [ht', ht, List.append_assoc]⟩
theorem Fix.ext {S S' : SysM} (h : Fix S S') : Ext S S' := ⟨h.n, h.fi, h.era, h.hn, h.hp, h.mark, [], by simp [h.es]⟩
theorem Ext.app {S : SysM} (e : Ent) : Ext S (S.app e) := ⟨rfl, rfl, rfl, rfl, rfl, rfl, [e], rfl⟩
theorem Ext.get {S S' : SysM} (h : Ext S S') {i : Nat} {e : Ent} (he : S.L.es[i]? = some e) : S'.L.es[i]? = some e := by
  obtain ⟨t, ht⟩ := h.es
  rw [ht, List.getElem?_append_left (List.getElem?_eq_some_iff.1 he).1]; exact he
theorem Ext.at {S S' : SysM} (h : Ext S S') {i : Nat} (hi : i ≤ S.L.es.length) : S'.L.at i = S.L.at i := by
  obtain ⟨t, ht⟩ := h.es
  unfold LogM.at
  rw [ht, h.hp, List.take_append_of_le_length hi]
theorem Ext.sl {S S' : SysM} (h : Ext S S') : S'.sl = S.sl := by unfold SysM.sl; rw [h.n]

/-- The log's state is open behind a crash: a record that was synced stands there. -/
theorem stands_up {w : World} {A : Ad} {fw : List Nat} {ptr : Nat → Nat} {lo : Nat} {S So : SysM} (h : Szs S) (hk : ∀ e ∈ S.L.es, 1 ≤ e.1 ∧ e.1 ≤ 5) {dur : Nat} (hg : Good S dur) (ks : List Int) (hsl : So.sl = S.sl) (hfi : So.fi = S.fi) (hnw : So.m.nw = upN S.m ks S.m.ws.length)
    {i : Nat} {e : Ent} (he : S.L.es[i]? = some e) (hd : S.L.at (i + 1) ≤ dur) (ht : S.L.at (i + 1) ≤ 8 * So.la) : Stands So (S.L.at i) (S.L.hn + i + 1 : Nat) S.L.era e.1 e.2 := by
  obtain ⟨hi, rfl⟩ := List.getElem?_eq_some_iff.1 he
  refine stands_rg h hi (hk _ (by simp)) hsl ?_ ht fun j p hj => ?_
  · have := h.bot; have : S.L.hp ≤ S.L.at i := Nat.le_add_right _ _; omega
  · rw [hnw]
    obtain ⟨_, hjm, _⟩ := parts_some hj
    have := LogM.at_succ hi
    exact hg.up h ks hj (by omega)

/-- Appends to a log as it stands, whatever comes of them. -/
theorem append_any {w : World} {R : Ending → World → Prop} {A : Ad} {fw : List Nat} {ptr : Nat → Nat} {S : SysM} (h : Sys w A fw ptr S.lo S) {dur : Nat} (hg : Good S dur) {k : Int} {p : Pc} (hp : p.l.length = p.len) (hd : HasB w p.a p.l) (hok : p.len ≤ p.cap) {hn hp' : Int}
    (hR : ∀ w' ptr' S' a b e, Keep (A.mu fw) w w' → Sys w' A fw ptr' S'.lo S' → Good S' dur → Ext S S' → S'.m = S.m → S'.L.sent = S.L.sent → S'.la = S.la → S'.L.written = S.L.written → R (.returned (.tuple #[.agg #[.int .i64 a, .int .i64 b], .int .i64 e])) w') :
    Calls P0 f_log_Log_Append #[.pointer (some ⟨A.l, 0, none⟩), .agg #[.int .i64 hn, .int .i64 hp'], .int .i64 k, .slice p.a p.len p.cap] w R := by
  refine log_Append h p.l hd hp hok (fun w' hk he => ?_) (fun w' q hk he hs' => ?_)
  · exact hR w' ptr S 0 0 _ (hk.mono (by simp)) (h.keep0 hk) hg (Ext.refl S) rfl rfl rfl rfl
  · exact hR w' _ (S.app (k.toNat, p.l)) _ _ 0 hk hs' (hg.app h.szs) (Ext.app _) rfl rfl rfl rfl
end Go.Proofs
