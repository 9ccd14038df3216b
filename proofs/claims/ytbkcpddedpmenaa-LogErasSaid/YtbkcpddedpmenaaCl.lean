/- Contracts: the log's parts: what a log is. -/
import Derived.Test.YtbkcpddedpmenaaCg
import Derived.Laws.StructEq
set_option maxRecDepth 100000
namespace Go.Proofs
open Go Go.Vc

/-! ### comparisons -/
theorem part_int {P : Program} {t : TypeId} {xs : Array Value} {o : Nat} {v : Value} (ht : P.underlying t = some (.int .i64)) (hx : xs[o]? = some v) (w : World) : (part t xs o).run P w = .ok v w := by
  simp [part, isAgg, run_underlying ht, hx]

theorem eqFields_two {P : Program} {d : Nat} {xs ys : Array Value} {fs : List Field} {t0 t1 : TypeId} {n0 n1 : String} {a b a' b' : Int} (hf : fs.map (fun f => (f.name, f.type, f.offset)) = [(n0, t0, 0), (n1, t1, 1)]) (h0 : n0 ≠ "_") (h1 : n1 ≠ "_")
    (ht0 : P.underlying t0 = some (.int .i64)) (ht1 : P.underlying t1 = some (.int .i64)) (x0 : xs[0]? = some (.int .i64 a)) (x1 : xs[1]? = some (.int .i64 b)) (y0 : ys[0]? = some (.int .i64 a')) (y1 : ys[1]? = some (.int .i64 b')) (w : World) :
    (Op.eqFields (d + 1) xs ys fs).run P w = .ok (a == a' && b == b') w := by
  rcases fs with _ | ⟨f0, _ | ⟨f1, _ | ⟨f2, fs⟩⟩⟩
  · simp at hf
  · simp at hf
  · simp only [List.map_cons, List.map_nil, List.cons.injEq, Prod.mk.injEq, and_true] at hf
    obtain ⟨⟨e1, e2, e3⟩, ⟨e4, e5, e6⟩⟩ := hf
    simp only [Op.eqFields, e1, e2, e3, e4, e5, e6, h0, h1, ne_eq, not_false_eq_true, if_true]
    simp only [Sem.run_bind, part_int ht0 x0, part_int ht0 y0, part_int ht1 x1, part_int ht1 y1, Result.andThen_ok, run_equalIn_int w d _ .i64 .i64 _ _ ht0, run_equalIn_int w d _ .i64 .i64 _ _ ht1, Sem.run_ite, Sem.run_pure]
    by_cases h : a = a' <;> by_cases h' : b = b' <;> simp [h, h']
  · simp at hf

theorem neq_head (a b c d : Int) (x y : Operand) : BinRuns P0 .neq T_api_Head x y (.agg #[.int .i64 a, .int .i64 b]) (.agg #[.int .i64 c, .int .i64 d]) (.bool (!(a == c && b == d))) := fun w => by
  rw [Sem.run_bind, run_eqGuard_agg w _ _ _ _ _ _ (by kernel_rfl), Result.andThen_ok, run_neq_struct, run_equalIn_struct w 9999 _ _ _ (by kernel_rfl) (by kernel_rfl)]
  rw [eqFields_two (d := 9998) (n0 := "No") (n1 := "Place") (t0 := T_int) (t1 := T_int) (by kernel_rfl) (by decide) (by decide) (by kernel_rfl) (by kernel_rfl) rfl rfl rfl rfl]
  rfl

theorem nil_func {P : Program} {t : TypeId} {x y : Operand} (ht : ∃ a b c, P.underlying t = some (.func a b c)) : BinRuns P .eql t x y .nilFunc .nilFunc (.bool true) := fun w => by
  obtain ⟨a, b, c, ht⟩ := ht
  have h : (Op.equalIn 10000 t .nilFunc .nilFunc).run P w = .ok true w := by
    show (Op.equalIn (9999 + 1) t .nilFunc .nilFunc).run P w = _
    unfold Op.equalIn
    rw [Sem.run_bind, run_underlying ht]
    rfl
  have h2 : (binOp .eql t .nilFunc .nilFunc).run P w = .ok (.bool true) w := by
    show (Sem.run P (do let b ← Op.equalIn 10000 t .nilFunc .nilFunc; pure (Value.bool b)) w) = _
    rw [Sem.run_bind, h]
    rfl
  rw [Sem.run_bind]
  show ((pure () : Sem Unit).run P w).andThen _ = _
  rw [Sem.run_pure, Result.andThen_ok, h2]
theorem not_nil_func {P : Program} {t : TypeId} {x y : Operand} {f : Fn} {p q : Array Value} (ht : ∃ a b c, P.underlying t = some (.func a b c)) : BinRuns P .eql t x y (.func f p q) .nilFunc (.bool false) := fun w => by
  obtain ⟨a, b, c, ht⟩ := ht
  have h : (Op.equalIn 10000 t (.func f p q) .nilFunc).run P w = .ok false w := by
    show (Op.equalIn (9999 + 1) t (.func f p q) .nilFunc).run P w = _
    unfold Op.equalIn
    rw [Sem.run_bind, run_underlying ht]
    rfl
  have h2 : (binOp .eql t (.func f p q) .nilFunc).run P w = .ok (.bool false) w := by
    show (Sem.run P (do let b ← Op.equalIn 10000 t (.func f p q) .nilFunc; pure (Value.bool b)) w) = _
    rw [Sem.run_bind, h]
    rfl
  rw [Sem.run_bind]
  show ((pure () : Sem Unit).run P w).andThen _ = _
  rw [Sem.run_pure, Result.andThen_ok, h2]

/-! ### what a log is -/
abbrev Ent := Nat × List UInt8
def manyE (e : Ent) : Nat := manyOf (e.2.length + 1)
def pN (es : List Ent) : Nat := (es.map manyE).sum
theorem manyE_pos (e : Ent) : 1 ≤ manyE e := by unfold manyE manyOf; omega
theorem pN_nil : pN [] = 0 := rfl
theorem pN_append (a b : List Ent) : pN (a ++ b) = pN a + pN b := by simp [pN]
theorem pN_single (e : Ent) : pN [e] = manyE e := by simp [pN]
theorem length_le_pN : ∀ es : List Ent, es.length ≤ pN es
  | [] => Nat.le_refl _
  | e :: es => by have := length_le_pN es; have := manyE_pos e; simp [pN] at *; omega
theorem pN_take_succ {es : List Ent} {i : Nat} (h : i < es.length) : pN (es.take (i + 1)) = pN (es.take i) + manyE es[i] := by
  rw [List.take_succ_eq_append_getElem h, pN_append, pN_single]
theorem pN_take_mono {es : List Ent} {i j : Nat} (h : i ≤ j) : pN (es.take i) ≤ pN (es.take j) := by
  obtain ⟨k, rfl⟩ := Nat.exists_eq_add_of_le h
  rw [List.take_add, pN_append]; omega
theorem pN_take_le (es : List Ent) (i : Nat) : pN (es.take i) ≤ pN es := by
  conv => rhs; rw [← List.take_append_drop i es, pN_append]
  omega

structure LogM where
  era : Nat
  hn : Nat
  hp : Nat
  es : List Ent
  mark : Nat
  written : Nat
  sent : Nat

def LogM.no (L : LogM) : Nat := L.hn + L.es.length
def LogM.place (L : LogM) : Nat := L.hp + pN L.es
def LogM.at (L : LogM) (i : Nat) : Nat := L.hp + pN (L.es.take i)
theorem LogM.at_succ {L : LogM} {i : Nat} (h : i < L.es.length) : L.at (i + 1) = L.at i + manyE L.es[i] := by unfold LogM.at; rw [pN_take_succ h]; omega
theorem LogM.at_mono {L : LogM} {i j : Nat} (h : i ≤ j) : L.at i ≤ L.at j := by have := pN_take_mono (es := L.es) h; unfold LogM.at; omega
theorem LogM.at_le (L : LogM) (i : Nat) : L.at i ≤ L.place := by have := pN_take_le L.es i; unfold LogM.at LogM.place; omega
theorem LogM.at_len (L : LogM) : L.at L.es.length = L.place := by unfold LogM.at LogM.place; rw [List.take_length]
/-- The parts of record i. -/
def LogM.parts (L : LogM) (i : Nat) : List Part := match L.es[i]? with
  | some e => partsOf (L.hn + i + 1 : Nat) (L.at i) L.era (UInt8.ofNat e.1 :: e.2)
  | none => []
def LogM.lo (L : LogM) : Nat := min L.mark L.written

/-- What stands behind a record's pointer. -/
def RecIs (w : World) (Mu : List Nat) (p : Nat) (no place era : Nat) (e : Ent) : Prop :=
  ∃ ba bc pa pc xs, Blk w p [.int .i64 no, .int .i64 e.1, .int .i64 place, .slice ba e.2.length bc, .slice pa (xs : List PB).length pc] T_log_record ∧ (p ∉ Mu ∧ TyA w ba T_uint8 ∧ TyA w pa T_api_Part ∧ ∀ x ∈ xs, TyA w x.a T_uint8) ∧ HasB w ba e.2 ∧ Off ba Mu ∧ Lt w ba ∧
    Has w pa (xs.flatMap PB.cells) ∧ Off pa Mu ∧ Lt w pa ∧ xs.map PB.p = partsOf no place era (UInt8.ofNat e.1 :: e.2) ∧ ∀ x ∈ xs, HasB w x.a x.p.data ∧ Off x.a Mu ∧ Lt w x.a

/-- How a world and what turns in it go on. -/
structure Stp (w : World) (Mu : List Nat) (w' : World) (Mu' : List Nat) : Prop where
  keep : Keep Mu w w'
  sub : ∀ q ∈ Mu', q ∈ Mu ∨ w.heap.size ≤ q
theorem Stp.off {w w' : World} {Mu Mu' : List Nat} {a : Option Addr} (h : Stp w Mu w' Mu') (ho : Off a Mu) (hl : Lt w a) : Off a Mu' := fun q hq hm => by
  rcases h.sub _ hm with h1 | h1
  · exact ho q hq h1
  · have := hl q hq; omega
theorem Lt.keep {w w' : World} {M : List Nat} {a : Option Addr} (h : Lt w a) (hk : Keep M w w') : Lt w' a := fun q hq => Nat.lt_of_lt_of_le (h q hq) hk.1
theorem Stp.refl (w : World) (Mu : List Nat) : Stp w Mu w Mu := ⟨Keep.refl _ _, fun _ h => .inl h⟩
theorem Stp.trans {w w1 w2 : World} {M M1 M2 : List Nat} (h : Stp w M w1 M1) (h' : Stp w1 M1 w2 M2) : Stp w M w2 M2 :=
  ⟨h.keep.trans h'.keep h.sub, fun q hq => by
    rcases h'.sub q hq with h1 | h1
    · exact h.sub q h1
    · exact .inr (Nat.le_trans h.keep.1 h1)⟩
theorem Stp.of {w w' : World} {M M' : List Nat} (h : Keep M' w w') (hs : ∀ q ∈ M', q ∈ M ∨ w.heap.size ≤ q) : Stp w M w' M := ⟨h.mono hs, fun _ h => .inl h⟩
theorem Stp.nil {w w' : World} {M : List Nat} (h : Keep [] w w') : Stp w M w' M := Stp.of h (by simp)

theorem RecIs.step {w w' : World} {Mu Mu' : List Nat} {p no place era : Nat} {e : Ent} (h : RecIs w Mu p no place era e) (hs : Stp w Mu w' Mu') : RecIs w' Mu' p no place era e := by
  obtain ⟨ba, bc, pa, pc, xs, h1, h2, h3, h4, h5, h6, h7, h8, h9, h10⟩ := h
  obtain ⟨h2, t1, t2, t3⟩ := h2
  refine ⟨ba, bc, pa, pc, xs, hs.keep.blk h1 h2, ⟨fun hm => ?_, t1.keep hs.keep h4, t2.keep hs.keep h7, fun x hx => (t3 x hx).keep hs.keep (h10 x hx).2.1⟩, h3.keep hs.keep h4, hs.off h4 h5, h5.keep hs.keep, h6.keep hs.keep h7, hs.off h7 h8, h8.keep hs.keep, h9, fun x hx => ?_⟩
  · rcases hs.sub _ hm with g | g
    · exact h2 g
    · have := h1.lt; omega
  · obtain ⟨g1, g2, g3⟩ := h10 x hx
    exact ⟨g1.keep hs.keep g2, hs.off g2 g3, g3.keep hs.keep⟩

/-- What turns is of other sorts than records are. -/
def Sorts (w : World) (M : List Nat) : Prop := ∀ q ∈ M, ∃ c T, Blk w q c T ∧ T ≠ T_uint8 ∧ T ≠ T_log_record ∧ T ≠ T_api_Part ∧ T ≠ T_disk_Disk ∧ T ≠ T_disk_write ∧ T ≠ T_seg_Segs ∧ T ≠ T_log_Log
theorem Sorts.off {w : World} {M : List Nat} (h : Sorts w M) {a : Option Addr} {T : TypeId} (ha : TyA w a T) (hT : T = T_uint8 ∨ T = T_log_record ∨ T = T_api_Part) : Off a M := fun q hq hm => by
  obtain ⟨c, hc⟩ := ha q hq
  obtain ⟨c', T', hc', g1, g2, g3, _⟩ := h _ hm
  have := (hc.det hc').2
  subst this
  rcases hT with h | h | h
  · exact g1 h
  · exact g2 h
  · exact g3 h
theorem RecIs.keepS {w w' : World} {Mu M : List Nat} {p no place era : Nat} {e : Ent} (h : RecIs w Mu p no place era e) (hk : Keep M w w') (hM : Sorts w M) : RecIs w' Mu p no place era e := by
  obtain ⟨ba, bc, pa, pc, xs, h1, ⟨h2, t1, t2, t3⟩, h3, h4, h5, h6, h7, h8, h9, h10⟩ := h
  have o1 : Off ba M := hM.off t1 (.inl rfl)
  have o2 : Off pa M := hM.off t2 (.inr (.inr rfl))
  have o3 : ∀ x ∈ xs, Off x.a M := fun x hx => hM.off (t3 x hx) (.inl rfl)
  have op : p ∉ M := fun hm => by
    obtain ⟨c', T', hc', g1, g2, g3, _⟩ := hM _ hm
    exact g2 (h1.det hc').2.symm
  exact ⟨ba, bc, pa, pc, xs, hk.blk h1 op, ⟨h2, t1.keep hk o1, t2.keep hk o2, fun x hx => (t3 x hx).keep hk (o3 x hx)⟩, h3.keep hk o1, h4, h5.keep hk, h6.keep hk o2, h7, h8.keep hk, h9,
    fun x hx => ⟨(h10 x hx).1.keep hk (o3 x hx), (h10 x hx).2.1, (h10 x hx).2.2.keep hk⟩⟩

structure Ad where
  d : Nat
  bp : Nat
  bn : Nat
  s : Nat
  l : Nat
  bi : Nat
  ba : Nat
def Ad.mu (A : Ad) (fw : List Nat) : List Nat := A.d :: A.bp :: A.bn :: A.s :: A.l :: A.bi :: A.ba :: fw
structure SysM where
  n : Nat
  m : DiskM
  fi : Nat
  la : Nat
  L : LogM
def SysM.sl (S : SysM) : Nat := (S.n - 8) / 32
abbrev rp (ptr : Nat → Nat) (i : Nat) : Value := .pointer (some ⟨ptr i, 0, none⟩)

/-- The maps of a log, of which the records up to lo were let go. -/
structure MapsOk (L : LogM) (lo : Nat) (ptr : Nat → Nat) (mi ma : List (Int × Value)) : Prop where
  i1 : ∀ i, lo ≤ L.hn + i → i < L.es.length → mfind mi ((L.hn + i + 1 : Nat) : Int) = some (rp ptr i)
  i2 : ∀ k v, mfind mi k = some v → ∃ i : Nat, lo ≤ L.hn + i ∧ i < L.es.length ∧ k = ((L.hn + i + 1 : Nat) : Int)
  i3 : mi.length + lo = L.hn + L.es.length
  a1 : ∀ i j (h : i < L.es.length), lo ≤ L.hn + i → j < manyE L.es[i] → mfind ma ((L.at i + j : Nat) : Int) = some (rp ptr i)
  a2 : ∀ k v, mfind ma k = some v → ∃ (i j : Nat) (h : i < L.es.length), lo ≤ L.hn + i ∧ j < manyE L.es[i] ∧ k = ((L.at i + j : Nat) : Int)

structure Sys (w : World) (A : Ad) (fw : List Nat) (ptr : Nat → Nat) (lo : Nat) (S : SysM) : Prop where
  disk : DiskIs w A.d A.bp A.bn fw S.n S.m
  seg : SegIs w A.s A.d S.sl S.fi S.la
  blk : Blk w A.l [.pointer (some ⟨A.d, 0, none⟩), .pointer (some ⟨A.s, 0, none⟩), .int .i64 S.L.era, .map (some A.bi), .map (some A.ba), .int .i64 S.L.no, .int .i64 S.L.place, .int .i64 S.L.mark, .int .i64 (S.L.at (S.L.mark - S.L.hn)),
    .int .i64 S.L.written, .int .i64 S.L.sent] T_log_Log
  maps : ∃ mi ma, MapIs w A.bi mi ∧ MapIs w A.ba ma ∧ MapsOk S.L lo ptr mi ma
  ne : A.bi ≠ A.ba
  recs : ∀ i (h : i < S.L.es.length), lo ≤ S.L.hn + i → RecIs w (A.mu fw) (ptr i) (S.L.hn + i + 1) (S.L.at i) S.L.era S.L.es[i]
  bmark : S.L.hn ≤ S.L.mark ∧ S.L.mark ≤ S.L.no
  bwr : S.L.hn ≤ S.L.written ∧ S.L.written ≤ S.L.no
  blo : S.L.hn ≤ lo ∧ lo ≤ S.L.written
  bsent : S.L.at (S.L.written - S.L.hn) ≤ S.L.sent ∧ S.L.sent ≤ S.L.place
  top : S.L.place ≤ 8 * (S.fi + S.sl)
  bot : 8 * S.fi ≤ S.L.hp
  laok : S.L.sent ≤ 8 * S.la ∧ S.la ≤ S.fi + S.sl
  sml : S.fi ≤ 1000000000 ∧ S.L.hn ≤ 1000000000 ∧ 1 ≤ S.L.era ∧ S.L.era ≤ 4294967295
  mays : ∀ i p, p ∈ S.L.parts i → mayB p = true
  kinds : ∀ e ∈ S.L.es, 1 ≤ e.1 ∧ e.1 ≤ 5
  wsb : S.m.ws.length ≤ 100000000

theorem blk_not_map {w : World} {b : Nat} {c : List Value} {T : TypeId} {m : List (Int × Value)} (h : Blk w b c T) (h' : MapIs w b m) : False := by
  obtain ⟨es, clk, hx, _⟩ := h'
  unfold Blk at h; rw [hx] at h; cases h

variable {w w' : World} {A : Ad} {fw : List Nat} {ptr : Nat → Nat} {lo : Nat} {S : SysM}

/-- What a system turns is of these sorts. -/
theorem Sys.off (h : Sys w A fw ptr lo S) {b : Nat} {c : List Value} {T : TypeId} (hb : Blk w b c T) (h1 : T ≠ T_disk_Disk) (h2 : T ≠ T_uint8) (h3 : T ≠ T_disk_write) (h4 : T ≠ T_seg_Segs) (h5 : T ≠ T_log_Log) : b ∉ A.mu fw := by
  have hd := h.disk.off hb h1 h2 h3
  obtain ⟨mi, ma, m1, m2, _⟩ := h.maps
  simp only [Ad.mu, List.mem_cons, not_or] at hd ⊢
  refine ⟨hd.1, hd.2.1, hd.2.2.1, hb.ne h.seg.1 h4, hb.ne h.blk h5, ?_, ?_, hd.2.2.2⟩
  · rintro rfl; exact blk_not_map hb m1
  · rintro rfl; exact blk_not_map hb m2
theorem Sys.lt (h : Sys w A fw ptr lo S) : ∀ q ∈ A.mu fw, q < w.heap.size := by
  have hd := h.disk.lt
  obtain ⟨mi, ma, m1, m2, _⟩ := h.maps
  intro q hq
  simp only [Ad.mu, List.mem_cons] at hq hd
  rcases hq with rfl | rfl | rfl | rfl | rfl | rfl | rfl | hq
  · exact hd _ (by simp)
  · exact hd _ (by simp)
  · exact hd _ (by simp)
  · exact h.seg.1.lt
  · exact h.blk.lt
  · exact m1.lt
  · exact m2.lt
  · exact hd _ (by simp [hq])
theorem mu_disk {A : Ad} {fw : List Nat} : ∀ q ∈ A.d :: A.bp :: A.bn :: fw, q ∈ A.mu fw := by
  intro q hq
  simp only [List.mem_cons] at hq
  simp only [Ad.mu, List.mem_cons]
  rcases hq with rfl | rfl | rfl | hq <;> simp [*]
theorem mu_sub {A : Ad} {fw fw' : List Nat} {k : Nat} (h : ∀ q ∈ fw', q ∈ fw ∨ k ≤ q) : ∀ q ∈ A.mu fw', q ∈ A.mu fw ∨ k ≤ q := by
  intro q hq
  simp only [Ad.mu, List.mem_cons] at hq ⊢
  rcases hq with hq | hq | hq | hq | hq | hq | hq | hq
  · simp [hq]
  · simp [hq]
  · simp [hq]
  · simp [hq]
  · simp [hq]
  · simp [hq]
  · simp [hq]
  · rcases h q hq with g | g <;> simp [g]
/-- What keeps off a system leaves it as it is. -/
theorem Sys.keepM {M : List Nat} (h : Sys w A fw ptr lo S) (hk : Keep M w w') (hm : ∀ q ∈ A.mu fw, q ∉ M) (hst : ∀ i (h : i < S.L.es.length), lo ≤ S.L.hn + i → RecIs w' (A.mu fw) (ptr i) (S.L.hn + i + 1) (S.L.at i) S.L.era S.L.es[i]) : Sys w' A fw ptr lo S := by
  obtain ⟨mi, ma, m1, m2, m3⟩ := h.maps
  refine { h with disk := h.disk.keep hk (fun q hq => hm q (mu_disk q hq)), seg := h.seg.keep hk (hm _ (by simp [Ad.mu])), blk := hk.blk h.blk (hm _ (by simp [Ad.mu])), maps := ⟨mi, ma, m1.keep hk (hm _ (by simp [Ad.mu])), m2.keep hk (hm _ (by simp [Ad.mu])), m3⟩, recs := hst }
theorem Sys.keep0 (h : Sys w A fw ptr lo S) (hk : Keep [] w w') : Sys w' A fw ptr lo S :=
  h.keepM hk (by simp) fun i hi hl => (h.recs i hi hl).step (Stp.nil hk)
theorem Sys.offS {M : List Nat} (h : Sys w A fw ptr lo S) (hM : Sorts w M) : ∀ q ∈ A.mu fw, q ∉ M := fun q hq hm => by
  obtain ⟨c, T, hc, g1, _, _, g4, g5, g6, g7⟩ := hM q hm
  exact h.off hc g4 g1 g5 g6 g7 hq
theorem Sys.keepS {M : List Nat} (h : Sys w A fw ptr lo S) (hk : Keep M w w') (hM : Sorts w M) : Sys w' A fw ptr lo S :=
  h.keepM hk (h.offS hM) fun i hi hl => (h.recs i hi hl).keepS hk hM
/-- A step that no record or system minds, and then what is new besides. -/
theorem Sys.keepN {M : List Nat} (h : Sys w A fw ptr lo S) (hk : Keep M w w') (hM : ∀ q ∈ M, w.heap.size ≤ q) : Sys w' A fw ptr lo S := h.keep0 (hk.mono (fun q hq => .inr (hM q hq)))
end Go.Proofs
