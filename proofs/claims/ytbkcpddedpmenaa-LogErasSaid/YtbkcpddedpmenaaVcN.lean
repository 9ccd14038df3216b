/- What append, copy and make do to slices that are owned. -/
import Derived.Test.YtbkcpddedpmenaaVcM
import Derived.Test.YtbkcpddedpmenaaVcI
import Derived.Maps.Views
namespace Go.Vc
open Go
variable {P : Program} {w w' w1 w2 : World} {b b' i : Nat} {c c' : List Value} {T T' : TypeId} {v v' : Value} {M : List Nat}

/-- A slice type t of elements e. -/
structure ElemTy (P : Program) (t e : TypeId) (sz by_ : Nat) (z : List Value) : Prop where
  und : P.underlying t = some (.slice e)
  info : ∃ i zv, P.info? e = some i ∧ i.size = sz ∧ i.bytes = by_ ∧ i.zero = some zv ∧ zv.cells = z.toArray
  zlen : z.length = sz
  pos : 0 < sz
  bpos : 0 < by_

theorem ElemTy.of {P : Program} {t e : TypeId} {sz by_ : Nat} {z : List Value} (h1 : P.underlying t = some (.slice e)) (h2 : (P.info? e).map (·.size) = some sz) (h3 : (P.info? e).map (·.bytes) = some by_)
    (h4 : (P.info? e).bind (fun i => i.zero.map (·.cells)) = some z.toArray) (h5 : z.length = sz) (h6 : 0 < sz) (h7 : 0 < by_) : ElemTy P t e sz by_ z := by
  cases hi : P.info? e with
  | none => simp [hi] at h2
  | some i =>
    simp only [hi, Option.map_some, Option.bind_some, Option.some.injEq] at h2 h3 h4
    cases hz : i.zero with
    | none => simp [hz] at h4
    | some zv =>
      simp only [hz, Option.map_some, Option.some.injEq] at h4
      exact ⟨h1, ⟨i, zv, hi, h2, h3, hz, h4⟩, h5, h6, h7⟩

/-- A slice that is owned: nil, or the beginning of a block. -/
def Own (w : World) (e : TypeId) (sz : Nat) (a : Option Addr) (len cap : Nat) (vs : List Value) (fp : List Nat) : Prop :=
  (a = none ∧ len = 0 ∧ cap = 0 ∧ vs = [] ∧ fp = []) ∨
  ∃ b c, a = some ⟨b, 0, none⟩ ∧ fp = [b] ∧ Blk w b c e ∧ c.length = cap * sz ∧ len ≤ cap ∧ c.take (len * sz) = vs

theorem Own.len {e : TypeId} {sz len cap : Nat} {a : Option Addr} {vs : List Value} {fp : List Nat} (h : Own w e sz a len cap vs fp) : vs.length = len * sz := by
  rcases h with ⟨_, rfl, _, rfl, _⟩ | ⟨b, c, _, _, _, h1, h2, h3⟩
  · simp
  · rw [← h3, List.length_take, h1]
    exact Nat.min_eq_left (Nat.mul_le_mul_right _ h2)
theorem Own.has {e : TypeId} {sz len cap : Nat} {a : Option Addr} {vs : List Value} {fp : List Nat} (h : Own w e sz a len cap vs fp) : Has w a vs := by
  rcases h with ⟨_, rfl, _, rfl, _⟩ | ⟨b, c, ha, _, hb, h1, h2, h3⟩
  · exact .inl rfl
  · refine .inr ⟨b, 0, ha, ?_⟩
    have := Rdb.of_blk hb 0 (len * sz)
    simpa [h3] using this
theorem Own.keep {e : TypeId} {sz len cap : Nat} {a : Option Addr} {vs : List Value} {fp : List Nat} (h : Own w e sz a len cap vs fp) (hk : Keep M w w') (hm : ∀ b ∈ fp, b ∉ M) : Own w' e sz a len cap vs fp := by
  rcases h with h | ⟨b, c, ha, hf, hb, h1, h2, h3⟩
  · exact .inl h
  · subst hf
    exact .inr ⟨b, c, ha, rfl, hk.blk hb (hm b (by simp)), h1, h2, h3⟩
theorem Own.lt {e : TypeId} {sz len cap : Nat} {a : Option Addr} {vs : List Value} {fp : List Nat} (h : Own w e sz a len cap vs fp) : ∀ b ∈ fp, b < w.heap.size := by
  rcases h with ⟨_, _, _, _, rfl⟩ | ⟨b, c, ha, rfl, hb, _⟩
  · simp
  · simpa using hb.lt

theorem run_firstCells_has {sz n c : Nat} {x : Option Addr} {m : Nat} {news : List Value} (hx : Has w x news) (hn : news.length = n * sz) :
    (Builtin.firstCells sz n (.slice x m c)).run P w = .ok news.toArray w := by
  cases x with
  | none =>
    rcases hx with rfl | ⟨b, o, h, _⟩
    · simp [Builtin.firstCells]
    · cases h
  | some a =>
    refine run_firstCells_some w sz n a m c news hn fun j v hj => ?_
    rcases hx with rfl | ⟨b, o, h, hr⟩
    · simp at hj
    · injection h with h; subst h
      rw [add_mk]; exact hr j v hj

theorem zeroCells_size (z : Array Value) (n : Nat) : (Builtin.zeroCells z n).size = n * z.size := by simp [Builtin.zeroCells]

theorem grownCap_ge (w : World) (need old : Nat) (e : TypeId) : need ≤ grownCap w need old e := by
  unfold grownCap Question.cut; simp

theorem own_append {t e ty : TypeId} {sz by_ : Nat} {z : List Value} (E : ElemTy P t e sz by_ z) {a x : Option Addr} {len cap n xc : Nat} {vs news : List Value} {fp : List Nat}
    (h : Own w e sz a len cap vs fp) (hn : news.length = n * sz) (hx : Has w x news) (hone : ∀ v ∈ news, v.oneCell' = true) (hb : (len + n) * by_ ≤ 140737488355328) :
    ∃ a' cap' w' fp', (Builtin.append_ #[t, t] ty #[.slice a len cap, .slice x n xc]).run P w = .ok (.slice a' (len + n) cap') w' ∧
      Own w' e sz a' (len + n) cap' (vs ++ news) fp' ∧ Keep fp w w' ∧ (∀ b ∈ fp', b ∈ fp ∨ w.heap.size ≤ b) ∧ (a.isSome = true ∨ 0 < n → ∃ b, fp' = [b]) := by
  obtain ⟨ht, ⟨i, zv, hi, hsz, hby, hz, hzc⟩, hzl, hpos, hbpos⟩ := E
  have h63 : len + n ≤ 140737488355328 := Nat.le_trans (Nat.le_mul_of_pos_right _ hbpos) hb
  by_cases hle : len + n ≤ cap
  · rcases h with ⟨rfl, rfl, rfl, rfl, rfl⟩ | ⟨b, c, rfl, rfl, hblk, h1, h2, h3⟩
    · have hn0 : n = 0 := by omega
      subst hn0
      have hnews : news = [] := by simpa using hn
      subst hnews
      refine ⟨none, 0, w, [], ?_, .inl ⟨rfl, rfl, rfl, rfl, rfl⟩, Keep.refl _ _, by simp, by simp⟩
      have hf := run_firstCells_has (P := P) (sz := i.size) (n := 0) (c := xc) (m := 0) hx (by simp)
      simp [Builtin.append_, run_underlying ht, sizeOf, typeInfo, hi, Builtin.lenOf, hf]
    · refine ⟨some ⟨b, 0, none⟩, cap, w.setCells b (len * sz) news, [b], ?_, .inr ⟨b, _, rfl, rfl, hblk.sets news (len * sz) ?_, ?_, hle, ?_⟩, Keep.sets _ _ _ _, by simp, fun _ => ⟨b, rfl⟩⟩
      · have hf := run_firstCells_has (P := P) (sz := i.size) (n := n) (c := xc) (m := n) hx (by rw [hsz]; exact hn)
        rw [hsz] at hf
        have hw := hblk.wr_all (len * sz) news.length (by rw [h1, hn, ← Nat.add_mul]; exact Nat.mul_le_mul_right _ hle)
        have hs := run_storeCells_cells (P := P) b (len * sz) news 0 w (by simpa using hw.1) (by simpa using hw.2) hone
        have e1 : (⟨b, 0, none⟩ : Addr).add (len * sz) = ⟨b, len * sz, none⟩ := by rw [add_mk]; simp
        simp [Builtin.append_, run_underlying ht, sizeOf, typeInfo, hi, Builtin.lenOf, hf, hle, hsz, e1]
        rw [hs]
        simp
      · rw [h1, hn, ← Nat.add_mul]; exact Nat.mul_le_mul_right _ hle
      · have : len * sz + n * sz ≤ cap * sz := by rw [← Nat.add_mul]; exact Nat.mul_le_mul_right _ hle
        have hmin : min (len * sz) (cap * sz) = len * sz := Nat.min_eq_left (by omega)
        simp [h1, hn, hmin]; omega
      · have hl : (c.take (len * sz)).length = len * sz := by rw [List.length_take, h1]; exact Nat.min_eq_left (Nat.mul_le_mul_right _ h2)
        rw [List.take_left' (by rw [List.length_append, hl, hn, Nat.add_mul]), h3]
  · have hho := (Own.has h)
    have hlen := Own.len h
    have hcap : cap < len + n := by omega
    have hfit : Builtin.nextslicecap (len + n) cap * i.bytes ≤ 281474976710656 := growslice_fits hcap (by rw [hby]; exact hb)
    have hfit' : ¬ (281474976710656 < Builtin.nextslicecap (len + n) cap * i.bytes) := by omega
    have h63' : ¬ (9223372036854775807 < ((len : Int) + (n : Int))) := by omega
    have hfo := run_firstCells_has (P := P) (w := w.drew) (sz := i.size) (n := len) (c := cap) (m := len) (x := a) (news := vs) hho (by rw [hsz]; exact hlen)
    have hfn := run_firstCells_has (P := P) (w := w.drew) (sz := i.size) (n := n) (c := xc) (m := n) (x := x) (news := news) hx (by rw [hsz]; exact hn)
    have hge := grownCap_ge w (len + n) cap e
    generalize hg : grownCap w (len + n) cap e = g at *
    refine ⟨some ⟨w.heap.size, 0, none⟩, g, w.drew.alloc (.cells ((vs ++ news ++ (Builtin.zeroCells zv.cells (g - (len + n))).toList).toArray) e), [w.heap.size], ?_,
      .inr ⟨w.heap.size, _, rfl, rfl, Blk.alloc_new w.drew _ e, ?_, hge, ?_⟩, ((Keep.drew w).trans (Keep.alloc _ _) (by simp)).mono (by simp), by simp, fun _ => ⟨_, rfl⟩⟩
    · rw [← hg]
      simp [Builtin.append_, run_underlying ht, sizeOf, typeInfo, zeroValue, hi, hz, Builtin.lenOf, hle, h63', hfit', Question.forced, hfo, hfn, newRow, grownCap]
      congr 2
      apply Array.ext'
      simp
    · have h5 : (Builtin.zeroCells zv.cells (g - (len + n))).toList.length = (g - (len + n)) * sz := by
        rw [Array.length_toList, zeroCells_size, hzc]; simp [hzl]
      rw [List.length_append, List.length_append, hlen, hn, h5, ← Nat.add_mul, ← Nat.add_mul]
      congr 1; omega
    · rw [List.take_left' (by rw [List.length_append, hlen, hn, Nat.add_mul])]

/-- A new slice's cells. -/
theorem make_run {t e : TypeId} {sz by_ : Nat} {z : List Value} (E : ElemTy P t e sz by_ z) (hs : sz = 1) {x : Value} (hz : z = [x]) (n : Nat) (hb : n * by_ ≤ 281474976710656) (w : World) :
    (Instr.makeSlice t (.int .i64 n) (.int .i64 n)).run P w = .ok (.slice (some ⟨w.heap.size, 0, none⟩) n n) (w.alloc (.cells (List.replicate n x).toArray e)) := by
  obtain ⟨ht, ⟨i, zv, hi, hsz, hby, hzv, hzc⟩, hzl, hpos, hbpos⟩ := E
  subst hs; subst hz
  have hle : n ≤ 281474976710656 := Nat.le_trans (Nat.le_mul_of_pos_right _ hbpos) hb
  have hw : IntKind.i64.wrap (n : Int) = n := wrap64 (by omega) (by omega)
  have h1 : ¬ ((n : Int) < 0) := by omega
  have h2 : ¬ (281474976710656 < (i.bytes : Int) * (n : Int)) := by rw [hby, ← Int.natCast_mul, Nat.mul_comm]; omega
  simp [Instr.makeSlice, asInt, asIntOf, run_underlying ht, typeInfo, sizeOf, zeroValue, hi, hzv, hw, h1, h2, hsz, hzc, newRow, askRoom]
  have hm : ∀ k : Nat, ([x][k % 1]?.getD default) = x := by intro k; simp [Nat.mod_one]
  split
  · rename_i h0; subst h0; congr 3; apply Array.ext'; simp
  · congr 3
    apply Array.ext'
    simp [hm, List.map_const']

/-- Copy, into a block. -/
theorem copy_run' {e' t e ty : TypeId} {sz by_ : Nat} {z : List Value} (E : ElemTy P t e sz by_ z) {b o dl dc sl sc : Nat} {x : Option Addr} {news : List Value}
    (hb : Blk w b c e') (hn : news.length = min sl dl * sz) (hx : Has w x news) (hone : ∀ v ∈ news, v.oneCell' = true) (hfit : o + news.length ≤ c.length) :
    (Builtin.copy_ #[t, t] ty #[.slice (some ⟨b, o, none⟩) dl dc, .slice x sl sc]).run P w = .ok (.int .i64 (min sl dl : Nat)) (w.setCells b o news) := by
  obtain ⟨ht, ⟨i, zv, hi, hsz, hby, hzv, hzc⟩, hzl, hpos, hbpos⟩ := E
  have hf := run_firstCells_has (P := P) (sz := sz) (n := min sl dl) (c := sc) (m := sl) hx hn
  have hw := hb.wr_all o news.length hfit
  have hs := run_storeCells_cells (P := P) b o news 0 w (by simpa using hw.1) (by simpa using hw.2) hone
  simp [Builtin.copy_, run_underlying ht, sizeOf, typeInfo, hi, Builtin.lenOf, hsz, hf, hs, goInt]

theorem copy_run {t e ty : TypeId} {sz by_ : Nat} {z : List Value} (E : ElemTy P t e sz by_ z) {b o dl dc sl sc : Nat} {x : Option Addr} {news : List Value}
    (hb : Blk w b c e) (hn : news.length = min sl dl * sz) (hx : Has w x news) (hone : ∀ v ∈ news, v.oneCell' = true) (hfit : o + news.length ≤ c.length) :
    (Builtin.copy_ #[t, t] ty #[.slice (some ⟨b, o, none⟩) dl dc, .slice x sl sc]).run P w = .ok (.int .i64 (min sl dl : Nat)) (w.setCells b o news) := copy_run' E hb hn hx hone hfit

/-! ### maps whose keys are integers -/
/-- What a map's entries are. -/
def EntOf (es : List MapEntry) (m : List (Int × Value)) : Prop := es.map (fun e => (e.key, e.val)) = m.map (fun p => (Value.int .i64 p.1, p.2))
def MapIs (w : World) (r : Nat) (m : List (Int × Value)) : Prop := ∃ es clk, w.heap[r]? = some (.map es clk) ∧ EntOf es.toList m ∧ (m.map Prod.fst).Nodup
def mfind (m : List (Int × Value)) (k : Int) : Option Value := match m with | [] => none | (j, v) :: l => if k = j then some v else mfind l k
def mput (m : List (Int × Value)) (k : Int) (v : Value) : List (Int × Value) := match m with | [] => [(k, v)] | (j, u) :: l => if k = j then (k, v) :: l else (j, u) :: mput l k v
def mdel (m : List (Int × Value)) (k : Int) : List (Int × Value) := match m with | [] => [] | (j, u) :: l => if k = j then l else (j, u) :: mdel l k

theorem MapIs.keep {r : Nat} {m : List (Int × Value)} (h : MapIs w r m) (hk : Keep M w w') (hm : r ∉ M) : MapIs w' r m := by
  obtain ⟨es, clk, h1, h2⟩ := h
  exact ⟨es, clk, hk.obj h1 hm, h2⟩
theorem MapIs.lt {r : Nat} {m : List (Int × Value)} (h : MapIs w r m) : r < w.heap.size := by
  obtain ⟨es, clk, h1, h2⟩ := h
  exact (Array.getElem?_eq_some_iff.1 h1).1
theorem MapIs.new (w : World) : MapIs (w.alloc (.map #[] 0)) w.heap.size [] := ⟨#[], 0, by show (w.heap.push _)[w.heap.size]? = _; simp, rfl, by simp⟩

theorem findNow_int {k : Int} {t : TypeDesc} (ht : t = .int .i64) : ∀ (es : List MapEntry) (m : List (Int × Value)) (i : Nat), EntOf es m →
    Instr.findNow t (.int .i64 k) es i = some ((mfind m k).map fun v => (i + ((m.map Prod.fst).idxOf k), v))
  | [], [], i, _ => rfl
  | [], _ :: _, i, h => by simp [EntOf] at h
  | _ :: _, [], i, h => by simp [EntOf] at h
  | e :: es, (j, v) :: m, i, h => by
    unfold EntOf at h
    simp only [List.map_cons, List.cons.injEq, Prod.mk.injEq] at h
    obtain ⟨⟨h1, h2⟩, h3⟩ := h
    have ih := findNow_int (k := k) ht es m (i + 1) h3
    simp only [Instr.findNow, h1, ht, Instr.sameNow, if_true, mfind]
    by_cases hkj : k = j
    · subst hkj; simp [h2]
    · have : (k == j) = false := by simp [hkj]
      rw [ht] at ih
      rw [this]
      simp only [hkj, if_false, List.map_cons]
      rw [ih, List.idxOf_cons]
      have : (j == k) = false := by simp [Ne.symm hkj]
      simp only [this, cond_false]
      congr 2
      funext x
      congr 1
      omega

theorem run_checkKey_int (b : Bool) {t : TypeId} (ht : P.underlying t = some (.int .i64)) (k : Int) (w : World) : (Instr.checkKey b 10000 t (.int .i64 k)).run P w = .ok () w := by
  unfold Instr.checkKey
  simp [run_underlying ht]

theorem run_lookup_int {t kt et : TypeId} {r : Nat} {m : List (Int × Value)} {k : Int} {ok : Bool} {zero : Value} (ht : P.underlying t = some (.map kt et)) (hk : P.underlying kt = some (.int .i64))
    (hz : (P.info? et).bind (·.zero) = some zero) (h : MapIs w r m) :
    (Instr.lookup t (.map (some r)) (.int .i64 k) ok).run P w = .ok (if ok then .tuple #[(mfind m k).getD zero, .bool (mfind m k).isSome] else (mfind m k).getD zero) w := by
  obtain ⟨es, clk, h1, h2, h3⟩ := h
  have hf := findNow_int (k := k) (t := .int .i64) rfl es.toList m 0 h2
  have hg : (getObj r).run P w = .ok (.map es clk) w := by simp [getObj, Sem.run, h1]
  have hzr : (zeroValue et).run P w = .ok zero w := by
    cases hi : P.info? et with
    | none => simp [hi] at hz
    | some i => simp [hi] at hz; simp [zeroValue, typeInfo, hi, hz]
  cases hm : mfind m k with
  | none =>
    rw [hm] at hf
    simp at hf
    simp [Instr.lookup, run_underlying ht, hg, run_checkKey_int _ hk, Instr.findKey, run_underlying hk, hf, hzr]
  | some v =>
    rw [hm] at hf
    simp at hf
    simp [Instr.lookup, run_underlying ht, hg, run_checkKey_int _ hk, Instr.findKey, run_underlying hk, hf]


theorem sameBits_int (k : Int) : Instr.sameBits 10000 (.int .i64 k) (.int .i64 k) = true := by
  unfold Instr.sameBits; simp

theorem mput_keys_of_find {m : List (Int × Value)} {k : Int} {v u : Value} (h : mfind m k = some u) : (mput m k v).map Prod.fst = m.map Prod.fst := by
  induction m with
  | nil => simp [mfind] at h
  | cons p m ih =>
    obtain ⟨j, x⟩ := p
    simp only [mfind] at h
    simp only [mput]
    split at h
    · rename_i e; simp [e]
    · rename_i e; simp [e, ih h]
theorem mput_keys_of_none {m : List (Int × Value)} {k : Int} {v : Value} (h : mfind m k = none) : mput m k v = m ++ [(k, v)] ∧ k ∉ m.map Prod.fst := by
  induction m with
  | nil => simp [mput]
  | cons p m ih =>
    obtain ⟨j, x⟩ := p
    simp only [mfind] at h
    split at h
    · cases h
    · rename_i e
      obtain ⟨h1, h2⟩ := ih h
      simp only [mput, e, if_false, h1]
      simp [e]
      simpa using h2

theorem entOf_modify {k : Int} {v : Value} : ∀ (es : List MapEntry) (m : List (Int × Value)) (u : Value), EntOf es m → mfind m k = some u →
    EntOf (es.modify ((m.map Prod.fst).idxOf k) fun e => { e with key := .int .i64 k, val := v }) (mput m k v)
  | [], [], _, _, h => by simp [mfind] at h
  | [], _ :: _, _, h, _ => by simp [EntOf] at h
  | _ :: _, [], _, h, _ => by simp [EntOf] at h
  | e :: es, (j, x) :: m, u, h, hf => by
    unfold EntOf at h
    simp only [List.map_cons, List.cons.injEq, Prod.mk.injEq] at h
    obtain ⟨⟨h1, h2⟩, h3⟩ := h
    simp only [mfind] at hf
    by_cases hkj : k = j
    · subst hkj
      simp [EntOf, mput, h3]
    · simp only [hkj, if_false] at hf
      have ih := entOf_modify (v := v) es m u h3 hf
      have : (j == k) = false := by simp [Ne.symm hkj]
      simp only [List.map_cons, List.idxOf_cons, this, cond_false, mput, hkj, if_false, List.modify_succ_cons, EntOf]
      unfold EntOf at ih
      rw [ih, h1, h2]

theorem run_mapUpdate_int {t kt et : TypeId} {r : Nat} {m : List (Int × Value)} {k : Int} {v : Value} (ht : P.underlying t = some (.map kt et)) (hk : P.underlying kt = some (.int .i64)) (h : MapIs w r m) :
    ∃ w', (Instr.mapUpdate t (.map (some r)) (.int .i64 k) v).run P w = .ok () w' ∧ MapIs w' r (mput m k v) ∧ Keep [r] w w' := by
  obtain ⟨es, clk, h1, h2, h3⟩ := h
  have hlt : r < w.heap.size := (Array.getElem?_eq_some_iff.1 h1).1
  have hf := findNow_int (k := k) (t := .int .i64) rfl es.toList m 0 h2
  have hg : (getObj r).run P w = .ok (.map es clk) w := by simp [getObj, Sem.run, h1]
  have hs : ∀ o : Obj, (setObj r o).run P w = .ok () { w with heap := w.heap.setIfInBounds r o } := fun o => by simp [setObj, Sem.run, h1]
  have hkeep : ∀ o : Obj, Keep [r] w { w with heap := w.heap.setIfInBounds r o } := fun o => ⟨by simp, fun b _ hm => by
    have : r ≠ b := by simpa using Ne.symm (by simpa using hm)
    simp [Array.getElem?_setIfInBounds_ne this], rfl, rfl⟩
  have hgot : ∀ o : Obj, ({ w with heap := w.heap.setIfInBounds r o } : World).heap[r]? = some o := fun o => by simp [hlt]
  cases hm : mfind m k with
  | none =>
    rw [hm] at hf
    simp at hf
    obtain ⟨h4, h5⟩ := mput_keys_of_none (v := v) hm
    refine ⟨{ w with heap := w.heap.setIfInBounds r (.map (es.push { key := .int .i64 k, val := v, born := clk }) (clk + 1)) }, ?_, ⟨_, _, hgot _, ?_, ?_⟩, hkeep _⟩
    · simp [Instr.mapUpdate, run_underlying ht, hg, run_checkKey_int _ hk, Instr.findKey, run_underlying hk, hf, hs]
    · rw [h4]; simp only [EntOf, Array.toList_push, List.map_append] at h2 ⊢; rw [h2]; rfl
    · rw [h4, List.map_append, List.nodup_append]
      refine ⟨h3, by simp, ?_⟩
      intro a ha b hb
      simp at hb
      subst hb
      intro e; subst e; exact h5 ha
  | some u =>
    rw [hm] at hf
    simp at hf
    have hl : ∀ (es : List MapEntry) (m : List (Int × Value)), EntOf es m → mfind m k = some u → ∃ e, es[(m.map Prod.fst).idxOf k]? = some e ∧ e.key = .int .i64 k := by
      intro es
      induction es with
      | nil => intro m he hm; cases m <;> simp [EntOf, mfind] at he hm
      | cons e es ih =>
        intro m he hm
        cases m with
        | nil => simp [mfind] at hm
        | cons p m =>
          obtain ⟨j, x⟩ := p
          unfold EntOf at he
          simp only [List.map_cons, List.cons.injEq, Prod.mk.injEq] at he
          simp only [mfind] at hm
          by_cases hkj : k = j
          · subst hkj; exact ⟨e, by simp, he.1.1⟩
          · simp only [hkj, if_false] at hm
            obtain ⟨e', h1, h2⟩ := ih m he.2 hm
            refine ⟨e', ?_, h2⟩
            have : (j == k) = false := by simp [Ne.symm hkj]
            simp only [List.map_cons, List.idxOf_cons, this, cond_false, List.getElem?_cons_succ]
            exact h1
    obtain ⟨e, he, hek⟩ := hl es.toList m h2 hm
    have he' : es[(m.map Prod.fst).idxOf k]? = some e := by simpa using he
    refine ⟨{ w with heap := w.heap.setIfInBounds r (.map (es.modify ((m.map Prod.fst).idxOf k) fun e => { e with key := .int .i64 k, val := v }) clk) }, ?_, ⟨_, _, hgot _, ?_, ?_⟩, hkeep _⟩
    · simp [Instr.mapUpdate, run_underlying ht, hg, run_checkKey_int _ hk, Instr.findKey, run_underlying hk, hf, hs, he', hek, Instr.keyThatStays, sameBits_int]
    · rw [Array.toList_modify]; exact entOf_modify _ _ _ h2 hm
    · rw [mput_keys_of_find hm]; exact h3

theorem entOf_erase {k : Int} : ∀ (es : List MapEntry) (m : List (Int × Value)) (u : Value), EntOf es m → mfind m k = some u → EntOf (es.eraseIdx ((m.map Prod.fst).idxOf k)) (mdel m k)
  | [], [], _, _, h => by simp [mfind] at h
  | [], _ :: _, _, h, _ => by simp [EntOf] at h
  | _ :: _, [], _, h, _ => by simp [EntOf] at h
  | e :: es, (j, x) :: m, u, h, hf => by
    unfold EntOf at h
    simp only [List.map_cons, List.cons.injEq, Prod.mk.injEq] at h
    obtain ⟨⟨h1, h2⟩, h3⟩ := h
    simp only [mfind] at hf
    by_cases hkj : k = j
    · subst hkj
      simpa [EntOf, mdel] using h3
    · simp only [hkj, if_false] at hf
      have ih := entOf_erase es m u h3 hf
      have : (j == k) = false := by simp [Ne.symm hkj]
      simp only [List.map_cons, List.idxOf_cons, this, cond_false, mdel, hkj, if_false, List.eraseIdx_cons_succ, EntOf]
      unfold EntOf at ih
      rw [ih, h1, h2]
theorem mdel_of_none {m : List (Int × Value)} {k : Int} (h : mfind m k = none) : mdel m k = m := by
  induction m with
  | nil => rfl
  | cons p m ih =>
    obtain ⟨j, x⟩ := p
    simp only [mfind] at h
    split at h
    · cases h
    · rename_i e; simp [mdel, e, ih h]
theorem mdel_sub (m : List (Int × Value)) (k : Int) : List.Sublist (mdel m k) m := by
  induction m with
  | nil => simp [mdel]
  | cons p m ih =>
    obtain ⟨j, x⟩ := p
    simp only [mdel]
    split
    · exact List.sublist_cons_self _ _
    · exact ih.cons_cons _

theorem run_delete_int {t kt et ty : TypeId} {ats : Array TypeId} {r : Nat} {m : List (Int × Value)} {k : Int} (hat : ats[0]? = some t) (ht : P.underlying t = some (.map kt et)) (hk : P.underlying kt = some (.int .i64)) (h : MapIs w r m) :
    ∃ w', (Builtin.delete_ ats ty #[.map (some r), .int .i64 k]).run P w = .ok (.tuple #[]) w' ∧ MapIs w' r (mdel m k) ∧ Keep [r] w w' := by
  obtain ⟨es, clk, h1, h2, h3⟩ := h
  have hlt : r < w.heap.size := (Array.getElem?_eq_some_iff.1 h1).1
  have hf := findNow_int (k := k) (t := .int .i64) rfl es.toList m 0 h2
  have hg : (getObj r).run P w = .ok (.map es clk) w := by simp [getObj, Sem.run, h1]
  have hs : ∀ o : Obj, (setObj r o).run P w = .ok () { w with heap := w.heap.setIfInBounds r o } := fun o => by simp [setObj, Sem.run, h1]
  have hkeep : ∀ o : Obj, Keep [r] w { w with heap := w.heap.setIfInBounds r o } := fun o => ⟨by simp, fun b _ hm => by
    have : r ≠ b := by simpa using Ne.symm (by simpa using hm)
    simp [Array.getElem?_setIfInBounds_ne this], rfl, rfl⟩
  have hgot : ∀ o : Obj, ({ w with heap := w.heap.setIfInBounds r o } : World).heap[r]? = some o := fun o => by simp [hlt]
  cases hm : mfind m k with
  | none =>
    rw [hm] at hf
    simp at hf
    refine ⟨{ w with heap := w.heap.setIfInBounds r (.map es clk) }, ?_, ⟨_, _, hgot _, by rw [mdel_of_none hm]; exact h2, by rw [mdel_of_none hm]; exact h3⟩, hkeep _⟩
    simp [Builtin.delete_, hat, run_underlying ht, hg, run_checkKey_int _ hk, Instr.findKey, run_underlying hk, hf, hs]
  | some u =>
    rw [hm] at hf
    simp at hf
    refine ⟨{ w with heap := w.heap.setIfInBounds r (.map (es.eraseIdxIfInBounds ((m.map Prod.fst).idxOf k)) clk) }, ?_, ⟨_, _, hgot _, ?_, ?_⟩, hkeep _⟩
    · simp [Builtin.delete_, hat, run_underlying ht, hg, run_checkKey_int _ hk, Instr.findKey, run_underlying hk, hf, hs]
    · have := entOf_erase es.toList m u h2 hm
      rw [show (es.eraseIdxIfInBounds ((m.map Prod.fst).idxOf k)).toList = es.toList.eraseIdx ((m.map Prod.fst).idxOf k) from by
        unfold Array.eraseIdxIfInBounds
        split
        · simp
        · rename_i h; rw [List.eraseIdx_of_length_le (by simpa using h)]]
      exact this
    · exact List.Nodup.sublist ((mdel_sub m k).map _) h3

theorem run_len_map {t kt et ty : TypeId} {r : Nat} {m : List (Int × Value)} (ht : P.underlying t = some (.map kt et)) (h : MapIs w r m) :
    (Builtin.len_ #[t] ty #[.map (some r)]).run P w = .ok (.int .i64 (m.length : Nat)) w := by
  obtain ⟨es, clk, h1, h2, h3⟩ := h
  have hg : (getObj r).run P w = .ok (.map es clk) w := by simp [getObj, Sem.run, h1]
  have hl : es.size = m.length := by have := congrArg List.length h2; simpa using this
  simp [Builtin.len_, run_underlying ht, hg, goInt, hl]


/-! ### steps of a proof -/
/-- A cell is stored. -/
theorem st {k : Nat} {Q : World → Prop} (h : Blk w b c T) (hk : k < c.length) (hq : ∀ w', Blk w' b (c.set k v) T → Keep [b] w w' → w'.heap.size = w.heap.size → Q w') :
    Wr w ⟨b, k, none⟩ ∧ ∀ w', w' = w.setCell ⟨b, k, none⟩ v → Q w' :=
  ⟨h.wr hk, fun w' e => by subst e; exact hq _ (h.set k v) (Keep.set _ _ _ _) (by simp [World.setCell])⟩
/-- A block is made. -/
theorem al {Q : World → Prop} (hq : ∀ w', Blk w' w.heap.size c T → Keep [] w w' → w'.heap.size = w.heap.size + 1 → Q w') : ∀ w', w' = w.alloc (.cells c.toArray T) → Q w' :=
  fun w' e => by subst e; exact hq _ (Blk.alloc_new _ _ _) (Keep.alloc _ _) (by show (w.heap.push _).size = _; simp)
end Go.Vc
