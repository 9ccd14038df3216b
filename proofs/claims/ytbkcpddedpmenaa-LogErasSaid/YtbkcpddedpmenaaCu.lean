/- What stays on the disk: plain laws. -/
import Derived.Test.YtbkcpddedpmenaaCr
set_option maxRecDepth 100000
namespace Go.Proofs
open Go Go.Vc

def upd (l : List UInt8) (p : Nat) (b : List UInt8) : List UInt8 := l.take p ++ b ++ l.drop (p + b.length)
theorem upd_get {l b : List UInt8} {p : Nat} (hp : p + b.length ≤ l.length) (k : Nat) : (upd l p b)[k]? = if k < p then l[k]? else if k < p + b.length then b[k - p]? else l[k]? := by
  unfold upd
  have h1 : (l.take p).length = p := by rw [List.length_take]; omega
  rw [List.append_assoc]
  by_cases hk : k < p
  · rw [if_pos hk, List.getElem?_append_left (by omega), List.getElem?_take_of_lt hk]
  · rw [if_neg hk, List.getElem?_append_right (by omega), h1]
    by_cases hk2 : k < p + b.length
    · rw [if_pos hk2, List.getElem?_append_left (by omega)]
    · rw [if_neg hk2, List.getElem?_append_right (by omega), List.getElem?_drop]
      congr 1; omega
theorem upd_length {l b : List UInt8} {p : Nat} (hp : p + b.length ≤ l.length) : (upd l p b).length = l.length := by
  simp [upd]; omega
/-- So many bytes at a place. -/
def rg (l : List UInt8) (o n : Nat) : List UInt8 := (l.drop o).take n
theorem rg_get (l : List UInt8) (o n k : Nat) : (rg l o n)[k]? = if k < n then l[o + k]? else none := by
  unfold rg
  by_cases h : k < n
  · rw [if_pos h, List.getElem?_take_of_lt h, List.getElem?_drop]
  · rw [if_neg h, List.getElem?_take]; simp [h]
theorem rg_upd_off {l b : List UInt8} {p o n : Nat} (hp : p + b.length ≤ l.length) (h : o + n ≤ p ∨ p + b.length ≤ o) : rg (upd l p b) o n = rg l o n := by
  apply List.ext_getElem?
  intro k
  rw [rg_get, rg_get]
  by_cases hk : k < n
  · rw [if_pos hk, if_pos hk, upd_get hp]
    rcases h with h | h
    · rw [if_pos (by omega)]
    · rw [if_neg (by omega), if_neg (by omega)]
  · rw [if_neg hk, if_neg hk]
theorem rg_upd_on {l b : List UInt8} {p : Nat} (hp : p + b.length ≤ l.length) : rg (upd l p b) p b.length = b := by
  apply List.ext_getElem?
  intro k
  rw [rg_get]
  by_cases hk : k < b.length
  · rw [if_pos hk, upd_get hp, if_neg (by omega), if_pos (by omega)]
    congr 1; omega
  · rw [if_neg hk, List.getElem?_eq_none (by omega)]

theorem secOf_apart {sl fi q q' : Nat} (hs : 0 < sl) (h1 : 8 * fi ≤ q) (h2 : q < 8 * (fi + sl)) (h3 : 8 * fi ≤ q') (h4 : q' < 8 * (fi + sl)) (hne : q ≠ q') : secOf sl q + 4 ≤ secOf sl q' ∨ secOf sl q' + 4 ≤ secOf sl q := by
  unfold secOf
  have m1 : q / 8 % sl < sl := Nat.mod_lt _ hs
  have m2 : q' / 8 % sl < sl := Nat.mod_lt _ hs
  have key : q / 8 % sl = q' / 8 % sl → q / 8 = q' / 8 := by
    intro he
    have d1 := Nat.div_add_mod (q / 8) sl
    have d2 := Nat.div_add_mod (q' / 8) sl
    have b1 : fi ≤ q / 8 := by omega
    have b2 : q / 8 < fi + sl := by omega
    have b3 : fi ≤ q' / 8 := by omega
    have b4 : q' / 8 < fi + sl := by omega
    rcases Nat.lt_trichotomy (q / 8 / sl) (q' / 8 / sl) with h | h | h
    · have : sl * (q / 8 / sl) + sl ≤ sl * (q' / 8 / sl) := by
        have := Nat.mul_le_mul_left sl h
        rw [Nat.mul_succ] at this; exact this
      omega
    · rw [h] at d1; omega
    · have : sl * (q' / 8 / sl) + sl ≤ sl * (q / 8 / sl) := by
        have := Nat.mul_le_mul_left sl h
        rw [Nat.mul_succ] at this; exact this
      omega
  by_cases he : q / 8 % sl = q' / 8 % sl
  · have := key he
    omega
  · omega

/-- What stands on the disk, and what of it stays. -/
structure Good (S : SysM) (dur : Nat) : Prop where
  wrd : S.L.at (S.L.written - S.L.hn) ≤ dur
  dle : dur ≤ S.L.sent
  hpd : S.L.hp ≤ dur
  nw : ∀ i j p, (S.L.parts i)[j]? = some p → S.L.at i + j < S.L.sent → rg S.m.nw (64 * secOf S.sl (S.L.at i + j)) 256 = encodeL p
  pl : ∀ i j p, (S.L.parts i)[j]? = some p → S.L.at i + j < dur → rg S.m.pl (64 * secOf S.sl (S.L.at i + j)) 256 = encodeL p
  ws : ∀ x ∈ S.m.ws, ∃ q, dur ≤ q ∧ q < S.L.sent ∧ secOf S.sl q ≤ x.1 ∧ x.1 < secOf S.sl q + 4
/-- Sizes. -/
structure Szs (S : SysM) : Prop where
  ln : S.m.nw.length = 64 * S.n
  lp : S.m.pl.length = 64 * S.n
  s4 : 4 ≤ S.sl
  bot : 8 * S.fi ≤ S.L.hp
  top : S.L.place ≤ 8 * (S.fi + S.sl)
  snt : S.L.sent ≤ S.L.place
  mays : ∀ i p, p ∈ S.L.parts i → mayB p = true
  wle : S.L.hn ≤ S.L.written ∧ S.L.written ≤ S.L.no
  ok : ∀ x ∈ S.m.ws, x.1 < S.n ∧ x.2.length = 64
theorem Sys.szs {w : World} {A : Ad} {fw : List Nat} {ptr : Nat → Nat} {lo : Nat} {S : SysM} (h : Sys w A fw ptr lo S) : Szs S :=
  ⟨h.disk.ln, h.disk.lp, h.seg.2.1, h.bot, h.top, h.bsent.2, h.mays, h.bwr, h.disk.ok⟩

theorem parts_some {L : LogM} {i j : Nat} {p : Part} (h : (L.parts i)[j]? = some p) : ∃ hi : i < L.es.length, j < manyE L.es[i] ∧ p.place = ((L.at i + j : Nat) : Int) := by
  unfold LogM.parts at h
  cases he : L.es[i]? with
  | none => rw [he] at h; simp at h
  | some e =>
    rw [he] at h
    obtain ⟨hi, h2⟩ := List.getElem?_eq_some_iff.1 he
    obtain ⟨h3, h4⟩ := partsOf_place h
    refine ⟨hi, ?_, by omega⟩
    rw [h2]; simpa [manyE] using h4
theorem at_bound {L : LogM} {i j : Nat} (hi : i < L.es.length) (hj : j < manyE L.es[i]) : L.hp ≤ L.at i + j ∧ L.at i + j < L.place := by
  have h1 := LogM.at_succ hi
  have h2 := L.at_le (i + 1)
  have h3 : L.hp ≤ L.at i := Nat.le_add_right _ _
  omega
theorem at_inj {L : LogM} {i j i' j' : Nat} (hi : i < L.es.length) (hj : j < manyE L.es[i]) (hi' : i' < L.es.length) (hj' : j' < manyE L.es[i']) (h : L.at i + j = L.at i' + j') : i = i' ∧ j = j' := by
  have h1 := LogM.at_succ hi
  have h2 := LogM.at_succ hi'
  rcases Nat.lt_trichotomy i i' with g | g | g
  · have := LogM.at_mono (L := L) (i := i + 1) (j := i') g; omega
  · subst g; omega
  · have := LogM.at_mono (L := L) (i := i' + 1) (j := i) g; omega

theorem enc_len {p : Part} (h : mayB p = true) : (encodeL p).length = 256 := encRange_length (may_data h).1 (Nat.le_refl _)

theorem Good.wr {S : SysM} {dur i j : Nat} {p : Part} (h : Good S dur) (z : Szs S) (hs : S.L.sent = S.L.at i + j) (hp : (S.L.parts i)[j]? = some p) : Good (S.wr p) dur := by
  obtain ⟨hi, hj, _⟩ := parts_some hp
  have hm := z.mays i p (List.mem_of_getElem? hp)
  have hl := enc_len hm
  have hb := at_bound hi hj
  have h4 := z.s4
  have hbt := z.bot
  have htp := z.top
  have hsec := secOf_le (sl := S.sl) (p := S.L.sent) (n := S.n) rfl h4
  have hln := z.ln
  have hnw : (S.wr p).m.nw = upd S.m.nw (64 * secOf S.sl S.L.sent) (encodeL p) := by
    show (writeN S.m (secOf S.sl S.L.sent) (encodeL p) 4).nw = _
    unfold writeN upd
    simp only
    rw [show List.take (64 * 4) (encodeL p) = encodeL p from List.take_of_length_le (by omega), hl]
  refine ⟨h.wrd, Nat.le_trans h.dle (Nat.le_succ _), h.hpd, fun i' j' p' hp' hlt => ?_, h.pl, fun x hx => ?_⟩
  · have hp' : (S.L.parts i')[j']? = some p' := hp'
    have hlt : S.L.at i' + j' < S.L.sent + 1 := hlt
    rw [hnw]
    show rg _ (64 * secOf S.sl (S.L.at i' + j')) 256 = _
    obtain ⟨hi', hj', _⟩ := parts_some hp'
    have hb' := at_bound hi' hj'
    by_cases he : S.L.at i' + j' = S.L.sent
    · obtain ⟨rfl, rfl⟩ := at_inj hi' hj' hi hj (by omega)
      rw [hp] at hp'
      injection hp' with hp'
      subst hp'
      rw [he, ← hl, rg_upd_on (by rw [hl, hln]; omega)]
    · rw [rg_upd_off (by rw [hl, hln]; omega), h.nw i' j' p' hp' (by omega)]
      rw [hl]
      have := secOf_apart (sl := S.sl) (fi := S.fi) (q := S.L.at i' + j') (q' := S.L.sent) (by omega) (by omega) (by omega) (by omega) (by omega) he
      omega
  · have hx : x ∈ S.m.ws ++ (List.range 4).map (fun j => (secOf S.sl S.L.sent + j, ((encodeL p).drop (64 * j)).take 64)) := hx
    rw [List.mem_append] at hx
    rcases hx with hx | hx
    · obtain ⟨q, g1, g2, g3⟩ := h.ws x hx
      exact ⟨q, g1, Nat.lt_succ_of_lt g2, g3⟩
    · simp only [List.mem_map, List.mem_range] at hx
      obtain ⟨k, hk, rfl⟩ := hx
      refine ⟨S.L.sent, h.dle, Nat.lt_succ_self _, ?_, ?_⟩
      · show secOf S.sl S.L.sent ≤ secOf S.sl S.L.sent + k; omega
      · show secOf S.sl S.L.sent + k < secOf S.sl S.L.sent + 4; omega

theorem Good.sync {S : SysM} {dur : Nat} (h : Good S dur) : Good S.sync S.L.sent :=
  ⟨Nat.le_trans h.wrd h.dle, Nat.le_refl _, Nat.le_trans h.hpd h.dle, h.nw, h.nw, by simp [SysM.sync]⟩
theorem Good.stay {S : SysM} {dur t : Nat} (h : Good S dur) (ht : S.L.at (t - S.L.hn) ≤ dur) : Good (S.stay t) dur :=
  ⟨by
    show S.L.at (max S.L.written t - S.L.hn) ≤ dur
    rcases Nat.le_total S.L.written t with g | g
    · rw [Nat.max_eq_right g]; exact ht
    · rw [Nat.max_eq_left g]; exact h.wrd, h.dle, h.hpd, h.nw, h.pl, h.ws⟩

theorem app_parts_some {L : LogM} {e : Ent} {i j : Nat} {p : Part} (h : (LogM.parts { L with es := L.es ++ [e] } i)[j]? = some p) : (i < L.es.length ∧ (L.parts i)[j]? = some p) ∨ (i = L.es.length ∧ LogM.at { L with es := L.es ++ [e] } i = L.place) := by
  obtain ⟨hi, _, _⟩ := parts_some h
  simp only [List.length_append, List.length_cons, List.length_nil] at hi
  by_cases g : i < L.es.length
  · exact .inl ⟨g, by rw [← app_parts g]; exact h⟩
  · have : i = L.es.length := by omega
    subst this
    exact .inr ⟨rfl, by rw [app_at (Nat.le_refl _), L.at_len]⟩

theorem Good.app {S : SysM} {dur : Nat} {e : Ent} (h : Good S dur) (z : Szs S) : Good (S.app e) dur := by
  have hw := z.wle
  have hno : S.L.no = S.L.hn + S.L.es.length := rfl
  have hsn := z.snt
  have hdl := h.dle
  refine ⟨by show LogM.at { S.L with es := S.L.es ++ [e] } _ ≤ dur; rw [app_at (by show S.L.written - S.L.hn ≤ _; omega)]; exact h.wrd, h.dle, h.hpd, fun i j p hp hlt => ?_, fun i j p hp hlt => ?_, h.ws⟩
  · rcases app_parts_some hp with ⟨g1, g2⟩ | ⟨g1, g2⟩
    · have ea : (S.app e).L.at i = S.L.at i := app_at (Nat.le_of_lt g1)
      rw [ea] at hlt ⊢
      exact h.nw i j p g2 hlt
    · have hlt : (S.app e).L.at i + j < S.L.sent := hlt
      have g2 : (S.app e).L.at i = S.L.place := g2
      omega
  · rcases app_parts_some hp with ⟨g1, g2⟩ | ⟨g1, g2⟩
    · have ea : (S.app e).L.at i = S.L.at i := app_at (Nat.le_of_lt g1)
      rw [ea] at hlt ⊢
      exact h.pl i j p g2 hlt
    · have g2 : (S.app e).L.at i = S.L.place := g2
      omega

theorem up_keeps {m : DiskM} {n : Nat} {ks : List Int} {o : Nat} (hl : m.pl.length = 64 * n) (hok : ∀ x ∈ m.ws, x.1 < n ∧ x.2.length = 64) (ho : ∀ x ∈ m.ws, x.1 < o ∨ o + 4 ≤ x.1) : ∀ k, k ≤ m.ws.length → rg (upN m ks k) (64 * o) 256 = rg m.pl (64 * o) 256
  | 0, _ => rfl
  | k + 1, hk => by
    have hm : m.ws.getD k (0, []) ∈ m.ws := by rw [List.getD_eq_getElem?_getD, List.getElem?_eq_getElem (by omega)]; simp
    obtain ⟨g1, g2⟩ := hok _ hm
    have g3 := ho _ hm
    have hlen := upN_length (ks := ks) hl hok k (by omega)
    show rg (upStep (upN m ks k) (m.ws.getD k (0, [])) (ks.getD k 0)) _ _ = _
    generalize m.ws.getD k (0, []) = x at *
    have hr := kI_range (ks.getD k 0)
    have lt : (x.2.take (kI (ks.getD k 0)).toNat).length = (kI (ks.getD k 0)).toNat := by rw [List.length_take, g2]; omega
    have e : upStep (upN m ks k) x (ks.getD k 0) = upd (upN m ks k) (64 * x.1) (x.2.take (kI (ks.getD k 0)).toNat) := by
      unfold upStep upd; rw [lt]
    rw [e, rg_upd_off (by rw [lt, hlen]; omega) (by rw [lt]; omega)]
    exact up_keeps hl hok ho k (by omega)

/-- What was synced is there behind a crash. -/
theorem Good.up {S : SysM} {dur : Nat} (h : Good S dur) (z : Szs S) (ks : List Int) {i j : Nat} {p : Part} (hp : (S.L.parts i)[j]? = some p) (hlt : S.L.at i + j < dur) :
    rg (upN S.m ks S.m.ws.length) (64 * secOf S.sl (S.L.at i + j)) 256 = encodeL p := by
  rw [up_keeps (n := S.n) z.lp z.ok (fun x hx => ?_) _ (Nat.le_refl _)]
  · exact h.pl i j p hp hlt
  · obtain ⟨q, g1, g2, g3, g4⟩ := h.ws x hx
    obtain ⟨hi, hj, _⟩ := parts_some hp
    have hb := at_bound hi hj
    have := secOf_apart (sl := S.sl) (fi := S.fi) (q := S.L.at i + j) (q' := q) (by have := z.s4; omega) (by have := z.bot; omega) (by have := z.top; omega) (by have := z.bot; omega) (by have := z.top; have := z.snt; omega) (by omega)
    omega
end Go.Proofs
