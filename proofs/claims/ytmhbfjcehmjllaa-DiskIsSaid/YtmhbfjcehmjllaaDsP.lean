/- A cell of a splice. -/
import Derived.Test.YtmhbfjcehmjllaaDsk
set_option linter.unusedSimpArgs false
set_option linter.unusedVariables false
namespace Go.Proofs.Ytmhbfjcehmjllaa
open Go.RowKit

theorem splice_get {b d : List UInt8} {o k : Nat} (hk : k < b.length) (ho : o + d.length ≤ b.length) : (splice b o d)[k]? = if o ≤ k ∧ k < o + d.length then d[k - o]? else b[k]? := by
  unfold splice
  by_cases h1 : k < o
  · rw [if_neg (by omega), List.getElem?_append_left (by simp; omega), List.getElem?_take, if_pos h1]
  · by_cases h2 : k < o + d.length
    · rw [if_pos ⟨by omega, h2⟩, List.getElem?_append_right (by simp; omega), List.getElem?_append_left (by simp; omega)]
      congr 1; simp; omega
    · rw [if_neg (by omega), List.getElem?_append_right (by simp; omega), List.getElem?_append_right (by simp; omega), List.getElem?_drop]
      congr 1; simp; omega

end Go.Proofs.Ytmhbfjcehmjllaa

namespace Go.Proofs.Ytmhbfjcehmjllaa
open Go.RowKit

abbrev WP := Int × List UInt8
def okP (nb : Nat) (p : WP) : Bool := decide (0 ≤ p.1 ∧ p.1 < (nb / 32 : Nat) ∧ p.2.length = 32)
def saneP (nb : Nat) (ps : List WP) : Bool := decide (nb % 32 = 0 ∧ nb / 32 ≤ 4096 ∧ ps.length ≤ 100000) && ps.all (okP nb)
theorem sane_pl (nb : Nat) (ws : List WriteR) : saneD nb ws = saneP nb (ws.map WriteR.pl) := by
  unfold saneD saneP
  rw [List.length_map, List.all_map]
  rfl
def putP (b : List UInt8) (p : WP) (n : Nat) : List UInt8 := splice b (32 * p.1.toNat) (p.2.take n)
def crashP (plan : List UInt8) : Nat → List WP → List UInt8 → List UInt8
  | _, [], b => b
  | i, p :: ps, b => crashP plan (i + 1) ps (putP b p (planN plan i))
theorem crash_pl (plan : List UInt8) : ∀ (ws : List WriteR) (i : Nat) (b : List UInt8), crashAt plan i ws b = crashP plan i (ws.map WriteR.pl) b
  | [], _, _ => rfl
  | x :: ws, i, b => by unfold crashAt; rw [crash_pl plan ws]; rfl
def bytesP (b : List UInt8) (ps : List WP) : List UInt8 := ps.foldl (fun b p => splice b (32 * p.1.toNat) p.2) b
theorem bytes_pl : ∀ (ws : List WriteR) (b : List UInt8), ws.foldl layW b = bytesP b (ws.map WriteR.pl)
  | [], _ => rfl
  | x :: ws, b => by rw [List.foldl_cons, bytes_pl ws]; rfl
theorem tk_pl (b : List UInt8) (ws : List WriteR) : tkB b ws = (if saneP b.length (ws.map WriteR.pl) then b else []) ∧ (tkW b ws).map WriteR.pl = (if saneP b.length (ws.map WriteR.pl) then ws.map WriteR.pl else []) := by
  unfold tkB tkW
  rw [sane_pl]
  split <;> exact ⟨rfl, rfl⟩
theorem crashD_pl {b : List UInt8} {ws : List WriteR} {ps : List WP} {plan : List UInt8} (h : ws.map WriteR.pl = ps) (hs : saneP b.length ps = true) : crashD b ws plan = crashP plan 0 ps b := by
  subst h
  have := tk_pl b ws
  rw [if_pos hs, if_pos hs] at this
  unfold crashD
  rw [crash_pl, this.1, this.2]
theorem bytesD_pl {b : List UInt8} {ws : List WriteR} {ps : List WP} (h : ws.map WriteR.pl = ps) (hs : saneP b.length ps = true) : bytesD b ws = bytesP b ps := by
  subst h
  have := tk_pl b ws
  rw [if_pos hs, if_pos hs] at this
  unfold bytesD
  rw [bytes_pl, this.1, this.2]

/-- What Lay answers, of the writes alone (a disk that may be). -/
def layP (b : List UInt8) (ps : List WP) (at_ : Int) (data : List UInt8) : List WP × Int :=
  if data.length % 32 ≠ 0 then (ps, 14)
  else if data.length / 32 = 0 then (ps, 0)
  else if layOk b.length ps.length at_ (data.length / 32) then (ps ++ layWs at_ data (data.length / 32), 0)
  else (ps, 14)
theorem layD_pl {b : List UInt8} {ws : List WriteR} {ps : List WP} (h : ws.map WriteR.pl = ps) (hs : saneP b.length ps = true) (at_ : Int) (data : List UInt8) : layD b ws at_ data = layP b ps at_ data := by
  subst h
  have := tk_pl b ws
  rw [if_pos hs, if_pos hs] at this
  have hl : (tkW b ws).length = (ws.map WriteR.pl).length := by rw [← this.2, List.length_map]
  unfold layD layP
  rw [this.2, this.1, hl]
theorem tkB_pl {b : List UInt8} {ws : List WriteR} (hs : saneP b.length (ws.map WriteR.pl) = true) : tkB b ws = b := by
  have := (tk_pl b ws).1; rwa [if_pos hs] at this

theorem layP_sane {b : List UInt8} {ps : List WP} (hs : saneP b.length ps = true) (at_ : Int) (data : List UInt8) : saneP b.length (layP b ps at_ data).1 = true := by
  unfold layP
  split
  · exact hs
  · split
    · exact hs
    · split
      · rename_i h1 h2 h3
        have h3 := of_decide_eq_true h3
        unfold saneP at hs ⊢
        rw [Bool.and_eq_true] at hs ⊢
        obtain ⟨ha, hb⟩ := hs
        have ha := of_decide_eq_true ha
        refine ⟨decide_eq_true ⟨ha.1, ha.2.1, by simp [layWs]; omega⟩, ?_⟩
        rw [List.all_append, hb, Bool.true_and, List.all_eq_true]
        intro p hp
        obtain ⟨k, hk, rfl⟩ := List.mem_map.1 hp
        have hk := List.mem_range.1 hk
        refine decide_eq_true ⟨by simp; omega, by simp; omega, by simp; omega⟩
      · exact hs

theorem splice_nil (b : List UInt8) (o : Nat) : splice b o [] = b := by simp [splice]
theorem planN_take (plan : List UInt8) (m i : Nat) (h : i < m) : planN (plan.take m) i = planN plan i := by
  unfold planN; rw [List.getD_eq_getElem?_getD, List.getD_eq_getElem?_getD, List.getElem?_take, if_pos h]
theorem planN_past (plan : List UInt8) (i : Nat) (h : plan.length ≤ i) : planN plan i = 0 := by
  unfold planN; rw [List.getD_eq_getElem?_getD, List.getElem?_eq_none h]; rfl
theorem crashP_past (plan : List UInt8) : ∀ (ps : List WP) (i : Nat) (b : List UInt8), plan.length ≤ i → crashP plan i ps b = b
  | [], _, _, _ => rfl
  | p :: ps, i, b, h => by
    unfold crashP putP
    rw [planN_past plan i h, List.take_zero, splice_nil]
    exact crashP_past plan ps (i + 1) b (by omega)
theorem crashP_more (plan : List UInt8) (qs : List WP) : ∀ (ps : List WP) (i m : Nat) (b : List UInt8), i + ps.length = m →
    crashP (plan.take m) i (ps ++ qs) b = crashP plan i ps b
  | [], i, m, b, h => by
    have : crashP (plan.take m) i qs b = b := crashP_past _ _ _ _ (by rw [List.length_take]; simp at h; omega)
    exact this
  | p :: ps, i, m, b, h => by
    show crashP (plan.take m) (i + 1) (ps ++ qs) (putP b p (planN (plan.take m) i)) = crashP plan (i + 1) ps (putP b p (planN plan i))
    rw [planN_take plan m i (by simp at h; omega)]
    exact crashP_more plan qs ps (i + 1) m _ (by simp at h; omega)
theorem layP_more (b : List UInt8) (ps : List WP) (at_ : Int) (data : List UInt8) : ∃ qs, (layP b ps at_ data).1 = ps ++ qs := by
  unfold layP
  split
  · exact ⟨[], by simp⟩
  · split
    · exact ⟨[], by simp⟩
    · split
      · exact ⟨_, rfl⟩
      · exact ⟨[], by simp⟩

theorem putP_len {b : List UInt8} {p : WP} (n : Nat) (h : okP b.length p = true) : (putP b p n).length = b.length := by
  have := of_decide_eq_true h
  unfold putP; rw [length_splice]; simp; omega
theorem crashP_len (plan : List UInt8) (nb : Nat) : ∀ (ps : List WP) (i : Nat) (b : List UInt8), b.length = nb → ps.all (okP nb) = true → (crashP plan i ps b).length = nb
  | [], _, _, h, _ => h
  | p :: ps, i, b, h, ha => by
    rw [List.all_cons, Bool.and_eq_true] at ha
    exact crashP_len plan nb ps (i + 1) _ (by rw [putP_len _ (by rw [h]; exact ha.1), h]) ha.2
theorem bytesP_len (nb : Nat) : ∀ (ps : List WP) (b : List UInt8), b.length = nb → ps.all (okP nb) = true → (bytesP b ps).length = nb
  | [], _, h, _ => h
  | p :: ps, b, h, ha => by
    rw [List.all_cons, Bool.and_eq_true] at ha
    have := of_decide_eq_true ha.1
    exact bytesP_len nb ps (splice b (32 * p.1.toNat) p.2) (by rw [length_splice, h]; omega) ha.2
theorem sane_all {nb : Nat} {ps : List WP} (h : saneP nb ps = true) : ps.all (okP nb) = true := by
  unfold saneP at h; exact (Bool.and_eq_true_iff.1 h).2
theorem sane_nil {nb : Nat} {ps : List WP} (h : saneP nb ps = true) : saneP nb [] = true := by
  unfold saneP at h ⊢
  rw [Bool.and_eq_true] at h ⊢
  have := of_decide_eq_true h.1
  exact ⟨decide_eq_true ⟨this.1, this.2.1, by simp⟩, by simp⟩
/-- A plan that keeps all. -/
theorem crashP_full (plan : List UInt8) (nb : Nat) : ∀ (ps : List WP) (i : Nat) (b : List UInt8), ps.all (okP nb) = true → (∀ j, i ≤ j → j < i + ps.length → planN plan j = 32) → crashP plan i ps b = bytesP b ps
  | [], _, _, _, _ => rfl
  | p :: ps, i, b, ha, h => by
    rw [List.all_cons, Bool.and_eq_true] at ha
    have := of_decide_eq_true ha.1
    show crashP plan (i + 1) ps (putP b p (planN plan i)) = _
    rw [h i (Nat.le_refl _) (by simp), crashP_full plan nb ps (i + 1) _ ha.2 (fun j h1 h2 => h j (by omega) (by simp; omega))]
    unfold putP
    rw [List.take_of_length_le (by omega)]
    rfl
end Go.Proofs.Ytmhbfjcehmjllaa

namespace Go.Proofs.Ytmhbfjcehmjllaa
open Go.RowKit

def sec (b : List UInt8) (k : Nat) : List UInt8 := (b.drop (32 * k)).take 32
theorem sec_get (b : List UInt8) (k i : Nat) (hi : i < 32) : (sec b k)[i]? = b[32 * k + i]? := by
  unfold sec; rw [List.getElem?_take, if_pos hi, List.getElem?_drop]
theorem sec_ext {b : List UInt8} {k : Nat} {d : List UInt8} (hd : d.length = 32) (h : ∀ i, i < 32 → b[32 * k + i]? = d[i]?) : sec b k = d := by
  apply List.ext_getElem?
  intro i
  by_cases hi : i < 32
  · rw [sec_get b k i hi, h i hi]
  · rw [List.getElem?_eq_none (by unfold sec; rw [List.length_take]; omega), List.getElem?_eq_none (by omega)]
theorem sec_same {b b' : List UInt8} {k : Nat} (h : ∀ i, i < 32 → b[32 * k + i]? = b'[32 * k + i]?) : sec b k = sec b' k := by
  apply List.ext_getElem?
  intro i
  by_cases hi : i < 32
  · rw [sec_get b k i hi, sec_get b' k i hi, h i hi]
  · rw [List.getElem?_eq_none (by unfold sec; rw [List.length_take]; omega), List.getElem?_eq_none (by unfold sec; rw [List.length_take]; omega)]
theorem sec_splice {b d : List UInt8} {m k : Nat} (hd : d.length = 32) (hm : 32 * m + 32 ≤ b.length) (hk : 32 * k + 32 ≤ b.length) : sec (splice b (32 * m) d) k = if k = m then d else sec b k := by
  split
  · rename_i h
    subst h
    refine sec_ext hd fun i hi => ?_
    rw [splice_get (by omega) (by omega), if_pos (by omega)]
    congr 1; omega
  · refine sec_same fun i hi => ?_
    rw [splice_get (by omega) (by omega), if_neg (by omega)]

theorem layWs_succ (at_ : Int) (data : List UInt8) (n : Nat) : layWs at_ data (n + 1) = layWs at_ data n ++ [(at_ + n, sec data n)] := by
  unfold layWs; rw [List.range_succ, List.map_append]; rfl
theorem layWs_ok {nb : Nat} {at_ : Nat} {data : List UInt8} {n : Nat} (h1 : 32 * (at_ + n) ≤ nb) (h2 : 32 * n ≤ data.length) : (layWs at_ data n).all (okP nb) = true := by
  rw [List.all_eq_true]
  intro p hp
  obtain ⟨k, hk, rfl⟩ := List.mem_map.1 hp
  have hk := List.mem_range.1 hk
  exact decide_eq_true ⟨by simp; omega, by simp; omega, by simp; omega⟩
theorem bytes_lay (b : List UInt8) (at_ : Nat) (data : List UInt8) (k : Nat) (hk : 32 * k + 32 ≤ b.length) : ∀ (n : Nat), 32 * (at_ + n) ≤ b.length → 32 * n ≤ data.length →
    sec (bytesP b (layWs at_ data n)) k = if at_ ≤ k ∧ k < at_ + n then sec data (k - at_) else sec b k
  | 0, _, _ => by rw [if_neg (by omega)]; rfl
  | n + 1, h1, h2 => by
    have ih := bytes_lay b at_ data k hk n (by omega) (by omega)
    have hl := bytesP_len b.length (layWs at_ data n) b rfl (layWs_ok (by omega) (by omega))
    have hsd : (sec data n).length = 32 := by unfold sec; rw [List.length_take, List.length_drop]; omega
    have e : bytesP b (layWs at_ data (n + 1)) = splice (bytesP b (layWs at_ data n)) (32 * (at_ + n)) (sec data n) := by
      rw [layWs_succ]
      unfold bytesP
      rw [List.foldl_append]
      show splice _ (32 * ((at_ : Int) + (n : Int)).toNat) _ = _
      rw [show ((at_ : Int) + (n : Int)).toNat = at_ + n by omega]
    rw [e, sec_splice hsd (by omega) (by omega), ih]
    by_cases h : k = at_ + n
    · rw [if_pos h, if_pos (by omega), h]; congr 1; omega
    · rw [if_neg h]
      by_cases h3 : at_ ≤ k ∧ k < at_ + n
      · rw [if_pos h3, if_pos (by omega)]
      · rw [if_neg h3, if_neg (by omega)]
theorem bytes_app (b : List UInt8) (ps qs : List WP) : bytesP b (ps ++ qs) = bytesP (bytesP b ps) qs := by unfold bytesP; rw [List.foldl_append]

theorem layD_err (b : List UInt8) (ws : List WriteR) (at_ : Int) (data : List UInt8) : (layD b ws at_ data).2 = 0 ∨ ((layD b ws at_ data).2 = 14 ∧ (layD b ws at_ data).1 = (tkW b ws).map WriteR.pl) := by
  unfold layD
  split
  · exact .inr ⟨rfl, rfl⟩
  · split
    · exact .inl rfl
    · split
      · exact .inl rfl
      · exact .inr ⟨rfl, rfl⟩
/-- Where all went well. -/
theorem layD_ok {b : List UInt8} {ws : List WriteR} {at_ : Int} {data : List UInt8} (h : (layD b ws at_ data).2 = 0) : data.length % 32 = 0 ∧
    ((data.length = 0 ∧ (layD b ws at_ data).1 = (tkW b ws).map WriteR.pl) ∨
     (0 ≤ at_ ∧ at_ + (data.length / 32 : Nat) ≤ ((tkB b ws).length / 32 : Nat) ∧ (layD b ws at_ data).1 = (tkW b ws).map WriteR.pl ++ layWs at_ data (data.length / 32))) := by
  unfold layD at h ⊢
  split at h
  · simp at h
  · rename_i h1
    rw [if_neg h1]
    refine ⟨by omega, ?_⟩
    split at h
    · rename_i h2
      rw [if_pos h2]
      exact .inl ⟨by omega, rfl⟩
    · rename_i h2
      rw [if_neg h2]
      split at h
      · rename_i h3
        rw [if_pos h3]
        have h3 := of_decide_eq_true h3
        exact .inr ⟨h3.1, by omega, rfl⟩
      · simp at h

theorem tk_saneP (b : List UInt8) (ws : List WriteR) : saneP (tkB b ws).length ((tkW b ws).map WriteR.pl) = true := by rw [← sane_pl]; exact tk_sane b ws
theorem bytesD_tk (b : List UInt8) (ws : List WriteR) : bytesD b ws = bytesP (tkB b ws) ((tkW b ws).map WriteR.pl) := by unfold bytesD; exact bytes_pl _ _
theorem bytesD_len (b : List UInt8) (ws : List WriteR) : (bytesD b ws).length = (tkB b ws).length := by rw [bytesD_tk]; exact bytesP_len _ _ _ rfl (sane_all (tk_saneP b ws))
theorem layD_sane {b : List UInt8} {ws : List WriteR} {at_ : Int} {data : List UInt8} : saneP (tkB b ws).length (layD b ws at_ data).1 = true := by
  have h := tk_saneP b ws
  have e : layD b ws at_ data = layP (tkB b ws) ((tkW b ws).map WriteR.pl) at_ data := by
    unfold layD layP; rw [List.length_map]
  rw [e]; exact layP_sane h at_ data

end Go.Proofs.Ytmhbfjcehmjllaa

namespace Go.Proofs.Ytmhbfjcehmjllaa
open Go.RowKit

def rowP (b : List UInt8) (ps0 : List WP) (k : Int) (data : List UInt8) : Nat → Bool × List WP
  | 0 => (true, ps0)
  | r + 1 => ((rowP b ps0 k data r).1 && decide ((layP b (rowP b ps0 k data r).2 (k + r) (sec data r)).2 = 0), (layP b (rowP b ps0 k data r).2 (k + r) (sec data r)).1)
theorem sec_len {data : List UInt8} {r : Nat} (h : 32 * r + 32 ≤ data.length) : (sec data r).length = 32 := by unfold sec; rw [List.length_take, List.length_drop]; omega
theorem sec_self {s : List UInt8} (h : s.length = 32) : sec s 0 = s := by unfold sec; rw [Nat.mul_zero, List.drop_zero, List.take_of_length_le (by omega)]
theorem layP_one (b : List UInt8) (ps : List WP) (a : Int) {s : List UInt8} (h : s.length = 32) : layP b ps a s = if layOk b.length ps.length a 1 then (ps ++ [(a, s)], 0) else (ps, 14) := by
  unfold layP
  rw [h, if_neg (by omega), if_neg (by omega)]
  have e : layWs a s 1 = [(a, s)] := by
    unfold layWs
    show [(a + ((0 : Nat) : Int), sec s 0)] = _
    rw [sec_self h]; simp
  show (if layOk b.length ps.length a 1 = true then (ps ++ layWs a s 1, 0) else (ps, 14)) = _
  rw [e]
theorem row_sane {b : List UInt8} {ps0 : List WP} (k : Int) (data : List UInt8) (h : saneP b.length ps0 = true) : ∀ r, saneP b.length (rowP b ps0 k data r).2 = true
  | 0 => h
  | r + 1 => layP_sane (row_sane k data h r) _ _
theorem row_ok {b : List UInt8} {ps0 : List WP} {k : Int} {data : List UInt8} : ∀ r, 32 * r ≤ data.length →
    (rowP b ps0 k data r).1 = true → (r = 0 ∨ (0 ≤ k ∧ k + r ≤ (b.length / 32 : Nat) ∧ ps0.length + r ≤ 100000)) ∧ (rowP b ps0 k data r).2 = ps0 ++ layWs k data r
  | 0, _, _ => ⟨.inl rfl, by simp [rowP, layWs]⟩
  | r + 1, hr, h => by
    unfold rowP at h
    rw [Bool.and_eq_true] at h
    obtain ⟨h1, h2⟩ := row_ok r (by omega) h.1
    have hs := sec_len (data := data) (r := r) (by omega)
    have h3 := of_decide_eq_true h.2
    rw [layP_one _ _ _ hs] at h3
    unfold rowP
    rw [layP_one _ _ _ hs]
    split at h3
    · rename_i hl
      rw [if_pos hl]
      have hl := of_decide_eq_true hl
      rw [h2] at hl
      have hll : (layWs k data r).length = r := by simp [layWs]
      rw [List.length_append, hll] at hl
      refine ⟨.inr ⟨?_, by omega, by omega⟩, ?_⟩
      · rcases h1 with h1 | h1
        · subst h1; simpa using hl.1
        · exact h1.1
      · show (rowP b ps0 k data r).2 ++ [(k + (r : Int), sec data r)] = _
        rw [h2, List.append_assoc, layWs_succ]
    · simp at h3
theorem row_yes {b : List UInt8} {ps0 : List WP} {k : Int} {data : List UInt8} : ∀ r, 32 * r ≤ data.length → 0 ≤ k → k + r ≤ (b.length / 32 : Nat) → ps0.length + r ≤ 100000 → (rowP b ps0 k data r).1 = true
  | 0, _, _, _, _ => rfl
  | r + 1, hr, h0, h1, h2 => by
    have ih := row_yes (b := b) (ps0 := ps0) (k := k) (data := data) r (by omega) h0 (by omega) (by omega)
    have hs := sec_len (data := data) (r := r) (by omega)
    have h3 := (row_ok r (by omega) ih).2
    unfold rowP
    rw [ih, Bool.true_and, layP_one _ _ _ hs, h3, if_pos]
    · rfl
    · refine decide_eq_true ⟨by omega, by omega, ?_⟩
      simp [layWs]; omega

theorem row_law {b : List UInt8} {ps0 : List WP} (hs : saneP b.length ps0 = true) (at_ : Int) {data : List UInt8} (h32 : data.length % 32 = 0) :
    (rowP b ps0 (max (-1) (min at_ 100000)) data (data.length / 32)).1 = decide ((layP b ps0 at_ data).2 = 0) ∧
    ((layP b ps0 at_ data).2 = 0 → (rowP b ps0 (max (-1) (min at_ 100000)) data (data.length / 32)).2 = (layP b ps0 at_ data).1) ∧
    ((layP b ps0 at_ data).2 ≠ 0 → (layP b ps0 at_ data).1 = ps0) := by
  have h4 : b.length / 32 ≤ 4096 := by
    unfold saneP at hs
    exact (of_decide_eq_true (Bool.and_eq_true_iff.1 hs).1).2.1
  generalize hk : max (-1) (min at_ 100000) = k
  unfold layP
  rw [if_neg (by omega)]
  by_cases h0 : data.length / 32 = 0
  · rw [if_pos h0, h0]
    exact ⟨rfl, fun _ => rfl, fun h => absurd rfl h⟩
  · rw [if_neg h0]
    by_cases hl : layOk b.length ps0.length at_ (data.length / 32) = true
    · rw [if_pos hl]
      have hl := of_decide_eq_true hl
      have hka : k = at_ := by omega
      have hy := row_yes (b := b) (ps0 := ps0) (k := k) (data := data) (data.length / 32) (by omega) (by omega) (by omega) (by omega)
      refine ⟨by rw [hy]; rfl, fun _ => ?_, fun h => absurd rfl h⟩
      rw [(row_ok _ (by omega) hy).2, hka]
    · rw [if_neg hl]
      refine ⟨?_, fun h => by simp at h, fun _ => rfl⟩
      cases hr : (rowP b ps0 k data (data.length / 32)).1 with
      | false => rfl
      | true =>
        exfalso
        apply hl
        have := (row_ok _ (by omega) hr).1
        refine decide_eq_true ⟨by omega, by omega, by omega⟩

/-- W agrees with w but for block H. -/
def Ex (H : Nat) (w W : World) : Prop := w.heap.size ≤ W.heap.size ∧ ∀ k, k < w.heap.size → k ≠ H → W.heap[k]? = w.heap[k]?
theorem Ex.of_keep {H : Nat} {w W : World} (h : Keep w W) : Ex H w W := ⟨h.size, fun k hk _ => h.block k hk⟩
theorem Ex.trans {H : Nat} {a b c : World} (h : Ex H a b) (g : Ex H b c) : Ex H a c := ⟨Nat.le_trans h.1 g.1, fun k hk hn => (g.2 k (Nat.lt_of_lt_of_le hk h.1) hn).trans (h.2 k hk hn)⟩
theorem Ex.set_ {H : Nat} {w W : World} (h : Ex H w W) (o : Nat) (v : Value) : Ex H w (W.setCell ⟨H, o, none⟩ v) := ⟨by simpa using h.1, fun k hk hn => (set_ne W H o v k hn).trans (h.2 k hk hn)⟩
theorem Ex.cell {H : Nat} {w W : World} (h : Ex H w W) {b o : Nat} {v : Value} (hc : w.cell? ⟨b, o, none⟩ = some v) (hn : b ≠ H) : W.cell? ⟨b, o, none⟩ = some v :=
  (World.cell?_of_block (h.2 b (cell_lt hc) hn)).trans hc
theorem Ex.keep {H : Nat} {w W : World} {B : World} (h : Ex H w W) (hb : B.heap.size ≤ H) (hk : Keep B w) (ho : W.os = w.os ∧ W.tape = w.tape ∧ W.output = w.output) : Keep B W :=
  ⟨ho.1.trans hk.os, ho.2.1.trans hk.tape, ho.2.2.trans hk.output, Nat.le_trans hk.size h.1, fun k hl => (h.2 k (Nat.lt_of_lt_of_le hl hk.size) (by omega)).trans (hk.block k hl)⟩
/-- .. but for two blocks. -/
def Ex2 (H G : Nat) (w W : World) : Prop := w.heap.size ≤ W.heap.size ∧ ∀ k, k < w.heap.size → k ≠ H → k ≠ G → W.heap[k]? = w.heap[k]?
theorem Ex2.of_keep {H G : Nat} {w W : World} (h : Keep w W) : Ex2 H G w W := ⟨h.size, fun k hk _ _ => h.block k hk⟩
theorem Ex2.trans {H G : Nat} {a b c : World} (h : Ex2 H G a b) (g : Ex2 H G b c) : Ex2 H G a c := ⟨Nat.le_trans h.1 g.1, fun k hk hn hm => (g.2 k (Nat.lt_of_lt_of_le hk h.1) hn hm).trans (h.2 k hk hn hm)⟩
theorem Ex2.of_ex {H G : Nat} {w W : World} (h : Ex H w W) : Ex2 H G w W := ⟨h.1, fun k hk hn _ => h.2 k hk hn⟩
theorem Ex2.set_ {H G : Nat} {w W : World} (h : Ex2 H G w W) (o : Nat) (v : Value) : Ex2 H G w (W.setCell ⟨G, o, none⟩ v) := ⟨by simpa using h.1, fun k hk hn hm => (set_ne W G o v k hm).trans (h.2 k hk hn hm)⟩
theorem Rd.blocks {w W : World} {A : Option Addr} {xs : List Value} (h : Rd w A xs) (hb : ∀ k, k < w.heap.size → W.heap[k]? = w.heap[k]?) : Rd W A xs :=
  h.mono fun b o v hv => (World.cell?_of_block (hb b (cell_lt hv))).trans hv
theorem DOk.blocks {w W : World} {A : Option Addr} {b : List UInt8} {c : Nat} {PA : Option Addr} {ws : List WriteR} {pc : Nat} (h : DOk w A b c PA ws pc) (hb : ∀ k, k < w.heap.size → W.heap[k]? = w.heap[k]?) : DOk W A b c PA ws pc :=
  ⟨h.rb.blocks hb, h.bc, h.cm, h.rp.blocks hb, h.pl, h.pm, fun x hx => ⟨(h.ok x hx).1.blocks hb, (h.ok x hx).2⟩⟩
end Go.Proofs.Ytmhbfjcehmjllaa
