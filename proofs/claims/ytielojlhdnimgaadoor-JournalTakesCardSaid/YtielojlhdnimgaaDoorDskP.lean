/- What the disk's functions answer, said of the writes alone (places and bytes). -/
import Derived.Test.YtielojlhdnimgaaDoorDskS
set_option linter.unusedSimpArgs false
set_option linter.unusedVariables false
namespace Go.Proofs.YtielojlhdnimgaaDoor
open Go.RowKit

abbrev WP := Int × List UInt8
def okP (nb : Nat) (p : WP) : Bool := decide (0 ≤ p.1 ∧ p.1 < (nb / 32 : Nat) ∧ p.2.length = 32)
def saneP (nb : Nat) (ps : List WP) : Bool := decide (nb % 32 = 0 ∧ nb / 32 ≤ 4096 ∧ ps.length ≤ 100000) && ps.all (okP nb)
theorem sane_pl (nb : Nat) (ws : List WriteR) : saneD nb ws = saneP nb (ws.map WriteR.pl) := by
  unfold saneD saneP
  rw [List.length_map, List.all_map]
  rfl
def putP (b : List UInt8) (p : WP) (n : Nat) : List UInt8 := splice b (32 * p.1.toNat) (p.2.take n)
def crashP (plan : List UInt8) : Nat → List WP → List UInt8 → List UInt8
  | _, [], b => b
  | i, p :: ps, b => crashP plan (i + 1) ps (putP b p (planN plan i))
theorem crash_pl (plan : List UInt8) : ∀ (ws : List WriteR) (i : Nat) (b : List UInt8), crashAt plan i ws b = crashP plan i (ws.map WriteR.pl) b
  | [], _, _ => rfl
  | x :: ws, i, b => by unfold crashAt; rw [crash_pl plan ws]; rfl
def bytesP (b : List UInt8) (ps : List WP) : List UInt8 := ps.foldl (fun b p => splice b (32 * p.1.toNat) p.2) b
theorem bytes_pl : ∀ (ws : List WriteR) (b : List UInt8), ws.foldl layW b = bytesP b (ws.map WriteR.pl)
  | [], _ => rfl
  | x :: ws, b => by rw [List.foldl_cons, bytes_pl ws]; rfl
theorem tk_pl (b : List UInt8) (ws : List WriteR) : tkB b ws = (if saneP b.length (ws.map WriteR.pl) then b else []) ∧ (tkW b ws).map WriteR.pl = (if saneP b.length (ws.map WriteR.pl) then ws.map WriteR.pl else []) := by
  unfold tkB tkW
  rw [sane_pl]
  split <;> exact ⟨rfl, rfl⟩
theorem crashD_pl {b : List UInt8} {ws : List WriteR} {ps : List WP} {plan : List UInt8} (h : ws.map WriteR.pl = ps) (hs : saneP b.length ps = true) : crashD b ws plan = crashP plan 0 ps b := by
  subst h
  have := tk_pl b ws
  rw [if_pos hs, if_pos hs] at this
  unfold crashD
  rw [crash_pl, this.1, this.2]
theorem bytesD_pl {b : List UInt8} {ws : List WriteR} {ps : List WP} (h : ws.map WriteR.pl = ps) (hs : saneP b.length ps = true) : bytesD b ws = bytesP b ps := by
  subst h
  have := tk_pl b ws
  rw [if_pos hs, if_pos hs] at this
  unfold bytesD
  rw [bytes_pl, this.1, this.2]

/-- What Lay answers, of the writes alone (a disk that may be). -/
def layP (b : List UInt8) (ps : List WP) (at_ : Int) (data : List UInt8) : List WP × Int :=
  if data.length % 32 ≠ 0 then (ps, 14)
  else if data.length / 32 = 0 then (ps, 0)
  else if layOk b.length ps.length at_ (data.length / 32) then (ps ++ layWs at_ data (data.length / 32), 0)
  else (ps, 14)
theorem layD_pl {b : List UInt8} {ws : List WriteR} {ps : List WP} (h : ws.map WriteR.pl = ps) (hs : saneP b.length ps = true) (at_ : Int) (data : List UInt8) : layD b ws at_ data = layP b ps at_ data := by
  subst h
  have := tk_pl b ws
  rw [if_pos hs, if_pos hs] at this
  have hl : (tkW b ws).length = (ws.map WriteR.pl).length := by rw [← this.2, List.length_map]
  unfold layD layP
  rw [this.2, this.1, hl]
theorem tkB_pl {b : List UInt8} {ws : List WriteR} (hs : saneP b.length (ws.map WriteR.pl) = true) : tkB b ws = b := by
  have := (tk_pl b ws).1; rwa [if_pos hs] at this

theorem layP_sane {b : List UInt8} {ps : List WP} (hs : saneP b.length ps = true) (at_ : Int) (data : List UInt8) : saneP b.length (layP b ps at_ data).1 = true := by
  unfold layP
  split
  · exact hs
  · split
    · exact hs
    · split
      · rename_i h1 h2 h3
        have h3 := of_decide_eq_true h3
        unfold saneP at hs ⊢
        rw [Bool.and_eq_true] at hs ⊢
        obtain ⟨ha, hb⟩ := hs
        have ha := of_decide_eq_true ha
        refine ⟨decide_eq_true ⟨ha.1, ha.2.1, by simp [layWs]; omega⟩, ?_⟩
        rw [List.all_append, hb, Bool.true_and, List.all_eq_true]
        intro p hp
        obtain ⟨k, hk, rfl⟩ := List.mem_map.1 hp
        have hk := List.mem_range.1 hk
        refine decide_eq_true ⟨by simp; omega, by simp; omega, by simp; omega⟩
      · exact hs

theorem splice_nil (b : List UInt8) (o : Nat) : splice b o [] = b := by simp [splice]
theorem planN_take (plan : List UInt8) (m i : Nat) (h : i < m) : planN (plan.take m) i = planN plan i := by
  unfold planN; rw [List.getD_eq_getElem?_getD, List.getD_eq_getElem?_getD, List.getElem?_take, if_pos h]
theorem planN_past (plan : List UInt8) (i : Nat) (h : plan.length ≤ i) : planN plan i = 0 := by
  unfold planN; rw [List.getD_eq_getElem?_getD, List.getElem?_eq_none h]; rfl
theorem crashP_past (plan : List UInt8) : ∀ (ps : List WP) (i : Nat) (b : List UInt8), plan.length ≤ i → crashP plan i ps b = b
  | [], _, _, _ => rfl
  | p :: ps, i, b, h => by
    unfold crashP putP
    rw [planN_past plan i h, List.take_zero, splice_nil]
    exact crashP_past plan ps (i + 1) b (by omega)
theorem crashP_more (plan : List UInt8) (qs : List WP) : ∀ (ps : List WP) (i m : Nat) (b : List UInt8), i + ps.length = m →
    crashP (plan.take m) i (ps ++ qs) b = crashP plan i ps b
  | [], i, m, b, h => by
    have : crashP (plan.take m) i qs b = b := crashP_past _ _ _ _ (by rw [List.length_take]; simp at h; omega)
    exact this
  | p :: ps, i, m, b, h => by
    show crashP (plan.take m) (i + 1) (ps ++ qs) (putP b p (planN (plan.take m) i)) = crashP plan (i + 1) ps (putP b p (planN plan i))
    rw [planN_take plan m i (by simp at h; omega)]
    exact crashP_more plan qs ps (i + 1) m _ (by simp at h; omega)
theorem layP_more (b : List UInt8) (ps : List WP) (at_ : Int) (data : List UInt8) : ∃ qs, (layP b ps at_ data).1 = ps ++ qs := by
  unfold layP
  split
  · exact ⟨[], by simp⟩
  · split
    · exact ⟨[], by simp⟩
    · split
      · exact ⟨_, rfl⟩
      · exact ⟨[], by simp⟩

theorem putP_len {b : List UInt8} {p : WP} (n : Nat) (h : okP b.length p = true) : (putP b p n).length = b.length := by
  have := of_decide_eq_true h
  unfold putP; rw [length_splice]; simp; omega
theorem crashP_len (plan : List UInt8) (nb : Nat) : ∀ (ps : List WP) (i : Nat) (b : List UInt8), b.length = nb → ps.all (okP nb) = true → (crashP plan i ps b).length = nb
  | [], _, _, h, _ => h
  | p :: ps, i, b, h, ha => by
    rw [List.all_cons, Bool.and_eq_true] at ha
    exact crashP_len plan nb ps (i + 1) _ (by rw [putP_len _ (by rw [h]; exact ha.1), h]) ha.2
theorem bytesP_len (nb : Nat) : ∀ (ps : List WP) (b : List UInt8), b.length = nb → ps.all (okP nb) = true → (bytesP b ps).length = nb
  | [], _, h, _ => h
  | p :: ps, b, h, ha => by
    rw [List.all_cons, Bool.and_eq_true] at ha
    have := of_decide_eq_true ha.1
    exact bytesP_len nb ps (splice b (32 * p.1.toNat) p.2) (by rw [length_splice, h]; omega) ha.2
theorem sane_all {nb : Nat} {ps : List WP} (h : saneP nb ps = true) : ps.all (okP nb) = true := by
  unfold saneP at h; exact (Bool.and_eq_true_iff.1 h).2
theorem sane_nil {nb : Nat} {ps : List WP} (h : saneP nb ps = true) : saneP nb [] = true := by
  unfold saneP at h ⊢
  rw [Bool.and_eq_true] at h ⊢
  have := of_decide_eq_true h.1
  exact ⟨decide_eq_true ⟨this.1, this.2.1, by simp⟩, by simp⟩
/-- A plan that keeps all. -/
theorem crashP_full (plan : List UInt8) (nb : Nat) : ∀ (ps : List WP) (i : Nat) (b : List UInt8), ps.all (okP nb) = true → (∀ j, i ≤ j → j < i + ps.length → planN plan j = 32) → crashP plan i ps b = bytesP b ps
  | [], _, _, _, _ => rfl
  | p :: ps, i, b, ha, h => by
    rw [List.all_cons, Bool.and_eq_true] at ha
    have := of_decide_eq_true ha.1
    show crashP plan (i + 1) ps (putP b p (planN plan i)) = _
    rw [h i (Nat.le_refl _) (by simp), crashP_full plan nb ps (i + 1) _ ha.2 (fun j h1 h2 => h j (by omega) (by simp; omega))]
    unfold putP
    rw [List.take_of_length_le (by omega)]
    rfl
end Go.Proofs.YtielojlhdnimgaaDoor
