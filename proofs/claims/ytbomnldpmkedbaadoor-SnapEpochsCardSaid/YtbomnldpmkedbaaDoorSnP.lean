/- What the operations do to a disk, plainly. -/
import Derived.Test.YtbomnldpmkedbaaDoorSnK
set_option linter.unusedSimpArgs false
set_option linter.unusedVariables false
namespace Go.Proofs.YtbomnldpmkedbaaDoor
open Go.RowKit

theorem doP_app : ∀ (l1 l2 : List POp) (b : List UInt8) (ps : List WP) {b' : List UInt8} {ps' : List WP}, doP l1 b ps = (b', ps', 0) → doP (l1 ++ l2) b ps = doP l2 b' ps'
  | [], l2, b, ps, b', ps', h => by
    injection h with h1 h2
    injection h2 with h2 h3
    subst h1 h2
    rfl
  | x :: l1, l2, b, ps, b', ps', h => by
    rw [List.cons_append, doP_cons rfl]
    rw [doP_cons rfl] at h
    by_cases he : (runP x b ps).2.2 = 0
    · rw [if_pos he] at h ⊢
      exact doP_app l1 l2 _ _ h
    · rw [if_neg he] at h
      exact absurd (by rw [h]) he
theorem doP_sync (l : List POp) (b : List UInt8) (ps : List WP) : doP (.sync :: l) b ps = doP l (bytesQ b ps) [] := rfl
theorem run_lay {b : List UInt8} {ps : List WP} (hs : saneP b.length ps = true) {a n : Nat} {i : Int} (hi : i = (a : Int)) {s : List UInt8} (h1 : s.length = 32 * n) (h0 : 0 < n) (h2 : 32 * (a + n) ≤ b.length) (h3 : ps.length + n ≤ 100000) :
    runP (.lay i s) b ps = (b, ps ++ layWs (a : Nat) s n, 0) := by
  subst hi
  have e : layP b ps (a : Int) s = (ps ++ layWs (a : Nat) s n, 0) := by
    unfold layP
    have e1 : s.length / 32 = n := by omega
    rw [if_neg (by omega), if_neg (by omega), e1, if_pos]
    unfold layOk
    exact decide_eq_true ⟨by omega, by omega, h3⟩
  show (b, (layP b ps (a : Int) s).1, (layP b ps (a : Int) s).2) = _
  rw [e]
theorem doP_lay {b : List UInt8} {ps : List WP} (l : List POp) (hs : saneP b.length ps = true) {a n : Nat} {i : Int} (hi : i = (a : Int)) {s : List UInt8} (h1 : s.length = 32 * n) (h0 : 0 < n) (h2 : 32 * (a + n) ≤ b.length) (h3 : ps.length + n ≤ 100000) :
    doP (.lay i s :: l) b ps = doP l b (ps ++ layWs (a : Nat) s n) := by
  rw [doP_cons (run_lay hs hi h1 h0 h2 h3), if_pos rfl]

/-- Operations that lay between two sectors. -/
def AllLay (lo hi : Nat) (l : List POp) : Prop := ∀ x ∈ l, ∃ (i : Int) (a n : Nat) (s : List UInt8), x = .lay i s ∧ i = (a : Int) ∧ s.length = 32 * n ∧ 0 < n ∧ n ≤ 4 ∧ lo ≤ a ∧ a + n ≤ hi
theorem lays_run {b : List UInt8} {lo hi : Nat} (hh : 32 * hi ≤ b.length) : ∀ (l : List POp) (ps : List WP), saneP b.length ps = true → AllLay lo hi l → ps.length + 4 * l.length ≤ 100000 → (∀ p ∈ ps, (lo : Int) ≤ p.1 ∧ p.1 < hi) →
    ∃ ps', doP l b ps = (b, ps', 0) ∧ saneP b.length ps' = true ∧ ∀ p ∈ ps', (lo : Int) ≤ p.1 ∧ p.1 < hi
  | [], ps, hs, _, _, hp => ⟨ps, rfl, hs, hp⟩
  | x :: l, ps, hs, ha, hl, hp => by
    obtain ⟨i, a, n, s, rfl, hi', h1, h0, h4, h5, h6⟩ := ha x (List.mem_cons_self ..)
    rw [List.length_cons] at hl
    rw [doP_lay l hs hi' h1 h0 (by omega) (by omega)]
    refine lays_run hh l _ (lay_sane hs (by omega) (by omega) (by omega)) (fun y hy => ha y (List.mem_cons_of_mem _ hy)) (by rw [List.length_append]; simp [layWs]; omega) (fun p hpp => ?_)
    rcases List.mem_append.1 hpp with h | h
    · exact hp p h
    · obtain ⟨k, hk, rfl⟩ := List.mem_map.1 h
      have hk := List.mem_range.1 hk
      show (lo : Int) ≤ (a : Int) + k ∧ (a : Int) + k < hi
      omega
theorem zer_lay (a n hi : Nat) (h : a + n ≤ hi) : AllLay a hi (zerP a n) := fun x hx => by
  obtain ⟨k, hk, rfl⟩ := List.mem_map.1 hx
  have hk := List.mem_range.1 hk
  exact ⟨_, a + k, 1, z32, rfl, by omega, rfl, by omega, by omega, by omega, by omega⟩
theorem rec_lay (a hi : Nat) : ∀ (gl : List Hd) (k : Nat) (last : List UInt8), (∀ x ∈ gl, x.ok) → a + 4 * (k + gl.length) ≤ hi → AllLay a hi (recsP a k last gl)
  | [], _, _, _, _ => fun x hx => by cases hx
  | h :: gl, k, last, hok, hl => fun x hx => by
    rw [List.length_cons] at hl
    rcases List.mem_cons.1 hx with rfl | hx
    · exact ⟨_, a + 4 * k, 4, _, rfl, by omega, by rw [recB_len _ _ (hok h (List.mem_cons_self ..))], by omega, by omega, by omega, by omega⟩
    · exact rec_lay a hi gl (k + 1) _ (fun y hy => hok y (List.mem_cons_of_mem _ hy)) (by omega) x hx

theorem zer_run {b : List UInt8} {a nn : Nat} (hs : saneP b.length [] = true) (h : 32 * (a + nn) ≤ b.length) (hn : nn ≤ 5000) : ∀ n, n ≤ nn → ∃ ps, doP (zerP a n) b [] = (b, ps, 0) ∧ saneP b.length ps = true ∧ ps.length = n ∧
    ∀ m, 32 * m + 32 ≤ b.length → sec (bytesQ b ps) m = if a ≤ m ∧ m < a + n then z32 else sec b m
  | 0, _ => ⟨[], rfl, hs, rfl, fun m _ => by rw [if_neg (by omega), bytesQ_nil hs]⟩
  | n + 1, hle => by
    obtain ⟨ps, h1, h2, h3, h4⟩ := zer_run hs h hn n (by omega)
    have hz : z32.length = 32 * 1 := rfl
    refine ⟨ps ++ layWs ((a + n : Nat) : Int) z32 1, ?_, lay_sane h2 (by omega) (by omega) (by omega), by rw [List.length_append, h3]; simp [layWs], fun m hm => ?_⟩
    · rw [zerP_succ, doP_app _ _ _ _ h1, doP_lay [] h2 (a := a + n) (by omega) hz (by omega) (by omega) (by omega)]
      rfl
    · rw [bytesQ_lay h2 (by omega) (by omega) (by omega) m hm, h4 m hm]
      by_cases e : a + n ≤ m ∧ m < a + n + 1
      · rw [if_pos e, if_pos (by omega)]
        have : m - (a + n) = 0 := by omega
        rw [this]; exact sec_self rfl
      · rw [if_neg e]
        by_cases e2 : a ≤ m ∧ m < a + n
        · rw [if_pos e2, if_pos (by omega)]
        · rw [if_neg e2, if_neg (by omega)]
theorem roomN_nat {rm : Nat} (h : rm ≤ 1024) : roomN (rm : Int) = rm := by unfold roomN; omega
theorem zer_inv {b : List UInt8} {ps : List WP} {a rm : Nat} (hs : saneP b.length ps = true) (h : 32 * (a + 4 * rm) ≤ b.length) (hr : rm ≤ 1024) (hz : ∀ m, 32 * m + 32 ≤ b.length → a ≤ m → m < a + 4 * rm → sec (bytesQ b ps) m = z32) : LogInv b ps (a : Int) (rm : Int) [] := by
  have hl := bytesQ_len b ps hs
  refine ⟨found_of (by omega) (by rw [hl]; omega) trivial (Nat.zero_le _) (nx_zero fun q1 q2 => ?_), fun _ m q1 q2 q3 => ?_⟩
  · rw [roomN_nat hr] at q1
    rw [hl] at q2
    simp only [List.length_nil] at q1 q2 ⊢
    exact hz _ (by omega) (by omega) (by omega)
  · rw [roomN_nat hr] at q2
    rw [hl] at q3
    simp only [List.length_nil] at q1
    exact hz m q3 (by omega) (by omega)
theorem rec_run {b : List UInt8} {a rm : Nat} (h : 32 * (a + 4 * rm) ≤ b.length) (hr : rm ≤ 1024) : ∀ (gl : List Hd) (pre : List Hd) (ps : List WP), LogInv b ps (a : Int) (rm : Int) pre → saneP b.length ps = true → (∀ x ∈ gl, x.ok) → pre.length + gl.length ≤ rm → ps.length + 4 * gl.length ≤ 100000 →
    ∃ ps', doP (recsP a pre.length (lastL 0 z32 pre) gl) b ps = (b, ps', 0) ∧ LogInv b ps' (a : Int) (rm : Int) (pre ++ gl) ∧ saneP b.length ps' = true ∧ ∀ m, 32 * m + 32 ≤ b.length → ¬ (a ≤ m ∧ m < a + 4 * rm) → sec (bytesQ b ps') m = sec (bytesQ b ps) m
  | [], pre, ps, hi, hs, _, _, _ => ⟨ps, rfl, by rw [List.append_nil]; exact hi, hs, fun _ _ _ => rfl⟩
  | g :: gl, pre, ps, hi, hs, hok, hle, hp => by
    rw [List.length_cons] at hle hp
    have hg := hok g (List.mem_cons_self ..)
    have hnb := ((saneP_iff _ _).1 hs).1
    have hlr : (recB (lastL 0 z32 pre) pre.length g).length = 32 * 4 := recB_len _ _ hg
    have hw : wrap64 ((a : Int) + ((4 * pre.length : Nat) : Int)) = ((a + 4 * pre.length : Nat) : Int) := by rw [IntWalk.wrap64_in _ (by omega)]; omega
    have hAe : appendD b (a : Int) (rm : Int) pre.length (lastL 0 z32 pre) g ps = (0, pre.length + 1, recSum (lastL 0 z32 pre) pre.length g, ps ++ layWs ((a + 4 * pre.length : Nat) : Int) (recB (lastL 0 z32 pre) pre.length g) 4) := by
      unfold appendD
      rw [if_neg (by rw [roomN_nat hr]; omega), if_pos, hw]
      unfold appOk layOk
      rw [hs, hw, Bool.true_and]
      exact decide_eq_true ⟨by omega, by omega, by omega⟩
    obtain ⟨_, _, q3, q4, q5, _, _, _⟩ := (append_inv hi hg (by omega) rfl).1 (by rw [hAe])
    rw [hAe] at q3 q4 q5
    simp only at q3 q4 q5
    have ih := rec_run h hr gl (pre ++ [g]) _ q4 q5 (fun y hy => hok y (List.mem_cons_of_mem _ hy)) (by rw [List.length_append, List.length_singleton]; omega) (by rw [List.length_append]; simp [layWs]; omega)
    obtain ⟨ps', r1, r2, r3, r4⟩ := ih
    refine ⟨ps', ?_, by rw [List.append_assoc] at r2; exact r2, r3, fun m hm hn => ?_⟩
    · rw [recsP, doP_lay _ hs (a := a + 4 * pre.length) (by omega) hlr (by omega) (by omega) (by omega)]
      rw [← q3, List.length_append, List.length_singleton] at *
      exact r1
    · rw [r4 m hm hn, bytesQ_lay hs (by omega) (by omega) (by omega) m hm, if_neg (by omega)]
end Go.Proofs.YtbomnldpmkedbaaDoor
