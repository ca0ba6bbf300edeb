import Derived.Test.YteoilddiilegmaaDoorClkD
set_option linter.unusedSimpArgs false
set_option linter.unusedVariables false
namespace Go.Proofs.YteoilddiilegmaaDoor
open Go.RowKit
attribute [local go_sem ↓] Go.wp_at_zero Go.wp_at_succ

def Gave (v : Value) (w : World) (e : Ending) (w' : World) : Prop := e = .returned v ∧ Keep w w'

set_option maxRecDepth 100000 in
set_option maxHeartbeats 2000000 in
theorem median_any (A : Option Addr) (l : List UInt32) (c : Nat) (w : World) (hc : l.length ≤ c) (hm : c ≤ maxLen) (hr : Rd w A (l.map u32v)) :
    Calls Tryd.prog 17 #[.slice A l.length c] w (Gave (u32v (medL l)) w) := by
  have hlast := last_any A l c w hc hm hr
  have hll := lasT_len l
  have hmed : medL l = (lasT l).getD ((lasT l).length / 2) 0 := rfl
  unfold maxLen at hm
  generalize medL l = m at hmed ⊢
  generalize lasT l = ys at hlast hll hmed
  have Hmed := Lib.hid hmed; clear hmed
  have hy : ys.length ≤ 11 := by omega
  clear hll
  go_enter Tryd.func17, Tryd.ntmps17
  go_wp2_with fail
  refine hlast.mono ?_
  rintro e w1 ⟨v, rfl, hown, hk⟩
  obtain ⟨A1, c1, rfl, hc1, hm1, hrd⟩ := own_form hown
  clear hown
  by_cases h0 : ys.length = 0
  · go_wp2
    go_ret
    refine ⟨?_, hk⟩
    rw [Hmed.out, List.eq_nil_of_length_eq_zero h0]; rfl
  · have hlt : ys.length / 2 < ys.length := by omega
    obtain ⟨b, off, rfl, hb, F⟩ := hrd.at (k := ys.length / 2) (by simpa using hlt)
    have hx := F (ys.length / 2) (by simpa using hlt)
    have he : m = ys[ys.length / 2] := by rw [Hmed.out, List.getD_eq_getElem?_getD, List.getElem?_eq_getElem hlt]; rfl
    simp only [List.getElem_map] at hx
    rw [← he] at hx
    clear F he
    go_wp2
    go_ret
    exact ⟨rfl, hk⟩

def clampI (x : Int) : Int := min (max x 0) 1099511627776
def chkI (t : UInt32) (l : List UInt32) (n f : Int) : Int := if (l ≠ [] ∧ t.toNat ≤ (medL l).toNat) ∨ clampI n + clampI f < (t.toNat : Int) then 8 else 0
theorem clampI_bd (x : Int) : 0 ≤ clampI x ∧ clampI x ≤ 1099511627776 := by unfold clampI; omega

set_option maxRecDepth 100000 in
set_option maxHeartbeats 2000000 in
theorem check_any (t : UInt32) (A : Option Addr) (l : List UInt32) (c : Nat) (n f : Int) (w : World) (hc : l.length ≤ c) (hm : c ≤ maxLen) (hr : Rd w A (l.map u32v)) :
    Calls Tryd.prog 15 #[u32v t, .slice A l.length c, .int .i64 n, .int .i64 f] w (Gave (.int .i64 (chkI t l n f)) w) := by
  have hmed := median_any A l c w hc hm hr
  have Hchk := Lib.hid (show chkI t l n f = if (l ≠ [] ∧ t.toNat ≤ (medL l).toNat) ∨ clampI n + clampI f < (t.toNat : Int) then 8 else 0 from rfl)
  have ht := t.toNat_lt
  unfold maxLen at hm
  generalize medL l = m at *
  generalize chkI t l n f = r at *
  go_enter Tryd.func15, Tryd.ntmps15
  by_cases h0 : l.length = 0
  · have h0' : l = [] := List.eq_nil_of_length_eq_zero h0
    go_wp2_with fail
    all_goals go_ret
    all_goals refine ⟨?_, Below.refl _ _⟩
    all_goals (have hQ := Hchk.out; rw [hQ]; clear hQ Hchk hmed; subst h0'; unfold clampI)
    all_goals (split <;> first | rfl | (exfalso; simp at *; omega))
  · have hne : l ≠ [] := fun h => h0 (by rw [h]; rfl)
    go_wp2_with fail
    refine hmed.mono ?_
    rintro e w2 ⟨rfl, hk2⟩
    go_wp2_with fail
    all_goals go_ret
    all_goals refine ⟨?_, hk2⟩
    all_goals (have hQ := Hchk.out; rw [hQ]; clear hQ Hchk; simp only [hne, not_false_eq_true, true_and, ne_eq]; unfold clampI)
    all_goals (split <;> first | rfl | (exfalso; simp at *; omega))
end Go.Proofs.YteoilddiilegmaaDoor
