/- ClockIs: the answers are the document's. -/
import Derived.Test.YtbkapapffnmebaaClkL
import Derived.Test.YtbkapapffnmebaaClkN
set_option linter.unusedSimpArgs false
set_option linter.unusedVariables false
namespace Go.Proofs.Ytbkapapffnmebaa
open Go.RowKit
attribute [local go_sem ↓] Go.wp_at_zero Go.wp_at_succ

set_option maxRecDepth 100000 in
set_option maxHeartbeats 4000000 in
theorem is_law (t : UInt32) (A : Option Addr) (l : List UInt32) (c : Nat) (n f : Int) (A' : Option Addr) (hs : List HdR) (c' : Nat) (w : World) (hc : l.length ≤ c) (hm : c ≤ maxLen) (hr : Rd w A (l.map u32v)) (hr' : Rd w A' (hs.flatMap HdR.cells)) :
    Calls Try.prog 7 #[u32v t, .slice A l.length c, .int .i64 n, .int .i64 f, .slice A' hs.length c'] w (Gave (.bool true) w) := by
  have T1 : ∀ w', Keep w w' → hs.length ≤ 100 → Calls Try.prog 16 #[.slice A' hs.length c'] w' (Lasted w'.heap.size (hs.map HdR.t) w') := fun w' h h1 => times_any A' hs c' w' h1 (hr'.keep h)
  have T2 : ∀ w', Keep w w' → hs.length ≤ 100 → Calls Try.prog 17 #[.slice A' hs.length c'] w' (Lasted w'.heap.size (hs.map HdR.t) w') := fun w' h h1 => rtimes_any A' hs c' w' h1 (hr'.keep h)
  have L1 : ∀ w', Keep w w' → Calls Try.prog 10 #[.slice A l.length c] w' (Lasted (w'.heap.size + 1) (lastL l) w') := fun w' h => last_any A l c w' hc hm (hr.keep h)
  have L2 : ∀ w', Keep w w' → Calls Try.prog 13 #[.slice A l.length c] w' (Lasted w'.heap.size (lastL l) w') := fun w' h => rlast_any A l c w' hc hm (hr.keep h)
  have M1 : ∀ w', Keep w w' → Calls Try.prog 9 #[.slice A l.length c] w' (Gave (u32v (medL l)) w') := fun w' h => median_any A l c w' hc hm (hr.keep h)
  have M2 : ∀ w', Keep w w' → Calls Try.prog 14 #[.slice A l.length c] w' (Gave (u32v (medL l)) w') := fun w' h => rmedian_any A l c w' hc hm (hr.keep h)
  have C1 : ∀ w', Keep w w' → Calls Try.prog 12 #[u32v t, .slice A l.length c, .int .i64 n, .int .i64 f] w' (Gave (.int .i64 (chkI t l n f)) w') := fun w' h => check_any t A l c n f w' hc hm (hr.keep h)
  have C2 : ∀ w', Keep w w' → Calls Try.prog 15 #[u32v t, .slice A l.length c, .int .i64 n, .int .i64 f] w' (Gave (.int .i64 (chkI t l n f)) w') := fun w' h => rcheck_any t A l c n f w' hc hm (hr.keep h)
  generalize lastL l = ls at *
  generalize medL l = md at *
  generalize chkI t l n f = ck at *
  generalize hs.map HdR.t = ts at *
  have HT1 := Lib.hid T1; have HT2 := Lib.hid T2; have HL1 := Lib.hid L1; have HL2 := Lib.hid L2; have HM1 := Lib.hid M1; have HM2 := Lib.hid M2; have HC1 := Lib.hid C1; have HC2 := Lib.hid C2
  clear T1 T2 L1 L2 M1 M2 C1 C2 hr hr'
  unfold maxLen at hm
  go_enter Try.func7, Try.ntmps7
  go_wp2_with fail
  refine (awake_any w).mono ?_
  rintro e w1 ⟨rfl, k1⟩
  by_cases q1 : 200 < l.length
  · go_wp2
    go_ret
    exact ⟨rfl, k1⟩
  by_cases q2 : 100 < hs.length
  · go_wp2
    go_ret
    exact ⟨rfl, k1⟩
  have q2' : hs.length ≤ 100 := by omega
  go_wp2_with fail
  refine (HL1.out w1 k1).mono ?_
  rintro e w2 ⟨v2, rfl, own2, j2⟩
  have k2 := keep_trans k1 j2
  obtain ⟨A2, c2, rfl, hc2, hm2, hr2⟩ := own_form own2
  go_wp2_with fail
  refine (HL2.out w2 k2).mono ?_
  rintro e w3 ⟨v3, rfl, own3, j3⟩
  have k3 := keep_trans k2 j3
  obtain ⟨A3, c3, rfl, hc3, hm3, hr3⟩ := own_form own3
  go_wp2_with fail
  refine (same_any A2 A3 ls ls c2 c3 w3 hc2 hm2 (hr2.keep j3) hc3 hm3 hr3).mono ?_
  rw [decide_eq_true rfl]
  rintro e w4 ⟨rfl, j4⟩
  have k4 := keep_trans k3 j4
  clear own2 own3 hr2 hr3 hc2 hc3 hm2 hm3
  go_wp2_with fail
  refine (HM1.out w4 k4).mono ?_
  rintro e w5 ⟨rfl, j5⟩
  have k5 := keep_trans k4 j5
  go_wp2_with fail
  refine (HM2.out w5 k5).mono ?_
  rintro e w6 ⟨rfl, j6⟩
  have k6 := keep_trans k5 j6
  go_wp2_with fail
  refine (HC1.out w6 k6).mono ?_
  rintro e w7 ⟨rfl, j7⟩
  have k7 := keep_trans k6 j7
  go_wp2_with fail
  refine (HC2.out w7 k7).mono ?_
  rintro e w8 ⟨rfl, j8⟩
  have k8 := keep_trans k7 j8
  go_wp2_with fail
  refine (HT1.out w8 k8 q2').mono ?_
  rintro e w9 ⟨v9, rfl, own9, j9⟩
  have k9 := keep_trans k8 j9
  obtain ⟨A9, c9, rfl, hc9, hm9, hr9⟩ := own_form own9
  go_wp2_with fail
  refine (HT2.out w9 k9 q2').mono ?_
  rintro e wa ⟨va, rfl, owna, ja⟩
  have ka := keep_trans k9 ja
  obtain ⟨Aa, ca, rfl, hca, hma, hra⟩ := own_form owna
  go_wp2_with fail
  refine (same_any A9 Aa ts ts c9 ca wa hc9 hm9 (hr9.keep ja) hca hma hra).mono ?_
  rw [decide_eq_true rfl]
  rintro e wb ⟨rfl, jb⟩
  have kb := keep_trans ka jb
  clear own9 owna hr9 hra
  go_wp2
  go_ret
  exact ⟨rfl, kb⟩
end Go.Proofs.Ytbkapapffnmebaa
