import Derived.Test.YtbkapapffnmebaaClkE
set_option linter.unusedSimpArgs false
set_option linter.unusedVariables false
namespace Go.Proofs.Ytbkapapffnmebaa
open Go.RowKit
attribute [local go_sem ↓] Go.wp_at_zero Go.wp_at_succ

theorem aw_med : medL [5, 1, 3] = 3 := by decide +kernel
theorem aw_c1 : chkI 3 [5, 1, 3] 9 0 = 8 := by decide +kernel
theorem aw_c2 : chkI 4 [5, 1, 3] 9 0 = 0 := by decide +kernel
theorem aw_c3 : chkI 10 [5, 1, 3] 9 0 = 8 := by decide +kernel

set_option maxRecDepth 100000 in
set_option maxHeartbeats 2000000 in
theorem awake_any (w : World) : Calls Try.prog 8 #[] w (Gave (.bool true) w) := by
  go_enter Try.func8, Try.ntmps8
  go_wp2_with fail
  have hr : Rd (w.alloc (.cells #[.int .u32 5, .int .u32 1, .int .u32 3] 24)) (some ⟨w.heap.size, 0, none⟩) (([5, 1, 3] : List UInt32).map u32v) := Rd.new w (([5, 1, 3] : List UInt32).map u32v) 24
  have h0 := keep_new w (.cells #[.int .u32 5, .int .u32 1, .int .u32 3] 24)
  generalize (w.alloc (.cells #[.int .u32 5, .int .u32 1, .int .u32 3] 24)) = w0 at *
  generalize w.heap.size = B at *
  have Hr := Lib.hid hr
  refine (median_any (some ⟨B, 0, none⟩) [5, 1, 3] 3 w0 (by decide) (by decide) Hr.out).mono ?_
  rw [aw_med]
  rintro e w1 ⟨rfl, k1⟩
  clear hr
  go_wp2_with fail
  refine (check_any 3 (some ⟨B, 0, none⟩) [5, 1, 3] 3 9 0 w1 (by decide) (by decide) (Hr.out.keep k1)).mono ?_
  rw [aw_c1]
  rintro e w2 ⟨rfl, k2⟩
  go_wp2_with fail
  refine (check_any 4 (some ⟨B, 0, none⟩) [5, 1, 3] 3 9 0 w2 (by decide) (by decide) (Hr.out.keep (keep_trans k1 k2))).mono ?_
  rw [aw_c2]
  rintro e w3 ⟨rfl, k3⟩
  go_wp2_with fail
  refine (check_any 10 (some ⟨B, 0, none⟩) [5, 1, 3] 3 9 0 w3 (by decide) (by decide) (Hr.out.keep (keep_trans k1 (keep_trans k2 k3)))).mono ?_
  rw [aw_c3]
  rintro e w4 ⟨rfl, k4⟩
  go_wp2
  go_ret
  exact ⟨rfl, keep_trans h0 (keep_trans k1 (keep_trans k2 (keep_trans k3 k4)))⟩
end Go.Proofs.Ytbkapapffnmebaa
