import Derived.Test.YtbkapapffnmebaaClkF
set_option linter.unusedSimpArgs false
set_option linter.unusedVariables false
namespace Go.Proofs.Ytbkapapffnmebaa
open Go.RowKit
attribute [local go_sem ↓] Go.wp_at_zero Go.wp_at_succ

theorem i64_low16 (n : Int) : bits .and .i64 n 65535 = n % 65536 := by
  have h127 : (BitVec.ofInt 64 65535).toNat = 2 ^ 16 - 1 := by decide
  have key : (BitVec.ofInt 64 n &&& BitVec.ofInt 64 65535).toNat = (n % ((2 ^ 64 : Nat) : Int)).toNat % 2 ^ 16 := by
    rw [BitVec.toNat_and, BitVec.toNat_ofInt, h127, Nat.and_two_pow_sub_one_eq_mod]
  show IntKind.i64.wrap ((BitVec.ofInt 64 n &&& BitVec.ofInt 64 65535).toNat : Nat) = n % 65536
  rw [key, IntKind.wrap_i64]
  omega
theorem i64_low24 (n : Int) : bits .and .i64 n 16777215 = n % 16777216 := by
  have h127 : (BitVec.ofInt 64 16777215).toNat = 2 ^ 24 - 1 := by decide
  have key : (BitVec.ofInt 64 n &&& BitVec.ofInt 64 16777215).toNat = (n % ((2 ^ 64 : Nat) : Int)).toNat % 2 ^ 24 := by
    rw [BitVec.toNat_and, BitVec.toNat_ofInt, h127, Nat.and_two_pow_sub_one_eq_mod]
  show IntKind.i64.wrap ((BitVec.ofInt 64 n &&& BitVec.ofInt 64 16777215).toNat : Nat) = n % 16777216
  rw [key, IntKind.wrap_i64]
  omega
theorem i64_low32 (n : Int) : bits .and .i64 n 4294967295 = n % 4294967296 := by
  have h127 : (BitVec.ofInt 64 4294967295).toNat = 2 ^ 32 - 1 := by decide
  have key : (BitVec.ofInt 64 n &&& BitVec.ofInt 64 4294967295).toNat = (n % ((2 ^ 64 : Nat) : Int)).toNat % 2 ^ 32 := by
    rw [BitVec.toNat_and, BitVec.toNat_ofInt, h127, Nat.and_two_pow_sub_one_eq_mod]
  show IntKind.i64.wrap ((BitVec.ofInt 64 n &&& BitVec.ofInt 64 4294967295).toNat : Nat) = n % 4294967296
  rw [key, IntKind.wrap_i64]
  omega

set_option maxRecDepth 100000 in
set_option maxHeartbeats 2000000 in
theorem may_law (t : UInt32) (A : Option Addr) (l : List UInt32) (c : Nat) (n0 f0 m0 : Int) (w : World) (hc : l.length ≤ c) (hm : c ≤ maxLen) (hr : Rd w A (l.map u32v))
    (hn0 : -9223372036854775808 ≤ n0 ∧ n0 ≤ 9223372036854775807) (hf0 : -9223372036854775808 ≤ f0 ∧ f0 ≤ 9223372036854775807) (hm0 : -9223372036854775808 ≤ m0 ∧ m0 ≤ 9223372036854775807) :
    Calls Try.prog 5 #[u32v t, .slice A l.length c, .int .i64 n0, .int .i64 f0, .int .i64 m0] w (Gave (.bool true) w) := by
  have hm' := hm
  unfold maxLen at hm
  have ht := t.toNat_lt
  have en := i64_low32 n0; have ef := i64_low24 f0; have em := i64_low24 m0
  have bn : 0 ≤ n0 % 4294967296 ∧ n0 % 4294967296 < 4294967296 := by omega
  have bf : 0 ≤ f0 % 16777216 ∧ f0 % 16777216 < 16777216 := by omega
  have bm : 0 ≤ m0 % 16777216 ∧ m0 % 16777216 < 16777216 := by omega
  generalize n0 % 4294967296 = n at en bn
  generalize f0 % 16777216 = f at ef bf
  generalize m0 % 16777216 = m at em bm
  have hc1 : chkI t l n f = if (l ≠ [] ∧ t.toNat ≤ (medL l).toNat) ∨ n + f < (t.toNat : Int) then 8 else 0 := by
    unfold chkI; rw [show clampI n = n by unfold clampI; omega, show clampI f = f by unfold clampI; omega]
  have hc2 : chkI t l (n + m) f = if (l ≠ [] ∧ t.toNat ≤ (medL l).toNat) ∨ n + m + f < (t.toNat : Int) then 8 else 0 := by
    unfold chkI; rw [show clampI (n + m) = n + m by unfold clampI; omega, show clampI f = f by unfold clampI; omega]
  have C1 : ∀ w', Keep w w' → Calls Try.prog 12 #[u32v t, .slice A l.length c, .int .i64 n, .int .i64 f] w' (Gave (.int .i64 (chkI t l n f)) w') := fun w' h => check_any t A l c n f w' hc hm' (hr.keep h)
  have C2 : ∀ w', Keep w w' → Calls Try.prog 12 #[u32v t, .slice A l.length c, .int .i64 (n + m), .int .i64 f] w' (Gave (.int .i64 (chkI t l (n + m) f)) w') := fun w' h => check_any t A l c (n + m) f w' hc hm' (hr.keep h)
  have CM : ∀ w', Keep w w' → Calls Try.prog 9 #[.slice A l.length c] w' (Gave (u32v (medL l)) w') := fun w' h => median_any A l c w' hc hm' (hr.keep h)
  have hne : l ≠ [] ↔ ¬ l.length = 0 := by rw [ne_eq, List.length_eq_zero_iff]
  simp only [hne] at hc1 hc2
  generalize chkI t l n f = r1 at *
  generalize chkI t l (n + m) f = r2 at *
  generalize medL l = md at *
  have Hc1 := Lib.hid hc1; have Hc2 := Lib.hid hc2
  clear hc1 hc2 hr hne hm'
  have HC1 := Lib.hid C1; have HC2 := Lib.hid C2; have HCM := Lib.hid CM
  clear C1 C2 CM
  go_enter Try.func5, Try.ntmps5
  go_wp2_with fail
  refine (awake_any w).mono ?_
  rintro e w1 ⟨rfl, k1⟩
  by_cases h2 : 200 < l.length
  · go_wp2
    go_ret
    exact ⟨rfl, k1⟩
  · go_wp2_with fail
    refine (HC1.out w1 k1).mono ?_
    rintro e w2 ⟨rfl, k2⟩
    have k12 := keep_trans k1 k2
    go_wp2_with fail
    refine (HC2.out w2 k12).mono ?_
    rintro e w3 ⟨rfl, k3⟩
    have k123 := keep_trans k12 k3
    clear k1 k2 k3 k12
    have hp1 := Hc1.out; have hp2 := Hc2.out
    by_cases h0 : l.length = 0
    · have q : ((¬ l.length = 0) ∧ t.toNat ≤ md.toNat) = False := by simp [h0]
      simp only [q, false_or] at hp1 hp2
      by_cases q1 : n + f < (t.toNat : Int)
      · by_cases q2 : n + m + f < (t.toNat : Int)
        · rw [if_pos q1] at hp1; rw [if_pos q2] at hp2
          subst hp1 hp2
          clear q
          go_wp2
          go_ret
          first | exact ⟨rfl, k123⟩ | exact ⟨ret_bool (by simp; omega), k123⟩
        · rw [if_pos q1] at hp1; rw [if_neg q2] at hp2
          subst hp1 hp2
          clear q
          go_wp2
          go_ret
          first | exact ⟨rfl, k123⟩ | exact ⟨ret_bool (by simp; omega), k123⟩
      · rw [if_neg q1] at hp1; rw [if_neg (by omega)] at hp2
        subst hp1 hp2
        clear q
        go_wp2
        go_ret
        first | exact ⟨rfl, k123⟩ | exact ⟨ret_bool (by simp; omega), k123⟩
    · have HM := HCM.out w3 k123
      by_cases q0 : t.toNat ≤ md.toNat
      · rw [if_pos (.inl ⟨h0, q0⟩)] at hp1 hp2
        subst hp1 hp2
        go_wp2_with fail
        refine HM.mono ?_
        rintro e w4 ⟨rfl, k4⟩
        go_wp2
        go_ret
        first | exact ⟨rfl, keep_trans k123 k4⟩ | exact ⟨ret_bool (by simp; omega), keep_trans k123 k4⟩
      · have q : ((¬ l.length = 0) ∧ t.toNat ≤ md.toNat) = False := by simp [q0]
        simp only [q, false_or] at hp1 hp2
        clear q
        by_cases q1 : n + f < (t.toNat : Int)
        · by_cases q2 : n + m + f < (t.toNat : Int)
          · rw [if_pos q1] at hp1; rw [if_pos q2] at hp2
            subst hp1 hp2
            go_wp2_with fail
            refine HM.mono ?_
            rintro e w4 ⟨rfl, k4⟩
            go_wp2
            go_ret
            first | exact ⟨rfl, keep_trans k123 k4⟩ | exact ⟨ret_bool (by simp; omega), keep_trans k123 k4⟩
          · rw [if_pos q1] at hp1; rw [if_neg q2] at hp2
            subst hp1 hp2
            go_wp2_with fail
            refine HM.mono ?_
            rintro e w4 ⟨rfl, k4⟩
            go_wp2
            go_ret
            first | exact ⟨rfl, keep_trans k123 k4⟩ | exact ⟨ret_bool (by simp; omega), keep_trans k123 k4⟩
        · rw [if_neg q1] at hp1; rw [if_neg (by omega)] at hp2
          subst hp1 hp2
          go_wp2_with fail
          refine HM.mono ?_
          rintro e w4 ⟨rfl, k4⟩
          go_wp2
          go_ret
          first | exact ⟨rfl, keep_trans k123 k4⟩ | exact ⟨ret_bool (by simp; omega), keep_trans k123 k4⟩
end Go.Proofs.Ytbkapapffnmebaa
