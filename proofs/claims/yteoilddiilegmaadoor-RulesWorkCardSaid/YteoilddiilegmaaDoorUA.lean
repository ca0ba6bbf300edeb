/- u256: Cmp, Len. -/
import Derived.Test.YteoilddiilegmaaDoorHdE
import Derived.Test.YteoilddiilegmaaDoorUP
import Derived.Lib.BitFns
set_option linter.unusedSimpArgs false
set_option linter.unusedVariables false
namespace Go.Proofs.YteoilddiilegmaaDoor
open Go.RowKit
attribute [local go_sem ↓] Go.wp_at_zero Go.wp_at_succ

/-- A word, and a number of four, as values. -/
abbrev n64 (n : Nat) : Value := .int .u64 (n : Int)
def uL (N : Nat) : List Value := [n64 (limb N 0), n64 (limb N 1), n64 (limb N 2), n64 (limb N 3)]
abbrev uV (N : Nat) : Value := .agg #[n64 (limb N 0), n64 (limb N 1), n64 (limb N 2), n64 (limb N 3)]
theorem uL_get (N k : Nat) (h : k < 4) : (uL N)[k]? = some (n64 (limb N k)) := by
  rcases (show k = 0 ∨ k = 1 ∨ k = 2 ∨ k = 3 by omega) with rfl | rfl | rfl | rfl <;> rfl
theorem uL_one (N : Nat) : ∀ v ∈ uL N, v.oneCell' = true := by
  intro v hv; simp [uL] at hv; rcases hv with rfl | rfl | rfl | rfl <;> rfl

set_option maxRecDepth 100000 in
set_option maxHeartbeats 1000000 in
theorem cmp_any (N M : Nat) (w : World) (hN : N < 2 ^ 256) (hM : M < 2 ^ 256) :
    Calls Tryd.prog 20 #[uV N, uV M] w fun e w' => e = .returned (.int .i64 (cmpN N M)) ∧ Keep w w' := by
  have HC : Hid (∀ c, cmpN N M = c → (N < M → c = -1) ∧ (M < N → c = 1) ∧ (N = M → c = 0)) := fun c e => by
    subst e; unfold cmpN
    refine ⟨fun h => if_pos h, fun h => ?_, fun h => ?_⟩
    · rw [if_neg (by omega), if_pos h]
    · rw [if_neg (by omega), if_neg (by omega)]
  replace HC := Lib.hid (HC.out _ rfl)
  generalize cmpN N M = c at *
  have HN := Lib.hid hN; have HM := Lib.hid hM
  clear hN hM
  go_enter Tryd.func20, Tryd.ntmps20
  go_upto_region 1 with fail
  obtain ⟨w1, hw1⟩ : ∃ w1, w1 = (w.alloc (.cells #[n64 (limb N 0), n64 (limb N 1), n64 (limb N 2), n64 (limb N 3)] 49)).alloc (.cells #[n64 (limb M 0), n64 (limb M 1), n64 (limb M 2), n64 (limb M 3)] 49) := ⟨_, rfl⟩
  have hc1 : ∀ k, k < 4 → w1.cell? ⟨w.heap.size, k, none⟩ = some (n64 (limb N k)) := fun k hk => by
    have h1 : Blk w1 w.heap.size 49 (uL N) := by rw [hw1]; exact (Blk.new w 49 (uL N)).alloc _
    rw [h1.cell, uL_get N k hk]
  have hc2 : ∀ k, k < 4 → w1.cell? ⟨w.heap.size + 1, k, none⟩ = some (n64 (limb M k)) := fun k hk => by
    have h1 : Blk w1 (w.heap.size + 1) 49 (uL M) := by
      rw [hw1]
      have h2 := Blk.new (w.alloc (.cells #[n64 (limb N 0), n64 (limb N 1), n64 (limb N 2), n64 (limb N 3)] 49)) 49 (uL M)
      rw [World.size_alloc] at h2
      exact h2
    rw [h1.cell, uL_get M k hk]
  have HK1 : Hid (Keep w w1) := by rw [hw1]; exact keep_trans (keep_new _ _) (keep_new _ _)
  rw [← hw1]
  have Hc1 := Lib.hid hc1; have Hc2 := Lib.hid hc2
  clear hw1 hc1 hc2
  go_wp2_with fail
  go_loopw [5] (fun i wr => ∃ k : Nat, k ≤ 4 ∧ i = .int .i64 ((k : Int) - 1) ∧ Hid (∀ j, k ≤ j → j < 4 → limb N j = limb M j) ∧ Hid (Keep w1 wr)) (fun i _ => (intOf i + 1).toNat)
  case atStart => exact ⟨4, by omega, rfl, Lib.hid (fun j h1 h2 => by omega), Lib.hid (Below.refl _ _)⟩
  case round =>
    obtain ⟨k, hk, rfl, he, hkr⟩ := hrel
    cases k with
    | zero =>
      have h1 := HC.out.2.2 (limb_ext HN.out HM.out (fun i hi => he.out i (Nat.zero_le _) hi))
      subst h1
      clear HC
      go_wp2
      go_ret
      exact ⟨rfl, keep_trans HK1.out hkr.out⟩
    | succ k =>
      have hi : ((k + 1 : Nat) : Int) - 1 = (k : Int) := by omega
      rw [hi]
      have a0 := keep_cell hkr.out (Hc1.out k (by omega)); have a1 := keep_cell hkr.out (Hc2.out k (by omega))
      have hl := limb_lt N k; have hm := limb_lt M k
      have hk4 : k < 4 := by omega
      have hx : Hid (limb N k < limb M k → N < M) := Lib.hid fun h => cmp_at HN.out HM.out hk4 (fun j h1 h2 => he.out j (by omega) h2) h
      have hy : Hid (limb M k < limb N k → M < N) := Lib.hid fun h => cmp_at HM.out HN.out hk4 (fun j h1 h2 => (he.out j (by omega) h2).symm) h
      have heq : Hid (limb N k = limb M k → ∀ j, k ≤ j → j < 4 → limb N j = limb M j) := Lib.hid fun h j h1 h2 => by
        by_cases e : j = k
        · subst e; exact h
        · exact he.out j (by omega) h2
      generalize limb N k = x at *
      generalize limb M k = y at *
      clear hi he
      have b0 := aft_cell a0; have b1 := aft_cell a1
      have hxi : (x : Int) < 18446744073709551616 := by omega
      have hyi : (y : Int) < 18446744073709551616 := by omega
      clear hl hm
      by_cases h1 : x < y
      · have h2 := HC.out.1 (hx.out h1)
        subst h2
        have d1 : decide (x < y) = true := decide_eq_true (by omega)
        clear HC hx hy heq h1 HN HM
        go_upto_region 4 with fail
        refine wp_region_aft (by kernel_rfl) (by kernel_rfl) wr (Below.refl _ _) ?_
        repeat (go_big_quiet_step (fail))
        refine wpQuiet_nil ?_
        rintro _ ⟨y', rfl⟩
        have j := aft_keep wr y'
        generalize aft wr y' = wz at j ⊢
        clear b0 b1
        go_wp2
        go_ret
        exact ⟨rfl, keep_trans HK1.out (keep_trans hkr.out j)⟩
      · have d1 : decide (x < y) = false := decide_eq_false (by omega)
        go_upto_region 4 with fail
        refine wp_region_aft (by kernel_rfl) (by kernel_rfl) wr (Below.refl _ _) ?_
        repeat (go_big_quiet_step (fail))
        refine wpQuiet_nil ?_
        rintro _ ⟨y', rfl⟩
        have j := aft_keep wr y'
        generalize aft wr y' = wz at j ⊢
        have c0 := aft_cell (keep_cell j a0); have c1 := aft_cell (keep_cell j a1)
        clear b0 b1
        by_cases h2 : y < x
        · have h3 := HC.out.2.1 (hy.out h2)
          subst h3
          have d2 : decide (y < x) = true := decide_eq_true (by omega)
          clear HC hx hy heq h1 h2
          go_upto_region 6 with fail
          refine wp_region_aft (by kernel_rfl) (by kernel_rfl) wz (Below.refl _ _) ?_
          repeat (go_big_quiet_step (fail))
          refine wpQuiet_nil ?_
          rintro _ ⟨y', rfl⟩
          have j2 := aft_keep wz y'
          generalize aft wz y' = wy at j2 ⊢
          clear c0 c1
          go_wp2
          go_ret
          exact ⟨rfl, keep_trans HK1.out (keep_trans hkr.out (keep_trans j j2))⟩
        · have hxy : x = y := by omega
          have He := Lib.hid (heq.out hxy)
          have d2 : decide (y < x) = false := decide_eq_false (by omega)
          clear hx hy heq h1 h2
          go_upto_region 6 with fail
          refine wp_region_aft (by kernel_rfl) (by kernel_rfl) wz (Below.refl _ _) ?_
          repeat (go_big_quiet_step (fail))
          refine wpQuiet_nil ?_
          rintro _ ⟨y', rfl⟩
          have j2 := aft_keep wz y'
          generalize aft wz y' = wy at j2 ⊢
          clear c0 c1
          go_wp2
          go_roundw
          case rel => exact ⟨k, by omega, by go_num, He, Lib.hid (keep_trans hkr.out (keep_trans j j2))⟩
          case measure => simp [intOf]
end Go.Proofs.YteoilddiilegmaaDoor
