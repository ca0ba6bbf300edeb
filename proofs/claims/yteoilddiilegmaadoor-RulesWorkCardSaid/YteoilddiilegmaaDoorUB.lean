/- math/bits.Len64: how many digits (the shelf's contract, laid for this cut); u256.Len. -/
import Derived.Test.YteoilddiilegmaaDoorUA
import Derived.Test.YteoilddiilegmaaDoorLn
set_option linter.unusedSimpArgs false
set_option linter.unusedVariables false
namespace Go.Proofs.YteoilddiilegmaaDoor
open Go.RowKit
attribute [local go_sem ↓] Go.wp_at_zero Go.wp_at_succ

theorem lenN_half {x : Nat} (h : x ≠ 0) : lenN x = 1 + lenN (x / 2) := by
  obtain ⟨n, h1, h2, h3⟩ := lenN_pos h
  cases n with
  | zero =>
    have : x / 2 = 0 := by simp only [Nat.zero_add, Nat.pow_one] at h3; omega
    rw [h1, this]; rfl
  | succ n =>
    rw [h1]
    have : lenN (x / 2) = n + 1 := lenN_of (by rw [Nat.pow_succ] at h2; omega) (by rw [Nat.pow_succ 2 (n + 1)] at h3; omega)
    omega
theorem bitLenAux_eq : ∀ (f x : Nat), x < 2 ^ f → Lib.bitLenAux f x = lenN x
  | 0, x, h => by
    have : x = 0 := by simpa using h
    subst this; rfl
  | f + 1, x, h => by
    unfold Lib.bitLenAux
    split
    · rename_i h0; subst h0; rfl
    · rename_i h0
      rw [bitLenAux_eq f (x / 2) (by rw [Nat.pow_succ] at h; omega), lenN_half h0]
theorem bitLen_eq {x : Nat} (h : x < 2 ^ 64) : Lib.bitLen x = lenN x := bitLenAux_eq 64 x h

set_option maxRecDepth 100000 in
set_option maxHeartbeats 1000000 in
theorem len_any (N : Nat) (w : World) (hN : N < 2 ^ 256) :
    Calls Tryd.prog 47 #[uV N] w fun e w' => e = .returned (.int .i64 (lenN N : Nat)) ∧ Keep w w' := by
  have HC : Hid (∀ c, lenN N = c → ((N = 0 → c = 0) ∧ ∀ i, i < 4 → limb N i ≠ 0 → (∀ j, i < j → j < 4 → limb N j = 0) → c = 64 * i + lenN (limb N i))) := fun c e => by
    subst e
    exact ⟨fun h => by subst h; rfl, fun i hi h0 hh => lenN_limb (lt_top hN hi hh) h0⟩
  replace HC := Lib.hid (HC.out _ rfl)
  have hc256 : lenN N ≤ 256 := lenN_le hN
  generalize lenN N = c at *
  have HN := Lib.hid hN
  clear hN
  go_enter Tryd.func47, Tryd.ntmps47
  go_upto_region 1 with fail
  obtain ⟨w1, hw1⟩ : ∃ w1, w1 = w.alloc (.cells #[n64 (limb N 0), n64 (limb N 1), n64 (limb N 2), n64 (limb N 3)] 49) := ⟨_, rfl⟩
  have hc1 : ∀ k, k < 4 → w1.cell? ⟨w.heap.size, k, none⟩ = some (n64 (limb N k)) := fun k hk => by
    have h1 : Blk w1 w.heap.size 49 (uL N) := by rw [hw1]; exact Blk.new w 49 (uL N)
    rw [h1.cell, uL_get N k hk]
  have HK1 : Hid (Keep w w1) := by rw [hw1]; exact keep_new _ _
  rw [← hw1]
  have Hc1 := Lib.hid hc1
  clear hw1 hc1
  go_wp2_with fail
  go_loopw [3] (fun i wr => ∃ k : Nat, k ≤ 4 ∧ i = .int .i64 ((k : Int) - 1) ∧ Hid (∀ j, k ≤ j → j < 4 → limb N j = 0) ∧ Hid (Keep w1 wr)) (fun i _ => (intOf i + 1).toNat)
  case atStart => exact ⟨4, by omega, rfl, Lib.hid (fun j h1 h2 => by omega), Lib.hid (Below.refl _ _)⟩
  case round =>
    obtain ⟨k, hk, rfl, he, hkr⟩ := hrel
    cases k with
    | zero =>
      have h1 := HC.out.1 (zero_top HN.out (fun i hi => he.out i (Nat.zero_le _) hi))
      subst h1
      clear HC HN
      go_wp2
      exact bodyPost_ret (v := .int .i64 0) (by simp [results, Tryd.results47]) rfl ⟨rfl, keep_trans HK1.out hkr.out⟩
    | succ k =>
      have hi : ((k + 1 : Nat) : Int) - 1 = (k : Int) := by omega
      rw [hi]
      have a0 := keep_cell hkr.out (Hc1.out k (by omega))
      have hl := limb_lt N k
      have hk4 : k < 4 := by omega
      have hx : Hid (limb N k ≠ 0 → c = 64 * k + lenN (limb N k)) := Lib.hid fun h => HC.out.2 k hk4 h (fun j h1 h2 => he.out j (by omega) h2)
      have heq : Hid (limb N k = 0 → ∀ j, k ≤ j → j < 4 → limb N j = 0) := Lib.hid fun h j h1 h2 => by
        by_cases e : j = k
        · subst e; exact h
        · exact he.out j (by omega) h2
      generalize limb N k = x at *
      clear hi he
      by_cases h1 : x = 0
      · have He := Lib.hid (heq.out h1)
        have d1 : (x != 0) = false := by simp [h1]
        subst h1
        clear hx heq hl d1
        go_wp2_with fail
        go_roundw
        case rel => exact ⟨k, by omega, by go_num, He, hkr⟩
        case measure => simp [intOf]
      · have hb := bits_Len64 (x : Int) wr (by omega) (by simp only [Nat.reducePow] at hl; omega)
        rw [Int.toNat_natCast, bitLen_eq hl] at hb
        have hcx := hx.out h1
        have HB := Lib.hid hb
        generalize lenN x = m at *
        have d1 : ((x : Int) != 0) = true := by simp [h1]
        have d2 : (x != 0) = true := by simp [h1]
        have HX1 := Lib.hid h1; have HCX := Lib.hid hcx
        have hm : m ≤ 256 := by omega
        clear hx heq hl HC HN hb h1 hcx
        go_wp2_with fail
        refine HB.out.mono ?_
        rintro e w2 ⟨rfl, rfl⟩
        go_wp2
        rw [HCX.out]
        exact bodyPost_ret (v := .int .i64 ((64 * k + m : Nat) : Int)) (by simp [results, Tryd.results47]) rfl ⟨rfl, keep_trans HK1.out hkr.out⟩
end Go.Proofs.YteoilddiilegmaaDoor
