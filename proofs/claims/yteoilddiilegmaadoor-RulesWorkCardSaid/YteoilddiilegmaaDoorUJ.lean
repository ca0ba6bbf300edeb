/- target.Shrink. -/
import Derived.Test.YteoilddiilegmaaDoorUI
set_option linter.unusedSimpArgs false
set_option linter.unusedVariables false
namespace Go.Proofs.YteoilddiilegmaaDoor
open Go.RowKit
attribute [local go_sem ↓] Go.wp_at_zero Go.wp_at_succ

theorem u32_or_nat (a b : Nat) (ha : a < 4294967296) (hb : b < 4294967296) : bits .or .u32 (a : Int) (b : Int) = ((a ||| b : Nat) : Int) := by
  have of : ∀ x : Nat, x < 4294967296 → (BitVec.ofInt 32 (x : Int)).toNat = x := fun x hx => by
    rw [BitVec.ofInt_natCast, BitVec.toNat_ofNat]; exact Nat.mod_eq_of_lt (by omega)
  have hlt : a ||| b < 2 ^ 32 := Nat.or_lt_two_pow ha hb
  show IntKind.u32.wrap ((BitVec.ofInt 32 (a : Int) ||| BitVec.ofInt 32 (b : Int)).toNat : Int) = _
  rw [BitVec.toNat_or, of _ ha, of _ hb, IntKind.wrap_u32]
  have : (2 : Nat) ^ 32 = 4294967296 := by decide
  omega
theorem and_bit23 (x : Nat) : x &&& 2 ^ 23 = x / 8388608 % 2 * 8388608 := by
  have hb : x.testBit 23 = decide (x / 8388608 % 2 = 1) := Nat.testBit_eq_decide_div_mod_eq
  apply Nat.eq_of_testBit_eq
  intro j
  rw [Nat.testBit_and, Nat.testBit_two_pow]
  rcases (show x / 8388608 % 2 = 0 ∨ x / 8388608 % 2 = 1 by omega) with e | e
  · rw [e, Nat.zero_mul, Nat.zero_testBit]
    by_cases hj : 23 = j
    · subst hj; rw [hb, e]; rfl
    · rw [decide_eq_false hj, Bool.and_false]
  · rw [e, Nat.one_mul, show (8388608 : Nat) = 2 ^ 23 from rfl, Nat.testBit_two_pow]
    by_cases hj : 23 = j
    · subst hj; rw [hb, e]; rfl
    · rw [decide_eq_false hj, Bool.and_false]
theorem u32_bit23 (m : Nat) : bits .and .u32 (m : Int) 8388608 = ((m / 8388608 % 2 * 8388608 : Nat) : Int) := by
  have h1 : (BitVec.ofInt 32 8388608).toNat = 2 ^ 23 := by decide
  have key : (BitVec.ofInt 32 (m : Int) &&& BitVec.ofInt 32 8388608).toNat = (((m : Int) % ((2 ^ 32 : Nat) : Int)).toNat / 8388608 % 2) * 8388608 := by
    rw [BitVec.toNat_and, BitVec.toNat_ofInt, h1, and_bit23]
  show IntKind.u32.wrap ((BitVec.ofInt 32 (m : Int) &&& BitVec.ofInt 32 8388608).toNat : Nat) = _
  rw [key, IntKind.wrap_u32]
  omega
theorem shr_zero : shrN 0 = 0 := rfl
theorem shr_val {T : Nat} (h0 : T ≠ 0) : shrN T = if ((if (lenN T + 7) / 8 < 3 then T * 2 ^ (8 * (3 - (lenN T + 7) / 8)) else T / 2 ^ (8 * ((lenN T + 7) / 8 - 3))) % 4294967296) / 8388608 % 2 = 1
    then UInt32.ofNat (((lenN T + 7) / 8 + 1) * 16777216 ||| ((if (lenN T + 7) / 8 < 3 then T * 2 ^ (8 * (3 - (lenN T + 7) / 8)) else T / 2 ^ (8 * ((lenN T + 7) / 8 - 3))) % 4294967296) / 256)
    else UInt32.ofNat ((lenN T + 7) / 8 * 16777216 ||| ((if (lenN T + 7) / 8 < 3 then T * 2 ^ (8 * (3 - (lenN T + 7) / 8)) else T / 2 ^ (8 * ((lenN T + 7) / 8 - 3))) % 4294967296)) := if_neg h0
theorem limb0_mod (N : Nat) : limb N 0 % 4294967296 = N % 4294967296 := by
  unfold limb
  rw [Nat.mul_zero, Nat.pow_zero, Nat.div_one]
  exact Nat.mod_mod_of_dvd _ (by decide)
theorem mod256_mod (N : Nat) : N % 2 ^ 256 % 4294967296 = N % 4294967296 := Nat.mod_mod_of_dvd _ (by decide)
theorem u32v_ofNat {n : Nat} (h : n < 4294967296) : u32v (UInt32.ofNat n) = .int .u32 (n : Int) := by
  unfold u32v; rw [UInt32.toNat_ofNat', Nat.mod_eq_of_lt h]

set_option maxRecDepth 100000 in
set_option maxHeartbeats 4000000 in
theorem shrink_any (T : Nat) (w : World) (hT : T < 2 ^ 256) : Calls Tryd.prog 54 #[uV T] w fun e w' => e = .returned (u32v (shrN T)) ∧ Keep w w' := by
  have HE : ∀ W, (Go.binOp .eql 49 (uV T) u0).run Tryd.prog W = .ok (.bool (decide (T = 0))) W := fun W => by
    have := u_eql hT (Nat.two_pow_pos 256) W
    rw [uV_zero] at this; exact this
  have hgd := u256_guard
  by_cases h0 : T = 0
  · rw [decide_eq_true h0] at HE
    have hz : u32v (shrN T) = .int .u32 0 := by rw [h0, shr_zero]; rfl
    rw [hz]
    clear hz h0 hT
    go_enter Tryd.func54, Tryd.ntmps54
    go_wp2
    exact bodyPost_ret (v := .int .u32 0) (by simp [results, Tryd.results54]) rfl ⟨rfl, keep_new _ _⟩
  · rw [decide_eq_false h0] at HE
    have hv := shr_val h0
    have hL : lenN T ≤ 256 := lenN_le hT
    have L1 : Hid (∀ y, Calls Tryd.prog 47 #[uV T] y fun e w' => e = .returned (.int .i64 (lenN T : Nat)) ∧ Keep y w') := Lib.hid fun y => len_any T y hT
    obtain ⟨e, he⟩ : ∃ e, (lenN T + 7) / 8 = e := ⟨_, rfl⟩
    rw [he] at hv
    have he32 : e ≤ 32 := by omega
    have q1 : Int.tdiv ((lenN T : Int) + 7) 8 = (e : Int) := by rw [Int.tdiv_eq_ediv_of_nonneg (by omega)]; omega
    generalize lenN T = L at *
    have hm4 : (if e < 3 then T * 2 ^ (8 * (3 - e)) else T / 2 ^ (8 * (e - 3))) % 4294967296 < 4294967296 := Nat.mod_lt _ (by decide)
    have HM : Hid (∀ m, (if e < 3 then T * 2 ^ (8 * (3 - e)) else T / 2 ^ (8 * (e - 3))) % 4294967296 = m → (e < 3 → T * 2 ^ (8 * (3 - e)) % 4294967296 = m) ∧ (¬ e < 3 → T / 2 ^ (8 * (e - 3)) % 4294967296 = m)) := Lib.hid fun m h => by
      constructor
      · intro h3; rw [if_pos h3] at h; exact h
      · intro h3; rw [if_neg h3] at h; exact h
    replace HM := Lib.hid (HM.out _ rfl)
    generalize (if e < 3 then T * 2 ^ (8 * (3 - e)) else T / 2 ^ (8 * (e - 3))) % 4294967296 = m at *
    obtain ⟨m8, hm8⟩ : ∃ x, m / 256 = x := ⟨_, rfl⟩
    obtain ⟨v6, hv6⟩ : ∃ x, (e + 1) * 16777216 ||| m8 = x := ⟨_, rfl⟩
    obtain ⟨v5, hv5⟩ : ∃ x, e * 16777216 ||| m = x := ⟨_, rfl⟩
    have z5 : v5 < 4294967296 := by rw [← hv5]; exact Nat.or_lt_two_pow (n := 32) (by omega) hm4
    have z6 : v6 < 4294967296 := by rw [← hv6]; exact Nat.or_lt_two_pow (n := 32) (by omega) (by omega)
    have q5 : bits .or .u32 ((e : Int) * 16777216) (m : Int) = (v5 : Int) := by
      rw [show (e : Int) * 16777216 = ((e * 16777216 : Nat) : Int) by omega, ← hv5]; exact u32_or_nat _ _ (by omega) hm4
    have q6 : bits .or .u32 (((e : Int) + 1) * 16777216) (m8 : Int) = (v6 : Int) := by
      rw [show ((e : Int) + 1) * 16777216 = (((e + 1) * 16777216 : Nat) : Int) by omega, ← hv6]; exact u32_or_nat _ _ (by omega) (by omega)
    have q4 : (m : Int) / 256 = (m8 : Int) := by omega
    rw [hm8, hv6, hv5] at hv
    have Q4 := Lib.hid q4; have Q5 := Lib.hid q5; have Q6 := Lib.hid q6
    clear hm8 hv6 hv5 q4 q5 q6
    have HV := Lib.hid hv
    have HT := Lib.hid hT
    generalize shrN T = R at *
    clear he hv h0 hT
    go_enter Tryd.func54, Tryd.ntmps54
    go_upto_region 1 with fail
    obtain ⟨w1, hw1⟩ : ∃ w1, w1 = w.alloc (.cells #[n64 (limb T 0), n64 (limb T 1), n64 (limb T 2), n64 (limb T 3)] 49) := ⟨_, rfl⟩
    have HT1 : Hid (Blk w1 w.heap.size 49 (uL T)) := by rw [hw1]; exact Blk.new w 49 (uL T)
    have HK1 : Hid (Keep w w1) := by rw [hw1]; exact keep_new _ _
    rw [← hw1]
    clear hw1
    have hT := HT1.out
    have t0 := hT.cell 0; have t1 := hT.cell 1; have t2 := hT.cell 2; have t3 := hT.cell 3
    simp only [uL, List.getElem?_cons_zero, List.getElem?_cons_succ] at t0 t1 t2 t3
    clear hT
    go_wp2_with fail
    refine (L1.out _).mono ?_
    rintro e' w2 ⟨rfl, k2⟩
    have HT2 := Lib.hid (HT1.out.keep k2); have HK2 := Lib.hid (keep_trans HK1.out k2)
    clear k2 L1 HT1 HK1 t0 t1 t2 t3 HE
    go_upto_region 4 with fail
    clear q1
    go_upto_if 13 with fail
    go_cut [3] (fun v wx => ∃ X, v = .int .i64 e ∧ Hid (X % 4294967296 = m) ∧ Hid (Blk wx w.heap.size 49 (uL X)) ∧ Hid (Keep w wx))
    case first =>
      have hT := HT2.out
      have t0 := hT.cell 0; have t1 := hT.cell 1; have t2 := hT.cell 2; have t3 := hT.cell 3
      have g0 := hT.frozen 0; have g1 := hT.frozen 1; have g2 := hT.frozen 2; have g3 := hT.frozen 3
      simp only [uL, List.getElem?_cons_zero, List.getElem?_cons_succ] at t0 t1 t2 t3
      clear hT
      by_cases h3 : e < 3
      · have hX := HM.out.1 h3
        rw [← mod256_mod] at hX
        have C6 : Hid (∀ y, Calls Tryd.prog 37 #[uV T, .int .i64 (8 * (3 - (e : Int)))] y fun e' w' => e' = .returned (.tuple #[uV (T * 2 ^ (8 * (3 - e)) % 2 ^ 256), .bool (decide (2 ^ 256 ≤ T * 2 ^ (8 * (3 - e))))]) ∧ Keep y w') := Lib.hid fun y => by
          have h1 := shl_any T (8 * (3 - e)) y HT.out (by omega)
          rw [show ((8 * (3 - e) : Nat) : Int) = 8 * (3 - (e : Int)) by omega] at h1
          exact h1
        have HX := Lib.hid hX
        clear hX HM
        generalize decide (2 ^ 256 ≤ T * 2 ^ (8 * (3 - e))) = ov at *
        generalize T * 2 ^ (8 * (3 - e)) % 2 ^ 256 = X at *
        have d1 : decide ((e : Int) < 3) = true := decide_eq_true (by omega)
        have d2 : decide (e < 3) = true := decide_eq_true h3
        have h3' : (e : Int) < 3 := by omega
        clear h3
        go_upto_region 5 with fail
        go_wp2_with fail
        refine (C6.out _).mono ?_
        rintro e' w4 ⟨rfl, k4⟩
        have HT4 := Lib.hid (HT2.out.keep k4); have HK4 := Lib.hid (keep_trans HK2.out k4)
        clear t0 t1 t2 t3 g0 g1 g2 g3 k4 C6
        have hT := HT4.out
        have t0 := hT.cell 0; have t1 := hT.cell 1; have t2 := hT.cell 2; have t3 := hT.cell 3
        have g0 := hT.frozen 0; have g1 := hT.frozen 1; have g2 := hT.frozen 2; have g3 := hT.frozen 3
        simp only [uL, List.getElem?_cons_zero, List.getElem?_cons_succ] at t0 t1 t2 t3
        clear hT
        go_wp2
        go_meet
        refine ⟨X, rfl, HX, Lib.hid ((((HT4.out.set_ 0 _).set_ 1 _).set_ 2 _).set_ 3 _), Lib.hid ?_⟩
        iterate 4 (refine Below.setCell ?_ (by simp) _)
        exact HK4.out
      · have hX := HM.out.2 h3
        have C6 : Hid (∀ y, Calls Tryd.prog 36 #[uV T, .int .i64 (8 * ((e : Int) - 3))] y fun e' w' => e' = .returned (uV (T / 2 ^ (8 * (e - 3)))) ∧ Keep y w') := Lib.hid fun y => by
          have h1 := shr_any T (8 * (e - 3)) y HT.out (by omega)
          rw [show ((8 * (e - 3) : Nat) : Int) = 8 * ((e : Int) - 3) by omega] at h1
          exact h1
        have HX := Lib.hid hX
        clear hX HM
        generalize T / 2 ^ (8 * (e - 3)) = X at *
        have d1 : decide ((e : Int) < 3) = false := decide_eq_false (by omega)
        have d2 : decide (e < 3) = false := decide_eq_false h3
        have h3' : 3 ≤ (e : Int) := by omega
        clear h3
        go_upto_region 6 with fail
        go_wp2_with fail
        refine (C6.out _).mono ?_
        rintro e' w4 ⟨rfl, k4⟩
        have HT4 := Lib.hid (HT2.out.keep k4); have HK4 := Lib.hid (keep_trans HK2.out k4)
        clear t0 t1 t2 t3 g0 g1 g2 g3 k4 C6
        have hT := HT4.out
        have t0 := hT.cell 0; have t1 := hT.cell 1; have t2 := hT.cell 2; have t3 := hT.cell 3
        have g0 := hT.frozen 0; have g1 := hT.frozen 1; have g2 := hT.frozen 2; have g3 := hT.frozen 3
        simp only [uL, List.getElem?_cons_zero, List.getElem?_cons_succ] at t0 t1 t2 t3
        clear hT
        go_wp2
        go_meet
        refine ⟨X, rfl, HX, Lib.hid ((((HT4.out.set_ 0 _).set_ 1 _).set_ 2 _).set_ 3 _), Lib.hid ?_⟩
        iterate 4 (refine Below.setCell ?_ (by simp) _)
        exact HK4.out
    case rest =>
      obtain ⟨X, rfl, HX, HTc, HKc⟩ := hcut
      have t0 := HTc.out.cell 0
      simp only [uL, List.getElem?_cons_zero] at t0
      have q2 : IntKind.u32.wrap (limb X 0 : Int) = (m : Int) := by
        have h1 := limb0_mod X
        rw [HX.out] at h1
        rw [IntKind.wrap_u32]; omega
      have q3 := u32_bit23 m
      have q4 := Q4.out; have q5 := Q5.out; have q6 := Q6.out
      by_cases hb : m / 8388608 % 2 = 1
      · have hR := HV.out
        rw [if_pos hb] at hR
        have hRv : u32v R = .int .u32 (v6 : Int) := by rw [hR]; exact u32v_ofNat z6
        have HRv := Lib.hid hRv
        rw [hb] at q3
        clear hR hRv HV hb q5 z5
        go_wp2
        rw [HRv.out]
        exact bodyPost_ret (v := .int .u32 (v6 : Int)) (by simp [results, Tryd.results54]) rfl ⟨rfl, HKc.out⟩
      · have hR := HV.out
        rw [if_neg hb] at hR
        have hRv : u32v R = .int .u32 (v5 : Int) := by rw [hR]; exact u32v_ofNat z5
        have HRv := Lib.hid hRv
        rw [show m / 8388608 % 2 = 0 by omega] at q3
        clear hR hRv HV hb q6 z6 q4
        go_wp2
        rw [HRv.out]
        exact bodyPost_ret (v := .int .u32 (v5 : Int)) (by simp [results, Tryd.results54]) rfl ⟨rfl, HKc.out⟩
end Go.Proofs.YteoilddiilegmaaDoor
