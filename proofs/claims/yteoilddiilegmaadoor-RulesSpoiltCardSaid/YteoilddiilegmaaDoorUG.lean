/- target.Expand. -/
import Derived.Test.YteoilddiilegmaaDoorUF
set_option linter.unusedSimpArgs false
set_option linter.unusedVariables false
namespace Go.Proofs.YteoilddiilegmaaDoor
open Go.RowKit
attribute [local go_sem ↓] Go.wp_at_zero Go.wp_at_succ

theorem u32_and1 (n : Nat) : bits BinOp.and IntKind.u32 (n : Int) 1 = ((n % 2 : Nat) : Int) := by
  have h1 : (BitVec.ofInt 32 1).toNat = 2 ^ 1 - 1 := by decide
  have key : (BitVec.ofInt 32 (n : Int) &&& BitVec.ofInt 32 1).toNat = ((n : Int) % ((2 ^ 32 : Nat) : Int)).toNat % 2 ^ 1 := by
    rw [BitVec.toNat_and, BitVec.toNat_ofInt, h1, Nat.and_two_pow_sub_one_eq_mod]
  show IntKind.u32.wrap ((BitVec.ofInt 32 (n : Int) &&& BitVec.ofInt 32 1).toNat : Nat) = ((n % 2 : Nat) : Int)
  rw [key, IntKind.wrap_u32]
  omega
theorem u32_and23 (n : Nat) : bits BinOp.and IntKind.u32 (n : Int) 8388607 = ((n % 8388608 : Nat) : Int) := by
  have h1 : (BitVec.ofInt 32 8388607).toNat = 2 ^ 23 - 1 := by decide
  have key : (BitVec.ofInt 32 (n : Int) &&& BitVec.ofInt 32 8388607).toNat = ((n : Int) % ((2 ^ 32 : Nat) : Int)).toNat % 2 ^ 23 := by
    rw [BitVec.toNat_and, BitVec.toNat_ofInt, h1, Nat.and_two_pow_sub_one_eq_mod]
  show IntKind.u32.wrap ((BitVec.ofInt 32 (n : Int) &&& BitVec.ofInt 32 8388607).toNat : Nat) = ((n % 8388608 : Nat) : Int)
  rw [key, IntKind.wrap_u32]
  omega
theorem small64 {m : Nat} (h : m < 8388608) : m < 2 ^ 64 := Nat.lt_trans h (by decide)
theorem small256 {m : Nat} (h : m < 8388608) : m < 2 ^ 256 := Nat.lt_trans h (by decide)
theorem expN_sign {x : UInt32} (h1 : x.toNat % 8388608 ≠ 0) (h2 : x.toNat / 8388608 % 2 = 1) : expN x = (0, 7) := if_pos ⟨h1, h2⟩
theorem expN_low {x : UInt32} (h1 : ¬ (x.toNat % 8388608 ≠ 0 ∧ x.toNat / 8388608 % 2 = 1)) (h3 : x.toNat / 16777216 < 3) {T : Nat} (hT : T = x.toNat % 8388608 / 2 ^ (8 * (3 - x.toNat / 16777216))) :
    T < 2 ^ 256 ∧ expN x = if false = true ∨ T = 0 then (0, 7) else (T, 0) := by
  have e : expT x = T := by rw [hT]; exact if_pos h3
  have hlt : T < 2 ^ 256 := by
    have h4 : T ≤ x.toNat % 8388608 := by rw [hT]; exact Nat.div_le_self _ _
    have h5 : (8388608 : Nat) ≤ 2 ^ 256 := by decide
    omega
  refine ⟨hlt, ?_⟩
  unfold expN
  rw [if_neg h1, e]
  by_cases h0 : T = 0
  · rw [if_pos (Or.inr h0), if_pos (Or.inr h0)]
  · rw [if_neg (by intro h; rcases h with h | h; omega; exact h0 h), if_neg (by intro h; rcases h with h | h; cases h; exact h0 h)]
theorem expN_high {x : UInt32} (h1 : ¬ (x.toNat % 8388608 ≠ 0 ∧ x.toNat / 8388608 % 2 = 1)) (h3 : ¬ x.toNat / 16777216 < 3) {U : Nat} (hU : U = x.toNat % 8388608 * 2 ^ (8 * (x.toNat / 16777216 - 3))) :
    U % 2 ^ 256 < 2 ^ 256 ∧ expN x = if decide (2 ^ 256 ≤ U) = true ∨ U % 2 ^ 256 = 0 then (0, 7) else (U % 2 ^ 256, 0) := by
  have e : expT x = U := by rw [hU]; exact if_neg h3
  refine ⟨Nat.mod_lt _ (Nat.two_pow_pos _), ?_⟩
  unfold expN
  rw [if_neg h1, e]
  by_cases h0 : 2 ^ 256 ≤ U
  · rw [if_pos (Or.inl h0), if_pos (Or.inl (decide_eq_true h0))]
  · have hm : U % 2 ^ 256 = U := Nat.mod_eq_of_lt (Nat.lt_of_not_le h0)
    rw [hm, decide_eq_false h0]
    by_cases h2 : U = 0
    · rw [if_pos (Or.inr h2), if_pos (Or.inr h2)]
    · rw [if_neg (by intro h; rcases h with h | h; exact h0 h; exact h2 h), if_neg (by intro h; rcases h with h | h; cases h; exact h2 h)]

set_option maxRecDepth 100000 in
set_option maxHeartbeats 4000000 in
theorem expand_any (x : UInt32) (w : World) :
    Calls Tryd.prog 19 #[u32v x] w fun e w' => e = .returned (.tuple #[uV (expN x).1, .int .i64 (expN x).2]) ∧ Keep w w' := by
  have hx := x.toNat_lt
  have H1 : Hid (x.toNat % 8388608 ≠ 0 → x.toNat / 8388608 % 2 = 1 → expN x = (0, 7)) := Lib.hid expN_sign
  have H2 : Hid (¬ (x.toNat % 8388608 ≠ 0 ∧ x.toNat / 8388608 % 2 = 1) → x.toNat / 16777216 < 3 → ∀ T, T = x.toNat % 8388608 / 2 ^ (8 * (3 - x.toNat / 16777216)) → T < 2 ^ 256 ∧ expN x = if false = true ∨ T = 0 then (0, 7) else (T, 0)) := Lib.hid fun h1 h3 T hT => expN_low h1 h3 hT
  have H3 : Hid (¬ (x.toNat % 8388608 ≠ 0 ∧ x.toNat / 8388608 % 2 = 1) → ¬ x.toNat / 16777216 < 3 → ∀ U, U = x.toNat % 8388608 * 2 ^ (8 * (x.toNat / 16777216 - 3)) → U % 2 ^ 256 < 2 ^ 256 ∧ expN x = if decide (2 ^ 256 ≤ U) = true ∨ U % 2 ^ 256 = 0 then (0, 7) else (U % 2 ^ 256, 0)) := Lib.hid fun h1 h3 U hU => expN_high h1 h3 hU
  generalize expN x = R at *
  have a1 : bits BinOp.and IntKind.u32 ((x.toNat : Int) / 8388608) 1 = ((x.toNat / 8388608 % 2 : Nat) : Int) := by
    rw [show (x.toNat : Int) / 8388608 = ((x.toNat / 8388608 : Nat) : Int) by omega]; exact u32_and1 _
  have a2 : bits BinOp.and IntKind.u32 (x.toNat : Int) 8388607 = ((x.toNat % 8388608 : Nat) : Int) := u32_and23 _
  have a3 : (x.toNat : Int) / 16777216 = ((x.toNat / 16777216 : Nat) : Int) := by omega
  obtain ⟨m, hm⟩ : ∃ m, x.toNat % 8388608 = m := ⟨_, rfl⟩
  obtain ⟨s, hs⟩ : ∃ s, x.toNat / 8388608 % 2 = s := ⟨_, rfl⟩
  obtain ⟨k, hk⟩ : ∃ k, x.toNat / 16777216 = k := ⟨_, rfl⟩
  rw [hm] at a2 H1 H2 H3
  rw [hs] at a1 H1 H2 H3
  rw [hk] at a3 H2 H3
  have hm23 : m < 8388608 := by omega
  have hs2 : s < 2 := by omega
  have hk8 : k < 256 := by omega
  clear hm hs hk
  go_enter Tryd.func19, Tryd.ntmps19
  go_upto_region 2 with fail
  clear a1 a2 a3
  obtain ⟨w1, hw1⟩ : ∃ w1, w1 = w.alloc (.cells #[.int .u64 0, .int .u64 0, .int .u64 0, .int .u64 0] 49) := ⟨_, rfl⟩
  have HR1 : Hid (Blk w1 w.heap.size 49 [.int .u64 0, .int .u64 0, .int .u64 0, .int .u64 0]) := by rw [hw1]; exact Blk.new w 49 [.int .u64 0, .int .u64 0, .int .u64 0, .int .u64 0]
  have HK1 : Hid (Keep w w1) := by rw [hw1]; exact keep_new _ _
  rw [← hw1]
  clear hw1
  have hR1 := HR1.out
  have hlt1 : w.heap.size < w1.heap.size := hR1.lt
  -- what is told at an error
  have fin : ∀ W, Blk W w.heap.size 49 [.int .u64 0, .int .u64 0, .int .u64 0, .int .u64 0] → Blk ((((W.setCell ⟨w.heap.size, 0, none⟩ (.int .u64 0)).setCell ⟨w.heap.size, 1, none⟩ (.int .u64 0)).setCell ⟨w.heap.size, 2, none⟩ (.int .u64 0)).setCell ⟨w.heap.size, 3, none⟩ (.int .u64 0)) w.heap.size 49 [.int .u64 0, .int .u64 0, .int .u64 0, .int .u64 0] := fun W h =>
    (((h.set_ 0 (.int .u64 0)).set_ 1 (.int .u64 0)).set_ 2 (.int .u64 0)).set_ 3 (.int .u64 0)
  have Fin := Lib.hid fin
  have r0 := hR1.cell 0; have r1 := hR1.cell 1; have r2 := hR1.cell 2; have r3 := hR1.cell 3
  have f0 := hR1.frozen 0; have f1 := hR1.frozen 1; have f2 := hR1.frozen 2; have f3 := hR1.frozen 3
  simp only [List.getElem?_cons_zero, List.getElem?_cons_succ] at r0 r1 r2 r3
  clear fin hR1
  by_cases hsg : m ≠ 0 ∧ s = 1
  · have HD := Lib.hid (H1.out hsg.1 hsg.2)
    obtain ⟨g1, g2⟩ := hsg
    subst g2
    have d1 : (m != 0) = true := by simp [g1]
    have d2 : ((m : Int) != 0) = true := by simp [g1]
    clear H1 H2 H3 g1
    go_wp2
    rw [HD.out, uV_zero]
    have hb8 := Fin.out w1 HR1.out
    have HK8 : Keep w ((((w1.setCell ⟨w.heap.size, 0, none⟩ (.int .u64 0)).setCell ⟨w.heap.size, 1, none⟩ (.int .u64 0)).setCell ⟨w.heap.size, 2, none⟩ (.int .u64 0)).setCell ⟨w.heap.size, 3, none⟩ (.int .u64 0)) := by
      iterate 4 (refine Below.setCell ?_ (by simp) _)
      exact HK1.out
    exact bodyPost_ret (v := .tuple #[u0, .int .i64 7]) (results_cell_tmp_row Tryd.results19 _ _ w.heap.size _ _ _ _ rfl hb8 Tryd.underlying49 rfl (by kernel_rfl)) rfl ⟨rfl, HK8⟩
  · have hg : ¬ (m ≠ 0 ∧ s = 1) := hsg
    have HG := Lib.hid hg
    have O1 : Hid (∀ y, Calls Tryd.prog 35 #[n64 m] y fun e w' => e = .returned (uV m) ∧ Keep y w') := Lib.hid fun y => of_any m y (small64 hm23)
    have HM := Lib.hid (small256 hm23)
    clear hg r0 r1 r2 r3 f0 f1 f2 f3 H1
    go_cut [22] (fun v wx => v = .bool false ∧ w1 = wx)
    case first =>
      by_cases h0 : m = 0
      · subst h0
        clear hsg H2 H3
        go_wp2
        go_meet
        exact ⟨rfl, rfl⟩
      · have h1 : s ≠ 1 := fun e => hsg ⟨h0, e⟩
        have d1 : (m != 0) = true := by simp [h0]
        have d2 : ((m : Int) != 0) = true := by simp [h0]
        have d3 : (s == 1) = false := by simp [h1]
        have d4 : ((s : Int) == 1) = false := by rw [beq_eq_false_iff_ne]; omega
        clear hsg H2 H3 h0 h1
        go_wp2
        go_meet
        exact ⟨rfl, rfl⟩
    case rest =>
      obtain ⟨rfl, rfl⟩ := hcut
      clear hsg
      go_upto_region 4 with fail
      go_wp2_with fail
      refine (O1.out _).mono ?_
      rintro e w2 ⟨rfl, k2⟩
      have HR2 := Lib.hid (HR1.out.keep k2); have HK2 := Lib.hid (keep_trans HK1.out k2)
      have hz2 : w.heap.size < w2.heap.size := HR2.out.lt
      clear k2 O1 HR1 HK1
      go_upto_region 5 with fail
      obtain ⟨w3, hw3⟩ : ∃ w3, w3 = w2.alloc (.cells #[n64 (limb m 0), n64 (limb m 1), n64 (limb m 2), n64 (limb m 3)] 49) := ⟨_, rfl⟩
      have HT3 : Hid (Blk w3 w2.heap.size 49 (uL m)) := by rw [hw3]; exact Blk.new w2 49 (uL m)
      have HR3 : Hid (Blk w3 w.heap.size 49 [.int .u64 0, .int .u64 0, .int .u64 0, .int .u64 0]) := by rw [hw3]; exact HR2.out.alloc _
      have HK3 : Hid (Keep w w3) := by rw [hw3]; exact keep_trans HK2.out (keep_new _ _)
      rw [← hw3]
      clear hw3 HR2 HK2
      generalize w2.heap.size = B at *
      go_upto_if 28 with fail
      go_cut [8] (fun v wx => ∃ (T : Nat) (ov : Bool), v = .bool ov ∧ Hid (T < 2 ^ 256) ∧ Hid (Blk wx B 49 (uL T)) ∧ Hid (Blk wx w.heap.size 49 [.int .u64 0, .int .u64 0, .int .u64 0, .int .u64 0]) ∧ Hid (Keep w wx) ∧ Hid (R = if ov = true ∨ T = 0 then (0, 7) else (T, 0)))
      case first =>
        by_cases h3 : k < 3
        · obtain ⟨q1, q2⟩ := H2.out HG.out h3 _ rfl
          have C6 : Hid (∀ y, Calls Tryd.prog 36 #[uV m, .int .i64 (8 * (3 - (k : Int)))] y fun e w' => e = .returned (uV (m / 2 ^ (8 * (3 - k)))) ∧ Keep y w') := Lib.hid fun y => by
            have h1 := shr_any m (8 * (3 - k)) y HM.out (by omega)
            rw [show ((8 * (3 - k) : Nat) : Int) = 8 * (3 - (k : Int)) by omega] at h1
            exact h1
          have Q1 := Lib.hid q1; have Q2 := Lib.hid q2
          clear q1 q2 H2 H3
          generalize m / 2 ^ (8 * (3 - k)) = T at *
          have d1 : decide ((k : Int) < 3) = true := decide_eq_true (by omega)
          have d2 : decide (k < 3) = true := decide_eq_true (by omega)
          have h3' : (k : Int) < 3 := by omega
          clear h3
          have hT := HT3.out
          have t0 := hT.cell 0; have t1 := hT.cell 1; have t2 := hT.cell 2; have t3 := hT.cell 3
          have g0 := hT.frozen 0; have g1 := hT.frozen 1; have g2 := hT.frozen 2; have g3 := hT.frozen 3
          simp only [uL, List.getElem?_cons_zero, List.getElem?_cons_succ] at t0 t1 t2 t3
          clear hT
          go_upto_region 6 with fail
          go_wp2_with fail
          refine (C6.out _).mono ?_
          rintro e w4 ⟨rfl, k4⟩
          have HT4 := Lib.hid (HT3.out.keep k4); have HR4 := Lib.hid (HR3.out.keep k4); have HK4 := Lib.hid (keep_trans HK3.out k4)
          clear t0 t1 t2 t3 g0 g1 g2 g3 k4 C6
          have hT := HT4.out
          have t0 := hT.cell 0; have t1 := hT.cell 1; have t2 := hT.cell 2; have t3 := hT.cell 3
          have g0 := hT.frozen 0; have g1 := hT.frozen 1; have g2 := hT.frozen 2; have g3 := hT.frozen 3
          simp only [uL, List.getElem?_cons_zero, List.getElem?_cons_succ] at t0 t1 t2 t3
          clear hT
          go_wp2
          go_meet
          refine ⟨T, false, rfl, Q1, Lib.hid ((((HT4.out.set_ 0 _).set_ 1 _).set_ 2 _).set_ 3 _), Lib.hid ?_, Lib.hid ?_, Q2⟩
          · iterate 4 (refine Blk.far ?_ (by simp; omega) _)
            exact HR4.out
          · iterate 4 (refine Below.setCell ?_ (by simp; omega) _)
            exact HK4.out
        · obtain ⟨q1, q2⟩ := H3.out HG.out h3 _ rfl
          have C6 : Hid (∀ y, Calls Tryd.prog 37 #[uV m, .int .i64 (8 * ((k : Int) - 3))] y fun e w' => e = .returned (.tuple #[uV (m * 2 ^ (8 * (k - 3)) % 2 ^ 256), .bool (decide (2 ^ 256 ≤ m * 2 ^ (8 * (k - 3))))]) ∧ Keep y w') := Lib.hid fun y => by
            have h1 := shl_any m (8 * (k - 3)) y HM.out (by omega)
            rw [show ((8 * (k - 3) : Nat) : Int) = 8 * ((k : Int) - 3) by omega] at h1
            exact h1
          have Q1 := Lib.hid q1; have Q2 := Lib.hid q2
          clear q1 q2 H2 H3
          generalize decide (2 ^ 256 ≤ m * 2 ^ (8 * (k - 3))) = ov at *
          generalize m * 2 ^ (8 * (k - 3)) % 2 ^ 256 = T at *
          have d1 : decide ((k : Int) < 3) = false := decide_eq_false (by omega)
          have d2 : decide (k < 3) = false := decide_eq_false (by omega)
          have h3' : 3 ≤ (k : Int) := by omega
          clear h3
          have hT := HT3.out
          have t0 := hT.cell 0; have t1 := hT.cell 1; have t2 := hT.cell 2; have t3 := hT.cell 3
          have g0 := hT.frozen 0; have g1 := hT.frozen 1; have g2 := hT.frozen 2; have g3 := hT.frozen 3
          simp only [uL, List.getElem?_cons_zero, List.getElem?_cons_succ] at t0 t1 t2 t3
          clear hT
          go_upto_region 7 with fail
          go_wp2_with fail
          refine (C6.out _).mono ?_
          rintro e w4 ⟨rfl, k4⟩
          have HT4 := Lib.hid (HT3.out.keep k4); have HR4 := Lib.hid (HR3.out.keep k4); have HK4 := Lib.hid (keep_trans HK3.out k4)
          clear t0 t1 t2 t3 g0 g1 g2 g3 k4 C6
          have hT := HT4.out
          have t0 := hT.cell 0; have t1 := hT.cell 1; have t2 := hT.cell 2; have t3 := hT.cell 3
          have g0 := hT.frozen 0; have g1 := hT.frozen 1; have g2 := hT.frozen 2; have g3 := hT.frozen 3
          simp only [uL, List.getElem?_cons_zero, List.getElem?_cons_succ] at t0 t1 t2 t3
          clear hT
          go_wp2
          go_meet
          refine ⟨T, ov, rfl, Q1, Lib.hid ((((HT4.out.set_ 0 _).set_ 1 _).set_ 2 _).set_ 3 _), Lib.hid ?_, Lib.hid ?_, Q2⟩
          · iterate 4 (refine Blk.far ?_ (by simp; omega) _)
            exact HR4.out
          · iterate 4 (refine Below.setCell ?_ (by simp; omega) _)
            exact HK4.out
      case rest =>
        obtain ⟨T, ov, rfl, HT256, HTc, HRc, HKc, HD⟩ := hcut
        have HE : Hid (∀ W, (Go.binOp .eql 49 (uV T) u0).run Tryd.prog W = .ok (.bool (decide (T = 0))) W) := Lib.hid fun W => by
          have := u_eql HT256.out (Nat.two_pow_pos 256) W
          rw [uV_zero] at this; exact this
        have hgd := u256_guard
        clear H2 H3 HT3 HR3 HK3
        have hT := HTc.out
        have t0 := hT.cell 0; have t1 := hT.cell 1; have t2 := hT.cell 2; have t3 := hT.cell 3
        have g0 := hT.frozen 0; have g1 := hT.frozen 1; have g2 := hT.frozen 2; have g3 := hT.frozen 3
        simp only [uL, List.getElem?_cons_zero, List.getElem?_cons_succ] at t0 t1 t2 t3
        have hR := HRc.out
        have r0 := hR.cell 0; have r1 := hR.cell 1; have r2 := hR.cell 2; have r3 := hR.cell 3
        have f0 := hR.frozen 0; have f1 := hR.frozen 1; have f2 := hR.frozen 2; have f3 := hR.frozen 3
        simp only [List.getElem?_cons_zero, List.getElem?_cons_succ] at r0 r1 r2 r3
        clear hT hR g0 g1 g2 g3
        have he := HE.out
        by_cases hbad : ov = true ∨ T = 0
        · have HD2 := HD.out
          rw [if_pos hbad] at HD2
          have HD3 := Lib.hid HD2
          clear HD2 HD
          have hb8 := Lib.hid (Fin.out wc HRc.out)
          have HK8 : Hid (Keep w ((((wc.setCell ⟨w.heap.size, 0, none⟩ (.int .u64 0)).setCell ⟨w.heap.size, 1, none⟩ (.int .u64 0)).setCell ⟨w.heap.size, 2, none⟩ (.int .u64 0)).setCell ⟨w.heap.size, 3, none⟩ (.int .u64 0))) := by
            refine Lib.hid ?_
            iterate 4 (refine Below.setCell ?_ (by simp) _)
            exact HKc.out
          cases ov with
          | true =>
            clear hbad he HE
            go_wp2
            rw [HD3.out, uV_zero]
            exact bodyPost_ret (v := .tuple #[u0, .int .i64 7]) (results_cell_tmp_row Tryd.results19 _ _ w.heap.size _ _ _ _ rfl hb8.out Tryd.underlying49 rfl (by kernel_rfl)) rfl ⟨rfl, HK8.out⟩
          | false =>
            have h0 : decide (T = 0) = true := decide_eq_true (hbad.resolve_left (by simp))
            rw [h0] at he
            clear hbad HE h0
            go_wp2
            rw [HD3.out, uV_zero]
            exact bodyPost_ret (v := .tuple #[u0, .int .i64 7]) (results_cell_tmp_row Tryd.results19 _ _ w.heap.size _ _ _ _ rfl hb8.out Tryd.underlying49 rfl (by kernel_rfl)) rfl ⟨rfl, HK8.out⟩
        · have HD2 := HD.out
          rw [if_neg hbad] at HD2
          have HD3 := Lib.hid HD2
          have hov : ov = false := by cases ov; rfl; exact absurd (Or.inl rfl) hbad
          have h0 : decide (T = 0) = false := decide_eq_false (fun e => hbad (Or.inr e))
          subst hov
          rw [h0] at he
          clear HD2 HD hbad HE h0
          have hb8 := Lib.hid ((((HRc.out.set_ 0 (n64 (limb T 0))).set_ 1 (n64 (limb T 1))).set_ 2 (n64 (limb T 2))).set_ 3 (n64 (limb T 3)))
          have HK8 : Hid (Keep w ((((wc.setCell ⟨w.heap.size, 0, none⟩ (n64 (limb T 0))).setCell ⟨w.heap.size, 1, none⟩ (n64 (limb T 1))).setCell ⟨w.heap.size, 2, none⟩ (n64 (limb T 2))).setCell ⟨w.heap.size, 3, none⟩ (n64 (limb T 3)))) := by
            refine Lib.hid ?_
            iterate 4 (refine Below.setCell ?_ (by simp) _)
            exact HKc.out
          go_wp2
          rw [HD3.out]
          exact bodyPost_ret (v := .tuple #[uV T, .int .i64 0]) (results_cell_tmp_row Tryd.results19 _ _ w.heap.size _ _ _ _ rfl hb8.out Tryd.underlying49 rfl (by kernel_rfl)) rfl ⟨rfl, HK8.out⟩
end Go.Proofs.YteoilddiilegmaaDoor
