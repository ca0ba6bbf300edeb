/- target.Scale. -/
import Derived.Test.YteoilddiilegmaaDoorUJ
set_option linter.unusedSimpArgs false
set_option linter.unusedVariables false
namespace Go.Proofs.YteoilddiilegmaaDoor
open Go.RowKit
attribute [local go_sem ↓] Go.wp_at_zero Go.wp_at_succ

set_option maxRecDepth 100000 in
set_option maxHeartbeats 4000000 in
theorem scale_any (bits limit : UInt32) (num den : Nat) (w : World) (hn : num < 18446744073709551616) (hd2 : den < 18446744073709551616) :
    Calls Tryd.prog 43 #[u32v bits, n64 num, n64 den, u32v limit] w fun e w' => e = .returned (u32v (scaN bits num den limit)) ∧ Keep w w' := by
  have E1 : Hid (∀ y, Calls Tryd.prog 19 #[u32v bits] y fun e w' => e = .returned (.tuple #[uV (expN bits).1, .int .i64 (expN bits).2]) ∧ Keep y w') := Lib.hid fun y => expand_any bits y
  have E2 : Hid (∀ y, Calls Tryd.prog 19 #[u32v limit] y fun e w' => e = .returned (.tuple #[uV (expN limit).1, .int .i64 (expN limit).2]) ∧ Keep y w') := Lib.hid fun y => expand_any limit y
  have b1 := expN_lt bits; have b2 := expN_lt limit
  have HM : Hid (∀ R, scaN bits num den limit = R → R = if (expN bits).2 ≠ 0 ∨ num = 0 ∨ den = 0 then limit else if (expN limit).2 ≠ 0 then limit else shrN (if 2 ^ 256 ≤ (expN bits).1 * num / den ∨ (expN bits).1 * num / den = 0 ∨ (expN limit).1 < (expN bits).1 * num / den then (expN limit).1 else (expN bits).1 * num / den)) := Lib.hid fun R e => by subst e; rfl
  replace HM := Lib.hid (HM.out _ rfl)
  generalize scaN bits num den limit = R at *
  generalize expN bits = X at *
  generalize expN limit = Y at *
  obtain ⟨T, te⟩ := X
  obtain ⟨L, le⟩ := Y
  simp only at b1 b2
  have B1 := Lib.hid b1; have B2 := Lib.hid b2
  clear b1 b2
  go_enter Tryd.func43, Tryd.ntmps43
  go_wp2_with fail
  refine (E1.out _).mono ?_
  clear E1
  rintro e w2 ⟨rfl, k2⟩
  have HK2 := Lib.hid k2
  have hzw : w.heap.size ≤ w2.heap.size := k2.size
  clear k2
  go_upto_region 2 with fail
  obtain ⟨w3, hw3⟩ : ∃ w3, w3 = w2.alloc (.cells #[n64 (limb T 0), n64 (limb T 1), n64 (limb T 2), n64 (limb T 3)] 49) := ⟨_, rfl⟩
  have HT3 : Hid (Blk w3 w2.heap.size 49 (uL T)) := by rw [hw3]; exact Blk.new w2 49 (uL T)
  have HK3 : Hid (Keep w w3) := by rw [hw3]; exact keep_trans HK2.out (keep_new _ _)
  rw [← hw3]
  clear hw3 HK2
  generalize w2.heap.size = B at *
  by_cases hbad : te ≠ 0 ∨ num = 0 ∨ den = 0
  · have hM := HM.out
    rw [if_pos hbad] at hM
    subst hM
    clear HM
    by_cases h1 : te = 0
    · subst h1
      by_cases h2 : num = 0
      · subst h2
        clear hbad
        go_wp2
        exact bodyPost_ret (v := u32v R) (by simp [results, Tryd.results43]) rfl ⟨rfl, HK3.out⟩
      · have h3 : den = 0 := hbad.resolve_left (by simp) |>.resolve_left h2
        subst h3
        have d1 : (num == 0) = false := by simp [h2]
        have d2 : ((num : Int) == 0) = false := by rw [beq_eq_false_iff_ne]; omega
        clear hbad h2
        go_wp2
        exact bodyPost_ret (v := u32v R) (by simp [results, Tryd.results43]) rfl ⟨rfl, HK3.out⟩
    · have d1 : (te != 0) = true := by simp [h1]
      clear hbad h1
      go_wp2
      exact bodyPost_ret (v := u32v R) (by simp [results, Tryd.results43]) rfl ⟨rfl, HK3.out⟩
  · have hM := HM.out
    rw [if_neg hbad] at hM
    replace HM := Lib.hid hM
    have h1 : te = 0 := Classical.byContradiction fun e => hbad (Or.inl e)
    have h2 : num ≠ 0 := fun e => hbad (Or.inr (Or.inl e))
    have h3 : den ≠ 0 := fun e => hbad (Or.inr (Or.inr e))
    subst h1
    have d1 : (num == 0) = false := by simp [h2]
    have d2 : ((num : Int) == 0) = false := by rw [beq_eq_false_iff_ne]; omega
    have d3 : (den == 0) = false := by simp [h3]
    have d4 : ((den : Int) == 0) = false := by rw [beq_eq_false_iff_ne]; omega
    have S1 : Hid (∀ y, Calls Tryd.prog 53 #[uV T, n64 num, n64 den] y fun e w' => e = .returned (.tuple #[uV (T * num / den % 2 ^ 256), .bool (decide (T * num / den < 2 ^ 256))]) ∧ Keep y w') := Lib.hid fun y => share_any T num den y B1.out hn (Nat.pos_of_ne_zero h3) hd2
    clear hM hbad h2 h3
    go_wp2_with fail
    refine (E2.out _).mono ?_
    clear E2
    rintro e w4 ⟨rfl, k4⟩
    have HT4 := Lib.hid (HT3.out.keep k4); have HK4 := Lib.hid (keep_trans HK3.out k4)
    have hz4 : B < w4.heap.size := HT4.out.lt
    clear k4 HT3 HK3 d1 d2 d3 d4
    go_upto_region 5 with fail
    obtain ⟨w5, hw5⟩ : ∃ w5, w5 = w4.alloc (.cells #[n64 (limb L 0), n64 (limb L 1), n64 (limb L 2), n64 (limb L 3)] 49) := ⟨_, rfl⟩
    have HL5 : Hid (Blk w5 w4.heap.size 49 (uL L)) := by rw [hw5]; exact Blk.new w4 49 (uL L)
    have HT5 : Hid (Blk w5 B 49 (uL T)) := by rw [hw5]; exact HT4.out.alloc _
    have HK5 : Hid (Keep w w5) := by rw [hw5]; exact keep_trans HK4.out (keep_new _ _)
    rw [← hw5]
    clear hw5 HT4 HK4
    generalize w4.heap.size = D at *
    by_cases hle : le = 0
    · subst hle
      have hM := HM.out
      rw [if_neg (by simp)] at hM
      replace HM := Lib.hid hM
      clear hM
      have hT := HT5.out
      have t0 := hT.cell 0; have t1 := hT.cell 1; have t2 := hT.cell 2; have t3 := hT.cell 3
      simp only [uL, List.getElem?_cons_zero, List.getElem?_cons_succ] at t0 t1 t2 t3
      clear hT
      have hq0 : T * num / den % 2 ^ 256 < 2 ^ 256 := Nat.mod_lt _ (Nat.two_pow_pos _)
      have HQ : Hid (∀ q, T * num / den = q → (R = shrN (if 2 ^ 256 ≤ q ∨ q = 0 ∨ L < q then L else q))) := Lib.hid fun q e => by rw [← e]; exact HM.out
      obtain ⟨q, hq⟩ : ∃ q, T * num / den = q := ⟨_, rfl⟩
      have HQ2 := Lib.hid (HQ.out q hq)
      rw [hq] at S1 hq0
      clear hq HQ HM
      obtain ⟨o, ho⟩ : ∃ o, q % 2 ^ 256 = o := ⟨_, rfl⟩
      obtain ⟨ft, hft⟩ : ∃ b, decide (q < 2 ^ 256) = b := ⟨_, rfl⟩
      rw [ho, hft] at S1
      rw [ho] at hq0
      have HO := Lib.hid ho; have HF := Lib.hid hft
      have HE : Hid (∀ W, (Go.binOp .eql 49 (uV o) u0).run Tryd.prog W = .ok (.bool (decide (o = 0))) W) := Lib.hid fun W => by
        have := u_eql hq0 (Nat.two_pow_pos 256) W
        rw [uV_zero] at this; exact this
      have C1 : Hid (∀ y, Calls Tryd.prog 20 #[uV o, uV L] y fun e w' => e = .returned (.int .i64 (cmpN o L)) ∧ Keep y w') := Lib.hid fun y => cmp_any o L y hq0 B2.out
      have g1 := cmpN_gt o L
      generalize cmpN o L = c1 at *
      have HO256 := Lib.hid hq0
      have hgd := u256_guard
      clear ho hft hq0
      go_wp2_with fail
      refine (S1.out _).mono ?_
      clear S1
      rintro e w6 ⟨rfl, k6⟩
      have HL6 := Lib.hid (HL5.out.keep k6); have HK6 := Lib.hid (keep_trans HK5.out k6)
      have hz6 : D < w6.heap.size := HL6.out.lt
      clear k6 HL5 HT5 HK5 t0 t1 t2 t3
      go_upto_region 8 with fail
      obtain ⟨w7, hw7⟩ : ∃ w7, w7 = w6.alloc (.cells #[n64 (limb o 0), n64 (limb o 1), n64 (limb o 2), n64 (limb o 3)] 49) := ⟨_, rfl⟩
      have HO7 : Hid (Blk w7 w6.heap.size 49 (uL o)) := by rw [hw7]; exact Blk.new w6 49 (uL o)
      have HL7 : Hid (Blk w7 D 49 (uL L)) := by rw [hw7]; exact HL6.out.alloc _
      have HK7 : Hid (Keep w w7) := by rw [hw7]; exact keep_trans HK6.out (keep_new _ _)
      rw [← hw7]
      clear hw7 HL6 HK6
      generalize w6.heap.size = E at *
      obtain ⟨V, hV⟩ : ∃ V, decide (ft = false ∨ o = 0 ∨ L < o) = V := ⟨_, rfl⟩
      have HV := Lib.hid hV
      clear hV
      go_cut [57] (fun v wx => v = .bool V ∧ Hid (Keep w7 wx))
      case first =>
        have he := HE.out
        have hO := HO7.out
        have o0 := hO.cell 0; have o1 := hO.cell 1; have o2 := hO.cell 2; have o3 := hO.cell 3
        have hL := HL7.out
        have l0 := hL.cell 0; have l1 := hL.cell 1; have l2 := hL.cell 2; have l3 := hL.cell 3
        simp only [uL, List.getElem?_cons_zero, List.getElem?_cons_succ] at o0 o1 o2 o3 l0 l1 l2 l3
        clear hO hL
        cases ft with
        | false =>
          obtain rfl : V = true := by rw [← HV.out]; exact decide_eq_true (Or.inl rfl)
          clear he HF HV
          go_wp2_with fail
          go_meet
          exact ⟨rfl, Lib.hid (Below.refl _ _)⟩
        | true =>
          by_cases h0 : o = 0
          · obtain rfl : V = true := by rw [← HV.out]; exact decide_eq_true (Or.inr (Or.inl h0))
            rw [decide_eq_true h0] at he
            clear HF h0 HV
            go_wp2_with fail
            go_meet
            exact ⟨rfl, Lib.hid (Below.refl _ _)⟩
          · rw [decide_eq_false h0] at he
            have hdec : decide (true = false ∨ o = 0 ∨ L < o) = decide (L < o) := by
              apply decide_eq_decide.2
              constructor
              · intro h; rcases h with h | h | h
                · cases h
                · exact absurd h h0
                · exact h
              · intro h; exact Or.inr (Or.inr h)
            have hVe := HV.out
            rw [hdec] at hVe
            have HVe := Lib.hid hVe
            clear HF h0 hdec HV hVe
            go_wp2_with fail
            refine (C1.out _).mono ?_
            rintro e w8 ⟨rfl, k8⟩
            have K8 := Lib.hid k8
            clear he o0 o1 o2 o3 l0 l1 l2 l3 k8
            go_wp2
            go_meet
            exact ⟨by rw [← HVe.out], K8⟩
      case rest =>
        obtain ⟨rfl, HK8⟩ := hcut
        have HO8 := Lib.hid (HO7.out.keep HK8.out); have HL8 := Lib.hid (HL7.out.keep HK8.out); have HKc := Lib.hid (keep_trans HK7.out HK8.out)
        clear HO7 HL7 HK7 HK8 HE C1 g1
        have hO := HO8.out
        have o0 := hO.cell 0; have o1 := hO.cell 1; have o2 := hO.cell 2; have o3 := hO.cell 3
        have f0 := hO.frozen 0; have f1 := hO.frozen 1; have f2 := hO.frozen 2; have f3 := hO.frozen 3
        have hL := HL8.out
        have l0 := hL.cell 0; have l1 := hL.cell 1; have l2 := hL.cell 2; have l3 := hL.cell 3
        simp only [uL, List.getElem?_cons_zero, List.getElem?_cons_succ] at o0 o1 o2 o3 l0 l1 l2 l3
        clear hO hL
        by_cases hc : ft = false ∨ o = 0 ∨ L < o
        · have hR : R = shrN L := by
            rw [HQ2.out]
            by_cases hqq : q < 2 ^ 256
            · have e1 : o = q := by rw [← HO.out]; exact Nat.mod_eq_of_lt hqq
              have e2 : ft = true := by rw [← HF.out]; exact decide_eq_true hqq
              rw [e1, e2] at hc
              rw [if_pos (Or.inr (hc.resolve_left (by simp)))]
            · rw [if_pos (Or.inl (Nat.le_of_not_lt hqq))]
          have S2 : Hid (∀ y, Calls Tryd.prog 54 #[uV L] y fun e w' => e = .returned (u32v R) ∧ Keep y w') := Lib.hid fun y => by rw [hR]; exact shrink_any L y B2.out
          obtain rfl : V = true := by rw [← HV.out]; exact decide_eq_true hc
          clear hR HQ2 HO HF hc HV
          go_upto_region 10 with fail
          obtain ⟨w9, hw9⟩ : ∃ w9, w9 = ((((wc.setCell ⟨E, 0, none⟩ (n64 (limb L 0))).setCell ⟨E, 1, none⟩ (n64 (limb L 1))).setCell ⟨E, 2, none⟩ (n64 (limb L 2))).setCell ⟨E, 3, none⟩ (n64 (limb L 3))) := ⟨_, rfl⟩
          have HL9 : Hid (Blk w9 E 49 (uL L)) := by rw [hw9]; exact (((HO8.out.set_ 0 _).set_ 1 _).set_ 2 _).set_ 3 _
          have HK9 : Hid (Keep w w9) := by
            rw [hw9]; refine Lib.hid ?_
            iterate 4 (refine Below.setCell ?_ (by simp; omega) _)
            exact HKc.out
          rw [← hw9]
          clear hw9 o0 o1 o2 o3 f0 f1 f2 f3 l0 l1 l2 l3
          have hL := HL9.out
          have l0 := hL.cell 0; have l1 := hL.cell 1; have l2 := hL.cell 2; have l3 := hL.cell 3
          simp only [uL, List.getElem?_cons_zero, List.getElem?_cons_succ] at l0 l1 l2 l3
          clear hL
          go_wp2_with fail
          refine (S2.out _).mono ?_
          rintro e wa ⟨rfl, ka⟩
          have HKa := Lib.hid (keep_trans HK9.out ka)
          clear l0 l1 l2 l3 ka S2
          go_wp2
          exact bodyPost_ret (v := u32v R) (by simp [results, Tryd.results43]) rfl ⟨rfl, HKa.out⟩
        · have hR : R = shrN o := by
            have hf : ft = true := by cases ft; exact absurd (Or.inl rfl) hc; rfl
            have hqq : q < 2 ^ 256 := of_decide_eq_true (HF.out.trans hf)
            have e1 : o = q := by rw [← HO.out]; exact Nat.mod_eq_of_lt hqq
            rw [HQ2.out, if_neg, e1]
            rw [e1] at hc
            intro h
            rcases h with h | h
            · exact absurd hqq (Nat.not_lt_of_le h)
            · exact hc (Or.inr h)
          have S2 : Hid (∀ y, Calls Tryd.prog 54 #[uV o] y fun e w' => e = .returned (u32v R) ∧ Keep y w') := Lib.hid fun y => by rw [hR]; exact shrink_any o y HO256.out
          obtain rfl : V = false := by rw [← HV.out]; exact decide_eq_false hc
          clear hR HQ2 HO HF hc HV
          go_wp2_with fail
          refine (S2.out _).mono ?_
          rintro e wa ⟨rfl, ka⟩
          have HKa := Lib.hid (keep_trans HKc.out ka)
          clear l0 l1 l2 l3 ka S2
          go_wp2
          exact bodyPost_ret (v := u32v R) (by simp [results, Tryd.results43]) rfl ⟨rfl, HKa.out⟩
    · have hM := HM.out
      rw [if_pos hle] at hM
      subst hM
      have d1 : (le != 0) = true := by simp [hle]
      clear hle HM
      go_wp2
      exact bodyPost_ret (v := u32v R) (by simp [results, Tryd.results43]) rfl ⟨rfl, HK5.out⟩
end Go.Proofs.YteoilddiilegmaaDoor
