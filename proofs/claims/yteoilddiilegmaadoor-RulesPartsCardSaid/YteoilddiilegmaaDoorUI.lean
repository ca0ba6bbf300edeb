/- target.share: how often a number is in a product. -/
import Derived.Test.YteoilddiilegmaaDoorDv
import Derived.Test.YteoilddiilegmaaDoorUS
set_option linter.unusedSimpArgs false
set_option linter.unusedVariables false
namespace Go.Proofs.YteoilddiilegmaaDoor
open Go.RowKit
attribute [local go_sem ↓] Go.wp_at_zero Go.wp_at_succ

/-- Five words. -/
def qL (S : Nat) : List Value := [n64 (limb S 0), n64 (limb S 1), n64 (limb S 2), n64 (limb S 3), n64 (limb S 4)]
theorem qL_get (S k : Nat) (h : k < 5) : (qL S)[k]? = some (n64 (limb S k)) := by
  rcases (show k = 0 ∨ k = 1 ∨ k = 2 ∨ k = 3 ∨ k = 4 by omega) with rfl | rfl | rfl | rfl | rfl <;> rfl
theorem qL_zero : qL 0 = [.int .u64 0, .int .u64 0, .int .u64 0, .int .u64 0, .int .u64 0] := by simp [qL, n64, limb0]
/-- The words from k on. -/
def hiL (S k : Nat) : List Value := [n64 (if k ≤ 0 then limb S 0 else 0), n64 (if k ≤ 1 then limb S 1 else 0), n64 (if k ≤ 2 then limb S 2 else 0), n64 (if k ≤ 3 then limb S 3 else 0)]
theorem hiL_zero (S : Nat) : hiL S 0 = uL S := rfl
theorem hiL_four (S : Nat) : hiL S 4 = [.int .u64 0, .int .u64 0, .int .u64 0, .int .u64 0] := rfl
theorem hiL_set (S k : Nat) (hk : k < 4) : (hiL S (k + 1)).set k (n64 (limb S k)) = hiL S k := by
  rcases (show k = 0 ∨ k = 1 ∨ k = 2 ∨ k = 3 by omega) with rfl | rfl | rfl | rfl <;> rfl
theorem hiL_len (S k : Nat) : (hiL S k).length = 4 := rfl
theorem limb_top {S i j : Nat} (h : S < 2 ^ (64 * i)) (hj : i ≤ j) : limb S j = 0 := by
  unfold limb
  rw [Nat.div_eq_of_lt (Nat.lt_of_lt_of_le h (Nat.pow_le_pow_right (by decide) (by omega))), Nat.zero_mod]
/-- One more digit. -/
theorem qL_step {S X i : Nat} (hi : i < 4) (hS : S < 2 ^ (64 * (i + 1))) (hX : limb S i + X < 2 ^ 128) :
    ((qL S).set i (n64 ((limb S i + X) % 2 ^ 64))).set (i + 1) (n64 ((limb S i + X) / 2 ^ 64)) = qL (S + 2 ^ (64 * i) * X) := by
  obtain ⟨a1, a2, a3, a4⟩ := prod_step hS hX
  have a5 : ∀ j, i + 1 < j → limb (S + 2 ^ (64 * i) * X) j = limb S j := fun j hj => by rw [limb_top a4 (by omega), limb_top hS (by omega)]
  generalize S + 2 ^ (64 * i) * X = Z at *
  rw [← a2, ← a3]
  unfold qL
  rcases (show i = 0 ∨ i = 1 ∨ i = 2 ∨ i = 3 by omega) with rfl | rfl | rfl | rfl
  · rw [a5 2 (by omega), a5 3 (by omega), a5 4 (by omega)]; rfl
  · rw [a1 0 (by omega), a5 3 (by omega), a5 4 (by omega)]; rfl
  · rw [a1 0 (by omega), a1 1 (by omega), a5 4 (by omega)]; rfl
  · rw [a1 0 (by omega), a1 1 (by omega), a1 2 (by omega)]; rfl

set_option maxRecDepth 100000 in
set_option maxHeartbeats 4000000 in
theorem share_any (T num den : Nat) (w : World) (hT : T < 2 ^ 256) (hn : num < 18446744073709551616) (hd : 0 < den) (hd2 : den < 18446744073709551616) :
    Calls Tryd.prog 53 #[uV T, n64 num, n64 den] w fun e w' => e = .returned (.tuple #[uV (T * num / den % 2 ^ 256), .bool (decide (T * num / den < 2 ^ 256))]) ∧ Keep w w' := by
  have hP : T * num < 2 ^ 64 * 2 ^ 256 := by
    rw [Nat.mul_comm (2 ^ 64)]; exact Nat.mul_lt_mul_of_lt_of_lt hT hn
  obtain ⟨P, hPe⟩ : ∃ P, T * num = P := ⟨_, rfl⟩
  have HS : Hid (∀ i, i < 4 → ∀ S, S = T % 2 ^ (64 * i) * num → S < 2 ^ (64 * (i + 1)) ∧ S + 2 ^ (64 * i) * (limb T i * num) = T % 2 ^ (64 * (i + 1)) * num) := Lib.hid fun i hi S hS => by
    constructor
    · rw [hS, Nat.mul_add, Nat.pow_add]; exact Nat.mul_lt_mul_of_lt_of_lt (Nat.mod_lt _ (Nat.two_pow_pos _)) hn
    · rw [hS, mod_step, Nat.add_mul, Nat.mul_assoc]
  have HF : Hid (T % 2 ^ (64 * 4) * num = P) := Lib.hid (by rw [Nat.mod_eq_of_lt hT]; exact hPe)
  rw [hPe]
  have HQ : Hid (∀ i, limb (P / den) i = (P / 2 ^ (64 * (i + 1)) % den * 18446744073709551616 + limb P i) / den ∧ P / 2 ^ (64 * i) % den = (P / 2 ^ (64 * (i + 1)) % den * 18446744073709551616 + limb P i) % den) := Lib.hid fun i => ⟨quo_limb hd, (div_step hd).2.1⟩
  have HT4 : Hid (P / 2 ^ (64 * 4) = limb P 4) := Lib.hid (top_word (by rw [← hPe]; exact hP))
  have HFit : Hid (decide (P / den < 2 ^ 256) = decide (limb P 4 / den = 0)) := Lib.hid (decide_eq_decide.2 (fits_iff (by rw [← hPe]; exact hP) hd).symm)
  have HM : Hid (∀ i, i < 4 → limb (P / den % 2 ^ 256) i = limb (P / den) i) := Lib.hid fun i hi => by
    apply Nat.eq_of_testBit_eq
    intro j
    rw [limb_bit, limb_bit, Nat.testBit_mod_two_pow]
    by_cases hj : j < 64
    · have : decide (64 * i + j < 256) = true := decide_eq_true (by omega)
      rw [this, Bool.true_and]
    · rw [decide_eq_false hj, Bool.false_and, Bool.false_and]
  rw [HFit.out]
  obtain ⟨R, hR⟩ : ∃ R, P / den % 2 ^ 256 = R := ⟨_, rfl⟩
  rw [hR] at HM ⊢
  obtain ⟨tp, htp⟩ : ∃ x, limb P 4 / den = x := ⟨_, rfl⟩
  rw [htp]
  have Htp := Lib.hid htp
  clear hP hPe hR HFit hT htp
  go_enter Tryd.func53, Tryd.ntmps53
  go_upto_region 2 with fail
  obtain ⟨w1, hw1⟩ : ∃ w1, w1 = (((w.alloc (.cells #[n64 (limb T 0), n64 (limb T 1), n64 (limb T 2), n64 (limb T 3)] 49)).alloc (.cells #[.int .u64 0, .int .u64 0, .int .u64 0, .int .u64 0] 49)).alloc (.cells #[.int .u64 0, .int .u64 0, .int .u64 0, .int .u64 0, .int .u64 0] 124)) := ⟨_, rfl⟩
  have HA1 : Hid (Blk w1 w.heap.size 49 (uL T)) := by rw [hw1]; exact ((Blk.new w 49 (uL T)).alloc _).alloc _
  have HR1 : Hid (Blk w1 (w.heap.size + 1) 49 [.int .u64 0, .int .u64 0, .int .u64 0, .int .u64 0]) := by
    rw [hw1]
    have h2 := Blk.new (w.alloc (.cells #[n64 (limb T 0), n64 (limb T 1), n64 (limb T 2), n64 (limb T 3)] 49)) 49 [.int .u64 0, .int .u64 0, .int .u64 0, .int .u64 0]
    rw [World.size_alloc] at h2
    exact h2.alloc _
  have HP1 : Hid (Blk w1 (w.heap.size + 1 + 1) 124 (qL (T % 2 ^ (64 * 0) * num))) := by
    rw [hw1, show T % 2 ^ (64 * 0) * num = 0 by rw [Nat.mul_zero, Nat.pow_zero, Nat.mod_one, Nat.zero_mul], qL_zero]
    have h2 := Blk.new ((w.alloc (.cells #[n64 (limb T 0), n64 (limb T 1), n64 (limb T 2), n64 (limb T 3)] 49)).alloc (.cells #[.int .u64 0, .int .u64 0, .int .u64 0, .int .u64 0] 49)) 124 [.int .u64 0, .int .u64 0, .int .u64 0, .int .u64 0, .int .u64 0]
    rw [World.size_alloc, World.size_alloc] at h2
    exact h2
  have HK1 : Hid (Keep w w1) := by rw [hw1]; exact keep_trans (keep_trans (keep_new _ _) (keep_new _ _)) (keep_new _ _)
  rw [← hw1]
  clear hw1
  go_wp2_with fail
  go_loopw [9, 10, 11, 12, 17] (fun _ _ _ _ i wr => ∃ k : Nat, k ≤ 4 ∧ i = .int .i64 (k : Int) ∧ Hid (Blk wr (w.heap.size + 1 + 1) 124 (qL (T % 2 ^ (64 * k) * num))) ∧ Hid (Blk wr w.heap.size 49 (uL T)) ∧ Hid (Blk wr (w.heap.size + 1) 49 [.int .u64 0, .int .u64 0, .int .u64 0, .int .u64 0]) ∧ Hid (Keep w wr)) (fun _ _ _ _ i _ => (4 - intOf i).toNat)
  case atStart => exact ⟨0, by omega, rfl, HP1, HA1, HR1, HK1⟩
  case round =>
    obtain ⟨k, hk, rfl, HPk, HA, HR, HK⟩ := hrel
    by_cases hlt : k < 4
    · have i1 : (k : Int) < 4 := by omega
      obtain ⟨S, hSe⟩ : ∃ S, S = T % 2 ^ (64 * k) * num := ⟨_, rfl⟩
      obtain ⟨hS, hS2⟩ := HS.out k hlt S hSe
      rw [← hSe] at HPk
      have ht := limb_lt T k
      have hp := limb_lt S k
      obtain ⟨x1, x2, x3, x4⟩ := low_high hp ht hn
      have hst := qL_step hlt hS x1
      rw [hS2, x2, x3] at hst
      have Hst := Lib.hid hst
      have M1 := bits_Mul64 (limb T k) num ht hn
      have a0 : wr.cell? ⟨w.heap.size, k, none⟩ = some (n64 (limb T k)) := by rw [HA.out.cell, uL_get T k hlt]
      have p0 : wr.cell? ⟨w.heap.size + 1 + 1, k, none⟩ = some (n64 (limb S k)) := by rw [HPk.out.cell, qL_get S k (by omega)]
      have pf0 : wr.frozen? ⟨w.heap.size + 1 + 1, k, none⟩ = false := HPk.out.frozen _
      have HM1 := Lib.hid M1
      clear M1 hst x1 x2 x3 hS hS2 hSe
      generalize limb T k = t at *
      have hlow : t * num % 18446744073709551616 < 18446744073709551616 := Nat.mod_lt _ (by decide)
      have hhigh : t * num / 18446744073709551616 < 18446744073709551616 := by rw [Nat.div_lt_iff_lt_mul (by decide)]; exact Nat.mul_lt_mul_of_lt_of_lt ht hn
      have A1 := bits_Add64_0 (limb S k) (t * num % 18446744073709551616) hp hlow
      generalize limb S k = p at *
      generalize t * num % 18446744073709551616 = low at *
      generalize t * num / 18446744073709551616 = high at *
      obtain ⟨cc, hcc⟩ : ∃ cc, (p + low) / 18446744073709551616 = cc := ⟨_, rfl⟩
      obtain ⟨ll, hll⟩ : ∃ ll, (p + low) % 18446744073709551616 = ll := ⟨_, rfl⟩
      rw [hcc, hll] at A1
      have x4' : high + cc < 18446744073709551616 := by rw [← hcc]; exact x4
      have Hst2 : Hid (((qL S).set k (n64 ll)).set (k + 1) (n64 (high + cc)) = qL (T % 2 ^ (64 * (k + 1)) * num)) := by rw [← hcc, ← hll]; exact Hst
      have w1' : IntKind.u64.wrap ((high : Int) + (cc : Int)) = (high : Int) + (cc : Int) := by rw [IntKind.wrap_u64]; omega
      clear hcc hll x4 Hst
      go_upto_region 7 with (go_at_call 64; refine (HM1.out _).mono ?_; rintro e w' ⟨rfl, hw⟩; rw [hw])
      go_upto_region 8 with (simp only [A1])
      obtain ⟨w2, hw2⟩ : ∃ w2, w2 = wr.setCell ⟨w.heap.size + 1 + 1, k, none⟩ (.int .u64 (ll : Int)) := ⟨_, rfl⟩
      have HP2 : Hid (Blk w2 (w.heap.size + 1 + 1) 124 ((qL S).set k (n64 ll))) := by rw [hw2]; exact HPk.out.set_ _ _
      have HA2 : Hid (Blk w2 w.heap.size 49 (uL T)) := by rw [hw2]; exact HA.out.far (by simp; omega) _
      have HR2 : Hid (Blk w2 (w.heap.size + 1) 49 [.int .u64 0, .int .u64 0, .int .u64 0, .int .u64 0]) := by rw [hw2]; exact HR.out.far (by simp) _
      have HK2 : Hid (Keep w w2) := by rw [hw2]; exact Below.setCell HK.out (by simp; omega) _
      rw [← hw2]
      clear hw2 a0 p0 pf0 HPk HA HR HK
      have p1 : w2.cell? ⟨w.heap.size + 1 + 1, k + 1, none⟩ = some (n64 (limb S (k + 1))) := by rw [HP2.out.cell, List.getElem?_set_ne (by omega), qL_get S (k + 1) (by omega)]
      have pf1 : w2.frozen? ⟨w.heap.size + 1 + 1, k + 1, none⟩ = false := HP2.out.frozen _
      clear A1
      go_wp2
      go_roundw
      case rel =>
        refine ⟨k + 1, by omega, by go_num, Lib.hid ?_, Lib.hid (HA2.out.far (by simp; omega) _), Lib.hid (HR2.out.far (by simp) _), Lib.hid (Below.setCell HK2.out (by simp; omega) _)⟩
        have h1 := HP2.out.set_ (k + 1) (n64 (high + cc))
        rw [Hst2.out] at h1
        exact h1
      case measure => simp [intOf]; omega
    · obtain rfl : k = 4 := by omega
      have hPk := HPk.out
      rw [HF.out] at hPk
      obtain ⟨w3, hw3⟩ : ∃ w3, w3 = wr.alloc (.cells #[.int .u64 0, .int .u64 0, .int .u64 0, .int .u64 0] 49) := ⟨_, rfl⟩
      have HO3 : Hid (Blk w3 wr.heap.size 49 (hiL (P / den) 4)) := by rw [hw3]; exact Blk.new wr 49 [.int .u64 0, .int .u64 0, .int .u64 0, .int .u64 0]
      have HP3 : Hid (Blk w3 (w.heap.size + 1 + 1) 124 (qL P)) := by rw [hw3]; exact hPk.alloc _
      have HR3 : Hid (Blk w3 (w.heap.size + 1) 49 [.int .u64 0, .int .u64 0, .int .u64 0, .int .u64 0]) := by rw [hw3]; exact HR.out.alloc _
      have HK3 : Hid (Keep w w3) := by rw [hw3]; exact keep_trans HK.out (keep_new _ _)
      have hzr : w.heap.size + 1 + 1 < wr.heap.size := HPk.out.lt
      have hp4 := limb_lt P 4
      have l4 := HQ.out 4
      have hL4 : Hid (limb P 4 % den = P / 2 ^ (64 * 4) % den) := Lib.hid (by rw [HT4.out])
      have htp := Htp.out
      obtain ⟨lf, hlf⟩ : ∃ x, limb P 4 % den = x := ⟨_, rfl⟩
      rw [hlf] at hL4
      have q1 : Int.tdiv (limb P 4 : Int) (den : Int) = (tp : Int) := by rw [← htp]; rfl
      have q1' : (limb P 4 : Int) / (den : Int) = (tp : Int) := by rw [← htp]; rfl
      have q2 : Int.tmod (limb P 4 : Int) (den : Int) = (lf : Int) := by rw [← hlf]; rfl
      have q2' : (limb P 4 : Int) % (den : Int) = (lf : Int) := by rw [← hlf]; rfl
      have q3 : IntKind.u64.wrap (tp : Int) = (tp : Int) := Mul64.wrapN _ (by rw [← htp]; exact Nat.lt_of_le_of_lt (Nat.div_le_self _ _) hp4)
      have d0 : (den : Int) ≠ 0 := by omega
      have d0' : ((den : Int) == 0) = false := by rw [beq_eq_false_iff_ne]; exact d0
      have d0'' : (den == 0) = false := by rw [beq_eq_false_iff_ne]; omega
      clear htp hlf l4 hp4 hPk HP1 HA1 HR1 HK1 HS HF HT4
      go_upto_region 11 with fail
      rw [← hw3]
      clear hw3 HPk HA HR HK
      generalize wr.heap.size = O at *
      refine wp_region_aft (by kernel_rfl) (by kernel_rfl) w3 (Below.refl _ _) ?_
      have p4 := aft_cell (show w3.cell? ⟨w.heap.size + 1 + 1, 4, none⟩ = some (n64 (limb P 4)) by rw [HP3.out.cell, qL_get P 4 (by omega)])
      repeat (go_big_quiet_step (fail))
      refine wpQuiet_nil ?_
      rintro _ ⟨y', rfl⟩
      have j := aft_keep w3 y'
      generalize aft w3 y' = w4 at j ⊢
      have HO4 := Lib.hid (HO3.out.keep j); have HP4 := Lib.hid (HP3.out.keep j); have HR4 := Lib.hid (HR3.out.keep j); have HK4 := Lib.hid (keep_trans HK3.out j)
      clear p4 q1 q1' q2 q2' q3 j HO3 HP3 HR3 HK3
      go_wp2_with fail
      go_loopw [15, 16] (fun l i wr => ∃ k lf : Nat, k ≤ 4 ∧ i = .int .i64 ((k : Int) - 1) ∧ l = .int .u64 (lf : Int) ∧ Hid (lf = P / 2 ^ (64 * k) % den) ∧ Hid (Blk wr O 49 (hiL (P / den) k)) ∧ Hid (Blk wr (w.heap.size + 1 + 1) 124 (qL P)) ∧ Hid (Blk wr (w.heap.size + 1) 49 [.int .u64 0, .int .u64 0, .int .u64 0, .int .u64 0]) ∧ Hid (Keep w wr)) (fun _ i _ => (intOf i + 1).toNat)
      case atStart => exact ⟨4, lf, by omega, rfl, rfl, hL4, HO4, HP4, HR4, HK4⟩
      case round =>
        obtain ⟨k, lk, hk, rfl, rfl, HLk, HO, HP, HR, HK⟩ := hrel
        cases k with
        | zero =>
          have hO := HO.out
          rw [hiL_zero, show uL (P / den) = uL R by unfold uL; rw [HM.out 0 (by omega), HM.out 1 (by omega), HM.out 2 (by omega), HM.out 3 (by omega)]] at hO
          have o0 := hO.cell 0; have o1 := hO.cell 1; have o2 := hO.cell 2; have o3 := hO.cell 3
          have hR := HR.out
          have r0 := hR.cell 0; have r1 := hR.cell 1; have r2 := hR.cell 2; have r3 := hR.cell 3
          have f0 := hR.frozen 0; have f1 := hR.frozen 1; have f2 := hR.frozen 2; have f3 := hR.frozen 3
          simp only [uL, List.getElem?_cons_zero, List.getElem?_cons_succ] at o0 o1 o2 o3 r0 r1 r2 r3
          have hb8 := (((HR.out.set_ 0 (n64 (limb R 0))).set_ 1 (n64 (limb R 1))).set_ 2 (n64 (limb R 2))).set_ 3 (n64 (limb R 3))
          have HK8 : Hid (Keep w ((((wr.setCell ⟨w.heap.size + 1, 0, none⟩ (n64 (limb R 0))).setCell ⟨w.heap.size + 1, 1, none⟩ (n64 (limb R 1))).setCell ⟨w.heap.size + 1, 2, none⟩ (n64 (limb R 2))).setCell ⟨w.heap.size + 1, 3, none⟩ (n64 (limb R 3)))) := by
            refine Lib.hid ?_
            iterate 4 (refine Below.setCell ?_ (by simp) _)
            exact HK.out
          have Hb8 := Lib.hid hb8
          clear hb8 hO hR HO HR HLk
          go_wp2
          exact bodyPost_ret (v := .tuple #[uV R, .bool ((tp : Int) == 0)]) (results_cell_tmp_row Tryd.results53 _ _ (w.heap.size + 1) _ _ _ _ rfl Hb8.out Tryd.underlying49 rfl (by kernel_rfl)) rfl ⟨by rw [show ((tp : Int) == 0) = decide (tp = 0) by rw [Bool.eq_iff_iff]; simp], HK8.out⟩
        | succ k =>
          have hi : ((k + 1 : Nat) : Int) - 1 = (k : Int) := by omega
          rw [hi]
          have hlk : lk < den := by rw [HLk.out]; exact Nat.mod_lt _ hd
          obtain ⟨e1, e2⟩ := HQ.out k
          rw [← HLk.out] at e1 e2
          have D1 := bits_Div64 lk (limb P k) den hlk (limb_lt P k) hd2 wr
          rw [← e1, ← e2] at D1
          have HD := Lib.hid D1
          have hk4 : k < 4 := by omega
          have hset := hiL_set (P / den) k hk4
          have Hset := Lib.hid hset
          have p0 : wr.cell? ⟨w.heap.size + 1 + 1, k, none⟩ = some (n64 (limb P k)) := by rw [HP.out.cell, qL_get P k (by omega)]
          clear hi D1 e1 e2 hset hlk HLk
          obtain ⟨nl, hnl⟩ : ∃ x, P / 2 ^ (64 * k) % den = x := ⟨_, rfl⟩
          rw [hnl] at HD
          have Hnl := Lib.hid hnl
          clear hnl
          generalize limb (P / den) k = qk at *
          go_wp2_with fail
          refine HD.out.mono ?_
          rintro e w5 ⟨rfl, k5⟩
          have HO5 := Lib.hid (HO.out.keep k5); have HP5 := Lib.hid (HP.out.keep k5); have HR5 := Lib.hid (HR.out.keep k5); have HK5 := Lib.hid (keep_trans HK.out k5)
          have p1 : ∃ v, w5.cell? ⟨O, k, none⟩ = some v := ⟨_, by rw [HO5.out.cell]; exact List.getElem?_eq_getElem (by rw [hiL_len]; omega)⟩
          obtain ⟨v1, p1⟩ := p1
          have pf1 : w5.frozen? ⟨O, k, none⟩ = false := HO5.out.frozen _
          clear p0 HO HP HR HK HD k5
          go_wp2
          go_roundw
          case rel =>
            have h1 := HO5.out.set_ k (n64 qk)
            rw [Hset.out] at h1
            (repeat apply Exists.intro)
            exact ⟨⟨k, nl, by omega, by go_num, rfl, Lib.hid Hnl.out.symm, Lib.hid h1, Lib.hid (HP5.out.far (by simp; omega) _), Lib.hid (HR5.out.far (by simp; omega) _), Lib.hid (Below.setCell HK5.out (by simp; omega) _)⟩, rfl⟩
          case measure => simp [intOf]
end Go.Proofs.YteoilddiilegmaaDoor
