/- u256: Shl. -/
import Derived.Test.YteoilddiilegmaaDoorUC
import Derived.Test.YteoilddiilegmaaDoorMoG
import Derived.Laws.Bits64b
set_option linter.unusedSimpArgs false
set_option linter.unusedVariables false
namespace Go.Proofs.YteoilddiilegmaaDoor
open Go.RowKit
attribute [local go_sem ↓] Go.wp_at_zero Go.wp_at_succ

/-- The words below k. -/
def lowL (S k : Nat) : List Value := [n64 (if 0 < k then limb S 0 else 0), n64 (if 1 < k then limb S 1 else 0), n64 (if 2 < k then limb S 2 else 0), n64 (if 3 < k then limb S 3 else 0)]
theorem lowL_four (S : Nat) : lowL S 4 = uL S := rfl
theorem lowL_get (S k : Nat) (hk : k < 4) : (lowL S k)[k]? = some (n64 0) := by
  rcases (show k = 0 ∨ k = 1 ∨ k = 2 ∨ k = 3 by omega) with rfl | rfl | rfl | rfl <;> rfl
theorem lowL_set (S k : Nat) (hk : k < 4) : (lowL S k).set k (n64 (limb S k)) = lowL S (k + 1) := by
  rcases (show k = 0 ∨ k = 1 ∨ k = 2 ∨ k = 3 by omega) with rfl | rfl | rfl | rfl <;> rfl
theorem lowL_zero (S k : Nat) (h : ∀ j, j < k → limb S j = 0) : lowL S k = [n64 0, n64 0, n64 0, n64 0] := by
  have e : ∀ j, (if j < k then limb S j else 0) = 0 := fun j => by split; exact h j ‹_›; rfl
  unfold lowL
  rw [e, e, e, e]

theorem or_words (x y d e : Nat) (hy : y < 2 ^ 64) : bits .or .u64 ((x : Int) * 2 ^ d % 18446744073709551616) ((y : Int) / 2 ^ e) = ((x * 2 ^ d % 2 ^ 64 ||| y / 2 ^ e : Nat) : Int) := by
  have h1 : (x : Int) * 2 ^ d % 18446744073709551616 = ((x * 2 ^ d % 2 ^ 64 : Nat) : Int) := by rw [Int.natCast_emod, Int.natCast_mul]; rfl
  have h2 : (y : Int) / 2 ^ e = ((y / 2 ^ e : Nat) : Int) := by rw [Int.natCast_ediv]; rfl
  rw [h1, h2]
  exact bits_or_u64_nat _ _ (Nat.mod_lt _ (by decide)) (Nat.lt_of_le_of_lt (Nat.div_le_self _ _) hy)

set_option maxRecDepth 100000 in
set_option maxHeartbeats 2000000 in
theorem shl_any (N n : Nat) (w : World) (hN : N < 2 ^ 256) (hn : n ≤ 100000) :
    Calls Tryd.prog 37 #[uV N, .int .i64 n] w fun e w' => e = .returned (.tuple #[uV (N * 2 ^ n % 2 ^ 256), .bool (decide (2 ^ 256 ≤ N * 2 ^ n))]) ∧ Keep w w' := by
  by_cases h0 : n = 0
  · subst h0
    have e1 : N * 2 ^ 0 % 2 ^ 256 = N := by rw [Nat.pow_zero, Nat.mul_one]; exact Nat.mod_eq_of_lt hN
    have e2 : decide (2 ^ 256 ≤ N * 2 ^ 0) = false := decide_eq_false (by rw [Nat.pow_zero, Nat.mul_one]; omega)
    rw [e1, e2]
    clear e1 e2 hN hn
    go_enter Tryd.func37, Tryd.ntmps37
    go_wp2
    have hb : Blk ((w.alloc (.cells #[n64 (limb N 0), n64 (limb N 1), n64 (limb N 2), n64 (limb N 3)] 49)).alloc (.cells #[n64 (limb N 0), n64 (limb N 1), n64 (limb N 2), n64 (limb N 3)] 49)) (w.heap.size + 1) 49 (uL N) := by
      have h2 := Blk.new (w.alloc (.cells #[n64 (limb N 0), n64 (limb N 1), n64 (limb N 2), n64 (limb N 3)] 49)) 49 (uL N)
      rw [World.size_alloc] at h2
      exact h2
    exact bodyPost_ret (v := .tuple #[uV N, .bool false]) (results_cell_tmp_row Tryd.results37 _ _ (w.heap.size + 1) _ _ _ _ rfl hb Tryd.underlying49 rfl (by kernel_rfl)) rfl ⟨rfl, keep_trans (keep_new _ _) (keep_new _ _)⟩
  · by_cases h1 : 256 ≤ n
    · have e1 : N * 2 ^ n % 2 ^ 256 = 0 := by
        have : 2 ^ n = 2 ^ 256 * 2 ^ (n - 256) := by rw [← Nat.pow_add]; congr 1; omega
        rw [this, Nat.mul_left_comm]; exact Nat.mul_mod_right _ _
      have e2 : decide (2 ^ 256 ≤ N * 2 ^ n) = !decide (N = 0) := by
        by_cases hz : N = 0
        · subst hz; rw [Nat.zero_mul]; rfl
        · have h3 : 2 ^ 256 ≤ 2 ^ n := Nat.pow_le_pow_right (by decide) h1
          have h4 : 2 ^ n ≤ N * 2 ^ n := Nat.le_mul_of_pos_left _ (by omega)
          rw [decide_eq_true (Nat.le_trans h3 h4), decide_eq_false hz]; rfl
      rw [e1, e2, uV_zero]
      have he : ∀ w, (Go.binOp .neq 49 (uV N) u0).run Tryd.prog w = .ok (.bool (!decide (N = 0))) w := fun w => by
        have := u_neq hN (by decide : 0 < 2 ^ 256) w
        rw [uV_zero] at this; exact this
      have hgd := u256_guard
      generalize (!decide (N = 0)) = bb at *
      have d1 : ¬ (n : Int) ≤ 0 := by omega
      have d2 : (256 : Int) ≤ (n : Int) := by omega
      clear e1 e2 hN h0 h1 hn
      go_enter Tryd.func37, Tryd.ntmps37
      go_upto_region 4 with fail
      go_region
      go_wp2
      have hb : Blk (((w.alloc (.cells #[n64 (limb N 0), n64 (limb N 1), n64 (limb N 2), n64 (limb N 3)] 49)).alloc (.cells #[.int .u64 0, .int .u64 0, .int .u64 0, .int .u64 0] 49)).drew) (w.heap.size + 1) 49 [.int .u64 0, .int .u64 0, .int .u64 0, .int .u64 0] := by
        have h2 := Blk.new (w.alloc (.cells #[n64 (limb N 0), n64 (limb N 1), n64 (limb N 2), n64 (limb N 3)] 49)) 49 [.int .u64 0, .int .u64 0, .int .u64 0, .int .u64 0]
        rw [World.size_alloc] at h2
        exact h2.drew
      exact bodyPost_ret (v := .tuple #[u0, .bool bb]) (results_cell_tmp_row Tryd.results37 _ _ (w.heap.size + 1) _ _ _ _ rfl hb Tryd.underlying49 rfl (by kernel_rfl)) rfl ⟨rfl, (keep_trans (keep_new _ _) (keep_new _ _)).drew⟩
    · obtain ⟨S, hS⟩ : ∃ S, N * 2 ^ n % 2 ^ 256 = S := ⟨_, rfl⟩
      have HS : Hid (∀ i, i < 4 → limb S i = if i < n / 64 then 0 else ((limb N (i - n / 64) * 2 ^ (n % 64)) % 2 ^ 64) ||| (if n / 64 < i then limb N (i - n / 64 - 1) / 2 ^ (64 - n % 64) else 0)) := Lib.hid fun i hi => by rw [← hS]; exact shl_limb N n i hi
      have ho : decide (2 ^ 256 ≤ N * 2 ^ n) = decide (256 < lenN N + n) := decide_eq_decide.2 (over_iff (by omega)).symm
      rw [hS, ho]
      have hL : lenN N ≤ 256 := lenN_le hN
      have Ln : Hid (∀ y, Calls Tryd.prog 47 #[uV N] y fun e w' => e = .returned (.int .i64 (lenN N : Nat)) ∧ Keep y w') := fun y => len_any N y hN
      obtain ⟨q, hq⟩ : ∃ q, n / 64 = q := ⟨_, rfl⟩
      obtain ⟨d, hd⟩ : ∃ d, n % 64 = d := ⟨_, rfl⟩
      have hq1 : Int.tdiv (n : Int) 64 = (q : Int) := by rw [Int.tdiv_eq_ediv_of_nonneg (by omega)]; omega
      have hd1 : Int.tmod (n : Int) 64 = (d : Int) := by rw [Int.tmod_eq_emod_of_nonneg (by omega)]; omega
      rw [hq, hd] at HS
      have hq4 : q < 4 := by omega
      have hd64 : d < 64 := by omega
      have d1 : ¬ (n : Int) ≤ 0 := by omega
      have d2 : ¬ (256 : Int) ≤ (n : Int) := by omega
      have hn1 : (n : Int) ≤ 256 := by omega
      generalize lenN N = L at *
      clear hN hn h0 h1 hS ho hq hd
      go_enter Tryd.func37, Tryd.ntmps37
      go_upto_region 8 with fail
      obtain ⟨w1, hw1⟩ : ∃ w1, w1 = (((w.alloc (.cells #[n64 (limb N 0), n64 (limb N 1), n64 (limb N 2), n64 (limb N 3)] 49)).alloc (.cells #[.int .u64 0, .int .u64 0, .int .u64 0, .int .u64 0] 49)).alloc (.cells #[.int .u64 0, .int .u64 0, .int .u64 0, .int .u64 0] 49)) := ⟨_, rfl⟩
      have HA1 : Hid (Blk w1 w.heap.size 49 (uL N)) := by rw [hw1]; exact ((Blk.new w 49 (uL N)).alloc _).alloc _
      have HR1 : Hid (Blk w1 (w.heap.size + 1) 49 [.int .u64 0, .int .u64 0, .int .u64 0, .int .u64 0]) := by
        rw [hw1]
        have h2 := Blk.new (w.alloc (.cells #[n64 (limb N 0), n64 (limb N 1), n64 (limb N 2), n64 (limb N 3)] 49)) 49 [.int .u64 0, .int .u64 0, .int .u64 0, .int .u64 0]
        rw [World.size_alloc] at h2
        exact h2.alloc _
      have HO1 : Hid (Blk w1 (w.heap.size + 1 + 1) 49 (lowL S q)) := by
        rw [hw1, lowL_zero S q (fun j hj => by rw [HS.out j (by omega), if_pos hj])]
        have h2 := Blk.new ((w.alloc (.cells #[n64 (limb N 0), n64 (limb N 1), n64 (limb N 2), n64 (limb N 3)] 49)).alloc (.cells #[.int .u64 0, .int .u64 0, .int .u64 0, .int .u64 0] 49)) 49 [.int .u64 0, .int .u64 0, .int .u64 0, .int .u64 0]
        rw [World.size_alloc, World.size_alloc] at h2
        exact h2
      have HK1 : Hid (Keep w w1) := by rw [hw1]; exact keep_trans (keep_trans (keep_new _ _) (keep_new _ _)) (keep_new _ _)
      rw [← hw1]
      clear hw1
      go_wp2_with fail
      go_loopw [9] (fun i wr => ∃ j : Nat, q + j ≤ 4 ∧ i = .int .i64 ((q : Int) + (j : Int)) ∧ Hid (Blk wr (w.heap.size + 1 + 1) 49 (lowL S (q + j))) ∧ Hid (Blk wr w.heap.size 49 (uL N)) ∧ Hid (Blk wr (w.heap.size + 1) 49 [.int .u64 0, .int .u64 0, .int .u64 0, .int .u64 0]) ∧ Hid (Keep w wr)) (fun i _ => (4 - intOf i).toNat)
      case atStart => exact ⟨0, by omega, by simp, HO1, HA1, HR1, HK1⟩
      case round =>
        obtain ⟨j, hj, rfl, HO, HA, HR, HK⟩ := hrel
        by_cases hlt : q + j < 4
        · have a0 : wr.cell? ⟨w.heap.size, j, none⟩ = some (n64 (limb N j)) := by rw [HA.out.cell, uL_get N j (by omega)]
          have o0 : wr.cell? ⟨w.heap.size + 1 + 1, q + j, none⟩ = some (n64 0) := by rw [HO.out.cell, lowL_get S (q + j) hlt]
          have of : wr.frozen? ⟨w.heap.size + 1 + 1, q + j, none⟩ = false := HO.out.frozen _
          have i1 : (q : Int) + (j : Int) < 4 := by omega
          have hs := HS.out (q + j) hlt
          rw [if_neg (by omega), show q + j - q = j by omega] at hs
          have Hs := Lib.hid hs
          clear hs
          go_upto_region 11 with fail
          have hv : IntKind.u64.wrap ((limb N j : Int) * 2 ^ d) = ((limb N j * 2 ^ d % 2 ^ 64 : Nat) : Int) := by
            rw [IntKind.wrap_u64, Int.natCast_emod, Int.natCast_mul]; rfl
          obtain ⟨w2, hw2⟩ : ∃ w2, w2 = wr.setCell ⟨w.heap.size + 1 + 1, q + j, none⟩ (.int .u64 (IntKind.u64.wrap ((limb N j : Int) * 2 ^ d))) := ⟨_, rfl⟩
          have HO2 : Hid (Blk w2 (w.heap.size + 1 + 1) 49 ((lowL S (q + j)).set (q + j) (n64 (limb N j * 2 ^ d % 2 ^ 64)))) := by rw [hw2, hv]; exact HO.out.set_ _ _
          have HA2 : Hid (Blk w2 w.heap.size 49 (uL N)) := by rw [hw2]; exact HA.out.far (by simp; omega) _
          have HR2 : Hid (Blk w2 (w.heap.size + 1) 49 [.int .u64 0, .int .u64 0, .int .u64 0, .int .u64 0]) := by rw [hw2]; exact HR.out.far (by simp) _
          have HK2 : Hid (Keep w w2) := by rw [hw2]; exact Below.setCell HK.out (by simp; omega) _
          rw [← hw2]
          clear hw2 a0 o0 of HO HA HR HK
          cases j with
          | zero =>
            have hl := Hs.out
            rw [if_neg (by omega), Nat.or_zero] at hl
            have HO3 : Hid (Blk w2 (w.heap.size + 1 + 1) 49 (lowL S (q + (0 + 1)))) := by
              have h1 := HO2.out
              rw [← hl, lowL_set S (q + 0) hlt] at h1; exact h1
            clear hl hv Hs
            go_wp2
            go_roundw
            case rel => exact ⟨0 + 1, by omega, by go_num, HO3, HA2, HR2, HK2⟩
            case measure => simp [intOf]; omega
          | succ j =>
            have i2 : decide ((q : Int) < (q : Int) + ((j + 1 : Nat) : Int)) = true := decide_eq_true (by omega)
            have i3 : (q : Int) + (j : Int) < 3 := by omega
            go_upto_region 12 with fail
            refine wp_region_tree (.take [0,1,2,3,4,5,6,7,8,9,10,11,12,13] .done) [14] (by kernel_rfl) (by kernel_rfl) (fun w9 k9 => ?_)
            have HO9 := Lib.hid (HO2.out.keep k9); have HA9 := Lib.hid (HA2.out.keep k9); have HR9 := Lib.hid (HR2.out.keep k9); have HK9 := Lib.hid (keep_trans HK2.out k9)
            clear k9
            have a0 := aft_cell (show w9.cell? ⟨w.heap.size, j, none⟩ = some (n64 (limb N j)) by rw [HA9.out.cell, uL_get N j (by omega)])
            have p0 : w9.cell? ⟨w.heap.size + 1 + 1, q + (j + 1), none⟩ = some (n64 (limb N (j + 1) * 2 ^ d % 2 ^ 64)) := by rw [HO9.out.cell, List.getElem?_set_self (by unfold lowL; simpa using hlt)]
            have o0 := aft_cell (show w9.cell? ⟨w.heap.size + 1 + 1, q + (j + 1), none⟩ = some (n64 (limb N (j + 1) * 2 ^ d % 2 ^ 64)) by rw [HO9.out.cell, List.getElem?_set_self (by unfold lowL; simpa using hlt)])
            have of9 : w9.frozen? ⟨w.heap.size + 1 + 1, q + (j + 1), none⟩ = false := HO9.out.frozen _
            refine mt_take w9 (Below.refl _ _) ?_
            simp only [pick_cons, pick_nil, nth_zero, nth_succ]
            repeat (go_big_quiet_step (fail))
            refine wpQuiet_nil ?_
            refine mt_end ?_
            clear a0 o0
            have hl := Hs.out
            rw [if_pos (by omega)] at hl
            have Hl := Lib.hid hl
            clear hl Hs hv
            go_wp2
            go_roundw
            case rel =>
              rw [or_words _ _ _ _ (limb_lt N j)]
              refine ⟨j + 1 + 1, by omega, by go_num, Lib.hid ?_, Lib.hid (HA9.out.far (by simp; omega) _), Lib.hid (HR9.out.far (by simp) _), Lib.hid (Below.setCell HK9.out (by simp; omega) _)⟩
              have h1 := HO9.out.set_ (q + (j + 1)) (n64 (limb S (q + (j + 1))))
              rw [List.set_set, lowL_set S _ hlt, Hl.out] at h1
              exact h1
            case measure => simp [intOf]; omega
        · obtain rfl : j = 4 - q := by omega
          have hO := HO.out; have hA := HA.out; have hR := HR.out
          rw [show q + (4 - q) = 4 by omega, lowL_four] at hO
          have o0 := hO.cell 0; have o1 := hO.cell 1; have o2 := hO.cell 2; have o3 := hO.cell 3
          have a0 := hA.cell 0; have a1 := hA.cell 1; have a2 := hA.cell 2; have a3 := hA.cell 3
          have r0 := hR.cell 0; have r1 := hR.cell 1; have r2 := hR.cell 2; have r3 := hR.cell 3
          have f0 := hR.frozen 0; have f1 := hR.frozen 1; have f2 := hR.frozen 2; have f3 := hR.frozen 3
          simp only [uL, List.getElem?_cons_zero, List.getElem?_cons_succ] at o0 o1 o2 o3 a0 a1 a2 a3 r0 r1 r2 r3
          have i1 : ¬ (q : Int) + ((4 - q : Nat) : Int) < 4 := by omega
          have hOl := hO.lt
          clear hO hA HO HA HS HO1 HA1 HR1 HK1
          go_upto_region 13 with fail
          letI iM : G.Mk := ⟨some (w.heap.size + 1)⟩
          refine G.wp_region_tree (.take [0,1,3] (.force [2] (.take [4,5] (.force [6] .done)))) [7] (by kernel_rfl) (by kernel_rfl) (fun w9 k9 => ?_)
          have hneA : G.Mk.m ≠ some w.heap.size := fun e => by have e2 : w.heap.size + 1 = w.heap.size := Option.some.inj e; omega
          have hneO : G.Mk.m ≠ some (w.heap.size + 1 + 1) := fun e => by have e2 : w.heap.size + 1 = w.heap.size + 1 + 1 := Option.some.inj e; omega
          have b0 := G.aftG_cell (keep_cell k9 a0) hneA; have b1 := G.aftG_cell (keep_cell k9 a1) hneA; have b2 := G.aftG_cell (keep_cell k9 a2) hneA; have b3 := G.aftG_cell (keep_cell k9 a3) hneA
          have c0 := G.aftG_cell (keep_cell k9 o0) hneO; have c1 := G.aftG_cell (keep_cell k9 o1) hneO; have c2 := G.aftG_cell (keep_cell k9 o2) hneO; have c3 := G.aftG_cell (keep_cell k9 o3) hneO
          have HK9 := Lib.hid (keep_trans HK.out k9); have HR9 := Lib.hid (HR.out.keep k9)
          clear a0 a1 a2 a3 o0 o1 o2 o3 r0 r1 r2 r3 f0 f1 f2 f3 HK k9
          refine G.mt_take w9 (G.Gr.refl _) ?_
          simp only [pick_cons, pick_nil, nth_zero, nth_succ]
          repeat (go_big_quiet_step (fail))
          refine wpQuiet_nil (G.mt_force ?_)
          simp only [pick_cons, pick_nil, nth_zero, nth_succ]
          refine G.fc_step rfl (fun K hK => ?_)
          go_simp
          (with_reducible refine (Ln.out _).mono ?_)
          rintro e wa ⟨rfl, ka⟩
          refine hK _ _ (G.Gr.of_keep ka) ?_
          have HKa := Lib.hid (keep_trans HK9.out ka); have HRa := Lib.hid (HR9.out.keep ka)
          clear hK K b0 b1 b2 b3 c0 c1 c2 c3 ka
          refine G.fc_nil (G.mt_take wa (G.Gr.refl _) ?_)
          simp only [pick_cons, pick_nil, nth_zero, nth_succ]
          repeat (go_big_quiet_step (fail))
          refine wpQuiet_nil (G.mt_force ?_)
          simp only [pick_cons, pick_nil, nth_zero, nth_succ]
          refine G.fc_step rfl (fun K hK => ?_)
          have r0 := HRa.out.cell 0; have r1 := HRa.out.cell 1; have r2 := HRa.out.cell 2; have r3 := HRa.out.cell 3
          have f0 := HRa.out.frozen 0; have f1 := HRa.out.frozen 1; have f2 := HRa.out.frozen 2; have f3 := HRa.out.frozen 3
          simp only [List.getElem?_cons_zero, List.getElem?_cons_succ] at r0 r1 r2 r3
          go_simp
          refine hK _ _ (show G.Gr wa _ from grown_set (grown_set (grown_set (grown_set (grown_refl wa _))))) ?_
          clear hK K r0 r1 r2 r3 f0 f1 f2 f3
          refine G.fc_nil (G.mt_end ?_)
          clear hneA hneO
          clear iM
          have hb8 := (((HRa.out.set_ 0 (n64 (limb S 0))).set_ 1 (n64 (limb S 1))).set_ 2 (n64 (limb S 2))).set_ 3 (n64 (limb S 3))
          have HK8 : Hid (Keep w ((((wa.setCell ⟨w.heap.size + 1, 0, none⟩ (n64 (limb S 0))).setCell ⟨w.heap.size + 1, 1, none⟩ (n64 (limb S 1))).setCell ⟨w.heap.size + 1, 2, none⟩ (n64 (limb S 2))).setCell ⟨w.heap.size + 1, 3, none⟩ (n64 (limb S 3)))) := by
            refine Lib.hid ?_
            iterate 4 (refine Below.setCell ?_ (by simp) _)
            exact HKa.out
          have Hb8 := Lib.hid hb8
          clear hb8
          go_wp2
          exact bodyPost_ret (v := .tuple #[uV S, .bool (decide ((256 : Int) < (L : Int) + (n : Int)))]) (results_cell_tmp_row Tryd.results37 _ _ (w.heap.size + 1) _ _ _ _ rfl Hb8.out Tryd.underlying49 rfl (by kernel_rfl)) rfl ⟨by rw [show decide ((256 : Int) < (L : Int) + (n : Int)) = decide (256 < L + n) from decide_eq_decide.2 (by omega)], HK8.out⟩
end Go.Proofs.YteoilddiilegmaaDoor
