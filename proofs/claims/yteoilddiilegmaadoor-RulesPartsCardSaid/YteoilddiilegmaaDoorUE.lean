/- u256: Shr. -/
import Derived.Test.YteoilddiilegmaaDoorUD
import Derived.Laws.Bits64b
set_option linter.unusedSimpArgs false
set_option linter.unusedVariables false
namespace Go.Proofs.YteoilddiilegmaaDoor
open Go.RowKit
attribute [local go_sem ↓] Go.wp_at_zero Go.wp_at_succ

theorem or_words2 (x y d e : Nat) (hx : x < 2 ^ 64) : bits .or .u64 ((x : Int) / 2 ^ d) ((y : Int) * 2 ^ e % 18446744073709551616) = ((x / 2 ^ d ||| y * 2 ^ e % 2 ^ 64 : Nat) : Int) := by
  have h1 : (y : Int) * 2 ^ e % 18446744073709551616 = ((y * 2 ^ e % 2 ^ 64 : Nat) : Int) := by rw [Int.natCast_emod, Int.natCast_mul]; rfl
  have h2 : (x : Int) / 2 ^ d = ((x / 2 ^ d : Nat) : Int) := by rw [Int.natCast_ediv]; rfl
  rw [h1, h2]
  exact bits_or_u64_nat _ _ (Nat.lt_of_le_of_lt (Nat.div_le_self _ _) hx) (Nat.mod_lt _ (by decide))
theorem lowL_all (S k : Nat) (h : ∀ j, k ≤ j → j < 4 → limb S j = 0) : lowL S k = uL S := by
  have e : ∀ j, j < 4 → (if j < k then limb S j else 0) = limb S j := fun j hj => by
    split
    · rfl
    · exact (h j (by omega) hj).symm
  unfold lowL uL
  rw [e 0 (by omega), e 1 (by omega), e 2 (by omega), e 3 (by omega)]

set_option maxRecDepth 100000 in
set_option maxHeartbeats 2000000 in
theorem shr_any (N n : Nat) (w : World) (hN : N < 2 ^ 256) (hn : n ≤ 100000) :
    Calls Tryd.prog 36 #[uV N, .int .i64 n] w fun e w' => e = .returned (uV (N / 2 ^ n)) ∧ Keep w w' := by
  by_cases h0 : n = 0
  · subst h0
    have e1 : N / 2 ^ 0 = N := by rw [Nat.pow_zero, Nat.div_one]
    rw [e1]
    clear e1 hN hn
    go_enter Tryd.func36, Tryd.ntmps36
    go_wp2
    have hb : Blk ((w.alloc (.cells #[n64 (limb N 0), n64 (limb N 1), n64 (limb N 2), n64 (limb N 3)] 49)).alloc (.cells #[n64 (limb N 0), n64 (limb N 1), n64 (limb N 2), n64 (limb N 3)] 49)) (w.heap.size + 1) 49 (uL N) := by
      have h2 := Blk.new (w.alloc (.cells #[n64 (limb N 0), n64 (limb N 1), n64 (limb N 2), n64 (limb N 3)] 49)) 49 (uL N)
      rw [World.size_alloc] at h2
      exact h2
    exact bodyPost_ret (v := uV N) (results_cell_row Tryd.results36 _ _ (w.heap.size + 1) _ _ _ _ rfl hb Tryd.underlying49 rfl (by kernel_rfl)) rfl ⟨rfl, keep_trans (keep_new _ _) (keep_new _ _)⟩
  · by_cases h1 : 256 ≤ n
    · have e1 : N / 2 ^ n = 0 := Nat.div_eq_of_lt (Nat.lt_of_lt_of_le hN (Nat.pow_le_pow_right (by decide) h1))
      rw [e1, uV_zero]
      have d1 : ¬ (n : Int) ≤ 0 := by omega
      have d2 : (256 : Int) ≤ (n : Int) := by omega
      clear e1 hN h0 h1 hn
      go_enter Tryd.func36, Tryd.ntmps36
      go_wp2
      have hb : Blk ((w.alloc (.cells #[n64 (limb N 0), n64 (limb N 1), n64 (limb N 2), n64 (limb N 3)] 49)).alloc (.cells #[.int .u64 0, .int .u64 0, .int .u64 0, .int .u64 0] 49)) (w.heap.size + 1) 49 [.int .u64 0, .int .u64 0, .int .u64 0, .int .u64 0] := by
        have h2 := Blk.new (w.alloc (.cells #[n64 (limb N 0), n64 (limb N 1), n64 (limb N 2), n64 (limb N 3)] 49)) 49 [.int .u64 0, .int .u64 0, .int .u64 0, .int .u64 0]
        rw [World.size_alloc] at h2
        exact h2
      exact bodyPost_ret (v := u0) (results_cell_row Tryd.results36 _ _ (w.heap.size + 1) _ _ _ _ rfl hb Tryd.underlying49 rfl (by kernel_rfl)) rfl ⟨rfl, keep_trans (keep_new _ _) (keep_new _ _)⟩
    · obtain ⟨S, hS⟩ : ∃ S, N / 2 ^ n = S := ⟨_, rfl⟩
      have HS : Hid (∀ i, limb S i = if i + n / 64 < 4 then (limb N (i + n / 64) / 2 ^ (n % 64)) ||| (if i + n / 64 < 3 then (limb N (i + n / 64 + 1) * 2 ^ (64 - n % 64)) % 2 ^ 64 else 0) else 0) := Lib.hid fun i => by rw [← hS]; exact shr_limb N n i hN
      rw [hS]
      obtain ⟨q, hq⟩ : ∃ q, n / 64 = q := ⟨_, rfl⟩
      obtain ⟨d, hd⟩ : ∃ d, n % 64 = d := ⟨_, rfl⟩
      have hq1 : Int.tdiv (n : Int) 64 = (q : Int) := by rw [Int.tdiv_eq_ediv_of_nonneg (by omega)]; omega
      have hd1 : Int.tmod (n : Int) 64 = (d : Int) := by rw [Int.tmod_eq_emod_of_nonneg (by omega)]; omega
      rw [hq, hd] at HS
      have hq4 : q < 4 := by omega
      have hd64 : d < 64 := by omega
      have d1 : ¬ (n : Int) ≤ 0 := by omega
      have d2 : ¬ (256 : Int) ≤ (n : Int) := by omega
      have hn1 : (n : Int) ≤ 256 := by omega
      clear hN hn h0 h1 hS hq hd
      go_enter Tryd.func36, Tryd.ntmps36
      go_upto_region 7 with fail
      obtain ⟨w1, hw1⟩ : ∃ w1, w1 = (((w.alloc (.cells #[n64 (limb N 0), n64 (limb N 1), n64 (limb N 2), n64 (limb N 3)] 49)).alloc (.cells #[.int .u64 0, .int .u64 0, .int .u64 0, .int .u64 0] 49)).alloc (.cells #[.int .u64 0, .int .u64 0, .int .u64 0, .int .u64 0] 49)) := ⟨_, rfl⟩
      have HA1 : Hid (Blk w1 w.heap.size 49 (uL N)) := by rw [hw1]; exact ((Blk.new w 49 (uL N)).alloc _).alloc _
      have HR1 : Hid (Blk w1 (w.heap.size + 1) 49 [.int .u64 0, .int .u64 0, .int .u64 0, .int .u64 0]) := by
        rw [hw1]
        have h2 := Blk.new (w.alloc (.cells #[n64 (limb N 0), n64 (limb N 1), n64 (limb N 2), n64 (limb N 3)] 49)) 49 [.int .u64 0, .int .u64 0, .int .u64 0, .int .u64 0]
        rw [World.size_alloc] at h2
        exact h2.alloc _
      have HO1 : Hid (Blk w1 (w.heap.size + 1 + 1) 49 (lowL S 0)) := by
        rw [hw1, lowL_zero S 0 (fun j hj => by omega)]
        have h2 := Blk.new ((w.alloc (.cells #[n64 (limb N 0), n64 (limb N 1), n64 (limb N 2), n64 (limb N 3)] 49)).alloc (.cells #[.int .u64 0, .int .u64 0, .int .u64 0, .int .u64 0] 49)) 49 [.int .u64 0, .int .u64 0, .int .u64 0, .int .u64 0]
        rw [World.size_alloc, World.size_alloc] at h2
        exact h2
      have HK1 : Hid (Keep w w1) := by rw [hw1]; exact keep_trans (keep_trans (keep_new _ _) (keep_new _ _)) (keep_new _ _)
      rw [← hw1]
      clear hw1
      go_wp2_with fail
      go_loopw [8] (fun i wr => ∃ j : Nat, j + q ≤ 4 ∧ i = .int .i64 (j : Int) ∧ Hid (Blk wr (w.heap.size + 1 + 1) 49 (lowL S j)) ∧ Hid (Blk wr w.heap.size 49 (uL N)) ∧ Hid (Blk wr (w.heap.size + 1) 49 [.int .u64 0, .int .u64 0, .int .u64 0, .int .u64 0]) ∧ Hid (Keep w wr)) (fun i _ => (4 - intOf i).toNat)
      case atStart => exact ⟨0, by omega, rfl, HO1, HA1, HR1, HK1⟩
      case round =>
        obtain ⟨j, hj, rfl, HO, HA, HR, HK⟩ := hrel
        by_cases hlt : j + q < 4
        · have a0 : wr.cell? ⟨w.heap.size, j + q, none⟩ = some (n64 (limb N (j + q))) := by rw [HA.out.cell, uL_get N (j + q) hlt]
          have o0 : wr.cell? ⟨w.heap.size + 1 + 1, j, none⟩ = some (n64 0) := by rw [HO.out.cell, lowL_get S j (by omega)]
          have of : wr.frozen? ⟨w.heap.size + 1 + 1, j, none⟩ = false := HO.out.frozen _
          have i1 : (j : Int) + (q : Int) < 4 := by omega
          have hs := HS.out j
          rw [if_pos hlt] at hs
          have Hs := Lib.hid hs
          clear hs
          go_upto_region 11 with fail
          have hv : (limb N (j + q) : Int) / 2 ^ d = ((limb N (j + q) / 2 ^ d : Nat) : Int) := by rw [Int.natCast_ediv]; rfl
          obtain ⟨w2, hw2⟩ : ∃ w2, w2 = wr.setCell ⟨w.heap.size + 1 + 1, j, none⟩ (.int .u64 ((limb N (j + q) : Int) / 2 ^ d)) := ⟨_, rfl⟩
          have HO2 : Hid (Blk w2 (w.heap.size + 1 + 1) 49 ((lowL S j).set j (n64 (limb N (j + q) / 2 ^ d)))) := by rw [hw2, hv]; exact HO.out.set_ _ _
          have HA2 : Hid (Blk w2 w.heap.size 49 (uL N)) := by rw [hw2]; exact HA.out.far (by simp; omega) _
          have HR2 : Hid (Blk w2 (w.heap.size + 1) 49 [.int .u64 0, .int .u64 0, .int .u64 0, .int .u64 0]) := by rw [hw2]; exact HR.out.far (by simp) _
          have HK2 : Hid (Keep w w2) := by rw [hw2]; exact Below.setCell HK.out (by simp; omega) _
          rw [← hw2]
          clear hw2 a0 o0 of HO HA HR HK hv
          by_cases h3 : j + q < 3
          · have i2 : decide ((j : Int) + (q : Int) < 3) = true := decide_eq_true (by omega)
            have i3 : (j : Int) + (q : Int) + 1 < 4 := by omega
            go_upto_region 12 with fail
            refine wp_region_tree (.take [0,1,2,3,4,5,6,7,8,9,10,11,12,13] .done) [14] (by kernel_rfl) (by kernel_rfl) (fun w9 k9 => ?_)
            have HO9 := Lib.hid (HO2.out.keep k9); have HA9 := Lib.hid (HA2.out.keep k9); have HR9 := Lib.hid (HR2.out.keep k9); have HK9 := Lib.hid (keep_trans HK2.out k9)
            clear k9
            have a0 := aft_cell (show w9.cell? ⟨w.heap.size, j + q + 1, none⟩ = some (n64 (limb N (j + q + 1))) by rw [HA9.out.cell, uL_get N (j + q + 1) (by omega)])
            have p0 : w9.cell? ⟨w.heap.size + 1 + 1, j, none⟩ = some (n64 (limb N (j + q) / 2 ^ d)) := by rw [HO9.out.cell, List.getElem?_set_self (by unfold lowL; simp; omega)]
            have o0 := aft_cell p0
            have of9 : w9.frozen? ⟨w.heap.size + 1 + 1, j, none⟩ = false := HO9.out.frozen _
            refine mt_take w9 (Below.refl _ _) ?_
            simp only [pick_cons, pick_nil, nth_zero, nth_succ]
            repeat (go_big_quiet_step (fail))
            refine wpQuiet_nil ?_
            refine mt_end ?_
            clear a0 o0
            have hl := Hs.out
            rw [if_pos h3] at hl
            have Hl := Lib.hid hl
            clear hl Hs
            go_wp2
            go_roundw
            case rel =>
              refine ⟨j + 1, by omega, by go_num, Lib.hid ?_, Lib.hid (HA9.out.far (by simp; omega) _), Lib.hid (HR9.out.far (by simp) _), Lib.hid (Below.setCell HK9.out (by simp; omega) _)⟩
              have h1 := HO9.out.set_ j (n64 (limb S j))
              rw [List.set_set, lowL_set S _ (by omega), Hl.out] at h1
              have h2 := or_words2 (limb N (j + q)) (limb N (j + q + 1)) d (64 - d) (limb_lt _ _)
              rw [IntKind.wrap_u64, h2]
              exact h1
            case measure => simp [intOf]; omega
          · have i2 : decide ((j : Int) + (q : Int) < 3) = false := decide_eq_false (by omega)
            have hl := Hs.out
            rw [if_neg h3, Nat.or_zero] at hl
            have HO3 : Hid (Blk w2 (w.heap.size + 1 + 1) 49 (lowL S (j + 1))) := by
              have h1 := HO2.out
              rw [← hl, lowL_set S j (by omega)] at h1; exact h1
            clear hl Hs
            go_wp2
            go_roundw
            case rel => exact ⟨j + 1, by omega, by go_num, HO3, HA2, HR2, HK2⟩
            case measure => simp [intOf]; omega
        · have hO := HO.out; have hR := HR.out
          rw [lowL_all S j (fun i h1 h2 => by rw [HS.out i, if_neg (by omega)])] at hO
          have o0 := hO.cell 0; have o1 := hO.cell 1; have o2 := hO.cell 2; have o3 := hO.cell 3
          have r0 := hR.cell 0; have r1 := hR.cell 1; have r2 := hR.cell 2; have r3 := hR.cell 3
          have f0 := hR.frozen 0; have f1 := hR.frozen 1; have f2 := hR.frozen 2; have f3 := hR.frozen 3
          simp only [uL, List.getElem?_cons_zero, List.getElem?_cons_succ] at o0 o1 o2 o3 r0 r1 r2 r3
          have i1 : ¬ (j : Int) + (q : Int) < 4 := by omega
          have hb8 := (((HR.out.set_ 0 (n64 (limb S 0))).set_ 1 (n64 (limb S 1))).set_ 2 (n64 (limb S 2))).set_ 3 (n64 (limb S 3))
          have HK8 : Hid (Keep w ((((wr.setCell ⟨w.heap.size + 1, 0, none⟩ (n64 (limb S 0))).setCell ⟨w.heap.size + 1, 1, none⟩ (n64 (limb S 1))).setCell ⟨w.heap.size + 1, 2, none⟩ (n64 (limb S 2))).setCell ⟨w.heap.size + 1, 3, none⟩ (n64 (limb S 3)))) := by
            refine Lib.hid ?_
            iterate 4 (refine Below.setCell ?_ (by simp) _)
            exact HK.out
          have Hb8 := Lib.hid hb8
          clear hb8 hO hR HO HA HS HO1 HA1 HR1 HK1 HR
          go_wp2
          exact bodyPost_ret (v := uV S) (results_cell_row Tryd.results36 _ _ (w.heap.size + 1) _ _ _ _ rfl Hb8.out Tryd.underlying49 rfl (by kernel_rfl)) rfl ⟨rfl, HK8.out⟩
end Go.Proofs.YteoilddiilegmaaDoor
