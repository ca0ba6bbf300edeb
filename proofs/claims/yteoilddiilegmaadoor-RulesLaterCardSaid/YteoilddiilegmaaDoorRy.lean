/- RulesLater: the walk. -/
import Derived.Test.YteoilddiilegmaaDoorRy0
import Derived.Test.YteoilddiilegmaaDoorRw
set_option linter.unusedSimpArgs false
set_option linter.unusedVariables false
namespace Go.Proofs.YteoilddiilegmaaDoor
open Go.RowKit
attribute [local go_sem ↓] Go.wp_at_zero Go.wp_at_succ

theorem mask32 (n : Int) : bits .and .i64 n 4294967295 = n % 4294967296 := by
  have h127 : (BitVec.ofInt 64 4294967295).toNat = 2 ^ 32 - 1 := by decide
  have key : (BitVec.ofInt 64 n &&& BitVec.ofInt 64 4294967295).toNat = (n % ((2 ^ 64 : Nat) : Int)).toNat % 2 ^ 32 := by
    rw [BitVec.toNat_and, BitVec.toNat_ofInt, h127, Nat.and_two_pow_sub_one_eq_mod]
  show IntKind.i64.wrap ((BitVec.ofInt 64 n &&& BitVec.ofInt 64 4294967295).toNat : Nat) = n % 4294967296
  rw [key, IntKind.wrap_i64]
  omega

set_option maxRecDepth 100000 in
set_option maxHeartbeats 4000000 in
theorem later_walk (p : Par) (A : Option Addr) (c : Nat) (B : Option Addr) (l : List Hd) (d : Nat) (now more : Int) (w : World) (hS : ShaOk w) (hC : Rd w A (p.chks.flatMap chkC) ∧ ∀ x ∈ p.chks, x.2.length = 32)
    (hd : l.length ≤ d) (hdm : d ≤ maxLen) (hr : Rd w B (l.flatMap Hd.cells)) (hk : ∀ h ∈ l, h.ok) :
    Calls Tryd.prog 7 #[parV p A c, .slice B l.length d, iv now, iv more] w fun e w' => e = .returned (.bool true) ∧ Keep w w' := by
  have AW : Hid (∀ y, Keep w y → Calls Tryd.prog 8 #[] y fun e w' => e = .returned (.bool true) ∧ Keep y w') := Lib.hid fun y hy => awake_any y (hS.keep hy)
  have V1 : Hid (∀ t y, Keep w y → l.length ≤ 20 → p.chks.length ≤ 120 → Calls Tryd.prog 18 #[parV p A c, .slice B l.length d, iv t] y fun e w' => e = .returned (.tuple #[iv (validN p l t), iv (validE p l t)]) ∧ Keep y w') := Lib.hid fun t y hy h1 h2 =>
    valid_any p A c B l d t y (hS.keep hy) ⟨hC.1.keep hy, hC.2, by omega⟩ (by omega) hd hdm (hr.keep hy) hk
  have L1 : Hid (∀ y, Keep w y → l.length ≤ 20 → Calls Tryd.prog 22 #[.slice B l.length d] y fun e w' => e = .returned (iv (linkN l)) ∧ Keep y w') := Lib.hid fun y hy h1 => linked_any B l d y (hS.keep hy) (by omega) (hr.keep hy) hk
  have em := mask32 now; have en := mask32 more
  have bm : 0 ≤ now % 4294967296 ∧ now % 4294967296 < 4294967296 := by omega
  have bn : 0 ≤ more % 4294967296 ∧ more % 4294967296 < 4294967296 := by omega
  generalize now % 4294967296 = x at *
  generalize more % 4294967296 = y at *
  have F1 : validN p l x ≤ validN p l (x + y) := valid_mono (by omega)
  have F2 : validN p l x ≤ linkN l := valid_link
  have F3 : (validE p l x == 0) = decide (validN p l x = l.length) := by
    rw [Bool.eq_iff_iff]; simp [validE_zero]
  have F4 : (validE p l (x + y) == 0) = decide (validN p l (x + y) = l.length) := by
    rw [Bool.eq_iff_iff]; simp [validE_zero]
  have V2 := Lib.hid fun z hz => V1.out x z hz
  have V3 := Lib.hid fun z hz => V1.out (x + y) z hz
  obtain ⟨z, hz⟩ : ∃ z, x + y = z := ⟨_, rfl⟩
  have wz : IntKind.i64.wrap z = z := IntWalk.i64_in _ (by omega)
  rw [hz] at F1 F4 V3
  clear V1 hr hk hS hC bm bn
  generalize validN p l x = n1 at *
  generalize validE p l x = e1 at *
  generalize validN p l z = n2 at *
  generalize validE p l z = e2 at *
  generalize linkN l = lk at *
  unfold parV at *
  generalize p.limit = limit at *
  generalize p.itv = itv at *
  generalize p.span = span at *
  generalize p.fut = fut at *
  generalize p.idx = idx at *
  generalize p.orp = orp at *
  generalize p.chks.length = m at *
  generalize l.length = n at *
  go_enter Tryd.func7, Tryd.ntmps7
  go_upto_region 1 with fail
  obtain ⟨w1, hw1⟩ : ∃ w1, w1 = w.alloc (.cells #[u32v limit, iv itv, iv span, iv fut, iv idx, iv orp, .slice A m c] 25) := ⟨_, rfl⟩
  have HP1 : Hid (Blk w1 w.heap.size 25 [u32v limit, iv itv, iv span, iv fut, iv idx, iv orp, .slice A m c]) := by rw [hw1]; exact Lib.hid (Blk.new w 25 [u32v limit, iv itv, iv span, iv fut, iv idx, iv orp, .slice A m c])
  have HK1 : Hid (Keep w w1) := by rw [hw1]; exact Lib.hid (keep_new _ _)
  rw [← hw1]
  clear hw1
  go_wp2_with fail
  refine (AW.out _ HK1.out).mono ?_
  clear AW
  rintro e w2 ⟨rfl, k2⟩
  have HP2 := Lib.hid (HP1.out.keep k2)
  have HK2 := Lib.hid (keep_trans HK1.out k2)
  clear k2 HP1 HK1
  have p6 := HP2.out.cell 6
  simp only [List.getElem?_cons_succ, List.getElem?_cons_zero] at p6
  by_cases hn : 20 < n
  · have d1 : (20 : Int) < n := by omega
    clear F1 F2 F3 F4 V2 V3 L1
    go_wp2
    exact bodyPost_ret (v := .bool true) (by simp [results, Tryd.results7]) rfl ⟨rfl, HK2.out⟩
  by_cases hm : 120 < m
  · have d1 : ¬ (20 : Int) < n := by omega
    have d2 : (120 : Int) < m := by omega
    clear F1 F2 F3 F4 V2 V3 L1
    go_wp2
    exact bodyPost_ret (v := .bool true) (by simp [results, Tryd.results7]) rfl ⟨rfl, HK2.out⟩
  have d1 : ¬ (20 : Int) < n := by omega
  have d2 : ¬ (120 : Int) < m := by omega
  have p0 := HP2.out.cell 0
  have p1 := HP2.out.cell 1
  have p2 := HP2.out.cell 2
  have p3 := HP2.out.cell 3
  have p4 := HP2.out.cell 4
  have p5 := HP2.out.cell 5
  simp only [List.getElem?_cons_succ, List.getElem?_cons_zero] at p0 p1 p2 p3 p4 p5
  have HF1 := Lib.hid F1; have HF2 := Lib.hid F2; have HF3 := Lib.hid F3; have HF4 := Lib.hid F4
  clear F1 F2 F3 F4
  go_wp2_with fail
  refine (V2.out _ HK2.out (by omega) (by omega)).mono ?_
  clear V2 p0 p1 p2 p3 p4 p5 p6
  rintro e w3 ⟨rfl, k3⟩
  have HP3 := Lib.hid (HP2.out.keep k3)
  have HK3 := Lib.hid (keep_trans HK2.out k3)
  clear k3 HP2 HK2
  have p0 := HP3.out.cell 0
  have p1 := HP3.out.cell 1
  have p2 := HP3.out.cell 2
  have p3 := HP3.out.cell 3
  have p4 := HP3.out.cell 4
  have p5 := HP3.out.cell 5
  have p6 := HP3.out.cell 6
  simp only [List.getElem?_cons_succ, List.getElem?_cons_zero] at p0 p1 p2 p3 p4 p5 p6
  go_wp2_with fail
  refine (V3.out _ HK3.out (by omega) (by omega)).mono ?_
  clear V3 p0 p1 p2 p3 p4 p5 p6
  rintro e w4 ⟨rfl, k4⟩
  have HK4 := Lib.hid (keep_trans HK3.out k4)
  clear k4 HP3 HK3
  have f1 : n1 ≤ n2 := HF1.out
  have f1' : (n1 : Int) ≤ n2 := by omega
  go_wp2_with fail
  refine (L1.out _ HK4.out (by omega)).mono ?_
  clear L1
  rintro e w5 ⟨rfl, k5⟩
  have HK5 := Lib.hid (keep_trans HK4.out k5)
  clear k5 HK4
  have f2 : n1 ≤ lk := HF2.out
  have f2' : (n1 : Int) ≤ lk := by omega
  have q1 : ((n1 : Int) == (n : Int)) = (e1 == 0) := by
    rw [HF3.out, Bool.eq_iff_iff]; simp; omega
  have q2 : ((n2 : Int) == (n : Int)) = (e2 == 0) := by
    rw [HF4.out, Bool.eq_iff_iff]; simp; omega
  obtain ⟨b1, hb1⟩ : ∃ b, (e1 == 0) = b := ⟨_, rfl⟩
  obtain ⟨b2, hb2⟩ : ∃ b, (e2 == 0) = b := ⟨_, rfl⟩
  rw [hb1] at q1
  rw [hb2] at q2
  have s1 : (b1 == b1) = true := beq_self_eq_true _
  have s2 : (b2 == b2) = true := beq_self_eq_true _
  clear HF1 HF2 HF3 HF4
  go_wp2
  exact bodyPost_ret (v := .bool true) (by simp [results, Tryd.results7]) rfl ⟨rfl, HK5.out⟩
end Go.Proofs.YteoilddiilegmaaDoor
