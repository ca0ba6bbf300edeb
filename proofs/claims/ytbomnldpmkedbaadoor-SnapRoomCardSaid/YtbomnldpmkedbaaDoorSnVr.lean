/- Two regions fit: the walk. -/
import Derived.Test.YtbomnldpmkedbaaDoorSnU
set_option linter.unusedSimpArgs false
set_option linter.unusedVariables false
namespace Go.Proofs.YtbomnldpmkedbaaDoor
open Go.RowKit
attribute [local go_sem ↓] Go.wp_at_zero Go.wp_at_succ

theorem i64_low13 (n : Int) : bits BinOp.and IntKind.i64 n 8191 = n % 8192 := by
  have h127 : (BitVec.ofInt 64 8191).toNat = 2 ^ 13 - 1 := by decide
  have key : (BitVec.ofInt 64 n &&& BitVec.ofInt 64 8191).toNat = (n % ((2 ^ 64 : Nat) : Int)).toNat % 2 ^ 13 := by
    rw [BitVec.toNat_and, BitVec.toNat_ofInt, h127, Nat.and_two_pow_sub_one_eq_mod]
  show IntKind.i64.wrap ((BitVec.ofInt 64 n &&& BitVec.ofInt 64 8191).toNat : Nat) = n % 8192
  rw [key, IntKind.wrap_i64]
  omega
theorem supB_mod (e r : Int) : supB e r = supB (e % 4294967296) (r % 2) := by
  unfold supB supHead epN
  rw [show e % 4294967296 % 4294967296 = e % 4294967296 by omega, show r % 2 % 2 = r % 2 by omega]
theorem takeS_any (e r : Int) : ((1 ≤ e ∧ e ≤ 2147483647) ∧ takeS (supB e r) = (e, r % 2, true)) ∨ (¬ (1 ≤ e ∧ e ≤ 2147483647) ∧ (takeS (supB e r)).2.2 = true) ∨ (¬ (1 ≤ e ∧ e ≤ 2147483647) ∧ takeS (supB e r) = (0, 0, false)) := by
  have hr : r % 2 = 0 ∨ r % 2 = 1 := by omega
  by_cases h : 1 ≤ e ∧ e ≤ 2147483647
  · refine .inl ⟨h, ?_⟩
    rw [supB_mod, show e % 4294967296 = e by omega]
    exact takeS_sup h hr
  · refine .inr ?_
    unfold takeS
    split
    · exact .inl ⟨h, rfl⟩
    · exact .inr ⟨h, rfl⟩

theorem wpList_of_quiet {P : Program} {ops : Array Oper} {C : World → Prop} {N : Act → Prop} {Q : Exit → Act → World → Prop} (hN : ∀ a w, C w → N a → Q .normal a w) : ∀ (l : List Oper) (a : Act) (w : World), C w → wpQuiet P ops C N l a → wpList P ops Q l a w
  | [], a, w, hC, h => hN a w hC h
  | o :: l, a, w, hC, h => by
    unfold wpQuiet at h
    unfold wpList
    split at h
    · rename_i hw
      rw [if_pos hw]
      exact .inl (Oper.wp_of_quiet hC (fun a' w' hw' hk => wpList_of_quiet hN l a' w' hw' hk) h)
    · rename_i hw
      rw [if_neg hw]
      exact wpList_of_quiet hN l _ w hC h
/-- A region in one order, whose operations only read, and whose callees leave what was there: guards and all. -/
theorem wp_region_plainq {P : Program} {id : Nat} {Q : Exit → Act → World → Prop} {a : Act} {w : World} {l : List Oper} (w0 : World) (hw : Keep w0 w)
    (h : wpQuiet P l.toArray (fun w' => ∃ x, w' = aft w0 x) (fun a' => ∀ w', (∃ x, w' = aft w0 x) → Q .normal a' w') l a) : (Code.region id l.toArray false).wp P Q a w :=
  wp_region_lit (wpList_of_quiet (fun a' w' hw' h => h w' hw') l a w ⟨_, aft_of hw⟩ h)

set_option maxRecDepth 100000 in
set_option maxHeartbeats 8000000 in
theorem room_walk (s ep rg : Int) (w : World) (hS : ShaOk w) (hs : -9223372036854775808 ≤ s ∧ s ≤ 9223372036854775807) (he : -9223372036854775808 ≤ ep ∧ ep ≤ 9223372036854775807) (hr : -9223372036854775808 ≤ rg ∧ rg ≤ 9223372036854775807) :
    Calls Tryd.prog 3 #[.int .i64 s, .int .i64 ep, .int .i64 rg] w fun e w' => e = .returned (.bool true) ∧ Keep w w' := by
  have hand := i64_low13 s
  have hand2 := i64_and1 rg
  obtain ⟨n, hn⟩ : ∃ n, s % 8192 = n := ⟨_, rfl⟩
  have hn0 : 0 ≤ n ∧ n ≤ 8191 := by omega
  obtain ⟨hn1, hn2⟩ := hn0
  rw [hn] at hand
  obtain ⟨r, hre⟩ : ∃ r, roomS n = r := ⟨_, rfl⟩
  have hr1 : r = 0 ∨ 4 + 8 * (r : Int) ≤ n := by
    unfold roomS at hre
    split at hre
    · exact .inl hre.symm
    · exact .inr (by omega)
  have hr2 : n < 4 + 8 * ((r : Int) + 1) ∧ r ≤ 1023 := by
    unfold roomS at hre
    split at hre <;> omega
  obtain ⟨hr2, hr3⟩ := hr2
  have HS := Lib.hid hS
  have M1 : Hid (∀ w', Calls Tryd.prog 9 #[.int .i64 n] w' fun e w'' => e = .returned (.int .i64 r) ∧ w' = w'') := fun w' => by rw [← hre]; exact room_any n w' (by omega)
  have M2 : Hid (∀ w', Calls Tryd.prog 9 #[.int .i64 (-n)] w' fun e w'' => e = .returned (.int .i64 0) ∧ w' = w'') := fun w' => by
    have h1 := room_any (-n) w' (by omega)
    rw [show roomS (-n) = 0 by unfold roomS; rw [if_pos (by omega)]] at h1
    exact h1
  have S1 : Hid (∀ y, Keep w y → Calls Tryd.prog 10 #[.int .i64 ep, .int .i64 rg] y fun e w' => ∃ A c, e = .returned (.slice A 64 c) ∧ w'.ownsRow y.heap.size 5 1 (.slice A 64 c) 64 ((supB ep rg).map u8v) ∧ Keep y w') := fun y hy => super_any ep rg y (hS.keep hy)
  have hSl : Hid ((supB ep rg).length = 64) := supB_len ep rg
  have hT := takeS_any ep rg
  have T1 : Hid (∀ y A c, Keep w y → Rd y A ((supB ep rg).map u8v) → Calls Tryd.prog 11 #[.slice A 64 c] y fun e w' => e = .returned (.tuple #[.int .i64 (takeS (supB ep rg)).1, .int .i64 (takeS (supB ep rg)).2.1, .bool (takeS (supB ep rg)).2.2]) ∧ Keep y w') := fun y A c hy hr => by
    have h1 := takes_any A (supB ep rg) c y hr (hS.keep hy) (by rw [hSl.out]; omega)
    rw [hSl.out] at h1; exact h1
  generalize takeS (supB ep rg) = T at *
  generalize supB ep rg = SB at *
  clear hre hn hS hs hr
  go_enter Tryd.func3, Tryd.ntmps3
  go_wp2_with fail
  refine (awake_any w HS.out).mono ?_
  rintro e w1 ⟨rfl, k1⟩
  have HK1 := Lib.hid k1; clear k1
  go_wp2_with fail
  refine (M1.out w1).mono ?_
  rintro e _ ⟨rfl, rfl⟩
  go_wp2_with fail
  refine (S1.out w1 HK1.out).mono ?_
  rintro e w2 ⟨A2, c2, rfl, own2, k2⟩
  have Hr2 := Lib.hid (own_rd own2); have HK2 := Lib.hid (keep_trans HK1.out k2)
  clear own2 k2
  go_wp2_with fail
  refine (T1.out w2 A2 c2 HK2.out Hr2.out).mono ?_
  rintro e w3 ⟨rfl, k3⟩
  have HK3 := Lib.hid (keep_trans HK2.out k3)
  clear k3 T1 S1 hSl M1
  obtain ⟨te, tr, tok⟩ := T
  go_upto_region 6 with fail
  have g3 : ((r : Int) == 1024) = false := by simp; omega
  have g4 : decide (n < 4 + 8 * ((r : Int) + 1)) = true := decide_eq_true hr2
  obtain ⟨he1, he2⟩ := he
  have hr3' : (r : Int) ≤ 1023 := by omega
  clear hr2 he1 he2
  by_cases hr0 : r = 0
  · have g1 : ((r : Int) == 0) = true := by simp [hr0]
    clear hr1 hr0 hr3
    rcases hT with ⟨hg, hT⟩ | ⟨hg, hT⟩ | ⟨hg, hT⟩
    · obtain ⟨rfl, rfl, rfl⟩ : te = ep ∧ tr = rg % 2 ∧ tok = true := by injection hT with e1 e2; injection e2 with e2 e3; exact ⟨e1, e2, e3⟩
      have d1 : decide ((1 : Int) ≤ te) = true := decide_eq_true hg.1
      have d2 : decide (te ≤ (2147483647 : Int)) = true := decide_eq_true hg.2
      have d3 : (te == te) = true := by simp
      have d4 : (rg % 2 == rg % 2) = true := by simp
      clear hg hT
      go_upto_region 7 with fail
      refine wp_region_plainq w3 (Below.refl _ _) ?_
      simp only [List.append_eq, List.cons_append, List.nil_append]
      repeat (go_big_quiet_step ((go_at_call 9; exact quiet_aft_same (M2.out _))))
      refine wpQuiet_nil ?_
      rintro _ ⟨y, rfl⟩
      have j := aft_keep w3 y
      generalize aft w3 y = w4 at j ⊢
      go_wp2
      go_ret
      exact ⟨rfl, keep_trans HK3.out j⟩
    · obtain rfl : tok = true := hT
      by_cases q : 1 ≤ ep
      · have d1 : decide ((1 : Int) ≤ ep) = true := decide_eq_true q
        have d2 : decide (ep ≤ (2147483647 : Int)) = false := decide_eq_false (fun e => hg ⟨q, e⟩)
        clear hg q
        go_upto_region 7 with fail
        refine wp_region_plainq w3 (Below.refl _ _) ?_
        simp only [List.append_eq, List.cons_append, List.nil_append]
        repeat (go_big_quiet_step ((go_at_call 9; exact quiet_aft_same (M2.out _))))
        refine wpQuiet_nil ?_
        rintro _ ⟨y, rfl⟩
        have j := aft_keep w3 y
        generalize aft w3 y = w4 at j ⊢
        go_wp2
        go_ret
        exact ⟨rfl, keep_trans HK3.out j⟩
      · have d1 : decide ((1 : Int) ≤ ep) = false := decide_eq_false q
        clear hg q
        go_upto_region 7 with fail
        refine wp_region_plainq w3 (Below.refl _ _) ?_
        simp only [List.append_eq, List.cons_append, List.nil_append]
        repeat (go_big_quiet_step ((go_at_call 9; exact quiet_aft_same (M2.out _))))
        refine wpQuiet_nil ?_
        rintro _ ⟨y, rfl⟩
        have j := aft_keep w3 y
        generalize aft w3 y = w4 at j ⊢
        go_wp2
        go_ret
        exact ⟨rfl, keep_trans HK3.out j⟩
    · obtain ⟨rfl, rfl, rfl⟩ : te = 0 ∧ tr = 0 ∧ tok = false := by injection hT with e1 e2; injection e2 with e2 e3; exact ⟨e1, e2, e3⟩
      by_cases q : 1 ≤ ep
      · have d1 : decide ((1 : Int) ≤ ep) = true := decide_eq_true q
        have d2 : decide (ep ≤ (2147483647 : Int)) = false := decide_eq_false (fun e => hg ⟨q, e⟩)
        clear hg q
        go_upto_region 7 with fail
        refine wp_region_plainq w3 (Below.refl _ _) ?_
        simp only [List.append_eq, List.cons_append, List.nil_append]
        repeat (go_big_quiet_step ((go_at_call 9; exact quiet_aft_same (M2.out _))))
        refine wpQuiet_nil ?_
        rintro _ ⟨y, rfl⟩
        have j := aft_keep w3 y
        generalize aft w3 y = w4 at j ⊢
        go_wp2
        go_ret
        exact ⟨rfl, keep_trans HK3.out j⟩
      · have d1 : decide ((1 : Int) ≤ ep) = false := decide_eq_false q
        clear hg q
        go_upto_region 7 with fail
        refine wp_region_plainq w3 (Below.refl _ _) ?_
        simp only [List.append_eq, List.cons_append, List.nil_append]
        repeat (go_big_quiet_step ((go_at_call 9; exact quiet_aft_same (M2.out _))))
        refine wpQuiet_nil ?_
        rintro _ ⟨y, rfl⟩
        have j := aft_keep w3 y
        generalize aft w3 y = w4 at j ⊢
        go_wp2
        go_ret
        exact ⟨rfl, keep_trans HK3.out j⟩
  · have g1 : ((r : Int) == 0) = false := by simp [hr0]
    have g2 : decide (4 + 8 * (r : Int) ≤ n) = true := decide_eq_true (hr1.resolve_left hr0)
    clear hr1 hr0 hr3
    rcases hT with ⟨hg, hT⟩ | ⟨hg, hT⟩ | ⟨hg, hT⟩
    · obtain ⟨rfl, rfl, rfl⟩ : te = ep ∧ tr = rg % 2 ∧ tok = true := by injection hT with e1 e2; injection e2 with e2 e3; exact ⟨e1, e2, e3⟩
      have d1 : decide ((1 : Int) ≤ te) = true := decide_eq_true hg.1
      have d2 : decide (te ≤ (2147483647 : Int)) = true := decide_eq_true hg.2
      have d3 : (te == te) = true := by simp
      have d4 : (rg % 2 == rg % 2) = true := by simp
      clear hg hT
      go_upto_region 7 with fail
      refine wp_region_plainq w3 (Below.refl _ _) ?_
      simp only [List.append_eq, List.cons_append, List.nil_append]
      repeat (go_big_quiet_step ((go_at_call 9; exact quiet_aft_same (M2.out _))))
      refine wpQuiet_nil ?_
      rintro _ ⟨y, rfl⟩
      have j := aft_keep w3 y
      generalize aft w3 y = w4 at j ⊢
      go_wp2
      go_ret
      exact ⟨rfl, keep_trans HK3.out j⟩
    · obtain rfl : tok = true := hT
      by_cases q : 1 ≤ ep
      · have d1 : decide ((1 : Int) ≤ ep) = true := decide_eq_true q
        have d2 : decide (ep ≤ (2147483647 : Int)) = false := decide_eq_false (fun e => hg ⟨q, e⟩)
        clear hg q
        go_upto_region 7 with fail
        refine wp_region_plainq w3 (Below.refl _ _) ?_
        simp only [List.append_eq, List.cons_append, List.nil_append]
        repeat (go_big_quiet_step ((go_at_call 9; exact quiet_aft_same (M2.out _))))
        refine wpQuiet_nil ?_
        rintro _ ⟨y, rfl⟩
        have j := aft_keep w3 y
        generalize aft w3 y = w4 at j ⊢
        go_wp2
        go_ret
        exact ⟨rfl, keep_trans HK3.out j⟩
      · have d1 : decide ((1 : Int) ≤ ep) = false := decide_eq_false q
        clear hg q
        go_upto_region 7 with fail
        refine wp_region_plainq w3 (Below.refl _ _) ?_
        simp only [List.append_eq, List.cons_append, List.nil_append]
        repeat (go_big_quiet_step ((go_at_call 9; exact quiet_aft_same (M2.out _))))
        refine wpQuiet_nil ?_
        rintro _ ⟨y, rfl⟩
        have j := aft_keep w3 y
        generalize aft w3 y = w4 at j ⊢
        go_wp2
        go_ret
        exact ⟨rfl, keep_trans HK3.out j⟩
    · obtain ⟨rfl, rfl, rfl⟩ : te = 0 ∧ tr = 0 ∧ tok = false := by injection hT with e1 e2; injection e2 with e2 e3; exact ⟨e1, e2, e3⟩
      by_cases q : 1 ≤ ep
      · have d1 : decide ((1 : Int) ≤ ep) = true := decide_eq_true q
        have d2 : decide (ep ≤ (2147483647 : Int)) = false := decide_eq_false (fun e => hg ⟨q, e⟩)
        clear hg q
        go_upto_region 7 with fail
        refine wp_region_plainq w3 (Below.refl _ _) ?_
        simp only [List.append_eq, List.cons_append, List.nil_append]
        repeat (go_big_quiet_step ((go_at_call 9; exact quiet_aft_same (M2.out _))))
        refine wpQuiet_nil ?_
        rintro _ ⟨y, rfl⟩
        have j := aft_keep w3 y
        generalize aft w3 y = w4 at j ⊢
        go_wp2
        go_ret
        exact ⟨rfl, keep_trans HK3.out j⟩
      · have d1 : decide ((1 : Int) ≤ ep) = false := decide_eq_false q
        clear hg q
        go_upto_region 7 with fail
        refine wp_region_plainq w3 (Below.refl _ _) ?_
        simp only [List.append_eq, List.cons_append, List.nil_append]
        repeat (go_big_quiet_step ((go_at_call 9; exact quiet_aft_same (M2.out _))))
        refine wpQuiet_nil ?_
        rintro _ ⟨y, rfl⟩
        have j := aft_keep w3 y
        generalize aft w3 y = w4 at j ⊢
        go_wp2
        go_ret
        exact ⟨rfl, keep_trans HK3.out j⟩
end Go.Proofs.YtbomnldpmkedbaaDoor
