/- Texts merged by pack.py: To0, To. -/
import Derived.Test.YtjbdboekleaklaaGreatDoorCx11
/- florinref15.Ints, and the plain law of Reorg. (printed by gen_to.py) -/
set_option linter.unusedSimpArgs false
set_option linter.unusedVariables false
namespace Go.Proofs.YtjbdboekleaklaaGreatDoor
open Go.RowKit
attribute [local go_sem ↓] Go.wp_at_zero Go.wp_at_succ

theorem low16f (n : Int) : bits .and .i64 n 65535 = n % 65536 := by
  have h127 : (BitVec.ofInt 64 65535).toNat = 2 ^ 16 - 1 := by decide
  have key : (BitVec.ofInt 64 n &&& BitVec.ofInt 64 65535).toNat = (n % ((2 ^ 64 : Nat) : Int)).toNat % 2 ^ 16 := by
    rw [BitVec.toNat_and, BitVec.toNat_ofInt, h127, Nat.and_two_pow_sub_one_eq_mod]
  show IntKind.i64.wrap ((BitVec.ofInt 64 n &&& BitVec.ofInt 64 65535).toNat : Nat) = n % 65536
  rw [key, IntKind.wrap_i64]
  omega
theorem cpN_comm : ∀ a b : List Nat, cpN a b = cpN b a
  | [], b => by cases b <;> rfl
  | _ :: _, [] => rfl
  | x :: a, y :: b => by
    unfold cpN
    by_cases h : x = y
    · subst h; rw [cpN_comm a b]
    · rw [if_neg h, if_neg (fun e => h e.symm)]
theorem line_zero {ns : List Nd} (TR : Tr ns) {n : Nat} (h : n < ns.length) : ∃ r, lineO ns (n : Int) = 0 :: r := by
  have hL : lineO ns (n : Int) = lineN ns n := by unfold lineO; rw [if_pos ⟨by omega, by simpa using h⟩]; simp
  have h0 : (lineN ns n)[0]? = some 0 := by rw [line_abv (Nat.zero_le _)]; unfold abvN; rw [Nat.sub_zero, TR.upTop h]
  rw [hL]
  cases hl : lineN ns n with
  | nil => rw [hl] at h0; simp at h0
  | cons x r => rw [hl] at h0; simp at h0; exact ⟨r, by rw [h0]⟩
theorem reorg_law {a b r s : List Nat} (ha : a = 0 :: r) (hb : b = 0 :: s) :
    (undN a b).length < a.length ∧ (undN b a).length = (donN a b).length ∧ (donN b a).length = (undN a b).length ∧
    (∀ k, k < (undN a b).length → ∃ z, (undN a b)[k]? = some z ∧ a[a.length - 1 - k]? = some z ∧ (donN b a)[(undN a b).length - 1 - k]? = some z) ∧
    a.take (a.length - (undN a b).length) ++ donN a b = b ∧ (donN a b).length < b.length := by
  have hc : 1 ≤ cpN a b := by rw [ha, hb]; unfold cpN; rw [if_pos rfl]; omega
  obtain ⟨l1, l2⟩ := cpN_le a b
  have he := cpN_eq a b
  unfold undN donN
  rw [cpN_comm b a]
  generalize cpN a b = c at *
  have hlen : (a.drop c).reverse.length = a.length - c := by simp
  refine ⟨by rw [hlen]; omega, by simp, by simp, fun k hk => ?_, ?_, by simp; omega⟩
  · rw [hlen] at hk
    have q1 : (a.drop c).reverse[k]? = a[a.length - 1 - k]? := by
      rw [List.getElem?_reverse (by simp; omega), List.getElem?_drop]
      congr 1; simp; omega
    have q2 : (a.drop c)[(a.drop c).reverse.length - 1 - k]? = a[a.length - 1 - k]? := by
      rw [List.getElem?_drop, hlen]
      congr 1; omega
    have q3 : a[a.length - 1 - k]? = some (a[a.length - 1 - k]'(by omega)) := List.getElem?_eq_getElem (by omega)
    exact ⟨_, q1.trans q3, q3, q2.trans q3⟩
  · rw [hlen, show a.length - (a.length - c) = c by omega, he, List.take_append_drop]
theorem nvL_app (a b : List Nat) : nvL (a ++ b) = nvL a ++ nvL b := by simp [nvL]
theorem nvL_take (a : List Nat) (k : Nat) : (nvL a).take k = nvL (a.take k) := by simp [nvL, List.map_take]
theorem nvL_one (a : List Nat) : ∀ u ∈ nvL a, u.oneCell' = true := by
  intro u hu; obtain ⟨x, _, rfl⟩ := List.mem_map.1 hu; rfl

set_option maxRecDepth 100000 in
set_option maxHeartbeats 4000000 in
theorem ints_any (A : Option Addr) (a : List Nat) (c : Nat) (B : Option Addr) (b : List Nat) (d : Nat) (w : World) (ha : a.length ≤ 1000000) (hb : b.length ≤ 1000000) (hra : Rd w A (nvL a)) (hrb : Rd w B (nvL b)) :
    Calls Tryz.prog 13 #[.slice A a.length c, .slice B b.length d] w fun e w' => e = .returned (.bool (decide (a = b))) ∧ Keep w w' := by
  obtain ⟨R, hR⟩ : ∃ R, decide (a = b) = R := ⟨_, rfl⟩
  rw [hR]
  have HR := Lib.hid hR
  have RA := Lib.hid hra; have RB := Lib.hid hrb
  clear hR hra hrb
  have HK : Hid (Keep w w) := Lib.hid (Below.refl _ _)
  go_enter Tryz.func13, Tryz.ntmps13
  by_cases hl : a.length = b.length
  case neg =>
    have hv : R = false := by rw [← HR.out]; simp; intro e; rw [e] at hl; exact hl rfl
    subst hv
    have d1 : ((a.length : Int) != (b.length : Int)) = true := by simp; omega
    clear HR
    go_wp2
    exact bodyPost_ret (v := .bool false) (by simp [results, Tryz.results13]) rfl ⟨rfl, HK.out⟩
  obtain ⟨n, hn⟩ : ∃ n, b.length = n := ⟨_, rfl⟩
  rw [hn] at hl
  have HLA := Lib.hid hl; have HLB := Lib.hid hn
  rw [hl, hn]
  rw [hl] at ha
  clear hl hn hb
  go_wp2_with fail
  go_loopw [5] (fun s wr => ∃ k : Nat, k ≤ n ∧ s = .int .i64 k ∧ Hid (∀ m, m < k → a[m]? = b[m]?) ∧ Hid (Keep w wr)) (fun s _ => n - (intOf s).toNat)
  case atStart => exact ⟨0, Nat.zero_le _, rfl, Lib.hid fun m hm => absurd hm (Nat.not_lt_zero _), HK⟩
  case round =>
    obtain ⟨k, hk, rfl, HEQ, HKr⟩ := hrel
    by_cases hlt : k < n
    · obtain ⟨x, hx⟩ : ∃ x, a[k]? = some x := ⟨_, List.getElem?_eq_getElem (by rw [HLA.out]; exact hlt)⟩
      obtain ⟨y, hy⟩ : ∃ y, b[k]? = some y := ⟨_, List.getElem?_eq_getElem (by rw [HLB.out]; exact hlt)⟩
      obtain ⟨ba, oa, hA0, hcx⟩ := nv_at RA.out hx
      obtain ⟨bb, ob, hB0, hcy⟩ := nv_at RB.out hy
      cases hA0; cases hB0
      have HX := Lib.hid hx; have HY := Lib.hid hy
      have HCX := Lib.hid hcx; have HCY := Lib.hid hcy
      have d2 : (k : Int) < n := by omega
      clear hx hy hcx hcy
      go_upto_region 6 with fail
      refine wp_region_tree (.take [0,1,2,3,4,5,6,7,8] .done) [] (by kernel_rfl) (by kernel_rfl) (fun w3 k3 => ?_)
      have HK3 := Lib.hid (keep_trans HKr.out k3)
      have c0 := aft_cell (keep_cell HK3.out HCX.out); have c1 := aft_cell (keep_cell HK3.out HCY.out)
      clear k3 HKr HCX HCY
      refine mt_take w3 (Below.refl _ _) ?_
      simp only [pick_cons, pick_nil, nth_zero, nth_succ]
      repeat (go_big_quiet_step (fail))
      refine wpQuiet_nil (mt_end ?_)
      clear c0 c1
      by_cases hxy : x = y
      · have s1 : ((x : Int) != (y : Int)) = false := by simp [hxy]
        have HN : Hid (∀ m, m < k + 1 → a[m]? = b[m]?) := Lib.hid fun m hm => by
          by_cases q : m = k
          · rw [q, HX.out, HY.out, hxy]
          · exact HEQ.out m (by omega)
        clear hxy HEQ HX HY HR
        go_wp2
        go_roundw
        case rel => exact ⟨k + 1, by omega, by go_num, HN, HK3⟩
        case measure => simp [intOf]; omega
      · have s1 : ((x : Int) != (y : Int)) = true := by simp; omega
        have hv : R = false := by
          rw [← HR.out, decide_eq_false_iff_not]
          intro e
          have h1 := HX.out; have h2 := HY.out
          rw [e, h2] at h1
          exact hxy (Option.some.inj h1).symm
        subst hv
        clear hxy HEQ HX HY HR
        go_wp2
        exact bodyPost_ret (v := .bool false) (by simp [results, Tryz.results13]) rfl ⟨rfl, HK3.out⟩
    · obtain rfl : k = n := by omega
      have d2 : ¬ ((k : Int) < k) := by omega
      have hv : R = true := by
        rw [← HR.out, decide_eq_true_eq]
        apply List.ext_getElem?
        intro m
        by_cases hm : m < k
        · exact HEQ.out m hm
        · rw [List.getElem?_eq_none (by rw [HLA.out]; omega), List.getElem?_eq_none (by rw [HLB.out]; omega)]
      subst hv
      clear HEQ HR
      go_wp2
      exact bodyPost_ret (v := .bool true) (by simp [results, Tryz.results13]) rfl ⟨rfl, HKr.out⟩

end Go.Proofs.YtjbdboekleaklaaGreatDoor

/- ForkReorg: the walk. (printed by gen_to.py) -/
set_option linter.unusedSimpArgs false
set_option linter.unusedVariables false
namespace Go.Proofs.YtjbdboekleaklaaGreatDoor
open Go.RowKit
attribute [local go_sem ↓] Go.wp_at_zero Go.wp_at_succ
set_option maxRecDepth 100000 in
set_option maxHeartbeats 8000000 in
theorem reorg_walk (B : Option Addr) (l : List Hd) (d : Nat) (i j : Int) (w : World) (hS : ShaOk w) (hd : l.length ≤ d) (hdm : d ≤ maxLen) (hr : Rd w B (l.flatMap Hd.cells)) (hk : ∀ h ∈ l, h.ok)
    (hi : -9223372036854775808 ≤ i ∧ i ≤ 9223372036854775807) (hj : -9223372036854775808 ≤ j ∧ j ≤ 9223372036854775807) :
    Calls Tryz.prog 3 #[.slice B l.length d, iv i, iv j] w fun e w' => e = .returned (.bool true) ∧ Keep w w' := by
  have AW : Hid (∀ y, Keep w y → Calls Tryz.prog 8 #[] y fun e w' => e = .returned (.bool true) ∧ Keep y w') := Lib.hid fun y hy => awake_any y (hS.keep hy)
  have PL : Hid (∀ y, Keep w y → l.length ≤ 30 → Calls Tryz.prog 9 #[.slice B l.length d] y fun e w' => ∃ T, e = .returned (pT T) ∧ TrR w' T (plainR l) ∧ Keep y w') := Lib.hid fun y hy h1 =>
    (plainly_any B l d y (hS.keep hy) (by omega) (hr.keep hy) hk).mono fun e w' ⟨T, M, v, h2, h3, h4⟩ => ⟨T, h2, h3.r, h4⟩
  obtain ⟨TR, hlen⟩ := plain_tr l hk
  have HNZ : Hid (l.length ≠ 0 → 0 < (plainR l).length) := Lib.hid fun h => List.length_pos_iff.2 (plain_some fun e => h (by rw [e]; rfl))
  have HN30 := Lib.hid hlen
  clear hS hr hk hd hdm hlen
  generalize plainR l = ns at *
  generalize l.length = n at *
  have ei := low16f i; have ej := low16f j
  obtain ⟨xi, hxi⟩ : ∃ x : Nat, i % 65536 = x := ⟨(i % 65536).toNat, by omega⟩
  obtain ⟨xj, hxj⟩ : ∃ x : Nat, j % 65536 = x := ⟨(j % 65536).toNat, by omega⟩
  rw [hxi] at ei; rw [hxj] at ej
  clear hxi hxj hi hj
  obtain ⟨N, hN⟩ : ∃ N, ns.length = N := ⟨_, rfl⟩
  have LN : Hid (∀ y T, TrR y T ns → Calls Tryz.prog 10 #[pT T] y fun e w' => e = .returned (iv N) ∧ Keep y w') := Lib.hid fun y T hy => by rw [← hN]; exact tlen_any T ns y hy
  have MAIN : Hid (0 < N → N ≤ 30 → ∃ (qa qb : Nat) (La Lb X Y U V : List Nat), qa = xi % N ∧ qb = xj % N ∧ La.length ≤ 30 ∧ Lb.length ≤ 30 ∧
      (X.length < La.length ∧ U.length = Y.length ∧ V.length = X.length ∧ (∀ k, k < X.length → ∃ z, X[k]? = some z ∧ La[La.length - 1 - k]? = some z ∧ V[X.length - 1 - k]? = some z) ∧ La.take (La.length - X.length) ++ Y = Lb ∧ Y.length < Lb.length) ∧
      (∀ y T, TrR y T ns → Calls Tryz.prog 11 #[pT T, iv qa, iv qb] y fun e w' => ∃ v1 v2, e = .returned (.tuple #[v1, v2]) ∧ w'.ownsRow y.heap.size 3 1 v1 X.length (nvL X) ∧ w'.ownsRow y.heap.size 3 1 v2 Y.length (nvL Y) ∧ Keep y w') ∧
      (∀ y T, TrR y T ns → Calls Tryz.prog 11 #[pT T, iv qb, iv qa] y fun e w' => ∃ v1 v2, e = .returned (.tuple #[v1, v2]) ∧ w'.ownsRow y.heap.size 3 1 v1 U.length (nvL U) ∧ w'.ownsRow y.heap.size 3 1 v2 V.length (nvL V) ∧ Keep y w') ∧
      (∀ y T, TrR y T ns → Calls Tryz.prog 12 #[pT T, iv qa] y (Lined y.heap.size La y)) ∧
      (∀ y T, TrR y T ns → Calls Tryz.prog 12 #[pT T, iv qb] y (Lined y.heap.size Lb y))) := Lib.hid fun h0 h30 => by
    have hqa : xi % N < ns.length := by rw [hN]; exact Nat.mod_lt _ h0
    have hqb : xj % N < ns.length := by rw [hN]; exact Nat.mod_lt _ h0
    obtain ⟨r, hr⟩ := line_zero TR hqa
    obtain ⟨s, hs⟩ := line_zero TR hqb
    have l1 := lineO_len TR ((xi % N : Nat) : Int); have l2 := lineO_len TR ((xj % N : Nat) : Int)
    exact ⟨xi % N, xj % N, _, _, _, _, _, _, rfl, rfl, by omega, by omega, reorg_law hr hs, fun y T hy => reorg_any T ns _ _ y hy TR (by omega) (by omega) (by omega), fun y T hy => reorg_any T ns _ _ y hy TR (by omega) (by omega) (by omega), fun y T hy => line_any T ns _ y hy TR (by omega) (by omega), fun y T hy => line_any T ns _ y hy TR (by omega) (by omega)⟩
  rw [hN] at HNZ HN30
  clear hN TR
  unfold Lined at *
  have HK : Hid (Keep w w) := Lib.hid (Below.refl _ _)
  go_enter Tryz.func3, Tryz.ntmps3
  go_wp2_with fail
  refine (AW.out _ HK.out).mono ?_
  clear AW
  rintro e w1 ⟨rfl, k1⟩
  have HK1 := Lib.hid k1
  clear k1 HK
  by_cases hn : 30 < n
  · have d1 : (30 : Int) < n := by omega
    clear PL LN MAIN HNZ HN30
    go_wp2
    exact bodyPost_ret (v := .bool true) (by simp [results, Tryz.results3]) rfl ⟨rfl, HK1.out⟩
  have d1 : ¬ (30 : Int) < n := by omega
  by_cases h0 : n = 0
  · subst h0
    clear PL LN MAIN HNZ HN30
    go_wp2
    exact bodyPost_ret (v := .bool true) (by simp [results, Tryz.results3]) rfl ⟨rfl, HK1.out⟩
  have hn2 : n ≤ 30 := by omega
  have hNp := HNZ.out h0
  have hN30 := HN30.out
  obtain ⟨qa, qb, La, Lb, X, Y, U, V, hqa, hqb, hla, hlb, ⟨f1, f2, f3, f4, f5, f6⟩, RE1, RE2, LI1, LI2⟩ := MAIN.out hNp (by omega)
  have RE1 := Lib.hid RE1; have RE2 := Lib.hid RE2; have LI1 := Lib.hid LI1; have LI2 := Lib.hid LI2
  have F4 := Lib.hid f4; have F5 := Lib.hid f5
  have g0 : (n == 0) = false := by simp [h0]
  have g00 : ((n : Int) == 0) = false := by rw [beq_eq_false_iff_ne]; omega
  have gN : (N == 0) = false := by rw [beq_eq_false_iff_ne]; omega
  have gNN : ((N : Int) == 0) = false := by rw [beq_eq_false_iff_ne]; omega
  have gN0 : ¬ N = 0 := by omega
  have ta : (xi : Int).tmod (N : Int) = (qa : Int) := by rw [hqa, Int.tmod_eq_emod_of_nonneg (by omega)]; simp
  have tb : (xj : Int).tmod (N : Int) = (qb : Int) := by rw [hqb, Int.tmod_eq_emod_of_nonneg (by omega)]; simp
  have ta2 : (xi : Int) % (N : Int) = (qa : Int) := by rw [hqa]; simp
  have tb2 : (xj : Int) % (N : Int) = (qb : Int) := by rw [hqb]; simp
  have wa : IntKind.i64.wrap (qa : Int) = qa := IntWalk.i64_in _ (by have := Nat.mod_lt xi hNp; omega)
  have wb : IntKind.i64.wrap (qb : Int) = qb := IntWalk.i64_in _ (by have := Nat.mod_lt xj hNp; omega)
  clear f4 f5 hqa hqb MAIN HNZ HN30
  go_wp2_with fail
  refine (PL.out _ HK1.out hn2).mono ?_
  clear PL
  rintro e w2 ⟨T, rfl, hT, k2⟩
  have HT2 := Lib.hid hT; have HK2 := Lib.hid (keep_trans HK1.out k2)
  clear hT k2 HK1
  go_wp2_with fail
  refine (LN.out _ T HT2.out).mono ?_
  rintro e w3 ⟨rfl, k3⟩
  have HT3 := Lib.hid (HT2.out.keep k3); have HK3 := Lib.hid (keep_trans HK2.out k3)
  clear k3 HT2 HK2
  go_wp2_with fail
  refine (LN.out _ T HT3.out).mono ?_
  rintro e w4 ⟨rfl, k4⟩
  have HT4 := Lib.hid (HT3.out.keep k4); have HK4 := Lib.hid (keep_trans HK3.out k4)
  clear k4 HT3 HK3
  go_wp2_with fail
  refine (LN.out _ T HT4.out).mono ?_
  rintro e w5 ⟨rfl, k5⟩
  have HT5 := Lib.hid (HT4.out.keep k5); have HK5 := Lib.hid (keep_trans HK4.out k5)
  clear k5 HT4 HK4
  clear LN
  go_wp2_with fail
  clear ei ej ta tb ta2 tb2 gNN gN gN0
  refine (RE1.out _ T HT5.out).mono ?_
  clear RE1
  rintro e w6 ⟨v1, v2, rfl, o1, o2, k6⟩
  obtain ⟨A1, c1, rfl, hc1, hm1, r1⟩ := own_form o1
  obtain ⟨A2, c2, rfl, hc2, hm2, r2⟩ := own_form o2
  have RX := Lib.hid r1; have RY := Lib.hid r2
  have HT6 := Lib.hid (HT5.out.keep k6); have HK6 := Lib.hid (keep_trans HK5.out k6)
  clear o1 o2 r1 r2 k6 HT5 HK5
  go_wp2_with fail
  refine (RE2.out _ T HT6.out).mono ?_
  clear RE2
  rintro e w7 ⟨v1, v2, rfl, o1, o2, k7⟩
  obtain ⟨A3, c3, rfl, hc3, hm3, r1⟩ := own_form o1
  obtain ⟨A4, c4, rfl, hc4, hm4, r2⟩ := own_form o2
  have RV := Lib.hid r2
  have RX7 := Lib.hid (RX.out.keep k7); have RY7 := Lib.hid (RY.out.keep k7)
  have HT7 := Lib.hid (HT6.out.keep k7); have HK7 := Lib.hid (keep_trans HK6.out k7)
  clear o1 o2 r1 r2 k7 HT6 HK6 RX RY
  go_wp2_with fail
  refine (LI1.out _ T HT7.out).mono ?_
  clear LI1
  rintro e w8 ⟨v1, rfl, o1, k8⟩
  obtain ⟨A5, c5, rfl, hc5, hm5, r1⟩ := own_form o1
  have RLa := Lib.hid r1
  have RX8 := Lib.hid (RX7.out.keep k8); have RY8 := Lib.hid (RY7.out.keep k8); have RV8 := Lib.hid (RV.out.keep k8)
  have HT8 := Lib.hid (HT7.out.keep k8); have HK8 := Lib.hid (keep_trans HK7.out k8)
  clear o1 r1 k8 HT7 HK7 RX7 RY7 RV
  have d3 : ¬ (La.length : Int) < X.length := by omega
  have d4 : ((U.length : Int) != (Y.length : Int)) = false := by simp; omega
  have d5 : ((V.length : Int) != (X.length : Int)) = false := by simp; omega
  obtain ⟨la, hlla⟩ : ∃ n, La.length = n := ⟨_, rfl⟩
  obtain ⟨lx, hllx⟩ : ∃ n, X.length = n := ⟨_, rfl⟩
  obtain ⟨ly, hlly⟩ : ∃ n, Y.length = n := ⟨_, rfl⟩
  have hllu : U.length = ly := by omega
  have hllv : V.length = lx := by omega
  rw [hllu, hlly] at d4; rw [hllv, hllx] at d5; rw [hlla, hllx] at d3
  have HLA := Lib.hid hlla; have HLX := Lib.hid hllx; have HLY := Lib.hid hlly
  have f1' : lx < la := by omega
  have f6' : ly < Lb.length := by omega
  have hla' : la ≤ 30 := by omega
  rw [hlla, hllx] at F4 F5
  try rw [hlla]
  try rw [hllx]
  try rw [hlly]
  try rw [hllu]
  try rw [hllv]
  clear f1 f2 f3 f6 hla hlla hllx hlly hllu hllv hc1 hc2 hc3 hc4 hm1 hm2 hm3 hm4
  obtain ⟨w0, hw0⟩ : ∃ w0, w0 = w8 := ⟨_, rfl⟩
  go_upto_region 14 with fail
  clear d3 d4 d5
  go_wp2_with fail
  go_loopw [16] (fun s wr => ∃ k : Nat, k ≤ lx ∧ s = .int .i64 k ∧ Hid (Keep w8 wr)) (fun s _ => lx - (intOf s).toNat)
  case atStart => exact ⟨0, Nat.zero_le _, rfl, Lib.hid (Below.refl _ _)⟩
  case round =>
    obtain ⟨k, hk, rfl, HKr⟩ := hrel
    by_cases hlt : k < lx
    · obtain ⟨z, z1, z2, z3⟩ := F4.out k hlt
      obtain ⟨b1, o1, hA1, q1⟩ := nv_at RX8.out z1
      obtain ⟨b2, o2, hA2, q2⟩ := nv_at RLa.out z2
      obtain ⟨b3, o3, hA3, q3⟩ := nv_at RV8.out z3
      cases hA1; cases hA2; cases hA3
      have Q1 := Lib.hid q1; have Q2 := Lib.hid q2; have Q3 := Lib.hid q3
      have e3 : (la : Int) - 1 = ((la - 1 : Nat) : Int) := by omega
      have e4 : (lx : Int) - 1 = ((lx - 1 : Nat) : Int) := by omega
      have d2 : (k : Int) < lx := by omega
      have s1 : ((z : Int) != (z : Int)) = false := by simp
      clear z1 z2 z3 q1 q2 q3
      go_upto_region 17 with fail
      refine wp_region_tree (.take [0,1,2,3,4,5,6,7,8,9,10,11,12,13,14,15,16,17,18,19,20,21,22,23,24,25,26,27] .done) [] (by kernel_rfl) (by kernel_rfl) (fun w9 k9 => ?_)
      have HK9 := Lib.hid (keep_trans HKr.out k9)
      have t1 := aft_cell (keep_cell HK9.out Q1.out); have t2 := aft_cell (keep_cell HK9.out Q2.out); have t3 := aft_cell (keep_cell HK9.out Q3.out)
      clear k9 HKr Q1 Q2 Q3
      refine mt_take w9 (Below.refl _ _) ?_
      simp only [pick_cons, pick_nil, nth_zero, nth_succ]
      repeat (go_big_quiet_step (fail))
      refine wpQuiet_nil (mt_end ?_)
      clear t1 t2 t3
      go_wp2
      go_roundw
      case rel => exact ⟨k + 1, by omega, by go_num, HK9⟩
      case measure => simp [intOf]; omega
    · obtain rfl : k = lx := by omega
      have d2 : ¬ ((k : Int) < k) := by omega
      have RLar := Lib.hid (RLa.out.keep HKr.out); have RYr := Lib.hid (RY8.out.keep HKr.out)
      have HTr := Lib.hid (HT8.out.keep HKr.out); have HK10 := Lib.hid (keep_trans HK8.out HKr.out)
      obtain ⟨x0, hx0⟩ : ∃ x, La[0]? = some x := ⟨_, List.getElem?_eq_getElem (by rw [HLA.out]; omega)⟩
      obtain ⟨b2, o2, hA2, -⟩ := nv_at RLar.out hx0
      cases hA2
      obtain ⟨m, hm⟩ : ∃ m, la - k = m := ⟨_, rfl⟩
      have e1 : (la : Int) - (k : Int) = m := by omega
      rw [HLA.out] at hc5
      have hmc : m ≤ c5 := by omega
      rw [hm] at F5
      have RT : Hid (Rd wr (some ⟨b2, o2, none⟩) (nvL (La.take m))) := Lib.hid (by rw [← nvL_take]; exact RLar.out.take m)
      have hTL : Hid ((nvL (La.take m)).length = m * 1) := Lib.hid (by rw [nvL_len, List.length_take, HLA.out]; omega)
      have hYL : Hid ((nvL Y).length = ly * 1) := Lib.hid (by rw [nvL_len, HLY.out]; omega)
      have hcd0 : ¬ c5 = 0 := by omega
      have hla2 : la ≤ c5 := by omega
      have hmla : m ≤ la := by omega
      clear hx0 HKr RLa RX8 RV8 RY8 HT8 HK8 F4 RLar
      go_upto_region 20 with (at_builtin; refine wpList_app intT (by rfl) _ _ (by rfl) wr.heap.size _ 0 [] (by rfl) (own_zero _ _ _) _ m _ (nvL (La.take m)) (by rfl) hTL.out (RT.out.alloc _) (nvL_one _) (by omega) (by unfold maxLen; omega) (by simp) ?_; intro v6 w6 own6 hg6 hat6; rw [List.nil_append, Nat.zero_add] at own6; have k6 := keep_grown (keep_new _ _) (by simp) hg6 (own_zero _ _ 1); obtain ⟨A6, c6, rfl, hc6, hm6, -⟩ := own_form own6; have Own6 := Lib.hid own6; have K6 := Lib.hid k6; clear own6 hg6 hat6 k6)
      have RY6 := Lib.hid (RYr.out.keep K6.out)
      have hs6 := K6.out.size
      go_upto_region 21 with (at_builtin; refine wpList_app intT (by rfl) _ _ (by rfl) wr.heap.size _ m _ (by rfl) Own6.out _ ly _ (nvL Y) (by rfl) hYL.out RY6.out (nvL_one _) (by omega) (by unfold maxLen; omega) (by omega) ?_; intro v7 w7b own7 hg7 hat7; have k7 := keep_grown K6.out (by omega) hg7 Own6.out; rw [← nvL_app, F5.out] at own7; have Own7 := Lib.hid own7; have K7 := Lib.hid k7; clear own7 hg7 hat7 k7)
      obtain ⟨A7, c7, rfl, hc7, hm7, hr7⟩ := own_form Own7.out
      have HLB : Hid (m + ly = Lb.length) := Lib.hid (by rw [← F5.out, List.length_append, List.length_take, HLA.out, HLY.out]; omega)
      have R7 := Lib.hid hr7
      have HT7 := Lib.hid (HTr.out.keep K7.out); have HKf := Lib.hid (keep_trans HK10.out K7.out)
      clear hr7 Own6 Own7 RYr RY6 K6 K7 RT
      go_wp2_with fail
      refine (LI2.out _ T HT7.out).mono ?_
      clear LI2
      rintro e wx ⟨v1, rfl, o1, kx⟩
      obtain ⟨A8, c8, rfl, hc8, hm8, r8⟩ := own_form o1
      have II := ints_any A7 Lb c7 A8 Lb c8 wx (by omega) (by omega) (R7.out.keep kx) r8
      rw [decide_eq_true rfl] at II
      have II2 : Hid (Calls Tryz.prog 13 #[.slice A7 (m + ly) c7, .slice A8 Lb.length c8] wx fun e w' => e = .returned (.bool true) ∧ Keep wx w') := Lib.hid (by rw [HLB.out]; exact II)
      have HKx := Lib.hid (keep_trans HKf.out kx)
      clear II o1 r8 kx R7
      go_wp2_with fail
      refine II2.out.mono ?_
      clear II2
      rintro e wy ⟨rfl, ky⟩
      have HKy := Lib.hid (keep_trans HKx.out ky)
      have hpm : 0 < m := by omega
      have d9 : (ly : Int) < (m : Int) + (ly : Int) := by omega
      clear ky
      go_wp2
      exact bodyPost_ret (v := .bool true) (by simp [results, Tryz.results3]) rfl ⟨rfl, HKy.out⟩
end Go.Proofs.YtjbdboekleaklaaGreatDoor
