/- Texts merged by pack.py: Pt, OpB, MgO. -/
import Derived.Test.YtimggloacjbnjaaCWireShort14
import Derived.Test.YtimggloacjbnjaaCx7
import Derived.Test.YtimggloacjbnjaaCx2
import Derived.WalkKit
import Derived.ProofKit
import Derived.OpenShut
import Derived.Test.YtimggloacjbnjaaCWireShort13
/- WireShort. (printed by gen_pt.py) -/
set_option linter.unusedSimpArgs false
set_option linter.unusedVariables false
namespace Go.Proofs.Ytimggloacjbnjaa
open Go.RowKit
attribute [local go_sem ↓] Go.wp_at_zero Go.wp_at_succ

theorem low16w (n : Int) : bits .and .i64 n 65535 = n % 65536 := by
  have h127 : (BitVec.ofInt 64 65535).toNat = 2 ^ 16 - 1 := by decide
  have key : (BitVec.ofInt 64 n &&& BitVec.ofInt 64 65535).toNat = (n % ((2 ^ 64 : Nat) : Int)).toNat % 2 ^ 16 := by
    rw [BitVec.toNat_and, BitVec.toNat_ofInt, h127, Nat.and_two_pow_sub_one_eq_mod]
  show IntKind.i64.wrap ((BitVec.ofInt 64 n &&& BitVec.ofInt 64 65535).toNat : Nat) = n % 65536
  rw [key, IntKind.wrap_i64]
  omega

set_option maxRecDepth 100000 in
set_option maxHeartbeats 16000000 in
theorem short_walk (m : MsgR) (cs : Array Value) (k : Int) (w : World) (hA : MsB m cs) (h : m.at_ w) :
    Calls Try.prog 7 #[.agg cs, .int .i64 k] w fun e w' => e = .returned (.bool true) ∧ Keep w w' := by
  have AW := Lib.hid awake_any
  have hcn := hA.n; have hcz := hA.z; have hci := hA.i
  have FW : Hid (∀ y, Keep w y → Calls Try.prog 9 #[.agg cs] y fun e w' => e = .returned (.bool (fewM m)) ∧ Keep y w') := Lib.hid fun y hy => few09_any m cs hA y (h.keep hy)
  have HA := Lib.hid hA; have H0 := Lib.hid h
  cases hfew : fewM m with
  | false =>
    rw [hfew] at FW
    clear hA h hfew
    go_enter Try.func7, Try.ntmps7
    go_upto_region 1 with fail
    obtain ⟨w1, hw1⟩ : ∃ w1, w1 = w.alloc (.cells cs 39) := ⟨_, rfl⟩
    have HB1 : Hid (Blk w1 w.heap.size 39 cs.toList) := by rw [hw1]; exact Lib.hid (Blk.new w _ cs.toList)
    have HK1 : Hid (Keep w w1) := by rw [hw1]; exact Lib.hid (keep_new _ _)
    rw [← hw1]
    clear hw1
    go_wp2_with (first | ((with_reducible refine load_arr w.heap.size cs (Eq.trans ?_ rfl) HB2.out _ Try.underlying39 rfl hci ?_); rfl) | (go_at_call 8; refine (AW.out _).mono ?_; rintro e w2 ⟨rfl, k2⟩; have HK2 := Lib.hid (keep_trans HK1.out k2); have HB2 := Lib.hid (HB1.out.keep k2); clear k2) | (go_at_call 9; refine (FW.out _ HK2.out).mono ?_; rintro e w3 ⟨rfl, k3⟩; have HK3 := Lib.hid (keep_trans HK2.out k3); have HB3 := Lib.hid (HB2.out.keep k3); clear k3))
    exact bodyPost_ret (v := .bool true) (by simp [results, Try.results7]) rfl ⟨rfl, HK3.out⟩
  | true =>
    rw [hfew] at FW
    have hq : (m.hs.length ≤ 40 ∧ m.ls.length ≤ 150 ∧ m.is.length ≤ 100 ∧ m.shs.length ≤ 100 ∧ m.fs.length ≤ 1100) ∧ fewT m.t = true := by
      unfold fewM at hfew
      rwa [Bool.and_eq_true, decide_eq_true_eq] at hfew
    have hqt := hq.2
    unfold fewT at hqt
    rw [decide_eq_true_eq] at hqt
    have L1 := hqt.2.2.1; have L2 := hqt.2.2.2
    have MS : Hid (∀ y, Keep w y → Calls Try.prog 10 #[.agg cs] y fun e w' => ∃ m' ds, e = .returned (.agg ds) ∧ MsA m' ds ∧ m'.pl = m.pl ∧ m'.at_ w' ∧ Keep y w') := Lib.hid fun y hy => lmsg_any m cs hA y (h.keep hy) (by omega) (by omega) (by have := hq.1.2.2.1; omega)
    have hpl := put_len h
    have FT : Hid (∀ m' ds y, MsA m' ds → m'.pl = m.pl → m'.at_ y → Calls Try.prog 17 #[.agg ds] y fun e w' => e = .returned (.bool (fitsB m)) ∧ Keep y w') := Lib.hid fun m' ds y h1 h2 h3 => by
      have q := fits_any m' ds h1 h3.o y h3.t
      rwa [(pl_at h2).2.1] at q
    cases hfit : fitsB m with
    | false =>
      rw [hfit] at FT
      clear hA h hfew hq hqt L1 L2 hpl hfit
      go_enter Try.func7, Try.ntmps7
      go_upto_region 1 with fail
      obtain ⟨w1, hw1⟩ : ∃ w1, w1 = w.alloc (.cells cs 39) := ⟨_, rfl⟩
      have HB1 : Hid (Blk w1 w.heap.size 39 cs.toList) := by rw [hw1]; exact Lib.hid (Blk.new w _ cs.toList)
      have HK1 : Hid (Keep w w1) := by rw [hw1]; exact Lib.hid (keep_new _ _)
      rw [← hw1]
      clear hw1
      go_wp2_with (first | ((with_reducible refine load_arr w.heap.size cs (Eq.trans ?_ rfl) HB2.out _ Try.underlying39 rfl hci ?_); rfl) | ((with_reducible refine load_partg w.heap.size 0 cs (Eq.trans ?_ rfl) (range_of HB3.out 0 cs.toList (by simp [List.take_of_length_le])) _ Try.underlying39 rfl hci (Eq.trans ?_ rfl) ?_); rfl; rfl) | (go_at_call 8; refine (AW.out _).mono ?_; rintro e w2 ⟨rfl, k2⟩; have HK2 := Lib.hid (keep_trans HK1.out k2); have HB2 := Lib.hid (HB1.out.keep k2); clear k2) | (go_at_call 9; refine (FW.out _ HK2.out).mono ?_; rintro e w3 ⟨rfl, k3⟩; have HK3 := Lib.hid (keep_trans HK2.out k3); have HB3 := Lib.hid (HB2.out.keep k3); clear k3) | (go_at_call 10; refine (MS.out _ HK3.out).mono ?_; rintro e w4 ⟨m4, ds4, rfl, hA, hm, ha, k⟩; have HA4 := Lib.hid hA; have hn4 := hA.n; have hz4 := hA.z; have hi4 := hA.i; have HM4 := Lib.hid hm; have HT4 := Lib.hid ha; have HK4 := Lib.hid (keep_trans HK3.out k); have HB4 := Lib.hid (HB3.out.keep k); clear hA hm ha k) | (go_at_call 17; refine (FT.out m4 ds4 _ HA4.out HM4.out HT4.out).mono ?_; rintro e w5 ⟨rfl, k5⟩; have HK5 := Lib.hid (keep_trans HK4.out k5); have HB5 := Lib.hid (HB4.out.keep k5); clear k5))
      exact bodyPost_ret (v := .bool true) (by simp [results, Try.results7]) rfl ⟨rfl, HK5.out⟩
    | true =>
      rw [hfit] at FT
      have PT : Hid (∀ m' ds y, MsA m' ds → m'.pl = m.pl → m'.at_ y → Calls Try.prog 11 #[.agg ds] y fun e w' => ∃ A2 c2, e = .returned (.tuple #[.slice A2 (putL m).length c2, iv 0]) ∧ Rd w' A2 ((putL m).map u8v) ∧ ((putL m).length ≤ c2 ∧ c2 ≤ maxLen) ∧ Keep y w') := Lib.hid fun m' ds y h1 h2 h3 => by
        refine (put_any m' ds h1 y h3).mono ?_
        have f1 : fitsB m' = true := by rw [(pl_at h2).2.1, hfit]
        rw [f1, (pl_at h2).2.2, if_pos rfl]
        rintro e w' ⟨v, rfl, o, k⟩
        obtain ⟨A2, c2, rfl, q1, q2, q3⟩ := own_form o
        exact ⟨A2, c2, rfl, q3, ⟨q1, q2⟩, k⟩
      have NM : Hid (∀ y, Calls Try.prog 21 #[.int .i64 m.kind] y fun e w' => e = .returned (.string (str (nameL m.kind))) ∧ Keep y w') := Lib.hid fun y => name_any m.kind y
      have GC : Hid (∀ A c j y, j < (putL m).length → (putL m).length ≤ c → c ≤ maxLen → Rd y A ((putL m).map u8v) → Calls Try.prog 13 #[.string (str (nameL m.kind)), .slice A j c] y fun e w' => ∃ m' ds, e = .returned (.tuple #[.agg ds, iv 1]) ∧ MsA m' ds ∧ m'.pl = msgZ 0 ∧ Keep y w') := Lib.hid fun A c j y q0 q1 q2 q3 => by
        have e1 : ((putL m).take j).length = j := by rw [List.length_take]; omega
        have q := get_any (nameL m.kind) A ((putL m).take j) c y (by omega) (by omega) q2 (by rw [List.map_take]; exact q3.take j)
        rw [e1] at q
        refine q.mono ?_
        rw [wget_cut h hfit q0]
        rintro e w' ⟨m', rfl, hm, ha, hk⟩
        exact ⟨m', _, rfl, MsA.of ha.o, hm, hk⟩
      have K1 : Hid (putL m = [] → m.kind = 1) := Lib.hid (put_nil h hfit)
      have HKD : Hid (∀ y, Blk y w.heap.size 39 cs.toList → y.cell? ⟨w.heap.size, 0, none⟩ = some (.int .i64 m.kind)) := Lib.hid fun y hy => by rw [hy.cell, hA.l]; rfl
      obtain ⟨ys, hyz, hyA⟩ := zmsg_letter
      have hyn := hyA.n; have hys := hyA.z
      have HYZ := Lib.hid hyA
      clear hA h hfew hq hqt L1 L2 hfit
      obtain ⟨n, hn⟩ : ∃ n, (putL m).length = n := ⟨_, rfl⟩
      have HN := Lib.hid hn
      rw [hn] at PT GC hpl
      clear hn hyA
      generalize putL m = pb at *
      by_cases hn0 : n = 0
      · have hpb : pb = [] := List.eq_nil_of_length_eq_zero (by rw [HN.out, hn0])
        have hk1 := K1.out hpb
        have HKI := Lib.hid hk1
        subst hn0
        clear hpb K1 hk1
        go_enter Try.func7, Try.ntmps7
        go_upto_region 1 with fail
        obtain ⟨w1, hw1⟩ : ∃ w1, w1 = w.alloc (.cells cs 39) := ⟨_, rfl⟩
        have HB1 : Hid (Blk w1 w.heap.size 39 cs.toList) := by rw [hw1]; exact Lib.hid (Blk.new w _ cs.toList)
        have HK1 : Hid (Keep w w1) := by rw [hw1]; exact Lib.hid (keep_new _ _)
        rw [← hw1]
        clear hw1
        go_upto_region 5 with (first | ((with_reducible refine load_arr w.heap.size cs (Eq.trans ?_ rfl) HB2.out _ Try.underlying39 rfl hci ?_); rfl) | ((with_reducible refine load_partg w.heap.size 0 cs (Eq.trans ?_ rfl) (range_of HB3.out 0 cs.toList (by simp [List.take_of_length_le])) _ Try.underlying39 rfl hci (Eq.trans ?_ rfl) ?_); rfl; rfl) | ((with_reducible refine load_arr w.heap.size cs (Eq.trans ?_ rfl) HB5.out _ Try.underlying39 rfl hci ?_); rfl) | (go_at_call 8; refine (AW.out _).mono ?_; rintro e w2 ⟨rfl, k2⟩; have HK2 := Lib.hid (keep_trans HK1.out k2); have HB2 := Lib.hid (HB1.out.keep k2); clear k2) | (go_at_call 9; refine (FW.out _ HK2.out).mono ?_; rintro e w3 ⟨rfl, k3⟩; have HK3 := Lib.hid (keep_trans HK2.out k3); have HB3 := Lib.hid (HB2.out.keep k3); clear k3) | (go_at_call 10; refine (MS.out _ HK5.out).mono ?_; rintro e w6 ⟨m6, ds6, rfl, hA, hm, ha, k⟩; have HA6 := Lib.hid hA; have hn6 := hA.n; have hz6 := hA.z; have hi6 := hA.i; have HM6 := Lib.hid hm; have HT6 := Lib.hid ha; have HK6 := Lib.hid (keep_trans HK5.out k); have HB6 := Lib.hid (HB5.out.keep k); clear hA hm ha k) | (go_at_call 10; refine (MS.out _ HK3.out).mono ?_; rintro e w4 ⟨m4, ds4, rfl, hA, hm, ha, k⟩; have HA4 := Lib.hid hA; have hn4 := hA.n; have hz4 := hA.z; have hi4 := hA.i; have HM4 := Lib.hid hm; have HT4 := Lib.hid ha; have HK4 := Lib.hid (keep_trans HK3.out k); have HB4 := Lib.hid (HB3.out.keep k); clear hA hm ha k) | (go_at_call 17; refine (FT.out m4 ds4 _ HA4.out HM4.out HT4.out).mono ?_; rintro e w5 ⟨rfl, k5⟩; have HK5 := Lib.hid (keep_trans HK4.out k5); have HB5 := Lib.hid (HB4.out.keep k5); clear k5) | (go_at_call 11; refine (PT.out m6 ds6 _ HA6.out HM6.out HT6.out).mono ?_; rintro e w7 ⟨A7, c7, rfl, r7, cp7, k7⟩; have HK7 := Lib.hid (keep_trans HK6.out k7); have HB7 := Lib.hid (HB6.out.keep k7); have HR7 := Lib.hid r7; have HC7 := Lib.hid cp7; clear r7 cp7 k7))
        have c0 := HKD.out _ HB7.out
        rw [HKI.out] at c0
        go_wp2
        exact bodyPost_ret (v := .bool true) (by simp [results, Try.results7]) rfl ⟨rfl, HK7.out⟩
      · have d0 : ((n : Int) == 0) = false := by rw [beq_eq_false_iff_ne]; omega
        go_enter Try.func7, Try.ntmps7
        go_upto_region 1 with fail
        obtain ⟨w1, hw1⟩ : ∃ w1, w1 = w.alloc (.cells cs 39) := ⟨_, rfl⟩
        have HB1 : Hid (Blk w1 w.heap.size 39 cs.toList) := by rw [hw1]; exact Lib.hid (Blk.new w _ cs.toList)
        have HK1 : Hid (Keep w w1) := by rw [hw1]; exact Lib.hid (keep_new _ _)
        rw [← hw1]
        clear hw1
        go_upto_region 7 with (first | ((with_reducible refine load_arr w.heap.size cs (Eq.trans ?_ rfl) HB2.out _ Try.underlying39 rfl hci ?_); rfl) | ((with_reducible refine load_partg w.heap.size 0 cs (Eq.trans ?_ rfl) (range_of HB3.out 0 cs.toList (by simp [List.take_of_length_le])) _ Try.underlying39 rfl hci (Eq.trans ?_ rfl) ?_); rfl; rfl) | ((with_reducible refine load_arr w.heap.size cs (Eq.trans ?_ rfl) HB5.out _ Try.underlying39 rfl hci ?_); rfl) | (go_at_call 8; refine (AW.out _).mono ?_; rintro e w2 ⟨rfl, k2⟩; have HK2 := Lib.hid (keep_trans HK1.out k2); have HB2 := Lib.hid (HB1.out.keep k2); clear k2) | (go_at_call 9; refine (FW.out _ HK2.out).mono ?_; rintro e w3 ⟨rfl, k3⟩; have HK3 := Lib.hid (keep_trans HK2.out k3); have HB3 := Lib.hid (HB2.out.keep k3); clear k3) | (go_at_call 10; refine (MS.out _ HK5.out).mono ?_; rintro e w6 ⟨m6, ds6, rfl, hA, hm, ha, k⟩; have HA6 := Lib.hid hA; have hn6 := hA.n; have hz6 := hA.z; have hi6 := hA.i; have HM6 := Lib.hid hm; have HT6 := Lib.hid ha; have HK6 := Lib.hid (keep_trans HK5.out k); have HB6 := Lib.hid (HB5.out.keep k); clear hA hm ha k) | (go_at_call 10; refine (MS.out _ HK3.out).mono ?_; rintro e w4 ⟨m4, ds4, rfl, hA, hm, ha, k⟩; have HA4 := Lib.hid hA; have hn4 := hA.n; have hz4 := hA.z; have hi4 := hA.i; have HM4 := Lib.hid hm; have HT4 := Lib.hid ha; have HK4 := Lib.hid (keep_trans HK3.out k); have HB4 := Lib.hid (HB3.out.keep k); clear hA hm ha k) | (go_at_call 17; refine (FT.out m4 ds4 _ HA4.out HM4.out HT4.out).mono ?_; rintro e w5 ⟨rfl, k5⟩; have HK5 := Lib.hid (keep_trans HK4.out k5); have HB5 := Lib.hid (HB4.out.keep k5); clear k5) | (go_at_call 11; refine (PT.out m6 ds6 _ HA6.out HM6.out HT6.out).mono ?_; rintro e w7 ⟨A7, c7, rfl, r7, cp7, k7⟩; have HK7 := Lib.hid (keep_trans HK6.out k7); have HB7 := Lib.hid (HB6.out.keep k7); have HR7 := Lib.hid r7; have HC7 := Lib.hid cp7; clear r7 cp7 k7))
        have c0 := HKD.out _ HB7.out
        obtain ⟨r, hr⟩ : ∃ r : Nat, bits .and .i64 k 65535 = (r : Int) := ⟨(k % 65536).toNat, by rw [low16w]; omega⟩
        obtain ⟨j, hj, hjn⟩ : ∃ j : Nat, (r : Int) % (n : Int) = (j : Int) ∧ j < n := ⟨r % n, (Int.natCast_emod r n).symm, Nat.mod_lt _ (by omega)⟩
        have hcj := HC7.out.1
        have C0 := Lib.hid c0
        clear c0 HB1 HB2 HB3 HB4 HB5 HB6 HK2 HK3 HK4 HK5 HK6 HM4 HM6 HT4 HT6 HA4 HA6
        go_cut [8, 9] (fun s8 s9 wx => ∃ gx m9 ds, s8 = .pointer (some ⟨gx, 0, none⟩) ∧ s9 = iv 1 ∧ Hid (Blk wx gx 49 ds) ∧ Hid (ds = (MsgR.cells m9)) ∧ Hid (m9.pl = msgZ 0) ∧ Hid (Keep w wx))
        case first =>
          refine wp_region_tree (.take [0,1,3,4,5,6,7,8,9] (.fork 2 (.fork 10 (.take [11,12,13] (.force [14] .done)) 14 (.force [10] (.take [11,12,13] .done))) 14 (.force [2,10] (.take [11,12,13] .done)))) [15,16] (by kernel_rfl) (by kernel_rfl) (fun y0 hk => ?_)
          have Q := Lib.hid hk
          clear hk
          refine mt_take y0 (Below.refl _ _) ?_
          simp only [pick_cons, pick_nil, nth_zero, nth_succ]
          have b0 := aft_cell (keep_cell Q.out C0.out)
          repeat (go_big_quiet_step (fail))
          clear b0 hr hj
          refine wpQuiet_nil (mt_fork ?_ ?_)
          · simp only [pick_cons, pick_nil, nth_zero, nth_succ]
            refine fc_step rfl (fun K hK => ?_)
            go_simp
            (with_reducible refine (NM.out y0).mono ?_)
            rintro e y1 ⟨rfl, hk⟩
            refine hK _ _ hk ?_
            clear hK K
            have HQ2 : w7.heap.size ≤ y0.heap.size := Q.out.size
            have Hprev := Q
            replace Q := Lib.hid (keep_trans Q.out hk)
            have hs_y1 : y0.heap.size ≤ y1.heap.size := hk.size
            clear hk
            refine fc_nil (mt_fork ?_ ?_)
            · simp only [pick_cons, pick_nil, nth_zero, nth_succ]
              refine fc_step rfl (fun K hK => ?_)
              go_simp
              (with_reducible refine (GC.out _ _ _ y1 hjn HC7.out.1 HC7.out.2 (HR7.out.keep Q.out)).mono ?_)
              rintro e y2 ⟨m9, ds9, rfl, hA, hm, hk⟩
              refine hK _ _ hk ?_
              clear hK K
              have HQ10 : w7.heap.size ≤ y1.heap.size := Q.out.size
              have Hprev := Q
              replace Q := Lib.hid (keep_trans Q.out hk)
              have hs_y2 : y1.heap.size ≤ y2.heap.size := hk.size
              have HA9 := Lib.hid hA; have HM9 := Lib.hid hm
              have hn9 := hA.n; have hz9 := hA.z; have hi9 := hA.i
              clear hA hm
              clear hk
              refine fc_nil (mt_take y2 (Below.refl _ _) ?_)
              simp only [pick_cons, pick_nil, nth_zero, nth_succ]
              repeat (go_big_quiet_step (fail))
              refine wpQuiet_nil (mt_force ?_)
              simp only [pick_cons, pick_nil, nth_zero, nth_succ]
              refine fc_step rfl (fun K hK => ?_)
              go_simp
              refine hK _ _ (keep_new _ _) ?_
              clear hK K
              obtain ⟨y3, hy⟩ : ∃ y3, y3 = y2.alloc (.cells ys 49) := ⟨_, rfl⟩
              have HX : Hid (Blk y3 y2.heap.size 49 ys.toList) := by rw [hy]; exact Blk.new y2 _ ys.toList
              have hk : Keep y2 y3 := by rw [hy]; exact keep_new _ _
              rw [← hy]
              clear hy
              have HXs : y2.heap.size < y3.heap.size := HX.out.lt
              have HXn := Q.out.size
              replace Q := Lib.hid (keep_trans Q.out hk)
              have hs_y3 : y2.heap.size ≤ y3.heap.size := hk.size
              clear hk
              generalize hp : y2.heap.size = gx at *
              have HXa : y2.heap.size ≤ gx := Nat.le_of_eq hp
              have HXb : gx ≤ y2.heap.size := Nat.le_of_eq hp.symm
              clear hp
              refine fc_nil (mt_end ?_)
              obtain ⟨wa, hsta, hba, hga⟩ := run_store_blk (P := Try.prog) ds9.toList HX.out (by rw [Array.length_toList, Array.length_toList, hys, hz9]) HA9.out.o
              have Hba := Lib.hid hba; have Hga := Lib.hid hga
              have hga1 := hga.size; have hQs := Q.out.size
              have hws := HK7.out.size
              clear hba hga
              go_wp2
              go_meet
              exact ⟨gx, m9, ds9.toList, rfl, rfl, Hba, Lib.hid HA9.out.l, HM9, Lib.hid ((keep_trans HK7.out Q.out).grown Hga.out (by omega) (fun q hq => by injection hq with hq; omega))⟩
            · simp only [pick_cons, pick_nil, nth_zero, nth_succ]
              refine fc_step rfl (fun K hK => ?_)
              go_simp
              refine hK _ _ (keep_new _ _) ?_
              clear hK K
              obtain ⟨y4, hy⟩ : ∃ y4, y4 = y1.alloc (.cells ys 49) := ⟨_, rfl⟩
              have HX : Hid (Blk y4 y1.heap.size 49 ys.toList) := by rw [hy]; exact Blk.new y1 _ ys.toList
              have hk : Keep y1 y4 := by rw [hy]; exact keep_new _ _
              rw [← hy]
              clear hy
              have HXs : y1.heap.size < y4.heap.size := HX.out.lt
              have HXn := Q.out.size
              replace Q := Lib.hid (keep_trans Q.out hk)
              have hs_y4 : y1.heap.size ≤ y4.heap.size := hk.size
              clear hk
              generalize hp : y1.heap.size = gx at *
              have HXa : y1.heap.size ≤ gx := Nat.le_of_eq hp
              have HXb : gx ≤ y1.heap.size := Nat.le_of_eq hp.symm
              clear hp
              refine fc_nil (mt_force ?_)
              simp only [pick_cons, pick_nil, nth_zero, nth_succ]
              refine fc_step rfl (fun K hK => ?_)
              go_simp
              (with_reducible refine (GC.out _ _ _ y4 hjn HC7.out.1 HC7.out.2 (HR7.out.keep Q.out)).mono ?_)
              rintro e y5 ⟨m9, ds9, rfl, hA, hm, hk⟩
              refine hK _ _ hk ?_
              clear hK K
              have HQ10 : w7.heap.size ≤ y4.heap.size := Q.out.size
              have Hprev := Q
              replace Q := Lib.hid (keep_trans Q.out hk)
              have hs_y5 : y4.heap.size ≤ y5.heap.size := hk.size
              replace HX := Lib.hid (HX.out.keep hk)
              have HA9 := Lib.hid hA; have HM9 := Lib.hid hm
              have hn9 := hA.n; have hz9 := hA.z; have hi9 := hA.i
              clear hA hm
              clear hk
              refine fc_nil (mt_take y5 (Below.refl _ _) ?_)
              simp only [pick_cons, pick_nil, nth_zero, nth_succ]
              repeat (go_big_quiet_step (fail))
              refine wpQuiet_nil (mt_end ?_)
              obtain ⟨wa, hsta, hba, hga⟩ := run_store_blk (P := Try.prog) ds9.toList HX.out (by rw [Array.length_toList, Array.length_toList, hys, hz9]) HA9.out.o
              have Hba := Lib.hid hba; have Hga := Lib.hid hga
              have hga1 := hga.size; have hQs := Q.out.size
              have hws := HK7.out.size
              clear hba hga
              go_wp2
              go_meet
              exact ⟨gx, m9, ds9.toList, rfl, rfl, Hba, Lib.hid HA9.out.l, HM9, Lib.hid ((keep_trans HK7.out Q.out).grown Hga.out (by omega) (fun q hq => by injection hq with hq; omega))⟩
          · simp only [pick_cons, pick_nil, nth_zero, nth_succ]
            refine fc_step rfl (fun K hK => ?_)
            go_simp
            refine hK _ _ (keep_new _ _) ?_
            clear hK K
            obtain ⟨y6, hy⟩ : ∃ y6, y6 = y0.alloc (.cells ys 49) := ⟨_, rfl⟩
            have HX : Hid (Blk y6 y0.heap.size 49 ys.toList) := by rw [hy]; exact Blk.new y0 _ ys.toList
            have hk : Keep y0 y6 := by rw [hy]; exact keep_new _ _
            rw [← hy]
            clear hy
            have HXs : y0.heap.size < y6.heap.size := HX.out.lt
            have HXn := Q.out.size
            replace Q := Lib.hid (keep_trans Q.out hk)
            have hs_y6 : y0.heap.size ≤ y6.heap.size := hk.size
            clear hk
            generalize hp : y0.heap.size = gx at *
            have HXa : y0.heap.size ≤ gx := Nat.le_of_eq hp
            have HXb : gx ≤ y0.heap.size := Nat.le_of_eq hp.symm
            clear hp
            refine fc_nil (mt_force ?_)
            simp only [pick_cons, pick_nil, nth_zero, nth_succ]
            refine fc_step rfl (fun K hK => ?_)
            go_simp
            (with_reducible refine (NM.out y6).mono ?_)
            rintro e y7 ⟨rfl, hk⟩
            refine hK _ _ hk ?_
            clear hK K
            have HQ2 : w7.heap.size ≤ y6.heap.size := Q.out.size
            have Hprev := Q
            replace Q := Lib.hid (keep_trans Q.out hk)
            have hs_y7 : y6.heap.size ≤ y7.heap.size := hk.size
            replace HX := Lib.hid (HX.out.keep hk)
            clear hk
            refine fc_step rfl (fun K hK => ?_)
            go_simp
            (with_reducible refine (GC.out _ _ _ y7 hjn HC7.out.1 HC7.out.2 (HR7.out.keep Q.out)).mono ?_)
            rintro e y8 ⟨m9, ds9, rfl, hA, hm, hk⟩
            refine hK _ _ hk ?_
            clear hK K
            have HQ10 : w7.heap.size ≤ y7.heap.size := Q.out.size
            have Hprev := Q
            replace Q := Lib.hid (keep_trans Q.out hk)
            have hs_y8 : y7.heap.size ≤ y8.heap.size := hk.size
            replace HX := Lib.hid (HX.out.keep hk)
            have HA9 := Lib.hid hA; have HM9 := Lib.hid hm
            have hn9 := hA.n; have hz9 := hA.z; have hi9 := hA.i
            clear hA hm
            clear hk
            refine fc_nil (mt_take y8 (Below.refl _ _) ?_)
            simp only [pick_cons, pick_nil, nth_zero, nth_succ]
            repeat (go_big_quiet_step (fail))
            refine wpQuiet_nil (mt_end ?_)
            obtain ⟨wa, hsta, hba, hga⟩ := run_store_blk (P := Try.prog) ds9.toList HX.out (by rw [Array.length_toList, Array.length_toList, hys, hz9]) HA9.out.o
            have Hba := Lib.hid hba; have Hga := Lib.hid hga
            have hga1 := hga.size; have hQs := Q.out.size
            have hws := HK7.out.size
            clear hba hga
            go_wp2
            go_meet
            exact ⟨gx, m9, ds9.toList, rfl, rfl, Hba, Lib.hid HA9.out.l, HM9, Lib.hid ((keep_trans HK7.out Q.out).grown Hga.out (by omega) (fun q hq => by injection hq with hq; omega))⟩
        case rest =>
          obtain ⟨gx, m9, ds, rfl, rfl, HG, HD, HM, HKF⟩ := hcut
          have z0 : m9.kind = 0 := (congrArg MsgR.kind HM.out : m9.pl.kind = 0)
          have z1 : m9.hs = [] := (congrArg MsgR.hs HM.out : m9.pl.hs = [])
          have z2 : m9.ls = [] := (congrArg MsgR.ls HM.out : m9.pl.ls = [])
          have z3 : m9.is = [] := (congrArg MsgR.is HM.out : m9.pl.is = [])
          have z4 : m9.stop = z32 := (congrArg MsgR.stop HM.out : m9.pl.stop = z32)
          have g0 : wc.cell? ⟨gx, 0, none⟩ = some (.int .i64 0) := by rw [HG.out.cell, HD.out, ← z0]; rfl
          have g4 : wc.cell? ⟨gx, 4, none⟩ = some (.slice m9.hA 0 m9.hc) := by
            have e : m9.cells[4]? = some (.slice m9.hA m9.hs.length m9.hc) := rfl
            rw [HG.out.cell, HD.out, e, z1]; rfl
          have g5 : wc.cell? ⟨gx, 5, none⟩ = some (.slice m9.lA 0 m9.lc) := by
            have e : m9.cells[5]? = some (.slice m9.lA m9.ls.length m9.lc) := rfl
            rw [HG.out.cell, HD.out, e, z2]; rfl
          have g38 : wc.cell? ⟨gx, 38, none⟩ = some (.slice m9.iA 0 m9.ic) := by
            have e : m9.cells[38]? = some (.slice m9.iA m9.is.length m9.ic) := by
              unfold MsgR.cells
              rw [List.getElem?_append_right (by simp), List.getElem?_append_right (by simp [z4, z32])]
              simp [z4, z32]
            rw [HG.out.cell, HD.out, e, z3]; rfl
          clear z0 z1 z2 z3 z4 HM HD
          try simp only [List.append_eq, List.cons_append, List.nil_append]
          go_wp2
          exact bodyPost_ret (v := .bool true) (by simp [results, Try.results7]) rfl ⟨rfl, HKF.out⟩

end Go.Proofs.Ytimggloacjbnjaa

/- Numbers, hashes and headers that came in, opened. -/
set_option linter.unusedSimpArgs false
set_option linter.unusedVariables false
namespace Go.Proofs.Ytimggloacjbnjaa
open Go.RowKit Go.ChangeShapes Go.WideShapes Go.ChangeAt Go.Deep

theorem cellsByte : Try.prog.cellsOf 5 = 1 := by kernel_rfl
theorem word_ofJ {x : Int} (h : 0 ≤ x ∧ x ≤ 4294967295) : ∃ t : UInt32, x = (t.toNat : Int) := ⟨w32 x, w32_of h.1 h.2⟩
theorem byte_ofJ {x : Int} (h : 0 ≤ x ∧ x ≤ 255) : ∃ t : UInt8, x = (t.toNat : Int) := ⟨w8 x, w8_of h.1 h.2⟩
theorem word_openJ {H : Type} {enc : TypeId × Value → H} {w : World} {spare : Nat → Bool} {held : Bool} {fuel : Nat} {cs : List Value} {x : DataW H × List MemPlace}
    (h : DataW.trod enc Try.prog w 0 spare held fuel 22 cs = some x) : ∃ t : UInt32, cs = [u32v t] := by
  obtain ⟨k, ek, _, wk⟩ := DataW.trod_int Try.underlying22 h
  obtain ⟨t, rfl⟩ := word_ofJ (x := k) (by simpa [Lit.wf, IntKind.min, IntKind.max, IntKind.signed, IntKind.bits] using wk)
  exact ⟨t, ek⟩
theorem cellsHeaderJ : Try.prog.cellsOf 30 = 68 := by kernel_rfl
theorem cellsHashJ : Try.prog.cellsOf 27 = 32 := by kernel_rfl
theorem cellsWordJ : Try.prog.cellsOf 22 = 1 := by kernel_rfl
theorem underHashJ : Try.prog.underlying 27 = some (.array 32 5) := by kernel_rfl
theorem hash_openJ {H : Type} {enc : TypeId × Value → H} {w : World} {spare : Nat → Bool} {held : Bool} {fuel : Nat} {cs : List Value} {x : DataW H × List MemPlace}
    (h : DataW.trod enc Try.prog w 0 spare held fuel 27 cs = some x) : ∃ l : List UInt8, cs = l.map u8v ∧ l.length = 32 := by
  obtain ⟨xs, m, _, _, h1, h2, h3⟩ := DataW.trod_array underHashJ h
  rw [cellsHashJ] at h1
  obtain ⟨l, rfl, _⟩ := list_choose (f := u8v) (p := fun _ => True) cs fun u hu => by
    obtain ⟨i, hi, rfl⟩ := List.mem_iff_getElem.1 hu
    have h4 := h3 i (by omega)
    rw [cellsByte, Nat.mul_one, List.getElem?_eq_getElem (by omega)] at h4
    obtain ⟨k, ek, _, wk⟩ := DataW.trod_int Try.underlying5 h4
    obtain ⟨t, rfl⟩ := byte_ofJ (x := k) (by simpa [Lit.wf, IntKind.min, IntKind.max, IntKind.signed, IntKind.bits] using wk)
    rw [List.drop_eq_getElem_cons hi, List.take_succ_cons, List.take_zero] at ek
    exact ⟨t, (List.cons.inj ek).1, trivial⟩
  exact ⟨l, rfl, by simpa using h1⟩
theorem header_openJ {H : Type} {enc : TypeId × Value → H} {w : World} {spare : Nat → Bool} {held : Bool} {fuel : Nat} {cs : List Value} {x : DataW H × List MemPlace}
    (h : DataW.trod enc Try.prog w 0 spare held fuel 30 cs = some x) : ∃ r : Hd, cs = r.cells ∧ r.ok := by
  obtain ⟨xs, n, _, _, hl, hx, F⟩ := DataW.trod_struct Try.underlying30 h
  rw [cellsHeaderJ] at hl
  have hx' : xs.length = 6 := hx
  have g : ∀ (i : Nat) (hi : i < 6), xs[i]? = some (xs[i]'(by omega)) := fun i hi => List.getElem?_eq_getElem (by omega)
  have f0 : DataW.trod enc Try.prog w 0 spare held n 22 ((cs.drop 0).take (Try.prog.cellsOf 22)) = some _ := (F 0 _ rfl).trans (g 0 (by omega))
  have f1 : DataW.trod enc Try.prog w 0 spare held n 27 ((cs.drop 1).take (Try.prog.cellsOf 27)) = some _ := (F 1 _ rfl).trans (g 1 (by omega))
  have f2 : DataW.trod enc Try.prog w 0 spare held n 27 ((cs.drop 33).take (Try.prog.cellsOf 27)) = some _ := (F 2 _ rfl).trans (g 2 (by omega))
  have f3 : DataW.trod enc Try.prog w 0 spare held n 22 ((cs.drop 65).take (Try.prog.cellsOf 22)) = some _ := (F 3 _ rfl).trans (g 3 (by omega))
  have f4 : DataW.trod enc Try.prog w 0 spare held n 22 ((cs.drop 66).take (Try.prog.cellsOf 22)) = some _ := (F 4 _ rfl).trans (g 4 (by omega))
  have f5 : DataW.trod enc Try.prog w 0 spare held n 22 ((cs.drop 67).take (Try.prog.cellsOf 22)) = some _ := (F 5 _ rfl).trans (g 5 (by omega))
  simp only [cellsWordJ, cellsHashJ] at f0 f1 f2 f3 f4 f5
  obtain ⟨a, ea⟩ := word_openJ f0
  obtain ⟨p, ep, hp⟩ := hash_openJ f1
  obtain ⟨q, eq, hq⟩ := hash_openJ f2
  obtain ⟨t, et⟩ := word_openJ f3
  obtain ⟨b, eb⟩ := word_openJ f4
  obtain ⟨c, ec⟩ := word_openJ f5
  have key : ∀ (l : List Value) (i k : Nat), l.drop i = (l.drop i).take k ++ l.drop (i + k) := fun l i k => by
    have h1 := (List.take_append_drop k (l.drop i)).symm
    rwa [List.drop_drop] at h1
  refine ⟨⟨a, p, q, t, b, c⟩, ?_, hp, hq⟩
  have e : cs = cs.drop 0 := rfl
  rw [e, key cs 0 1, ea, key cs (0 + 1) 32, ep, key cs (0 + 1 + 32) 32, eq, key cs (0 + 1 + 32 + 32) 1, et, key cs (0 + 1 + 32 + 32 + 1) 1, eb, key cs (0 + 1 + 32 + 32 + 1 + 1) 1, ec, List.drop_eq_nil_of_le (by omega)]
  simp [Hd.cells]
theorem heads_openJ {H : Type} {enc : TypeId × Value → H} {w : World} {spare : Nat → Bool} {held : Bool} {fuel : Nat} {cs : List Value} {x : DataW H × List MemPlace}
    (h : DataW.trod enc Try.prog w 0 spare held fuel 24 cs = some x) :
    ∃ (A : Option Addr) (l : List Hd) (c : Nat), cs = [.slice A l.length c] ∧ l.length ≤ c ∧ c ≤ maxLen ∧ Rd w A (l.flatMap Hd.cells) ∧ ∀ y ∈ l, y.ok := by
  obtain ⟨A, n, c, Cs, rfl, h1, h2, rfl, h3, h4⟩ := slice_open Try.underlying24 cellsHeaderJ (by omega) h
  obtain ⟨l, rfl, hok⟩ := list_choose (f := Hd.cells) (p := Hd.ok) Cs fun y hy => by
    obtain ⟨_, m, z, hz⟩ := h4 y hy
    exact header_openJ hz
  refine ⟨A, l, c, by simp, by simpa using h1, h2, ?_, hok⟩
  rwa [← List.flatMap_def] at h3

theorem hda_of {r : Hd} {cs : Array Value} (ho : r.ok) (h : cs.toList = r.cells) : HdA r cs := by
  have e : cs = r.cells.toArray := by rw [← h]
  rw [e]; exact HdA.of ho
theorem hasha_of {l : List UInt8} {cs : Array Value} (hl : l.length = 32) (h : cs.toList = l.map u8v) : HashA l cs := by
  have e : cs = (l.map u8v).toArray := by rw [← h]
  rw [e]; exact HashA.of hl
end Go.Proofs.Ytimggloacjbnjaa

/- Messages and transactions that came in, opened. (printed by gen_mgo.py) -/
set_option linter.unusedSimpArgs false
set_option linter.unusedVariables false
namespace Go.Proofs.Ytimggloacjbnjaa
open Go.RowKit Go.ChangeShapes Go.WideShapes Go.ChangeAt Go.Deep

theorem u64_openJ {H : Type} {enc : TypeId × Value → H} {w : World} {spare : Nat → Bool} {held : Bool} {fuel : Nat} {cs : List Value} {x : DataW H × List MemPlace}
    (h : DataW.trod enc Try.prog w 0 spare held fuel 23 cs = some x) : ∃ n : Nat, cs = [u64v n] ∧ n < 2 ^ 64 := by
  obtain ⟨k, ek, _, wk⟩ := DataW.trod_int Try.underlying23 h
  have hb : 0 ≤ k ∧ k ≤ 18446744073709551615 := by simpa [Lit.wf, IntKind.min, IntKind.max, IntKind.signed, IntKind.bits] using wk
  refine ⟨k.toNat, ?_, by omega⟩
  rw [ek]; congr 1
  show Value.int .u64 k = Value.int .u64 ((k.toNat : Nat) : Int)
  rw [show ((k.toNat : Nat) : Int) = k by omega]
theorem int_openJ {H : Type} {enc : TypeId × Value → H} {w : World} {spare : Nat → Bool} {held : Bool} {fuel : Nat} {cs : List Value} {x : DataW H × List MemPlace}
    (h : DataW.trod enc Try.prog w 0 spare held fuel 3 cs = some x) : ∃ n : Int, cs = [.int .i64 n] ∧ -9223372036854775808 ≤ n ∧ n ≤ 9223372036854775807 := by
  obtain ⟨k, ek, _, wk⟩ := DataW.trod_int Try.underlying3 h
  exact ⟨k, ek, by simpa [Lit.wf, IntKind.min, IntKind.max, IntKind.signed, IntKind.bits] using wk⟩
theorem byteS_openJ {H : Type} {enc : TypeId × Value → H} {w : World} {spare : Nat → Bool} {held : Bool} {fuel : Nat} {cs : List Value} {x : DataW H × List MemPlace}
    (h : DataW.trod enc Try.prog w 0 spare held fuel 31 cs = some x) : ∃ (A : Option Addr) (l : List UInt8) (c : Nat), cs = [.slice A l.length c] ∧ l.length ≤ c ∧ c ≤ maxLen ∧ Rd w A (l.map u8v) :=
  bytes_open Try.underlying31 Try.underlying5 cellsByte h
theorem hashs_openJ {H : Type} {enc : TypeId × Value → H} {w : World} {spare : Nat → Bool} {held : Bool} {fuel : Nat} {cs : List Value} {x : DataW H × List MemPlace}
    (h : DataW.trod enc Try.prog w 0 spare held fuel 25 cs = some x) : ∃ (A : Option Addr) (l : List (List UInt8)) (c : Nat), cs = [.slice A l.length c] ∧ l.length ≤ c ∧ c ≤ maxLen ∧ Rd w A (hsL l) ∧ ∀ y ∈ l, y.length = 32 := by
  obtain ⟨A, n, c, Cs, rfl, h1, h2, rfl, h3, h4⟩ := slice_open Try.underlying25 cellsHashJ (by omega) h
  obtain ⟨l, rfl, hok⟩ := list_choose (f := fun z : List UInt8 => z.map u8v) (p := fun z => z.length = 32) Cs fun y hy => by
    obtain ⟨_, m, z, hz⟩ := h4 y hy
    exact hash_openJ hz
  refine ⟨A, l, c, by simp, by simpa using h1, h2, ?_, hok⟩
  rwa [← List.flatMap_def] at h3
theorem key_openJ (l : List Value) (i k : Nat) : l.drop i = (l.drop i).take k ++ l.drop (i + k) := by
  have h1 := (List.take_append_drop k (l.drop i)).symm
  rwa [List.drop_drop] at h1

theorem cells_ritem : Try.prog.cellsOf 73 = 33 := by kernel_rfl
theorem cells_ritem_0 : Try.prog.cellsOf 22 = 1 := by kernel_rfl
theorem cells_ritem_1 : Try.prog.cellsOf 27 = 32 := by kernel_rfl
theorem ritem_openJ {H : Type} {enc : TypeId × Value → H} {w : World} {spare : Nat → Bool} {held : Bool} {fuel : Nat} {cs : List Value} {x : DataW H × List MemPlace}
    (h : DataW.trod enc Try.prog w 0 spare held fuel 73 cs = some x) : ∃ r : Itm, cs = r.cells ∧ r.ok := by
  obtain ⟨xs, n, _, _, hl, hx, F⟩ := DataW.trod_struct Try.underlying73 h
  rw [cells_ritem] at hl
  have hx' : xs.length = 2 := hx
  have g : ∀ (i : Nat) (hi : i < 2), xs[i]? = some (xs[i]'(by omega)) := fun i hi => List.getElem?_eq_getElem (by omega)
  have f0 : DataW.trod enc Try.prog w 0 spare held n 22 ((cs.drop 0).take (Try.prog.cellsOf 22)) = some _ := (F 0 _ rfl).trans (g 0 (by omega))
  have f1 : DataW.trod enc Try.prog w 0 spare held n 27 ((cs.drop 1).take (Try.prog.cellsOf 27)) = some _ := (F 1 _ rfl).trans (g 1 (by omega))
  rw [cells_ritem_0] at f0
  rw [cells_ritem_1] at f1
  obtain ⟨t, e0⟩ := word_openJ f0
  obtain ⟨l, e1, hl⟩ := hash_openJ f1
  have e : cs = cs.drop 0 := rfl
  have hcs : cs = u32v t :: l.map u8v := by
    rw [e, key_openJ cs 0 1, e0, key_openJ cs (0 + 1) 32, e1, List.drop_eq_nil_of_le (by omega)]
    simp
  exact ⟨⟨t, l⟩, hcs, hl⟩

theorem cells_rin : Try.prog.cellsOf 101 = 35 := by kernel_rfl
theorem cells_rin_0 : Try.prog.cellsOf 27 = 32 := by kernel_rfl
theorem cells_rin_1 : Try.prog.cellsOf 22 = 1 := by kernel_rfl
theorem cells_rin_2 : Try.prog.cellsOf 31 = 1 := by kernel_rfl
theorem cells_rin_3 : Try.prog.cellsOf 22 = 1 := by kernel_rfl
theorem rin_openJ {H : Type} {enc : TypeId × Value → H} {w : World} {spare : Nat → Bool} {held : Bool} {fuel : Nat} {cs : List Value} {x : DataW H × List MemPlace}
    (h : DataW.trod enc Try.prog w 0 spare held fuel 101 cs = some x) : ∃ r : InR, cs = r.cells ∧ r.at w := by
  obtain ⟨xs, n, _, _, hl, hx, F⟩ := DataW.trod_struct Try.underlying101 h
  rw [cells_rin] at hl
  have hx' : xs.length = 4 := hx
  have g : ∀ (i : Nat) (hi : i < 4), xs[i]? = some (xs[i]'(by omega)) := fun i hi => List.getElem?_eq_getElem (by omega)
  have f0 : DataW.trod enc Try.prog w 0 spare held n 27 ((cs.drop 0).take (Try.prog.cellsOf 27)) = some _ := (F 0 _ rfl).trans (g 0 (by omega))
  have f1 : DataW.trod enc Try.prog w 0 spare held n 22 ((cs.drop 32).take (Try.prog.cellsOf 22)) = some _ := (F 1 _ rfl).trans (g 1 (by omega))
  have f2 : DataW.trod enc Try.prog w 0 spare held n 31 ((cs.drop 33).take (Try.prog.cellsOf 31)) = some _ := (F 2 _ rfl).trans (g 2 (by omega))
  have f3 : DataW.trod enc Try.prog w 0 spare held n 22 ((cs.drop 34).take (Try.prog.cellsOf 22)) = some _ := (F 3 _ rfl).trans (g 3 (by omega))
  rw [cells_rin_0] at f0
  rw [cells_rin_1] at f1
  rw [cells_rin_2] at f2
  rw [cells_rin_3] at f3
  obtain ⟨p, e0, hp⟩ := hash_openJ f0
  obtain ⟨t, e1⟩ := word_openJ f1
  obtain ⟨A, l, c, e2, h1, h2, h3⟩ := byteS_openJ f2
  obtain ⟨s, e3⟩ := word_openJ f3
  have e : cs = cs.drop 0 := rfl
  have hcs : cs = p.map u8v ++ [u32v t, .slice A l.length c, u32v s] := by
    rw [e, key_openJ cs 0 32, e0, key_openJ cs (0 + 32) 1, e1, key_openJ cs (0 + 32 + 1) 1, e2, key_openJ cs (0 + 32 + 1 + 1) 1, e3, List.drop_eq_nil_of_le (by omega)]
    simp
  exact ⟨⟨p, t, A, l, c, s⟩, hcs, hp, ⟨h1, h2⟩, h3⟩

theorem cells_rout : Try.prog.cellsOf 103 = 2 := by kernel_rfl
theorem cells_rout_0 : Try.prog.cellsOf 23 = 1 := by kernel_rfl
theorem cells_rout_1 : Try.prog.cellsOf 31 = 1 := by kernel_rfl
theorem rout_openJ {H : Type} {enc : TypeId × Value → H} {w : World} {spare : Nat → Bool} {held : Bool} {fuel : Nat} {cs : List Value} {x : DataW H × List MemPlace}
    (h : DataW.trod enc Try.prog w 0 spare held fuel 103 cs = some x) : ∃ r : OutR, cs = r.cells ∧ r.at w := by
  obtain ⟨xs, n, _, _, hl, hx, F⟩ := DataW.trod_struct Try.underlying103 h
  rw [cells_rout] at hl
  have hx' : xs.length = 2 := hx
  have g : ∀ (i : Nat) (hi : i < 2), xs[i]? = some (xs[i]'(by omega)) := fun i hi => List.getElem?_eq_getElem (by omega)
  have f0 : DataW.trod enc Try.prog w 0 spare held n 23 ((cs.drop 0).take (Try.prog.cellsOf 23)) = some _ := (F 0 _ rfl).trans (g 0 (by omega))
  have f1 : DataW.trod enc Try.prog w 0 spare held n 31 ((cs.drop 1).take (Try.prog.cellsOf 31)) = some _ := (F 1 _ rfl).trans (g 1 (by omega))
  rw [cells_rout_0] at f0
  rw [cells_rout_1] at f1
  obtain ⟨n1, e0, hn⟩ := u64_openJ f0
  obtain ⟨A, l, c, e1, h1, h2, h3⟩ := byteS_openJ f1
  have e : cs = cs.drop 0 := rfl
  have hcs : cs = [u64v n1, .slice A l.length c] := by
    rw [e, key_openJ cs 0 1, e0, key_openJ cs (0 + 1) 1, e1, List.drop_eq_nil_of_le (by omega)]
    simp
  exact ⟨⟨n1, A, l, c⟩, hcs, hn, ⟨h1, h2⟩, h3⟩

theorem ritems_openJ {H : Type} {enc : TypeId × Value → H} {w : World} {spare : Nat → Bool} {held : Bool} {fuel : Nat} {cs : List Value} {x : DataW H × List MemPlace}
    (h : DataW.trod enc Try.prog w 0 spare held fuel 28 cs = some x) : ∃ (A : Option Addr) (l : List Itm) (c : Nat), cs = [.slice A l.length c] ∧ l.length ≤ c ∧ c ≤ maxLen ∧ Rd w A (l.flatMap Itm.cells) ∧ ∀ y ∈ l, y.ok := by
  obtain ⟨A, n, c, Cs, rfl, h1, h2, rfl, h3, h4⟩ := slice_open Try.underlying28 cells_ritem (by omega) h
  obtain ⟨l, rfl, hok⟩ := list_choose (f := Itm.cells) (p := fun y => y.ok) Cs fun y hy => by
    obtain ⟨_, m, z, hz⟩ := h4 y hy
    exact ritem_openJ hz
  refine ⟨A, l, c, by simp, by simpa using h1, h2, ?_, hok⟩
  rwa [← List.flatMap_def] at h3

theorem rins_openJ {H : Type} {enc : TypeId × Value → H} {w : World} {spare : Nat → Bool} {held : Bool} {fuel : Nat} {cs : List Value} {x : DataW H × List MemPlace}
    (h : DataW.trod enc Try.prog w 0 spare held fuel 34 cs = some x) : ∃ (A : Option Addr) (l : List InR) (c : Nat), cs = [.slice A l.length c] ∧ l.length ≤ c ∧ c ≤ maxLen ∧ Rd w A (l.flatMap InR.cells) ∧ ∀ y ∈ l, y.at w := by
  obtain ⟨A, n, c, Cs, rfl, h1, h2, rfl, h3, h4⟩ := slice_open Try.underlying34 cells_rin (by omega) h
  obtain ⟨l, rfl, hok⟩ := list_choose (f := InR.cells) (p := fun y => y.at w) Cs fun y hy => by
    obtain ⟨_, m, z, hz⟩ := h4 y hy
    exact rin_openJ hz
  refine ⟨A, l, c, by simp, by simpa using h1, h2, ?_, hok⟩
  rwa [← List.flatMap_def] at h3

theorem routs_openJ {H : Type} {enc : TypeId × Value → H} {w : World} {spare : Nat → Bool} {held : Bool} {fuel : Nat} {cs : List Value} {x : DataW H × List MemPlace}
    (h : DataW.trod enc Try.prog w 0 spare held fuel 35 cs = some x) : ∃ (A : Option Addr) (l : List OutR) (c : Nat), cs = [.slice A l.length c] ∧ l.length ≤ c ∧ c ≤ maxLen ∧ Rd w A (l.flatMap OutR.cells) ∧ ∀ y ∈ l, y.at w := by
  obtain ⟨A, n, c, Cs, rfl, h1, h2, rfl, h3, h4⟩ := slice_open Try.underlying35 cells_rout (by omega) h
  obtain ⟨l, rfl, hok⟩ := list_choose (f := OutR.cells) (p := fun y => y.at w) Cs fun y hy => by
    obtain ⟨_, m, z, hz⟩ := h4 y hy
    exact rout_openJ hz
  refine ⟨A, l, c, by simp, by simpa using h1, h2, ?_, hok⟩
  rwa [← List.flatMap_def] at h3

theorem cells_rtx : Try.prog.cellsOf 37 = 4 := by kernel_rfl
theorem cells_rtx_0 : Try.prog.cellsOf 22 = 1 := by kernel_rfl
theorem cells_rtx_1 : Try.prog.cellsOf 34 = 1 := by kernel_rfl
theorem cells_rtx_2 : Try.prog.cellsOf 35 = 1 := by kernel_rfl
theorem cells_rtx_3 : Try.prog.cellsOf 22 = 1 := by kernel_rfl
theorem rtx_openJ {H : Type} {enc : TypeId × Value → H} {w : World} {spare : Nat → Bool} {held : Bool} {fuel : Nat} {cs : List Value} {x : DataW H × List MemPlace}
    (h : DataW.trod enc Try.prog w 0 spare held fuel 37 cs = some x) : ∃ t : TxR, cs = t.cells ∧ t.at w := by
  obtain ⟨xs, n, _, _, hl, hx, F⟩ := DataW.trod_struct Try.underlying37 h
  rw [cells_rtx] at hl
  have hx' : xs.length = 4 := hx
  have g : ∀ (i : Nat) (hi : i < 4), xs[i]? = some (xs[i]'(by omega)) := fun i hi => List.getElem?_eq_getElem (by omega)
  have f0 : DataW.trod enc Try.prog w 0 spare held n 22 ((cs.drop 0).take (Try.prog.cellsOf 22)) = some _ := (F 0 _ rfl).trans (g 0 (by omega))
  have f1 : DataW.trod enc Try.prog w 0 spare held n 34 ((cs.drop 1).take (Try.prog.cellsOf 34)) = some _ := (F 1 _ rfl).trans (g 1 (by omega))
  have f2 : DataW.trod enc Try.prog w 0 spare held n 35 ((cs.drop 2).take (Try.prog.cellsOf 35)) = some _ := (F 2 _ rfl).trans (g 2 (by omega))
  have f3 : DataW.trod enc Try.prog w 0 spare held n 22 ((cs.drop 3).take (Try.prog.cellsOf 22)) = some _ := (F 3 _ rfl).trans (g 3 (by omega))
  rw [cells_rtx_0] at f0
  rw [cells_rtx_1] at f1
  rw [cells_rtx_2] at f2
  rw [cells_rtx_3] at f3
  obtain ⟨v, e0⟩ := word_openJ f0
  obtain ⟨A, l, c, e1, h1, h2, h3, h4⟩ := rins_openJ f1
  obtain ⟨B, r, d, e2, g1, g2, g3, g4⟩ := routs_openJ f2
  obtain ⟨k, e3⟩ := word_openJ f3
  have e : cs = cs.drop 0 := rfl
  have hcs : cs = [u32v v, .slice A l.length c, .slice B r.length d, u32v k] := by
    rw [e, key_openJ cs 0 1, e0, key_openJ cs (0 + 1) 1, e1, key_openJ cs (0 + 1 + 1) 1, e2, key_openJ cs (0 + 1 + 1 + 1) 1, e3, List.drop_eq_nil_of_le (by omega)]
    simp
  exact ⟨⟨v, A, l, c, B, r, d, k⟩, hcs, ⟨h3, g3, ⟨h1, h2⟩, ⟨g1, g2⟩, h4, g4⟩⟩

theorem cells_rblock : Try.prog.cellsOf 33 = 71 := by kernel_rfl
theorem cells_rblock_0 : Try.prog.cellsOf 30 = 68 := by kernel_rfl
theorem cells_rblock_1 : Try.prog.cellsOf 22 = 1 := by kernel_rfl
theorem cells_rblock_2 : Try.prog.cellsOf 25 = 1 := by kernel_rfl
theorem cells_rblock_3 : Try.prog.cellsOf 31 = 1 := by kernel_rfl
theorem rblock_openJ {H : Type} {enc : TypeId × Value → H} {w : World} {spare : Nat → Bool} {held : Bool} {fuel : Nat} {cs : List Value} {x : DataW H × List MemPlace}
    (h : DataW.trod enc Try.prog w 0 spare held fuel 33 cs = some x) : ∃ (r : Hd) (t : UInt32) (A : Option Addr) (l : List (List UInt8)) (c : Nat) (B : Option Addr) (f : List UInt8) (d : Nat), cs = r.cells ++ [u32v t, .slice A l.length c, .slice B f.length d] ∧ r.ok ∧ (l.length ≤ c ∧ c ≤ maxLen) ∧ Rd w A (hsL l) ∧ (∀ y ∈ l, y.length = 32) ∧ (f.length ≤ d ∧ d ≤ maxLen) ∧ Rd w B (f.map u8v) := by
  obtain ⟨xs, n, _, _, hl, hx, F⟩ := DataW.trod_struct Try.underlying33 h
  rw [cells_rblock] at hl
  have hx' : xs.length = 4 := hx
  have g : ∀ (i : Nat) (hi : i < 4), xs[i]? = some (xs[i]'(by omega)) := fun i hi => List.getElem?_eq_getElem (by omega)
  have f0 : DataW.trod enc Try.prog w 0 spare held n 30 ((cs.drop 0).take (Try.prog.cellsOf 30)) = some _ := (F 0 _ rfl).trans (g 0 (by omega))
  have f1 : DataW.trod enc Try.prog w 0 spare held n 22 ((cs.drop 68).take (Try.prog.cellsOf 22)) = some _ := (F 1 _ rfl).trans (g 1 (by omega))
  have f2 : DataW.trod enc Try.prog w 0 spare held n 25 ((cs.drop 69).take (Try.prog.cellsOf 25)) = some _ := (F 2 _ rfl).trans (g 2 (by omega))
  have f3 : DataW.trod enc Try.prog w 0 spare held n 31 ((cs.drop 70).take (Try.prog.cellsOf 31)) = some _ := (F 3 _ rfl).trans (g 3 (by omega))
  rw [cells_rblock_0] at f0
  rw [cells_rblock_1] at f1
  rw [cells_rblock_2] at f2
  rw [cells_rblock_3] at f3
  obtain ⟨r, e0, hr⟩ := header_openJ f0
  obtain ⟨t, e1⟩ := word_openJ f1
  obtain ⟨A, l, c, e2, h1, h2, h3, h4⟩ := hashs_openJ f2
  obtain ⟨B, f, d, e3, g1, g2, g3⟩ := byteS_openJ f3
  have e : cs = cs.drop 0 := rfl
  have hcs : cs = r.cells ++ [u32v t, .slice A l.length c, .slice B f.length d] := by
    rw [e, key_openJ cs 0 68, e0, key_openJ cs (0 + 68) 1, e1, key_openJ cs (0 + 68 + 1) 1, e2, key_openJ cs (0 + 68 + 1 + 1) 1, e3, List.drop_eq_nil_of_le (by omega)]
    simp
  exact ⟨r, t, A, l, c, B, f, d, hcs, hr, ⟨h1, h2⟩, h3, h4, ⟨g1, g2⟩, g3⟩

theorem cells_rmsg : Try.prog.cellsOf 39 = 114 := by kernel_rfl
theorem cells_rmsg_0 : Try.prog.cellsOf 3 = 1 := by kernel_rfl
theorem cells_rmsg_1 : Try.prog.cellsOf 22 = 1 := by kernel_rfl
theorem cells_rmsg_2 : Try.prog.cellsOf 23 = 1 := by kernel_rfl
theorem cells_rmsg_3 : Try.prog.cellsOf 22 = 1 := by kernel_rfl
theorem cells_rmsg_4 : Try.prog.cellsOf 24 = 1 := by kernel_rfl
theorem cells_rmsg_5 : Try.prog.cellsOf 25 = 1 := by kernel_rfl
theorem cells_rmsg_6 : Try.prog.cellsOf 27 = 32 := by kernel_rfl
theorem cells_rmsg_7 : Try.prog.cellsOf 28 = 1 := by kernel_rfl
theorem cells_rmsg_8 : Try.prog.cellsOf 33 = 71 := by kernel_rfl
theorem cells_rmsg_9 : Try.prog.cellsOf 37 = 4 := by kernel_rfl
theorem rmsg_openJ {H : Type} {enc : TypeId × Value → H} {w : World} {spare : Nat → Bool} {held : Bool} {fuel : Nat} {cs : List Value} {x : DataW H × List MemPlace}
    (h : DataW.trod enc Try.prog w 0 spare held fuel 39 cs = some x) : ∃ m : MsgR, cs = m.cells ∧ m.at_ w := by
  obtain ⟨xs, n, _, _, hl, hx, F⟩ := DataW.trod_struct Try.underlying39 h
  rw [cells_rmsg] at hl
  have hx' : xs.length = 10 := hx
  have g : ∀ (i : Nat) (hi : i < 10), xs[i]? = some (xs[i]'(by omega)) := fun i hi => List.getElem?_eq_getElem (by omega)
  have f0 : DataW.trod enc Try.prog w 0 spare held n 3 ((cs.drop 0).take (Try.prog.cellsOf 3)) = some _ := (F 0 _ rfl).trans (g 0 (by omega))
  have f1 : DataW.trod enc Try.prog w 0 spare held n 22 ((cs.drop 1).take (Try.prog.cellsOf 22)) = some _ := (F 1 _ rfl).trans (g 1 (by omega))
  have f2 : DataW.trod enc Try.prog w 0 spare held n 23 ((cs.drop 2).take (Try.prog.cellsOf 23)) = some _ := (F 2 _ rfl).trans (g 2 (by omega))
  have f3 : DataW.trod enc Try.prog w 0 spare held n 22 ((cs.drop 3).take (Try.prog.cellsOf 22)) = some _ := (F 3 _ rfl).trans (g 3 (by omega))
  have f4 : DataW.trod enc Try.prog w 0 spare held n 24 ((cs.drop 4).take (Try.prog.cellsOf 24)) = some _ := (F 4 _ rfl).trans (g 4 (by omega))
  have f5 : DataW.trod enc Try.prog w 0 spare held n 25 ((cs.drop 5).take (Try.prog.cellsOf 25)) = some _ := (F 5 _ rfl).trans (g 5 (by omega))
  have f6 : DataW.trod enc Try.prog w 0 spare held n 27 ((cs.drop 6).take (Try.prog.cellsOf 27)) = some _ := (F 6 _ rfl).trans (g 6 (by omega))
  have f7 : DataW.trod enc Try.prog w 0 spare held n 28 ((cs.drop 38).take (Try.prog.cellsOf 28)) = some _ := (F 7 _ rfl).trans (g 7 (by omega))
  have f8 : DataW.trod enc Try.prog w 0 spare held n 33 ((cs.drop 39).take (Try.prog.cellsOf 33)) = some _ := (F 8 _ rfl).trans (g 8 (by omega))
  have f9 : DataW.trod enc Try.prog w 0 spare held n 37 ((cs.drop 110).take (Try.prog.cellsOf 37)) = some _ := (F 9 _ rfl).trans (g 9 (by omega))
  rw [cells_rmsg_0] at f0
  rw [cells_rmsg_1] at f1
  rw [cells_rmsg_2] at f2
  rw [cells_rmsg_3] at f3
  rw [cells_rmsg_4] at f4
  rw [cells_rmsg_5] at f5
  rw [cells_rmsg_6] at f6
  rw [cells_rmsg_7] at f7
  rw [cells_rmsg_8] at f8
  rw [cells_rmsg_9] at f9
  obtain ⟨k, e0, k0, k1⟩ := int_openJ f0
  obtain ⟨p, e1⟩ := word_openJ f1
  obtain ⟨nn, e2, hn⟩ := u64_openJ f2
  obtain ⟨hh, e3⟩ := word_openJ f3
  obtain ⟨hA, hs, hc, e4, a1, a2, a3, a4⟩ := heads_openJ f4
  obtain ⟨lA, ls, lc, e5, b1, b2, b3, b4⟩ := hashs_openJ f5
  obtain ⟨stop, e6, hst⟩ := hash_openJ f6
  obtain ⟨iA, is, ic, e7, c1, c2, c3, c4⟩ := ritems_openJ f7
  obtain ⟨bh, total, sA, shs, sc, fA, fs, fc, e8, d1, d2, d3, d4, d5, d6⟩ := rblock_openJ f8
  obtain ⟨t, e9, ht⟩ := rtx_openJ f9
  have e : cs = cs.drop 0 := rfl
  have hcs : cs = MsgR.cells ⟨k, p, nn, hh, hA, hs, hc, lA, ls, lc, stop, iA, is, ic, bh, total, sA, shs, sc, fA, fs, fc, t⟩ := by
    unfold MsgR.cells MsgR.blk TxR.cells
    rw [e, key_openJ cs 0 1, e0, key_openJ cs (0 + 1) 1, e1, key_openJ cs (0 + 1 + 1) 1, e2, key_openJ cs (0 + 1 + 1 + 1) 1, e3, key_openJ cs (0 + 1 + 1 + 1 + 1) 1, e4, key_openJ cs (0 + 1 + 1 + 1 + 1 + 1) 1, e5, key_openJ cs (0 + 1 + 1 + 1 + 1 + 1 + 1) 32, e6, key_openJ cs (0 + 1 + 1 + 1 + 1 + 1 + 1 + 32) 1, e7, key_openJ cs (0 + 1 + 1 + 1 + 1 + 1 + 1 + 32 + 1) 71, e8, key_openJ cs (0 + 1 + 1 + 1 + 1 + 1 + 1 + 32 + 1 + 71) 4, e9, List.drop_eq_nil_of_le (by omega)]
    simp [TxR.cells]
  exact ⟨⟨k, p, nn, hh, hA, hs, hc, lA, ls, lc, stop, iA, is, ic, bh, total, sA, shs, sc, fA, fs, fc, t⟩, hcs, ⟨⟨⟨k0, k1⟩, hn, hst, d1, a4, b4, c4, d4⟩, a3, ⟨a1, a2⟩, b3, ⟨b1, b2⟩, c3, ⟨c1, c2⟩, d3, d2, d6, d5, ht⟩⟩

end Go.Proofs.Ytimggloacjbnjaa
