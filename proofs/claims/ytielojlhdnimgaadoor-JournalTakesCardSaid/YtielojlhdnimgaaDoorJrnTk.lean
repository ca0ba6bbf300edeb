/- A record is taken just as it was written: the walk (region 8 printed by gen_tk.py). -/
import Derived.Test.YtielojlhdnimgaaDoorJrnTk0
set_option linter.unusedSimpArgs false
set_option linter.unusedVariables false
namespace Go.Proofs.YtielojlhdnimgaaDoor
open Go.RowKit
attribute [local go_sem ↓] Go.wp_at_zero Go.wp_at_succ

/-- What Take answers, as far as it is kept. -/
def TkP (ok : Bool) (W : World) (e : Ending) (w' : World) : Prop := ∃ hv sv, e = .returned (.tuple #[.agg hv, .agg sv, .bool ok]) ∧ hv.size = 68 ∧ ¬ hv = #[] ∧ (∀ v ∈ hv.toList, v.oneCell' = true) ∧ sv.size = 32 ∧ ¬ sv = #[] ∧ (∀ v ∈ sv.toList, v.oneCell' = true) ∧ Keep W w'

set_option maxRecDepth 100000 in
set_option maxHeartbeats 8000000 in
theorem takes_walk (last : List UInt8) (ls : Array Value) (seq : Int) (h : Hd) (hv0 : Array Value) (kk : Int) (w : World) (hS : ShaOk w) (hls : HashA last ls) (hll : last.length = 32) (hsq : -9223372036854775808 ≤ seq ∧ seq ≤ 9223372036854775807) (hk : h.ok) (hhv : HdA h hv0) (hkr : -9223372036854775808 ≤ kk ∧ kk ≤ 9223372036854775807) :
    Calls Tryd.prog 4 #[.agg ls, .int .i64 seq, .agg hv0, .int .i64 kk] w fun e w' => e = .returned (.bool true) ∧ Keep w w' := by
  obtain ⟨n, hn1, hn2⟩ : ∃ n : Nat, (n : Int) = seq % 65536 ∧ n < 65536 := ⟨(seq % 65536).toNat, by omega, by omega⟩
  have hlow : bits .and .i64 seq 65535 = (n : Int) := by rw [low16, hn1]
  obtain ⟨q16, hq1, hq2⟩ : ∃ q : Nat, (q : Int) = kk % 65536 ∧ q < 65536 := ⟨(kk % 65536).toNat, by omega, by omega⟩
  have hlow2 : bits .and .i64 kk 65535 = (q16 : Int) := by rw [low16, hq1]
  obtain ⟨at_, hat⟩ : ∃ a : Nat, a = q16 % 128 := ⟨_, rfl⟩
  have hat2 : at_ < 128 := by omega
  obtain ⟨j, hj1, hj2⟩ : ∃ j : Nat, (j : Int) = kk % 8 ∧ j < 8 := ⟨(kk % 8).toNat, by omega, by omega⟩
  have hlow3 : bits .and .i64 kk 7 = (j : Int) := by rw [low3, hj1]
  clear hn1 hq1 hj1 hsq hkr
  obtain ⟨X, hX⟩ : ∃ X, recB last n h = X := ⟨_, rfl⟩
  obtain ⟨SM, hSM⟩ : ∃ S, recSum last n h = S := ⟨_, rfl⟩
  obtain ⟨HP, hHP⟩ : ∃ P, hputL h = P := ⟨_, rfl⟩
  have hXl : X.length = 128 := by rw [← hX]; exact recB_len last n hk
  have hXm : (X.drop 4).take 80 = HP := by rw [← hX, ← hHP]; exact recB_mid last n hk
  have hXs : X.drop 96 = SM := by rw [← hX, ← hSM]; exact recB_sum last n hk
  have e1 : takeD last n X = (true, h, SM) := by rw [← hX, ← hSM]; exact takeD_rec last n hk
  have e2 : (takeD last ((n : Int) + 1) X).1 = false := by rw [← hX]; exact takeD_seq (seqN_next n (by omega))
  have e4 : ∀ y, X[at_]? ≠ some y → (takeD last n (X.set at_ y)).1 = true → at_ < 84 ∧ (takeD last n (X.set at_ y)).2.2 = SM := by rw [← hX, ← hSM]; exact fun y hy ht => takes_law hk hat2 hy ht
  have hPl : HP.length = 80 := by rw [← hHP]; exact hputL_len hk
  have hSl : SM.length = 32 := by rw [← hSM]; unfold recSum; exact dblL_len _
  have RX : Hid (∀ W, Keep w W → Calls Tryd.prog 19 #[.agg ls, .int .i64 (n : Int), .agg hv0] W (RowP X W)) := fun W hW => row_rec last ls n h hv0 W hls hll hk hhv (hS.keep hW) hX
  have P1 : Hid (∀ W, Calls Tryd.prog 21 #[.agg hv0] W fun e w' => ∃ A, e = .returned (.slice A 80 80) ∧ Rd w' A (HP.map u8v) ∧ Keep W w') := fun W => by
    have h1 := hput_any h hv0 W hk hhv
    rwa [hHP] at h1
  clear hX hSM hHP
  have T1 : Hid (∀ W A c, Keep w W → Rd W A (X.map u8v) → 128 ≤ c → c ≤ maxLen → Calls Tryd.prog 20 #[.agg ls, .int .i64 (n : Int), .slice A 128 c] W fun e w' => ∃ hv sv, e = .returned (.tuple #[.agg hv, .agg sv, .bool true]) ∧ HdA h hv ∧ HashA (SM) sv ∧ Keep W w') := fun W A c hW hr hc hm => by
    have h1 := take_any last ls n A X c W hls hll hr (by omega) hm (hS.keep hW)
    rw [e1, hXl] at h1
    exact h1
  have tkp : ∀ (W : World) (s : Int) (A : Option Addr) (b : List UInt8) (c : Nat) (ok : Bool), Keep w W → Rd W A (b.map u8v) → b.length ≤ c → c ≤ maxLen → (takeD last s b).1 = ok → Calls Tryd.prog 20 #[.agg ls, .int .i64 s, .slice A b.length c] W (TkP ok W) := fun W s A b c ok hW hr hc hm hok =>
    (take_any last ls s A b c W hls hll hr hc hm (hS.keep hW)).mono fun e w' ⟨hv, sv, h1, h2, h3, h4⟩ => ⟨hv, sv, by rw [h1, hok], h2.z, h2.n, h2.o, h3.z, h3.n, h3.o, h4⟩
  have T2 : Hid (∀ W A c, Keep w W → Rd W A (X.map u8v) → 128 ≤ c → c ≤ maxLen → Calls Tryd.prog 20 #[.agg ls, .int .i64 ((n : Int) + 1), .slice A 128 c] W (TkP false W)) := fun W A c hW hr hc hm => by
    have h1 := tkp W ((n : Int) + 1) A X c false hW hr (by omega) hm e2
    rwa [hXl] at h1
  have T3' : Hid (∀ W A c, Keep w W → Rd W A (X.map u8v) → 128 ≤ c → c ≤ maxLen → Calls Tryd.prog 20 #[.agg ls, .int .i64 (n : Int), .slice A 127 c] W (TkP false W)) := fun W A c hW hr hc hm => by
    have hl : (X.take 127).length = 127 := by rw [List.length_take, hXl]; rfl
    have hr2 : Rd W A ((X.take 127).map u8v) := by
      rcases hr with h0 | ⟨b, o, e, h3⟩
      · exact .inl (by rw [List.map_take, h0]; rfl)
      · refine .inr ⟨b, o, e, fun i hi => ?_⟩
        rw [List.length_map, hl] at hi
        rw [h3 i (by rw [List.length_map, hXl]; omega)]
        simp
    have h1 := tkp W n A (X.take 127) c false hW hr2 (by omega) hm (by rw [takeD_short (by rw [hl]; omega)])
    rwa [hl] at h1
  have T4 : Hid (∀ W A c y, Keep w W → Rd W A ((X.set at_ y).map u8v) → 128 ≤ c → c ≤ maxLen → X[at_]? ≠ some y → Calls Tryd.prog 20 #[.agg ls, .int .i64 (n : Int), .slice A 128 c] W fun e w' => ∃ hv tv Tl is, e = .returned (.tuple #[.agg hv, .agg tv, .bool is]) ∧ hv.size = 68 ∧ ¬ hv = #[] ∧ (∀ v ∈ hv.toList, v.oneCell' = true) ∧ HashA Tl tv ∧ (is = true → at_ < 84 ∧ Tl = SM) ∧ Keep W w') := fun W A c y hW hr hc hm hy => by
    have hl : (X.set at_ y).length = 128 := by rw [List.length_set, hXl]
    have h1 := take_any last ls n A (X.set at_ y) c W hls hll hr (by omega) hm (hS.keep hW)
    rw [hl] at h1
    exact h1.mono fun e w' ⟨hv, sv, h2, h3, h4, h5⟩ => ⟨hv, sv, _, _, h2, h3.z, h3.n, h3.o, h4, fun ht => e4 y hy ht, h5⟩
  have Heq : Hid (∀ hv, HdA h hv → hv = hv0) := fun hv h1 => Array.ext' (h1.l.trans hhv.l.symm)
  clear tkp e1 e2 e4
  have HXl := Lib.hid hXl; have HXm := Lib.hid hXm; have HXs := Lib.hid hXs; have HPl := Lib.hid hPl; have HSl := Lib.hid hSl
  obtain ⟨sz, hSZ, szz⟩ := zhash_A
  obtain ⟨hz, hHZ, hzz⟩ := zhead_A
  have szs := hSZ.z; have szn := hSZ.n; have szi := hSZ.i
  have hzs := hHZ.z; have hzn := hHZ.n; have hzi := hHZ.i
  have hlz := hls.z; have hln := hls.n; have hli := hls.i
  have hvz := hhv.z; have hvn := hhv.n; have hvi := hhv.i
  have Hls := Lib.hid hls; have Hll := Lib.hid hll; have Hk := Lib.hid hk; have Hhv := Lib.hid hhv; have HS := Lib.hid hS; have Hat := Lib.hid hat
  clear hSZ hHZ hls hll hk hhv hS hXl hXm hXs hPl hSl hat
  go_enter Tryd.func4, Tryd.ntmps4
  go_upto_region 1 with fail
  obtain ⟨w0, hw0⟩ : ∃ w0, w0 = (w.alloc (.cells ls 33)).alloc (.cells hv0 44) := ⟨_, rfl⟩
  have HL0 : Hid (Blk w0 w.heap.size 33 ls.toList) := by rw [hw0]; exact (Blk.new w _ ls.toList).alloc _
  have HH0 : Hid (Blk w0 (w.heap.size + 1) 44 hv0.toList) := by
    rw [hw0]
    have h1 := Blk.new (w.alloc (.cells ls 33)) 44 hv0.toList
    rw [World.size_alloc] at h1
    exact h1
  have HK0 : Hid (Keep w w0) := by rw [hw0]; exact keep_trans (keep_new _ _) (keep_new _ _)
  rw [← hw0]
  clear hw0
  obtain ⟨LB, hLB⟩ : ∃ b, b = w.heap.size := ⟨_, rfl⟩
  obtain ⟨HB, hHB⟩ : ∃ b, b = w.heap.size + 1 := ⟨_, rfl⟩
  rw [← hLB] at HL0 ⊢
  rw [← hHB] at HH0
  rw [show LB + 1 = HB by omega]
  clear hLB hHB
  go_wp2_with fail
  refine (awake_any w0 (HS.out.keep HK0.out)).mono ?_
  rintro e w1 ⟨rfl, k1⟩
  have HK1 := Lib.hid (keep_trans HK0.out k1); have HL1 := Lib.hid (HL0.out.keep k1); have HH1 := Lib.hid (HH0.out.keep k1)
  clear k1 HL0 HH0
  go_wp2_with (first
    | ((with_reducible refine load_arr LB ls (Eq.trans ?_ rfl) HL1.out (.array 32 5) hash_under (arr_row _ _) hli ?_); rfl)
    | ((with_reducible refine load_arr HB hv0 (Eq.trans ?_ rfl) HH1.out _ Tryd.underlying44 rfl hvi ?_); rfl))
  refine (RX.out w1 HK1.out).mono ?_
  rintro e w2 ⟨Ax, cx, rfl, hrx, hcx, hmx, k2⟩
  have Hrx := Lib.hid hrx; have HK2 := Lib.hid (keep_trans HK1.out k2); have HL2 := Lib.hid (HL1.out.keep k2); have HH2 := Lib.hid (HH1.out.keep k2)
  have Hmx := Lib.hid hmx
  unfold maxLen at hmx
  clear hrx k2 HL1 HH1
  go_wp2_with ((with_reducible refine load_arr LB ls (Eq.trans ?_ rfl) HL2.out (.array 32 5) hash_under (arr_row _ _) hli ?_); rfl)
  refine (T1.out w2 Ax cx HK2.out Hrx.out hcx Hmx.out).mono ?_
  rintro e w3 ⟨hv1, sv1, rfl, h1v, s1v, k3⟩
  obtain rfl := Heq.out hv1 h1v
  have s1z := s1v.z; have s1n := s1v.n; have s1i := s1v.i
  have S1v := Lib.hid s1v
  obtain ⟨wa, wb, st1, st2, bb1, bb2, kb⟩ := two_boxes w3 hz sz hv1 sv1 (hzs.trans hvz.symm) (szs.trans s1z.symm) Hhv.out.o S1v.out.o
  have HX1 := Lib.hid bb1; have HS1 := Lib.hid bb2
  have HKb := Lib.hid (keep_trans HK2.out (keep_trans k3 kb)); have HLb := Lib.hid (HL2.out.keep (keep_trans k3 kb)); have HHb := Lib.hid (HH2.out.keep (keep_trans k3 kb)); have Hrxb := Lib.hid (Hrx.out.keep (keep_trans k3 kb))
  clear h1v s1v k3 bb1 bb2 kb HL2 HH2 Hrx
  go_upto_region 7 with fail
  clear st1 st2
  generalize w3.heap.size = B12 at *
  go_wp2_with ((with_reducible refine load_arr LB ls (Eq.trans ?_ rfl) HLb.out (.array 32 5) hash_under (arr_row _ _) hli ?_); rfl)
  refine (T2.out wb Ax cx HKb.out Hrxb.out hcx Hmx.out).mono ?_
  rintro e w4 ⟨hv2, sv2, rfl, z1, z2, z3, z4, z5, z6, k4⟩
  obtain ⟨wc, wr, st1, st2, -, -, kr⟩ := two_boxes w4 hz sz hv2 sv2 (hzs.trans z1.symm) (szs.trans z4.symm) z3 z6
  have K4 := Lib.hid (keep_trans k4 kr)
  clear k4 kr z3 z6
  go_upto_region 8 with fail
  clear st1 st2
  have HKr := Lib.hid (keep_trans HKb.out K4.out); have HLr := Lib.hid (HLb.out.keep K4.out); have HHr := Lib.hid (HHb.out.keep K4.out); have Hrxr := Lib.hid (Hrxb.out.keep K4.out); have HX1r := Lib.hid (HX1.out.keep K4.out); have HS1r := Lib.hid (HS1.out.keep K4.out)
  clear K4 HKb HLb HHb Hrxb HX1 HS1 T1 T2 RX
  generalize w4.heap.size = B15 at *
  have T3 : Hid (∀ x, Keep wr x → Calls Tryd.prog 20 #[.agg ls, .int .i64 (n : Int), .slice Ax 127 cx] x (TkP false x)) := fun x hx => T3'.out x Ax cx (keep_trans HKr.out hx) (Hrxr.out.keep hx) hcx Hmx.out
  clear T3'
  obtain ⟨bx, ox, rfl, hbx, -⟩ := Hrxr.out.at (k := 0) (by rw [List.length_map, HXl.out]; omega)
  go_cut [18, 19, 20] (fun s18 s19 s20 wx => s20 = .bool false ∧ Keep wr wx)
  case first =>
    refine wp_region_tree (.take [0,1,2,3] (.fork3 4 (.take [5,6,7,8] (.fork 9 (.force [10] .done) 10 (.force [9] .done))) 9 (.fork 4 (.take [5,6,7,8] (.force [10] .done)) 10 (.force [4] (.take [5,6,7,8] .done))) 10 (.fork 4 (.take [5,6,7,8] (.force [9] .done)) 9 (.force [4] (.take [5,6,7,8] .done))))) [11,12,13] (by kernel_rfl) (by kernel_rfl) (fun x0 q0' => ?_)
    have q0 := Lib.hid q0'
    have HLx := Lib.hid (HLr.out.keep q0')
    clear q0'
    refine mt_take x0 (Below.refl _ _) ?_
    simp only [pick_cons, pick_nil, nth_zero, nth_succ]
    (with_reducible refine wpQuiet_load_partg LB 0 ls (Eq.trans ?_ rfl) HLx.out.range (.array 32 5) hash_under (arr_row _ _) hli rfl ?_)
    rfl
    simp only [Act.put, Array.set!_eq_setIfInBounds, List.setIfInBounds_toArray, List.set_cons_succ, List.set_cons_zero]
    repeat (go_big_quiet_step (fail))
    refine wpQuiet_nil ?_
    refine mt_fork3 ?_ ?_ ?_
    · simp only [pick_cons, pick_nil, nth_zero, nth_succ]
      refine fc_step rfl (fun K hK => ?_)
      go_simp
      (with_reducible refine (T3.out x0 q0.out).mono ?_)
      rintro e x1 ⟨hv, sv, rfl, hvz, hvn, hhv, svz, svn, hsv, hk⟩
      refine hK _ _ hk ?_
      clear hK K
      have q1 := Lib.hid (keep_trans q0.out hk)
      have Hhv := Lib.hid hhv; have Hsv := Lib.hid hsv
      clear hk hhv hsv
      refine fc_nil ?_
      refine mt_take x1 (Below.refl _ _) ?_
      simp only [pick_cons, pick_nil, nth_zero, nth_succ]
      repeat (go_big_quiet_step (fail))
      refine wpQuiet_nil ?_
      refine mt_fork ?_ ?_
      · simp only [pick_cons, pick_nil, nth_zero, nth_succ]
        refine fc_step rfl (fun K hK => ?_)
        go_simp
        refine hK _ _ (keep_new _ _) ?_
        clear hK K
        obtain ⟨x2, hx2⟩ : ∃ x, x = x1.alloc (.cells hz 44) := ⟨_, rfl⟩
        have b5_2 : Hid (Blk x2 x1.heap.size 44 hz.toList) := by rw [hx2]; exact Blk.new x1 _ hz.toList
        have hk : Keep x1 x2 := by rw [hx2]; exact keep_new _ _
        have q2 := Lib.hid (keep_trans q1.out hk)
        rw [← hx2]
        clear hx2 hk
        have lo5 : wr.heap.size ≤ x1.heap.size := q1.out.size
        have lp5_2 : x1.heap.size < x2.heap.size := b5_2.out.lt
        generalize x1.heap.size = p5 at *
        refine fc_nil ?_
        refine mt_force ?_
        simp only [pick_cons, pick_nil, nth_zero, nth_succ]
        refine fc_step rfl (fun K hK => ?_)
        go_simp
        refine hK _ _ (keep_new _ _) ?_
        clear hK K
        obtain ⟨x3, hx3⟩ : ∃ x, x = x2.alloc (.cells sz 33) := ⟨_, rfl⟩
        have b6_3 : Hid (Blk x3 x2.heap.size 33 sz.toList) := by rw [hx3]; exact Blk.new x2 _ sz.toList
        have hk : Keep x2 x3 := by rw [hx3]; exact keep_new _ _
        have q3 := Lib.hid (keep_trans q2.out hk)
        have b5_3 := Lib.hid (b5_2.out.keep hk)
        have lp5_3 := Nat.lt_of_lt_of_le lp5_2 hk.size
        rw [← hx3]
        clear hx3 hk
        have lo6 : wr.heap.size ≤ x2.heap.size := q2.out.size
        have lp6_3 : x2.heap.size < x3.heap.size := b6_3.out.lt
        generalize x2.heap.size = p6 at *
        refine fc_nil ?_
        refine mt_end ?_
        obtain ⟨wa, hsta, hba, hga⟩ := run_store_blk (P := Tryd.prog) hv.toList b5_3.out (by simp [hzs, hvz]) Hhv.out
        obtain ⟨wb, hstb, hbb, hgb⟩ := run_store_blk (P := Tryd.prog) sv.toList (b6_3.out.grown hga (fun e => by have e2 : p5 = p6 := Option.some.inj e; omega)) (by simp [szs, svz]) Hsv.out
        have hga2 := Lib.hid hga; have hgb2 := Lib.hid hgb
        clear hba hbb hga hgb
        go_wp2
        go_meet
        exact ⟨rfl, (q3.out.grown hga2.out q3.out.size (fun q hq => by injection hq with hq; omega)).grown hgb2.out (Nat.le_trans q3.out.size hga2.out.size) (fun q hq => by injection hq with hq; omega)⟩
      · simp only [pick_cons, pick_nil, nth_zero, nth_succ]
        refine fc_step rfl (fun K hK => ?_)
        go_simp
        refine hK _ _ (keep_new _ _) ?_
        clear hK K
        obtain ⟨x2, hx2⟩ : ∃ x, x = x1.alloc (.cells sz 33) := ⟨_, rfl⟩
        have b6_2 : Hid (Blk x2 x1.heap.size 33 sz.toList) := by rw [hx2]; exact Blk.new x1 _ sz.toList
        have hk : Keep x1 x2 := by rw [hx2]; exact keep_new _ _
        have q2 := Lib.hid (keep_trans q1.out hk)
        rw [← hx2]
        clear hx2 hk
        have lo6 : wr.heap.size ≤ x1.heap.size := q1.out.size
        have lp6_2 : x1.heap.size < x2.heap.size := b6_2.out.lt
        generalize x1.heap.size = p6 at *
        refine fc_nil ?_
        refine mt_force ?_
        simp only [pick_cons, pick_nil, nth_zero, nth_succ]
        refine fc_step rfl (fun K hK => ?_)
        go_simp
        refine hK _ _ (keep_new _ _) ?_
        clear hK K
        obtain ⟨x3, hx3⟩ : ∃ x, x = x2.alloc (.cells hz 44) := ⟨_, rfl⟩
        have b5_3 : Hid (Blk x3 x2.heap.size 44 hz.toList) := by rw [hx3]; exact Blk.new x2 _ hz.toList
        have hk : Keep x2 x3 := by rw [hx3]; exact keep_new _ _
        have q3 := Lib.hid (keep_trans q2.out hk)
        have b6_3 := Lib.hid (b6_2.out.keep hk)
        have lp6_3 := Nat.lt_of_lt_of_le lp6_2 hk.size
        rw [← hx3]
        clear hx3 hk
        have lo5 : wr.heap.size ≤ x2.heap.size := q2.out.size
        have lp5_3 : x2.heap.size < x3.heap.size := b5_3.out.lt
        generalize x2.heap.size = p5 at *
        refine fc_nil ?_
        refine mt_end ?_
        obtain ⟨wa, hsta, hba, hga⟩ := run_store_blk (P := Tryd.prog) hv.toList b5_3.out (by simp [hzs, hvz]) Hhv.out
        obtain ⟨wb, hstb, hbb, hgb⟩ := run_store_blk (P := Tryd.prog) sv.toList (b6_3.out.grown hga (fun e => by have e2 : p5 = p6 := Option.some.inj e; omega)) (by simp [szs, svz]) Hsv.out
        have hga2 := Lib.hid hga; have hgb2 := Lib.hid hgb
        clear hba hbb hga hgb
        go_wp2
        go_meet
        exact ⟨rfl, (q3.out.grown hga2.out q3.out.size (fun q hq => by injection hq with hq; omega)).grown hgb2.out (Nat.le_trans q3.out.size hga2.out.size) (fun q hq => by injection hq with hq; omega)⟩
    · simp only [pick_cons, pick_nil, nth_zero, nth_succ]
      refine fc_step rfl (fun K hK => ?_)
      go_simp
      refine hK _ _ (keep_new _ _) ?_
      clear hK K
      obtain ⟨x1, hx1⟩ : ∃ x, x = x0.alloc (.cells hz 44) := ⟨_, rfl⟩
      have b5_1 : Hid (Blk x1 x0.heap.size 44 hz.toList) := by rw [hx1]; exact Blk.new x0 _ hz.toList
      have hk : Keep x0 x1 := by rw [hx1]; exact keep_new _ _
      have q1 := Lib.hid (keep_trans q0.out hk)
      rw [← hx1]
      clear hx1 hk
      have lo5 : wr.heap.size ≤ x0.heap.size := q0.out.size
      have lp5_1 : x0.heap.size < x1.heap.size := b5_1.out.lt
      generalize x0.heap.size = p5 at *
      refine fc_nil ?_
      refine mt_fork ?_ ?_
      · simp only [pick_cons, pick_nil, nth_zero, nth_succ]
        refine fc_step rfl (fun K hK => ?_)
        go_simp
        (with_reducible refine (T3.out x1 q1.out).mono ?_)
        rintro e x2 ⟨hv, sv, rfl, hvz, hvn, hhv, svz, svn, hsv, hk⟩
        refine hK _ _ hk ?_
        clear hK K
        have q2 := Lib.hid (keep_trans q1.out hk)
        have b5_2 := Lib.hid (b5_1.out.keep hk)
        have Hhv := Lib.hid hhv; have Hsv := Lib.hid hsv
        have lp5_2 := Nat.lt_of_lt_of_le lp5_1 hk.size
        clear hk hhv hsv
        refine fc_nil ?_
        refine mt_take x2 (Below.refl _ _) ?_
        simp only [pick_cons, pick_nil, nth_zero, nth_succ]
        repeat (go_big_quiet_step (fail))
        refine wpQuiet_nil ?_
        refine mt_force ?_
        simp only [pick_cons, pick_nil, nth_zero, nth_succ]
        refine fc_step rfl (fun K hK => ?_)
        go_simp
        refine hK _ _ (keep_new _ _) ?_
        clear hK K
        obtain ⟨x3, hx3⟩ : ∃ x, x = x2.alloc (.cells sz 33) := ⟨_, rfl⟩
        have b6_3 : Hid (Blk x3 x2.heap.size 33 sz.toList) := by rw [hx3]; exact Blk.new x2 _ sz.toList
        have hk : Keep x2 x3 := by rw [hx3]; exact keep_new _ _
        have q3 := Lib.hid (keep_trans q2.out hk)
        have b5_3 := Lib.hid (b5_2.out.keep hk)
        have lp5_3 := Nat.lt_of_lt_of_le lp5_2 hk.size
        rw [← hx3]
        clear hx3 hk
        have lo6 : wr.heap.size ≤ x2.heap.size := q2.out.size
        have lp6_3 : x2.heap.size < x3.heap.size := b6_3.out.lt
        generalize x2.heap.size = p6 at *
        refine fc_nil ?_
        refine mt_end ?_
        obtain ⟨wa, hsta, hba, hga⟩ := run_store_blk (P := Tryd.prog) hv.toList b5_3.out (by simp [hzs, hvz]) Hhv.out
        obtain ⟨wb, hstb, hbb, hgb⟩ := run_store_blk (P := Tryd.prog) sv.toList (b6_3.out.grown hga (fun e => by have e2 : p5 = p6 := Option.some.inj e; omega)) (by simp [szs, svz]) Hsv.out
        have hga2 := Lib.hid hga; have hgb2 := Lib.hid hgb
        clear hba hbb hga hgb
        go_wp2
        go_meet
        exact ⟨rfl, (q3.out.grown hga2.out q3.out.size (fun q hq => by injection hq with hq; omega)).grown hgb2.out (Nat.le_trans q3.out.size hga2.out.size) (fun q hq => by injection hq with hq; omega)⟩
      · simp only [pick_cons, pick_nil, nth_zero, nth_succ]
        refine fc_step rfl (fun K hK => ?_)
        go_simp
        refine hK _ _ (keep_new _ _) ?_
        clear hK K
        obtain ⟨x2, hx2⟩ : ∃ x, x = x1.alloc (.cells sz 33) := ⟨_, rfl⟩
        have b6_2 : Hid (Blk x2 x1.heap.size 33 sz.toList) := by rw [hx2]; exact Blk.new x1 _ sz.toList
        have hk : Keep x1 x2 := by rw [hx2]; exact keep_new _ _
        have q2 := Lib.hid (keep_trans q1.out hk)
        have b5_2 := Lib.hid (b5_1.out.keep hk)
        have lp5_2 := Nat.lt_of_lt_of_le lp5_1 hk.size
        rw [← hx2]
        clear hx2 hk
        have lo6 : wr.heap.size ≤ x1.heap.size := q1.out.size
        have lp6_2 : x1.heap.size < x2.heap.size := b6_2.out.lt
        generalize x1.heap.size = p6 at *
        refine fc_nil ?_
        refine mt_force ?_
        simp only [pick_cons, pick_nil, nth_zero, nth_succ]
        refine fc_step rfl (fun K hK => ?_)
        go_simp
        (with_reducible refine (T3.out x2 q2.out).mono ?_)
        rintro e x3 ⟨hv, sv, rfl, hvz, hvn, hhv, svz, svn, hsv, hk⟩
        refine hK _ _ hk ?_
        clear hK K
        have q3 := Lib.hid (keep_trans q2.out hk)
        have b5_3 := Lib.hid (b5_2.out.keep hk)
        have b6_3 := Lib.hid (b6_2.out.keep hk)
        have Hhv := Lib.hid hhv; have Hsv := Lib.hid hsv
        have lp5_3 := Nat.lt_of_lt_of_le lp5_2 hk.size
        have lp6_3 := Nat.lt_of_lt_of_le lp6_2 hk.size
        clear hk hhv hsv
        refine fc_nil ?_
        refine mt_take x3 (Below.refl _ _) ?_
        simp only [pick_cons, pick_nil, nth_zero, nth_succ]
        repeat (go_big_quiet_step (fail))
        refine wpQuiet_nil ?_
        refine mt_end ?_
        obtain ⟨wa, hsta, hba, hga⟩ := run_store_blk (P := Tryd.prog) hv.toList b5_3.out (by simp [hzs, hvz]) Hhv.out
        obtain ⟨wb, hstb, hbb, hgb⟩ := run_store_blk (P := Tryd.prog) sv.toList (b6_3.out.grown hga (fun e => by have e2 : p5 = p6 := Option.some.inj e; omega)) (by simp [szs, svz]) Hsv.out
        have hga2 := Lib.hid hga; have hgb2 := Lib.hid hgb
        clear hba hbb hga hgb
        go_wp2
        go_meet
        exact ⟨rfl, (q3.out.grown hga2.out q3.out.size (fun q hq => by injection hq with hq; omega)).grown hgb2.out (Nat.le_trans q3.out.size hga2.out.size) (fun q hq => by injection hq with hq; omega)⟩
    · simp only [pick_cons, pick_nil, nth_zero, nth_succ]
      refine fc_step rfl (fun K hK => ?_)
      go_simp
      refine hK _ _ (keep_new _ _) ?_
      clear hK K
      obtain ⟨x1, hx1⟩ : ∃ x, x = x0.alloc (.cells sz 33) := ⟨_, rfl⟩
      have b6_1 : Hid (Blk x1 x0.heap.size 33 sz.toList) := by rw [hx1]; exact Blk.new x0 _ sz.toList
      have hk : Keep x0 x1 := by rw [hx1]; exact keep_new _ _
      have q1 := Lib.hid (keep_trans q0.out hk)
      rw [← hx1]
      clear hx1 hk
      have lo6 : wr.heap.size ≤ x0.heap.size := q0.out.size
      have lp6_1 : x0.heap.size < x1.heap.size := b6_1.out.lt
      generalize x0.heap.size = p6 at *
      refine fc_nil ?_
      refine mt_fork ?_ ?_
      · simp only [pick_cons, pick_nil, nth_zero, nth_succ]
        refine fc_step rfl (fun K hK => ?_)
        go_simp
        (with_reducible refine (T3.out x1 q1.out).mono ?_)
        rintro e x2 ⟨hv, sv, rfl, hvz, hvn, hhv, svz, svn, hsv, hk⟩
        refine hK _ _ hk ?_
        clear hK K
        have q2 := Lib.hid (keep_trans q1.out hk)
        have b6_2 := Lib.hid (b6_1.out.keep hk)
        have Hhv := Lib.hid hhv; have Hsv := Lib.hid hsv
        have lp6_2 := Nat.lt_of_lt_of_le lp6_1 hk.size
        clear hk hhv hsv
        refine fc_nil ?_
        refine mt_take x2 (Below.refl _ _) ?_
        simp only [pick_cons, pick_nil, nth_zero, nth_succ]
        repeat (go_big_quiet_step (fail))
        refine wpQuiet_nil ?_
        refine mt_force ?_
        simp only [pick_cons, pick_nil, nth_zero, nth_succ]
        refine fc_step rfl (fun K hK => ?_)
        go_simp
        refine hK _ _ (keep_new _ _) ?_
        clear hK K
        obtain ⟨x3, hx3⟩ : ∃ x, x = x2.alloc (.cells hz 44) := ⟨_, rfl⟩
        have b5_3 : Hid (Blk x3 x2.heap.size 44 hz.toList) := by rw [hx3]; exact Blk.new x2 _ hz.toList
        have hk : Keep x2 x3 := by rw [hx3]; exact keep_new _ _
        have q3 := Lib.hid (keep_trans q2.out hk)
        have b6_3 := Lib.hid (b6_2.out.keep hk)
        have lp6_3 := Nat.lt_of_lt_of_le lp6_2 hk.size
        rw [← hx3]
        clear hx3 hk
        have lo5 : wr.heap.size ≤ x2.heap.size := q2.out.size
        have lp5_3 : x2.heap.size < x3.heap.size := b5_3.out.lt
        generalize x2.heap.size = p5 at *
        refine fc_nil ?_
        refine mt_end ?_
        obtain ⟨wa, hsta, hba, hga⟩ := run_store_blk (P := Tryd.prog) hv.toList b5_3.out (by simp [hzs, hvz]) Hhv.out
        obtain ⟨wb, hstb, hbb, hgb⟩ := run_store_blk (P := Tryd.prog) sv.toList (b6_3.out.grown hga (fun e => by have e2 : p5 = p6 := Option.some.inj e; omega)) (by simp [szs, svz]) Hsv.out
        have hga2 := Lib.hid hga; have hgb2 := Lib.hid hgb
        clear hba hbb hga hgb
        go_wp2
        go_meet
        exact ⟨rfl, (q3.out.grown hga2.out q3.out.size (fun q hq => by injection hq with hq; omega)).grown hgb2.out (Nat.le_trans q3.out.size hga2.out.size) (fun q hq => by injection hq with hq; omega)⟩
      · simp only [pick_cons, pick_nil, nth_zero, nth_succ]
        refine fc_step rfl (fun K hK => ?_)
        go_simp
        refine hK _ _ (keep_new _ _) ?_
        clear hK K
        obtain ⟨x2, hx2⟩ : ∃ x, x = x1.alloc (.cells hz 44) := ⟨_, rfl⟩
        have b5_2 : Hid (Blk x2 x1.heap.size 44 hz.toList) := by rw [hx2]; exact Blk.new x1 _ hz.toList
        have hk : Keep x1 x2 := by rw [hx2]; exact keep_new _ _
        have q2 := Lib.hid (keep_trans q1.out hk)
        have b6_2 := Lib.hid (b6_1.out.keep hk)
        have lp6_2 := Nat.lt_of_lt_of_le lp6_1 hk.size
        rw [← hx2]
        clear hx2 hk
        have lo5 : wr.heap.size ≤ x1.heap.size := q1.out.size
        have lp5_2 : x1.heap.size < x2.heap.size := b5_2.out.lt
        generalize x1.heap.size = p5 at *
        refine fc_nil ?_
        refine mt_force ?_
        simp only [pick_cons, pick_nil, nth_zero, nth_succ]
        refine fc_step rfl (fun K hK => ?_)
        go_simp
        (with_reducible refine (T3.out x2 q2.out).mono ?_)
        rintro e x3 ⟨hv, sv, rfl, hvz, hvn, hhv, svz, svn, hsv, hk⟩
        refine hK _ _ hk ?_
        clear hK K
        have q3 := Lib.hid (keep_trans q2.out hk)
        have b5_3 := Lib.hid (b5_2.out.keep hk)
        have b6_3 := Lib.hid (b6_2.out.keep hk)
        have Hhv := Lib.hid hhv; have Hsv := Lib.hid hsv
        have lp5_3 := Nat.lt_of_lt_of_le lp5_2 hk.size
        have lp6_3 := Nat.lt_of_lt_of_le lp6_2 hk.size
        clear hk hhv hsv
        refine fc_nil ?_
        refine mt_take x3 (Below.refl _ _) ?_
        simp only [pick_cons, pick_nil, nth_zero, nth_succ]
        repeat (go_big_quiet_step (fail))
        refine wpQuiet_nil ?_
        refine mt_end ?_
        obtain ⟨wa, hsta, hba, hga⟩ := run_store_blk (P := Tryd.prog) hv.toList b5_3.out (by simp [hzs, hvz]) Hhv.out
        obtain ⟨wb, hstb, hbb, hgb⟩ := run_store_blk (P := Tryd.prog) sv.toList (b6_3.out.grown hga (fun e => by have e2 : p5 = p6 := Option.some.inj e; omega)) (by simp [szs, svz]) Hsv.out
        have hga2 := Lib.hid hga; have hgb2 := Lib.hid hgb
        clear hba hbb hga hgb
        go_wp2
        go_meet
        exact ⟨rfl, (q3.out.grown hga2.out q3.out.size (fun q hq => by injection hq with hq; omega)).grown hgb2.out (Nat.le_trans q3.out.size hga2.out.size) (fun q hq => by injection hq with hq; omega)⟩
  case rest =>
    obtain ⟨rfl, kq⟩ := hcut
    have HKc := Lib.hid (keep_trans HKr.out kq); have Kq := Lib.hid kq
    have HrX9 : Hid (Rd (wc.alloc (.cells #[] 5)) (some ⟨bx, ox, none⟩) (X.map u8v)) := (Hrxr.out.keep kq).keep (keep_new _ _)
    have hzc : wr.heap.size ≤ wc.heap.size := kq.size
    clear kq T3
    go_upto_region 10 with (at_builtin; refine wpList_app byteT (by rfl) _ _ (by rfl) wc.heap.size _ 0 [] (by rfl) (own_zero _ _ _) _ 128 _ (X.map u8v) (by rfl) (by rw [List.length_map]; have := HXl.out; omega) HrX9.out (one_bytes _) (by omega) (by unfold maxLen; omega) (by simp) ?_; intro v9 w9 own9 hg9 hat9; have Own9 := Lib.hid own9; have Hg9 := Lib.hid hg9; clear own9 hg9 hat9)
    have K9 : Hid (Keep wr w9) := (keep_trans Kq.out (keep_new wc _)).grown Hg9.out (by simp; omega) (fun q hq => by have e2 : wc.heap.size = q := Option.some.inj hq; omega)
    have hown := Own9.out
    rw [List.nil_append, Nat.zero_add] at hown
    rcases hown.2 with ⟨_, h0⟩ | ⟨g, cap, cur, rfl, hgb, hgc, hnc, hcm, hcs, htake⟩
    · omega
    have hcl : cur.toList.length = cap := by rw [Array.length_toList]; omega
    have hb9 : Blk w9 g 5 cur.toList := by unfold Blk; rw [Array.toArray_toList]; exact hgc
    obtain ⟨x, hxa⟩ : ∃ x, X[at_]? = some x := ⟨_, List.getElem?_eq_getElem (by rw [HXl.out]; exact hat2)⟩
    have c9 : w9.cell? ⟨g, at_, none⟩ = some (.int .u8 (x.toNat : Int)) := by
      rw [hb9.cell]
      have h1 : (cur.toList.take (128 * 1))[at_]? = (X.map u8v)[at_]? := by rw [htake]
      rw [List.getElem?_take, if_pos (by omega), List.getElem?_map, hxa] at h1
      exact h1
    have f9 := hb9.frozen at_
    have HR11 : Hid (∀ y : UInt8, Hid (Rd (w9.setCell ⟨g, at_, none⟩ (.int .u8 (y.toNat : Int))) (some ⟨g, 0, none⟩) ((X.set at_ y).map u8v))) := fun y => by
      have h1 := (hb9.set_ at_ (.int .u8 (y.toNat : Int))).rd.sub 0 128 (by rw [List.length_set]; omega)
      rw [List.drop_zero, List.take_set, show (128 : Nat) = 128 * 1 from rfl, htake, Nat.add_zero] at h1
      rw [List.map_set]; exact h1
    have HK11 : Hid (∀ y : UInt8, Hid (Keep wr (w9.setCell ⟨g, at_, none⟩ (.int .u8 (y.toNat : Int))))) := fun y => Lib.hid (K9.out.setCell (by show wr.heap.size ≤ g; omega) _)
    have HXa := Lib.hid hxa
    have Hcap : Hid (128 ≤ cap ∧ cap ≤ maxLen) := ⟨hnc, hcm⟩
    unfold maxLen at hcm
    have Hq := Lib.hid (show (q16 : Int) % 128 = (at_ : Int) by have := Hat.out; omega)
    clear hown hgc hcs htake hb9 hxa hcl HrX9 Own9 Hg9
    go_upto_region 11 with fail
    rw [Hq.out]
    go_cut [] (fun wx => ∃ y : UInt8, X[at_]? ≠ some y ∧ Hid (Rd wx (some ⟨g, 0, none⟩) ((X.set at_ y).map u8v)) ∧ Hid (Keep wr wx))
    case first =>
      have hjj : j = 0 ∨ j = 1 ∨ j = 2 ∨ j = 3 ∨ j = 4 ∨ j = 5 ∨ j = 6 ∨ j = 7 := by omega
      clear hj2
      rcases hjj with rfl | rfl | rfl | rfl | rfl | rfl | rfl | rfl
      · obtain ⟨y, hy1, hy2⟩ := xor_u8 x 1 (by decide)
        have Hy2 := Lib.hid hy2
        clear hy2
        go_wp2
        go_meet
        exact ⟨y, fun e => Hy2.out (Option.some.inj (HXa.out.symm.trans e)).symm, HR11.out y, HK11.out y⟩
      · obtain ⟨y, hy1, hy2⟩ := xor_u8 x 2 (by decide)
        have Hy2 := Lib.hid hy2
        clear hy2
        go_wp2
        go_meet
        exact ⟨y, fun e => Hy2.out (Option.some.inj (HXa.out.symm.trans e)).symm, HR11.out y, HK11.out y⟩
      · obtain ⟨y, hy1, hy2⟩ := xor_u8 x 4 (by decide)
        have Hy2 := Lib.hid hy2
        clear hy2
        go_wp2
        go_meet
        exact ⟨y, fun e => Hy2.out (Option.some.inj (HXa.out.symm.trans e)).symm, HR11.out y, HK11.out y⟩
      · obtain ⟨y, hy1, hy2⟩ := xor_u8 x 8 (by decide)
        have Hy2 := Lib.hid hy2
        clear hy2
        go_wp2
        go_meet
        exact ⟨y, fun e => Hy2.out (Option.some.inj (HXa.out.symm.trans e)).symm, HR11.out y, HK11.out y⟩
      · obtain ⟨y, hy1, hy2⟩ := xor_u8 x 16 (by decide)
        have Hy2 := Lib.hid hy2
        clear hy2
        go_wp2
        go_meet
        exact ⟨y, fun e => Hy2.out (Option.some.inj (HXa.out.symm.trans e)).symm, HR11.out y, HK11.out y⟩
      · obtain ⟨y, hy1, hy2⟩ := xor_u8 x 32 (by decide)
        have Hy2 := Lib.hid hy2
        clear hy2
        go_wp2
        go_meet
        exact ⟨y, fun e => Hy2.out (Option.some.inj (HXa.out.symm.trans e)).symm, HR11.out y, HK11.out y⟩
      · obtain ⟨y, hy1, hy2⟩ := xor_u8 x 64 (by decide)
        have Hy2 := Lib.hid hy2
        clear hy2
        go_wp2
        go_meet
        exact ⟨y, fun e => Hy2.out (Option.some.inj (HXa.out.symm.trans e)).symm, HR11.out y, HK11.out y⟩
      · obtain ⟨y, hy1, hy2⟩ := xor_u8 x 128 (by decide)
        have Hy2 := Lib.hid hy2
        clear hy2
        go_wp2
        go_meet
        exact ⟨y, fun e => Hy2.out (Option.some.inj (HXa.out.symm.trans e)).symm, HR11.out y, HK11.out y⟩
    case rest =>
      obtain ⟨y, hy, HR12, HK12⟩ := hcut
      have HKc2 := Lib.hid (keep_trans HKr.out HK12.out); have HLc := Lib.hid (HLr.out.keep HK12.out)
      have C12 := T4.out wc (some ⟨g, 0, none⟩) cap y HKc2.out HR12.out Hcap.out.1 Hcap.out.2 hy
      clear T4
      go_wp2_with ((with_reducible refine load_arr LB ls (Eq.trans ?_ rfl) HLc.out (.array 32 5) hash_under (arr_row _ _) hli ?_); rfl)
      refine C12.mono ?_
      clear C12
      rintro e w12 ⟨hv3, tv, Tl, is, rfl, z1, z2, z3, htv, his, k12⟩
      have tvz := htv.z; have tvn := htv.n; have tvi := htv.i
      have Htv := Lib.hid htv
      obtain ⟨wx1, we, st1, st2, -, bt, ke⟩ := two_boxes w12 hz sz hv3 tv (hzs.trans z1.symm) (szs.trans tvz.symm) z3 Htv.out.o
      have K12 := Lib.hid (keep_trans HK12.out (keep_trans k12 ke))
      have HTe := Lib.hid bt; have His := Lib.hid his
      clear htv k12 ke bt z3 his
      go_upto_region 13 with fail
      clear st1 st2
      generalize w12.heap.size = B23 at *
      have HKe := Lib.hid (keep_trans HKr.out K12.out); have HXe := Lib.hid (HX1r.out.keep K12.out); have HHe := Lib.hid (HHr.out.keep K12.out); have HSe := Lib.hid (HS1r.out.keep K12.out); have HrXe := Lib.hid (Hrxr.out.keep K12.out)
      have V1 : Hid (∀ W, Keep we W → (convert 22 9 (.slice (some ⟨B12 + 1, 0, none⟩) 32 32)).run Tryd.prog W = .ok (.string (str SM)) W) := fun W hW => bytes_str 32 32 HSl.out.symm (by rw [← S1v.out.l]; exact (HSe.out.keep hW).rd)
      have V2 : Hid (∀ W, Keep we W → (convert 22 9 (.slice (some ⟨bx, ox + 96, none⟩) 32 (cx - 96))).run Tryd.prog W = .ok (.string (str SM)) W) := fun W hW => by
        have h1 := (HrXe.out.keep hW).sub 96 32 (by rw [List.length_map, HXl.out]; omega)
        rw [← List.map_drop, ← List.map_take, HXs.out, List.take_of_length_le (by rw [HSl.out]; omega)] at h1
        exact bytes_str 32 _ HSl.out.symm h1
      have V3 : Hid (∀ W, Keep we W → (convert 22 9 (.slice (some ⟨bx, ox + 4, none⟩) 80 (cx - 4))).run Tryd.prog W = .ok (.string (str HP)) W) := fun W hW => by
        have h1 := (HrXe.out.keep hW).sub 4 80 (by rw [List.length_map, HXl.out]; omega)
        rw [← List.map_drop, ← List.map_take, HXm.out] at h1
        exact bytes_str 80 _ HPl.out.symm h1
      have he1 : ∀ w, (Go.binOp .eql 44 (.agg hv1) (.agg hv1)).run Tryd.prog w = .ok (.bool true) w := fun w => by
        have h1 := hd_eql Hhv.out Hhv.out Hk.out Hk.out w
        rwa [(hdEq_iff h h).2 rfl] at h1
      have hgd1 := hd_guard; have hgd2 := hash_guard
      cases is with
      | false =>
        have he2 : True := trivial
        refine wp_region_tree (.take [0,1,2,3,4,5,6,7,8,9,10,11,12,13,14,15,16,17,18,19,20,21,22,23,24,25,26,27,28,29,30,31,32,33,34,35,36,37,38,39,42,43,44] (.force [40] (.take [41,45,46,47] .done))) [] (by kernel_rfl) (by kernel_rfl) (fun y0 q0' => ?_)
        have q0 := Lib.hid q0'
        have HX0 := Lib.hid (HXe.out.keep q0'); have HH0 := Lib.hid (HHe.out.keep q0'); have HT0 := Lib.hid (HTe.out.keep q0'); have HS0 := Lib.hid (HSe.out.keep q0')
        have v1 := fun y => V1.out (aft y0 y) (keep_trans q0' (aft_keep y0 y)); have v2 := fun y => V2.out (aft y0 y) (keep_trans q0' (aft_keep y0 y)); have v3 := fun y => V3.out (aft y0 y) (keep_trans q0' (aft_keep y0 y))
        clear q0'
        refine mt_take y0 (Below.refl _ _) ?_
        simp only [pick_cons, pick_nil, nth_zero, nth_succ]
        repeat (first
          | ((with_reducible refine wpQuiet_load_partg B12 0 hv1 (Eq.trans ?_ rfl) HX0.out.range _ Tryd.underlying44 rfl hvi (Eq.trans ?_ rfl) ?_); rfl; rfl; simp only [Act.put, Array.set!_eq_setIfInBounds, List.setIfInBounds_toArray, List.set_cons_succ, List.set_cons_zero])
          | ((with_reducible refine wpQuiet_load_partg HB 0 hv1 (Eq.trans ?_ rfl) HH0.out.range _ Tryd.underlying44 rfl hvi (Eq.trans ?_ rfl) ?_); rfl; rfl; simp only [Act.put, Array.set!_eq_setIfInBounds, List.setIfInBounds_toArray, List.set_cons_succ, List.set_cons_zero])
          | ((with_reducible refine wpQuiet_load_partg (B23 + 1) 0 tv (Eq.trans ?_ rfl) HT0.out.range (.array 32 5) hash_under (arr_row _ _) tvi (Eq.trans ?_ rfl) ?_); rfl; rfl; simp only [Act.put, Array.set!_eq_setIfInBounds, List.setIfInBounds_toArray, List.set_cons_succ, List.set_cons_zero])
          | ((with_reducible refine wpQuiet_load_partg (B12 + 1) 0 sv1 (Eq.trans ?_ rfl) HS0.out.range (.array 32 5) hash_under (arr_row _ _) s1i (Eq.trans ?_ rfl) ?_); rfl; rfl; simp only [Act.put, Array.set!_eq_setIfInBounds, List.setIfInBounds_toArray, List.set_cons_succ, List.set_cons_zero])
          | go_big_quiet_step (fail))
        clear v1 v2 v3 he1 he2 hgd1 hgd2
        refine wpQuiet_nil (mt_force ?_)
        simp only [pick_cons, pick_nil, nth_zero, nth_succ]
        refine fc_step rfl (fun K hK => ?_)
        go_simp
        (with_reducible refine (P1.out y0).mono ?_)
        rintro e y1 ⟨A6, rfl, hr6, hk6⟩
        refine hK _ _ hk6 ?_
        clear hK K
        have q1 := Lib.hid (keep_trans q0.out hk6)
        have v4 : ∀ y, (convert 22 9 (.slice A6 80 80)).run Tryd.prog (aft y1 y) = .ok (.string (str HP)) (aft y1 y) := fun y => bytes_str 80 80 HPl.out.symm (hr6.keep (aft_keep y1 y))
        clear hk6 hr6
        refine fc_nil (mt_take y1 (Below.refl _ _) ?_)
        simp only [pick_cons, pick_nil, nth_zero, nth_succ]
        repeat (go_big_quiet_step (fail))
        clear v4
        refine wpQuiet_nil (mt_end ?_)
        go_wp2
        exact bodyPost_ret (v := .bool true) (by simp [results, Tryd.results4]) rfl ⟨rfl, keep_trans HKe.out q1.out⟩
      | true =>
        obtain ⟨hlt84, hTl⟩ := His.out rfl
        subst hTl
        have he2 : ∀ w, (Go.binOp .eql 33 (.agg tv) (.agg sv1)).run Tryd.prog w = .ok (.bool true) w := fun w => by
          have h1 := hash_eql Htv.out S1v.out HSl.out HSl.out w
          rwa [show (Tl == Tl) = true from beq_self_eq_true Tl] at h1
        have hlt84' : (at_ : Int) < 84 := by omega
        refine wp_region_tree (.take [0,1,2,3,4,5,6,7,8,9,10,11,12,13,14,15,16,17,18,19,20,21,22,23,24,25,26,27,28,29,30,31,32,33,34,35,36,37,38,39,42,43,44] (.force [40] (.take [41,45,46,47] .done))) [] (by kernel_rfl) (by kernel_rfl) (fun y0 q0' => ?_)
        have q0 := Lib.hid q0'
        have HX0 := Lib.hid (HXe.out.keep q0'); have HH0 := Lib.hid (HHe.out.keep q0'); have HT0 := Lib.hid (HTe.out.keep q0'); have HS0 := Lib.hid (HSe.out.keep q0')
        have v1 := fun y => V1.out (aft y0 y) (keep_trans q0' (aft_keep y0 y)); have v2 := fun y => V2.out (aft y0 y) (keep_trans q0' (aft_keep y0 y)); have v3 := fun y => V3.out (aft y0 y) (keep_trans q0' (aft_keep y0 y))
        clear q0'
        refine mt_take y0 (Below.refl _ _) ?_
        simp only [pick_cons, pick_nil, nth_zero, nth_succ]
        repeat (first
          | ((with_reducible refine wpQuiet_load_partg B12 0 hv1 (Eq.trans ?_ rfl) HX0.out.range _ Tryd.underlying44 rfl hvi (Eq.trans ?_ rfl) ?_); rfl; rfl; simp only [Act.put, Array.set!_eq_setIfInBounds, List.setIfInBounds_toArray, List.set_cons_succ, List.set_cons_zero])
          | ((with_reducible refine wpQuiet_load_partg HB 0 hv1 (Eq.trans ?_ rfl) HH0.out.range _ Tryd.underlying44 rfl hvi (Eq.trans ?_ rfl) ?_); rfl; rfl; simp only [Act.put, Array.set!_eq_setIfInBounds, List.setIfInBounds_toArray, List.set_cons_succ, List.set_cons_zero])
          | ((with_reducible refine wpQuiet_load_partg (B23 + 1) 0 tv (Eq.trans ?_ rfl) HT0.out.range (.array 32 5) hash_under (arr_row _ _) tvi (Eq.trans ?_ rfl) ?_); rfl; rfl; simp only [Act.put, Array.set!_eq_setIfInBounds, List.setIfInBounds_toArray, List.set_cons_succ, List.set_cons_zero])
          | ((with_reducible refine wpQuiet_load_partg (B12 + 1) 0 sv1 (Eq.trans ?_ rfl) HS0.out.range (.array 32 5) hash_under (arr_row _ _) s1i (Eq.trans ?_ rfl) ?_); rfl; rfl; simp only [Act.put, Array.set!_eq_setIfInBounds, List.setIfInBounds_toArray, List.set_cons_succ, List.set_cons_zero])
          | go_big_quiet_step (fail))
        clear v1 v2 v3 he1 he2 hgd1 hgd2
        refine wpQuiet_nil (mt_force ?_)
        simp only [pick_cons, pick_nil, nth_zero, nth_succ]
        refine fc_step rfl (fun K hK => ?_)
        go_simp
        (with_reducible refine (P1.out y0).mono ?_)
        rintro e y1 ⟨A6, rfl, hr6, hk6⟩
        refine hK _ _ hk6 ?_
        clear hK K
        have q1 := Lib.hid (keep_trans q0.out hk6)
        have v4 : ∀ y, (convert 22 9 (.slice A6 80 80)).run Tryd.prog (aft y1 y) = .ok (.string (str HP)) (aft y1 y) := fun y => bytes_str 80 80 HPl.out.symm (hr6.keep (aft_keep y1 y))
        clear hk6 hr6
        refine fc_nil (mt_take y1 (Below.refl _ _) ?_)
        simp only [pick_cons, pick_nil, nth_zero, nth_succ]
        repeat (go_big_quiet_step (fail))
        clear v4
        refine wpQuiet_nil (mt_end ?_)
        go_wp2
        exact bodyPost_ret (v := .bool true) (by simp [results, Tryd.results4]) rfl ⟨rfl, keep_trans HKe.out q1.out⟩
end Go.Proofs.YtielojlhdnimgaaDoor
