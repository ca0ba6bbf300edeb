/- Texts merged by pack.py: Rte, OpB, OpY, MgO. -/
import Derived.Test.YtffpanlpbdnafaaDoorCx12
import Derived.Test.YtffpanlpbdnafaaDoorCx7
import Derived.Test.YtffpanlpbdnafaaDoorCx2
import Derived.WalkKit
import Derived.ProofKit
import Derived.OpenShut
import Derived.Test.YtffpanlpbdnafaaDoorCx8
import Derived.Test.YtffpanlpbdnafaaDoorCards
import Derived.Test.YtffpanlpbdnafaaDoorTie
import Derived.Deep.DeepHandedRow
import Derived.Lib.LaidTab
import Derived.Test.YtffpanlpbdnafaaDoorCx10
/- PeerTells (printed by gen_rte.py) -/
set_option linter.unusedSimpArgs false
set_option linter.unusedVariables false
namespace Go.Proofs.YtffpanlpbdnafaaDoor
open Go.RowKit
attribute [local go_sem ↓] Go.wp_at_zero Go.wp_at_succ
set_option maxRecDepth 100000 in
set_option maxHeartbeats 16000000 in
theorem tells_walk (g o : UInt32) (m : MsgR) (cs : Array Value) (w : World) (hA : MsB m cs) (h : m.at_ w) (hS : ShaOk w) :
    Calls Tryd.prog 4 #[u32v g, u32v o, .agg cs] w fun e w' => e = .returned (.bool true) ∧ Keep w w' := by
  have AW : Hid (∀ y, Calls Tryd.prog 7 #[] y fun e w' => e = .returned (.bool true) ∧ Keep y w') := Lib.hid awake22
  have FW : Hid (∀ y, Keep w y → Calls Tryd.prog 13 #[.agg cs] y fun e w' => e = .returned (.bool (fewM m)) ∧ Keep y w') := Lib.hid fun y hy => few09_any m cs hA y (h.keep hy)
  have hcn := hA.n; have hcz := hA.z; have hci := hA.i
  have HA := Lib.hid hA; have H0 := Lib.hid h; have HS := Lib.hid hS
  obtain ⟨zs, hz0, hzA⟩ := zpeer_letter
  have hzn := hzA.n; have hzz := hzA.z
  have HZ := Lib.hid hzA
  cases hfew : fewM m with
  | false =>
    rw [hfew] at FW
    clear hA h hfew hS hzA
    go_enter Tryd.func4, Tryd.ntmps4
    go_upto_region 1 with fail
    obtain ⟨w1, hw1⟩ : ∃ w1, w1 = w.alloc (.cells cs 63) := ⟨_, rfl⟩
    have HM1 : Hid (Blk w1 w.heap.size 63 cs.toList) := by rw [hw1]; exact Lib.hid (Blk.new w _ cs.toList)
    have HK1 : Hid (Keep w w1) := by rw [hw1]; exact Lib.hid (keep_new _ _)
    rw [← hw1]
    clear hw1
    go_upto_region 2 with (go_at_call 7; refine (AW.out _).mono ?_; rintro e w2 ⟨rfl, k⟩; have HK2 := Lib.hid (keep_trans HK1.out k); have HM2 := Lib.hid (HM1.out.keep k); clear k)
    go_wp2_with (first | ((with_reducible refine load_arr w.heap.size cs (Eq.trans ?_ rfl) HM2.out _ Tryd.underlying63 rfl hci ?_); rfl) | (go_at_call 13; refine (FW.out _ HK2.out).mono ?_; rintro e w3 ⟨rfl, k⟩; have HK3 := Lib.hid (keep_trans HK2.out k); have HM3 := Lib.hid (HM2.out.keep k); clear k))
    exact bodyPost_ret (v := .bool true) (by simp [results, Tryd.results4]) rfl ⟨rfl, HK3.out⟩
  | true =>
    rw [hfew] at FW
    have hq : (m.hs.length ≤ 40 ∧ m.ls.length ≤ 150 ∧ m.is.length ≤ 100 ∧ m.shs.length ≤ 100 ∧ m.fs.length ≤ 1100) ∧ fewT m.t = true := by
      unfold fewM at hfew
      rwa [Bool.and_eq_true, decide_eq_true_eq] at hfew
    have hqt := hq.2
    unfold fewT at hqt
    rw [decide_eq_true_eq] at hqt
    have L1 := hqt.2.2.1; have L2 := hqt.2.2.2
    have MS : Hid (∀ y, Keep w y → Calls Tryd.prog 15 #[.agg cs] y fun e w' => ∃ m' ds, e = .returned (.agg ds) ∧ MsA m' ds ∧ m'.pl = m.pl ∧ m'.at_ w' ∧ Keep y w') := Lib.hid fun y hy => lmsg_any m cs hA y (h.keep hy) (by omega) (by omega) (by have := hq.1.2.2.1; omega)
    have PN : Hid (∀ x : UInt32, ∀ y, Calls Tryd.prog 9 #[u32v x, iv 4000000] y fun e w' => ∃ ps, e = .returned (.agg ps) ∧ PeA (newP x 4000000) ps ∧ Keep y w') := Lib.hid fun x y => pnew_any x 4000000 y
    have hpl := put_few h hfew
    cases hfit : fitsB m with
    | false =>
      have FT : Hid (∀ m' ds y, MsA m' ds → m'.pl = m.pl → m'.at_ y → Calls Tryd.prog 16 #[.agg ds] y fun e w' => e = .returned (.bool false) ∧ Keep y w') := Lib.hid fun m' ds y h1 h2 h3 => by
        have q := fits_any m' ds h1 h3.o y h3.t
        rwa [(pl_atP h2).2.1, hfit] at q
      have SE : Hid (∀ ps m' ds y, PeA (newP g 4000000) ps → MsA m' ds → m'.pl = m.pl → m'.at_ y → Keep w y → Calls Tryd.prog 14 #[.agg ps, .agg ds] y fun e w' => e = .returned (.tuple #[.slice none 0 0, iv 2]) ∧ Keep y w') := Lib.hid fun ps m' ds y h1 h2 h3 h4 h5 => send_no (newP g 4000000) ps h1 rfl (by rw [new_sane]; show (0 : Int) ≠ 3; omega) m' ds h2 y h4 (hS.keep h5) (by rw [(pl_atP h3).2.2]; exact hpl) (by rw [(pl_atP h3).2.1, hfit])
      clear hA h hfew hq hqt L1 L2 hfit hpl hS hzA
      go_enter Tryd.func4, Tryd.ntmps4
      go_upto_region 1 with fail
      obtain ⟨w1, hw1⟩ : ∃ w1, w1 = w.alloc (.cells cs 63) := ⟨_, rfl⟩
      have HM1 : Hid (Blk w1 w.heap.size 63 cs.toList) := by rw [hw1]; exact Lib.hid (Blk.new w _ cs.toList)
      have HK1 : Hid (Keep w w1) := by rw [hw1]; exact Lib.hid (keep_new _ _)
      rw [← hw1]
      clear hw1
      go_upto_region 2 with (go_at_call 7; refine (AW.out _).mono ?_; rintro e w2 ⟨rfl, k⟩; have HK2 := Lib.hid (keep_trans HK1.out k); have HM2 := Lib.hid (HM1.out.keep k); clear k)
      go_upto_region 4 with (first | ((with_reducible refine load_arr w.heap.size cs (Eq.trans ?_ rfl) HM2.out _ Tryd.underlying63 rfl hci ?_); rfl) | (go_at_call 13; refine (FW.out _ HK2.out).mono ?_; rintro e w3 ⟨rfl, k⟩; have HK3 := Lib.hid (keep_trans HK2.out k); have HM3 := Lib.hid (HM2.out.keep k); clear k))
      clear HK1 HM1 HK2 HM2 AW FW
      go_upto_region 5 with (go_at_call 9; refine (PN.out _ _).mono ?_; rintro e w4 ⟨ps, rfl, hpA, k⟩; have HK4 := Lib.hid (keep_trans HK3.out k); have HM4 := Lib.hid (HM3.out.keep k); have hst := pst_new HZ.out hpA w4; have hpn := hpA.n; have hpz := hpA.z; have hpi := hpA.i; have HPA := Lib.hid hpA; clear k hpA)
      obtain ⟨w5, hw⟩ : ∃ y, y = w4.alloc (.cells ps 31) := ⟨_, rfl⟩
      have HP5 : Hid (Blk w5 w4.heap.size 31 ps.toList) := by rw [hw]; exact Lib.hid (Blk.new w4 _ ps.toList)
      have HM5 := Lib.hid (show Blk w5 _ _ _ from by rw [hw]; exact HM4.out.alloc _)
      have HK5 : Hid (Keep w w5) := by rw [hw]; exact Lib.hid (keep_trans HK4.out (keep_new _ _))
      rw [← hw]
      clear hst hw HK4 HM4 HK3 HM3
      generalize w4.heap.size = b8 at *
      refine wp_region_tree (.take [0,1] (.force [2,3] (.take [4,5,6,7,8] .done))) [] (by kernel_rfl) (by kernel_rfl) (fun y0 hk => ?_)
      have HP6 := Lib.hid (HP5.out.keep hk); have HM6 := Lib.hid (HM5.out.keep hk); have HK6 := Lib.hid (keep_trans HK5.out hk)
      clear hk HP5 HM5 HK5
      have RP := Lib.hid (range_of HP6.out 0 ps.toList (by simp [List.take_of_length_le])); have RC := Lib.hid (range_of HM6.out 0 cs.toList (by simp [List.take_of_length_le]))
      refine mt_take y0 (Below.refl _ _) ?_
      simp only [pick_cons, pick_nil, nth_zero, nth_succ]
      repeat (first | ((with_reducible refine wpQuiet_load_partg b8 0 ps (Eq.trans ?_ rfl) RP.out _ Tryd.underlying31 rfl hpi (Eq.trans ?_ rfl) ?_); rfl; rfl; simp only [Act.put, Array.set!_eq_setIfInBounds, List.setIfInBounds_toArray, List.set_cons_succ, List.set_cons_zero]) | ((with_reducible refine wpQuiet_load_partg w.heap.size 0 cs (Eq.trans ?_ rfl) RC.out _ Tryd.underlying63 rfl hci (Eq.trans ?_ rfl) ?_); rfl; rfl; simp only [Act.put, Array.set!_eq_setIfInBounds, List.setIfInBounds_toArray, List.set_cons_succ, List.set_cons_zero]) | go_big_quiet_step (fail))
      clear RP RC
      refine wpQuiet_nil (mt_force ?_)
      simp only [pick_cons, pick_nil, nth_zero, nth_succ]
      refine fc_step rfl (fun K hK => ?_)
      go_simp
      (with_reducible refine (MS.out _ HK6.out).mono ?_)
      rintro e y1 ⟨m1, d1, rfl, a1, a2, a3, hk⟩
      refine hK _ _ hk ?_
      clear hK K
      have HP7 := Lib.hid (HP6.out.keep hk); have HM7 := Lib.hid (HM6.out.keep hk); have HK7 := Lib.hid (keep_trans HK6.out hk)
      clear hk HP6 HM6 HK6
      refine fc_step rfl (fun K hK => ?_)
      go_simp
      (with_reducible refine (SE.out ps m1 d1 _ HPA.out a1 a2 a3 HK7.out).mono ?_)
      clear a1 a2 a3
      rintro e y2 ⟨rfl, hk⟩
      refine hK _ _ hk ?_
      clear hK K
      have HP8 := Lib.hid (HP7.out.keep hk); have HM8 := Lib.hid (HM7.out.keep hk); have HK8 := Lib.hid (keep_trans HK7.out hk)
      clear hk HP7 HM7 HK7 SE
      refine fc_nil (mt_take _ (Below.refl _ _) ?_)
      simp only [pick_cons, pick_nil, nth_zero, nth_succ]
      repeat (go_big_quiet_step (fail))
      refine wpQuiet_nil (mt_end ?_)
      go_wp2_with (first | ((with_reducible refine load_arr w.heap.size cs (Eq.trans ?_ rfl) HM8.out _ Tryd.underlying63 rfl hci ?_); rfl) | (go_at_call 15; refine (MS.out _ HK8.out).mono ?_; rintro e w9 ⟨m2, d2, rfl, a1, a2, a3, k⟩; have A1 := Lib.hid a1; have A2 := Lib.hid a2; have A3 := Lib.hid a3; have HP9 := Lib.hid (HP8.out.keep k); have HM9 := Lib.hid (HM8.out.keep k); have HK9 := Lib.hid (keep_trans HK8.out k); skip; clear a1 a2 a3 k) | (go_at_call 16; refine (FT.out m2 d2 _ A1.out A2.out A3.out).mono ?_; rintro e wa ⟨rfl, k⟩; have HPa := Lib.hid (HP9.out.keep k); have HMa := Lib.hid (HM9.out.keep k); have HKa := Lib.hid (keep_trans HK9.out k); skip; clear k))
      exact bodyPost_ret (v := .bool true) (by simp [results, Tryd.results4]) rfl ⟨rfl, HKa.out⟩
    | true =>
      have FT : Hid (∀ m' ds y, MsA m' ds → m'.pl = m.pl → m'.at_ y → Calls Tryd.prog 16 #[.agg ds] y fun e w' => e = .returned (.bool true) ∧ Keep y w') := Lib.hid fun m' ds y h1 h2 h3 => by
        have q := fits_any m' ds h1 h3.o y h3.t
        rwa [(pl_atP h2).2.1, hfit] at q
      have hcmd := fits_cmd hfit
      have hcl : (nameL m.kind).length ≤ 12 := by
        simp only [cmdB, Bool.and_eq_true, decide_eq_true_eq] at hcmd
        exact hcmd.1.2
      have hgot := getF_put g 4000000 (nameL m.kind) (putL m) hcmd hpl (by rw [bnd_4]; omega)
      have hheard := feed_heard h hfit hfew
      have hother := feed_other h hfit g
      have hfl := putF_len (g := g) (pl := putL m) hcl
      obtain ⟨fb, hfb⟩ : ∃ fb, putF g (nameL m.kind) (putL m) = fb := ⟨_, rfl⟩
      obtain ⟨N, hN⟩ : ∃ N, 24 + (putL m).length = N := ⟨_, rfl⟩
      have hN4 : N ≤ 1000000000 := by omega
      have SE : Hid (∀ ps m' ds y, PeA (newP g 4000000) ps → MsA m' ds → m'.pl = m.pl → m'.at_ y → Keep w y → Calls Tryd.prog 14 #[.agg ps, .agg ds] y fun e w' => ∃ A c, e = .returned (.tuple #[.slice A N c, iv 0]) ∧ (N ≤ c ∧ c ≤ maxLen) ∧ Rd w' A (fb.map u8v) ∧ Keep y w') := Lib.hid fun ps m' ds y h1 h2 h3 h4 h5 => by
        refine (send_ok (newP g 4000000) ps h1 rfl (by rw [new_sane]; show (0 : Int) ≠ 3; omega) m' ds h2 y h4 (hS.keep h5) (by rw [(pl_atP h3).2.2]; exact hpl) (by rw [(pl_atP h3).2.1, hfit])).mono ?_
        rintro e w' ⟨v, rfl, ho, hk⟩
        obtain ⟨A, c, rfl, q1, q2, q3⟩ := own_form ho
        rw [(pl_atP h3).2.2, (pl_atP h3).1, new_sane] at q3
        rw [(pl_atP h3).2.2] at q1 ⊢
        rw [hN] at q1 ⊢
        exact ⟨A, c, rfl, ⟨q1, q2⟩, by rw [← hfb]; exact q3, hk⟩
      have FD : Hid (∀ ps A c y, PeA (newP g 4000000) ps → Keep w y → (N ≤ c ∧ c ≤ maxLen) → Rd y A (fb.map u8v) → Calls Tryd.prog 17 #[.agg ps, .slice A N c] y fun e w' => ∃ (ds : Array Value) (z : PeR) (b off lc : Nat) (m' : MsgR) (gs : Array Value), e = .returned (.tuple #[.agg ds, .slice (some ⟨b, off, none⟩) 1 lc, iv 0]) ∧ PeA z ds ∧ z.stage = 0 ∧ MsA m' gs ∧ m'.pl = m.pl ∧ m'.at_ w' ∧ w'.rangeAt b off gs.toList ∧ Keep y w') := Lib.hid fun ps A c y h1 h2 h3 h4 => by
        have q := pfeed_any (newP g 4000000) ps h1 rfl (by rw [new_sane]; show (0 : Int) ≠ 3; omega) (by rw [new_sane]; rfl) A fb N c y (by rw [← hfb, hfl, hN]) hN4 h3 h4 (hS.keep h2)
        have hh := hheard (newP g 4000000) bnd_4
        rw [show (newP g 4000000).magic = g from rfl] at hh
        rw [new_sane, ← hfb, hh] at q
        refine q.mono ?_
        rintro e w' ⟨ds, z, L, lc, ms, rfl, z1, z2, z3, z4, z5, z6, z7, z8⟩
        obtain ⟨m', rfl, hp⟩ := one_msg z4
        have hm' := z7 m' (List.mem_singleton_self _)
        have hml : m'.cells.length = 114 := MsgR.len hm'.o
        rw [List.flatMap_cons, List.flatMap_nil, List.append_nil] at z6
        rcases z6 with h0 | ⟨b, off, rfl, hc⟩
        · rw [h0] at hml; simp at hml
        refine ⟨ds, z, b, off, lc, m', m'.cells.toArray, rfl, z1, ?_, MsA.of hm'.o, hp, hm', fun j v hv => ?_, z8⟩
        · have := congrArg PeR.stage z3; exact this
        · obtain ⟨hj, hv2⟩ := List.getElem?_eq_some_iff.1 hv
          have hj2 : j < m'.cells.length := hj
          rw [hc j hj2]
          exact congrArg some hv2
      have FO : Hid (o ≠ g → ∀ ps A c y, PeA (newP o 4000000) ps → Keep w y → (N ≤ c ∧ c ≤ maxLen) → Rd y A (fb.map u8v) → Calls Tryd.prog 17 #[.agg ps, .slice A N c] y fun e w' => ∃ (ds : Array Value) (z : PeR) (L : Option Addr) (lc : Nat), e = .returned (.tuple #[.agg ds, .slice L 0 lc, iv 5]) ∧ PeA z ds ∧ z.stage = 3 ∧ Keep y w') := Lib.hid fun hne ps A c y h1 h2 h3 h4 => by
        have q := pfeed_any (newP o 4000000) ps h1 rfl (by rw [new_sane]; show (0 : Int) ≠ 3; omega) (by rw [new_sane]; rfl) A fb N c y (by rw [← hfb, hfl, hN]) hN4 h3 h4 (hS.keep h2)
        rw [new_sane, ← hfb] at q
        obtain ⟨e1, e2, e3⟩ := hother (newP o 4000000) hne
        refine q.mono ?_
        rintro e w' ⟨ds, z, L, lc, ms, rfl, z1, z2, z3, z4, z5, z6, z7, z8⟩
        rw [e2] at z4
        obtain rfl : ms = [] := by simpa using z4
        refine ⟨ds, z, L, lc, by rw [e3]; rfl, z1, ?_, z8⟩
        have := congrArg PeR.stage z3
        exact this.trans e1
      have FG : Hid (∀ A c y, Keep w y → (N ≤ c ∧ c ≤ maxLen) → Rd y A (fb.map u8v) → Calls Tryd.prog 18 #[u32v g, iv 4000000, .slice A N c] y fun e w' => ∃ (xv : Array Value) (P : Option Addr) (k pc : Nat), e = .returned (.tuple #[.agg xv, iv N, iv 0]) ∧ xv.toList = [.string (str (nameL m.kind)), .slice P k pc] ∧ Keep y w') := Lib.hid fun A c y h1 h2 h3 => by
        have q := fget_any g 4000000 A fb N c y (by rw [← hfb, hfl, hN]) (hS.keep h1) h2 hN4 h3
        rw [← hfb, hgot] at q
        refine q.mono ?_
        rintro e w' ⟨P, pc, rfl, -, -, -, -, k⟩
        rw [show (((nameL m.kind, putL m), 24 + (putL m).length, (0 : Int)) : (List UInt8 × List UInt8) × Nat × Int).2.1 = N from hN]
        exact ⟨_, P, _, pc, rfl, rfl, k⟩
      have NM : Hid (∀ y, Calls Tryd.prog 21 #[.int .i64 m.kind] y fun e w' => e = .returned (.string (str (nameL m.kind))) ∧ Keep y w') := Lib.hid fun y => name_any m.kind y
      have RC6 : Hid (∀ y, Calls Tryd.prog 22 #[.string (str (nameL m.kind))] y fun e w' => e = .returned (.bool true) ∧ Keep y w') := Lib.hid fun y => rcmd_yes (nameL m.kind) hcmd y
      have PL : Hid (∀ m' ds y, MsA m' ds → m'.pl = m.pl → m'.at_ y → Calls Tryd.prog 20 #[.agg ds] y fun e w' => ∃ m2 ds2, e = .returned (.agg ds2) ∧ MsB m2 ds2 ∧ m2.pl = m.pl ∧ m2.at_ w' ∧ Keep y w') := Lib.hid fun m' ds y h1 h2 h3 => by
        obtain ⟨e1, e2, e3, -⟩ := fewM_pl h2
        refine (plainly_any m' ds h1 y h3 (by omega) (by omega) (by have := hq.1.2.2.1; omega)).mono ?_
        rintro e w' ⟨m2, d2, rfl, a1, a2, a3, a4⟩
        exact ⟨m2, d2, rfl, a1, a2.trans h2, a3, a4⟩
      have SM : Hid (∀ m2 ds2 y, MsB m2 ds2 → m2.pl = m.pl → m2.at_ y → Keep w y → Calls Tryd.prog 19 #[.agg ds2, .agg cs] y fun e w' => e = .returned (.bool true) ∧ Keep y w') := Lib.hid fun m2 ds2 y h1 h2 h3 hk => by
        obtain ⟨e1, e2, e3, e4, e5, e6⟩ := fewM_pl h2
        obtain ⟨z1, z2, z3, z4, z5⟩ := hq.1
        exact same09 m2 m ds2 cs h1 hA y h3 (h.keep hk) h2 (by omega) (by omega) (by omega) (by omega) (by omega) (by omega)
      have HKD : Hid (∀ y, Blk y w.heap.size 63 cs.toList → y.cell? ⟨w.heap.size, 0, none⟩ = some (.int .i64 m.kind)) := Lib.hid fun y hy => by rw [hy.cell, hA.l]; rfl
      obtain ⟨zf, hf0, hfz, hfn, hfo⟩ := zfmsg_letter
      clear hA h hfew hq hqt L1 L2 hfit hpl hS hzA hcmd hcl hgot hheard hother hfl hfb hN hN4
      generalize nameL m.kind = nm at *
      by_cases hoq : o = g
      · subst hoq
        go_enter Tryd.func4, Tryd.ntmps4
        go_upto_region 1 with fail
        obtain ⟨w1, hw1⟩ : ∃ w1, w1 = w.alloc (.cells cs 63) := ⟨_, rfl⟩
        have HM1 : Hid (Blk w1 w.heap.size 63 cs.toList) := by rw [hw1]; exact Lib.hid (Blk.new w _ cs.toList)
        have HK1 : Hid (Keep w w1) := by rw [hw1]; exact Lib.hid (keep_new _ _)
        rw [← hw1]
        clear hw1
        go_upto_region 2 with (go_at_call 7; refine (AW.out _).mono ?_; rintro e w2 ⟨rfl, k⟩; have HK2 := Lib.hid (keep_trans HK1.out k); have HM2 := Lib.hid (HM1.out.keep k); clear k)
        go_upto_region 4 with (first | ((with_reducible refine load_arr w.heap.size cs (Eq.trans ?_ rfl) HM2.out _ Tryd.underlying63 rfl hci ?_); rfl) | (go_at_call 13; refine (FW.out _ HK2.out).mono ?_; rintro e w3 ⟨rfl, k⟩; have HK3 := Lib.hid (keep_trans HK2.out k); have HM3 := Lib.hid (HM2.out.keep k); clear k))
        clear HK1 HM1 HK2 HM2 AW FW
        go_upto_region 5 with (go_at_call 9; refine (PN.out _ _).mono ?_; rintro e w4 ⟨ps, rfl, hpA, k⟩; have HK4 := Lib.hid (keep_trans HK3.out k); have HM4 := Lib.hid (HM3.out.keep k); have hst := pst_new HZ.out hpA w4; have hpn := hpA.n; have hpz := hpA.z; have hpi := hpA.i; have HPA := Lib.hid hpA; clear k hpA)
        obtain ⟨w5, hw⟩ : ∃ y, y = w4.alloc (.cells ps 31) := ⟨_, rfl⟩
        have HP5 : Hid (Blk w5 w4.heap.size 31 ps.toList) := by rw [hw]; exact Lib.hid (Blk.new w4 _ ps.toList)
        have HM5 := Lib.hid (show Blk w5 _ _ _ from by rw [hw]; exact HM4.out.alloc _)
        have HK5 : Hid (Keep w w5) := by rw [hw]; exact Lib.hid (keep_trans HK4.out (keep_new _ _))
        rw [← hw]
        clear hst hw HK4 HM4 HK3 HM3
        generalize w4.heap.size = b8 at *
        refine wp_region_tree (.take [0,1] (.force [2,3] (.take [4,5,6,7,8] .done))) [] (by kernel_rfl) (by kernel_rfl) (fun y0 hk => ?_)
        have HP6 := Lib.hid (HP5.out.keep hk); have HM6 := Lib.hid (HM5.out.keep hk); have HK6 := Lib.hid (keep_trans HK5.out hk)
        clear hk HP5 HM5 HK5
        have RP := Lib.hid (range_of HP6.out 0 ps.toList (by simp [List.take_of_length_le])); have RC := Lib.hid (range_of HM6.out 0 cs.toList (by simp [List.take_of_length_le]))
        refine mt_take y0 (Below.refl _ _) ?_
        simp only [pick_cons, pick_nil, nth_zero, nth_succ]
        repeat (first | ((with_reducible refine wpQuiet_load_partg b8 0 ps (Eq.trans ?_ rfl) RP.out _ Tryd.underlying31 rfl hpi (Eq.trans ?_ rfl) ?_); rfl; rfl; simp only [Act.put, Array.set!_eq_setIfInBounds, List.setIfInBounds_toArray, List.set_cons_succ, List.set_cons_zero]) | ((with_reducible refine wpQuiet_load_partg w.heap.size 0 cs (Eq.trans ?_ rfl) RC.out _ Tryd.underlying63 rfl hci (Eq.trans ?_ rfl) ?_); rfl; rfl; simp only [Act.put, Array.set!_eq_setIfInBounds, List.setIfInBounds_toArray, List.set_cons_succ, List.set_cons_zero]) | go_big_quiet_step (fail))
        clear RP RC
        refine wpQuiet_nil (mt_force ?_)
        simp only [pick_cons, pick_nil, nth_zero, nth_succ]
        refine fc_step rfl (fun K hK => ?_)
        go_simp
        (with_reducible refine (MS.out _ HK6.out).mono ?_)
        rintro e y1 ⟨m1, d1, rfl, a1, a2, a3, hk⟩
        refine hK _ _ hk ?_
        clear hK K
        have HP7 := Lib.hid (HP6.out.keep hk); have HM7 := Lib.hid (HM6.out.keep hk); have HK7 := Lib.hid (keep_trans HK6.out hk)
        clear hk HP6 HM6 HK6
        refine fc_step rfl (fun K hK => ?_)
        go_simp
        (with_reducible refine (SE.out ps m1 d1 _ HPA.out a1 a2 a3 HK7.out).mono ?_)
        clear a1 a2 a3
        rintro e y2 ⟨A, c, rfl, hc, hr, hk⟩
        have HC := Lib.hid hc; have HR8 := Lib.hid hr
        clear hc hr
        refine hK _ _ hk ?_
        clear hK K
        have HP8 := Lib.hid (HP7.out.keep hk); have HM8 := Lib.hid (HM7.out.keep hk); have HK8 := Lib.hid (keep_trans HK7.out hk)
        clear hk HP7 HM7 HK7 SE
        refine fc_nil (mt_take _ (Below.refl _ _) ?_)
        simp only [pick_cons, pick_nil, nth_zero, nth_succ]
        repeat (go_big_quiet_step (fail))
        refine wpQuiet_nil (mt_end ?_)
        go_upto_region 8 with (first | ((with_reducible refine load_arr w.heap.size cs (Eq.trans ?_ rfl) HM8.out _ Tryd.underlying63 rfl hci ?_); rfl) | (go_at_call 15; refine (MS.out _ HK8.out).mono ?_; rintro e w9 ⟨m2, d2, rfl, a1, a2, a3, k⟩; have A1 := Lib.hid a1; have A2 := Lib.hid a2; have A3 := Lib.hid a3; have HP9 := Lib.hid (HP8.out.keep k); have HM9 := Lib.hid (HM8.out.keep k); have HK9 := Lib.hid (keep_trans HK8.out k); have HR9 := Lib.hid (HR8.out.keep k); clear a1 a2 a3 k) | (go_at_call 16; refine (FT.out m2 d2 _ A1.out A2.out A3.out).mono ?_; rintro e wa ⟨rfl, k⟩; have HPa := Lib.hid (HP9.out.keep k); have HMa := Lib.hid (HM9.out.keep k); have HKa := Lib.hid (keep_trans HK9.out k); have HRa := Lib.hid (HR9.out.keep k); clear k))
        clear HP8 HM8 HK8 HP9 HM9 HK9 HR8 HR9 A1 A2 A3 MS FT
        go_upto_region 9 with (first | ((with_reducible refine load_arr b8 ps (Eq.trans ?_ rfl) HPa.out _ Tryd.underlying31 rfl hpi ?_); rfl) | (go_at_call 17; refine (FD.out ps A c _ HPA.out HKa.out HC.out HRa.out).mono ?_; rintro e wb ⟨qs, z, b, off, lc, m3, gs, rfl, hqA, hzs, hgA, hg2, hg3, hg4, k⟩; have HMb := Lib.hid (HMa.out.keep k); have HKb := Lib.hid (keep_trans HKa.out k); have HRb := Lib.hid (HRa.out.keep k); have hst := pst_new HZ.out hqA wb; have hqn := hqA.n; have hqz := hqA.z; have hqi := hqA.i; have HQA := Lib.hid hqA; have HZS := Lib.hid hzs; have hgi := hgA.i; have hgn := hgA.n; have hgz := hgA.z; have HGA := Lib.hid hgA; have HG2 := Lib.hid hg2; have HG3 := Lib.hid hg3; have HG4 := Lib.hid hg4; clear k hqA hzs hgA hg2 hg3 hg4))
        obtain ⟨wc, hw⟩ : ∃ y, y = wb.alloc (.cells qs 31) := ⟨_, rfl⟩
        have HQc : Hid (Blk wc wb.heap.size 31 qs.toList) := by rw [hw]; exact Lib.hid (Blk.new wb _ qs.toList)
        have kbc : Keep wb wc := by rw [hw]; exact keep_new _ _
        have HMc := Lib.hid (HMb.out.keep kbc); have HKc := Lib.hid (keep_trans HKb.out kbc); have HRc := Lib.hid (HRb.out.keep kbc); have HG3c := Lib.hid (HG3.out.keep kbc); have HG4c : Hid (wc.rangeAt b off gs.toList) := Lib.hid fun j v hv => keep_cell kbc (HG4.out j v hv)
        rw [← hw]
        clear hst hw kbc HMb HKb HRb HG3 HG4 HPa HMa HKa HRa
        generalize wb.heap.size = b11 at *
        go_upto_region 10 with (first | (go_at_call 9; refine (PN.out _ _).mono ?_; rintro e wd ⟨os, rfl, hoA, k⟩; have HOA := Lib.hid hoA; have hon := hoA.n; have HKd := Lib.hid (keep_trans HKc.out k); have HRd := Lib.hid (HRc.out.keep k); have KCD := Lib.hid k; clear k hoA) | (go_at_call 17; refine (FD.out os A c _ HOA.out HKd.out HC.out HRd.out).mono ?_; rintro e we ⟨rs, z2, b2, off2, lc2, m4, gs2, rfl, hrA, -, -, -, -, -, k⟩; have HKe := Lib.hid (keep_trans HKd.out k); have KCE := Lib.hid (keep_trans KCD.out k); have hst := pst_new HZ.out hrA we; have hrn := hrA.n; have hrz := hrA.z; have hri := hrA.i; have HRA := Lib.hid hrA; clear k hrA))
        obtain ⟨wf, hw⟩ : ∃ y, y = we.alloc (.cells rs 31) := ⟨_, rfl⟩
        have HSf : Hid (Blk wf we.heap.size 31 rs.toList) := by rw [hw]; exact Lib.hid (Blk.new we _ rs.toList)
        have kcf : Keep wc wf := by rw [hw]; exact keep_trans KCE.out (keep_new _ _)
        have HMf := Lib.hid (HMc.out.keep kcf); have HKf := Lib.hid (keep_trans HKc.out kcf); have HRf := Lib.hid (HRc.out.keep kcf); have HG3f := Lib.hid (HG3c.out.keep kcf); have HQf := Lib.hid (HQc.out.keep kcf); have HG4f : Hid (wf.rangeAt b off gs.toList) := Lib.hid fun j v hv => keep_cell kcf (HG4c.out j v hv)
        rw [← hw]
        clear hst hw kcf HMc HKc HRc HG3c HG4c HQc HKd HRd KCD KCE HKe PN FD FO
        generalize we.heap.size = b14 at *
        go_upto_region 11 with (go_at_call 18; refine (FG.out A c _ HKf.out HC.out HRf.out).mono ?_; rintro e wg ⟨xv, P, kp, pc, rfl, hxl, k⟩; have hxz : xv.size = 2 := (by rw [← Array.length_toList, hxl]; rfl); have hxn : ¬ xv = #[] := (fun e => by rw [e] at hxz; cases hxz); have hst := run_storeCells_new (P := Tryd.prog) wg 71 zf xv (by rw [hxz]; exact fmsg_info) (hfz.trans hxz.symm) (by have q0 : ∀ v ∈ xv.toList, v.oneCell' = true := (by intro v hv; rw [hxl] at hv; simp only [List.mem_cons, List.not_mem_nil, or_false] at hv; rcases hv with rfl | rfl <;> rfl); have := all_oneCell_toArray q0; simpa using this); have HXL := Lib.hid hxl; clear hxl; have KFG := Lib.hid k; clear k)
        obtain ⟨wh, hw⟩ : ∃ y, y = wg.alloc (.cells xv 71) := ⟨_, rfl⟩
        have HXh : Hid (Blk wh wg.heap.size 71 [.string (str nm), .slice P kp pc]) := by rw [hw, ← HXL.out]; exact Lib.hid (Blk.new wg _ xv.toList)
        have kfh : Keep wf wh := by rw [hw]; exact keep_trans KFG.out (keep_new _ _)
        have HMh := Lib.hid (HMf.out.keep kfh); have HKh := Lib.hid (keep_trans HKf.out kfh); have HG3h := Lib.hid (HG3f.out.keep kfh); have HQh := Lib.hid (HQf.out.keep kfh); have HSh := Lib.hid (HSf.out.keep kfh); have HG4h : Hid (wh.rangeAt b off gs.toList) := Lib.hid fun j v hv => keep_cell kfh (HG4f.out j v hv)
        rw [← hw]
        clear hst hw kfh HMf HKf HRf HG3f HG4f HQf HSf KFG FG HC
        generalize wg.heap.size = b17 at *
        refine wp_region_tree (.take [0,1,2,3,4,5,6,7,8,9,10,11,12,13,14,16] (.force [15,17] (.take [18,19,20,21,22,23,24,25,26,27,28,29,30,31,32,33,34,35,36,37,38,39] (.force [40] (.take [41,42] .done))))) [] (by kernel_rfl) (by kernel_rfl) (fun y3 hk => ?_)
        have RG : Hid (y3.rangeAt b off gs.toList) := Lib.hid fun j v hv => keep_cell hk (HG4h.out j v hv)
        have HM3' := Lib.hid (HMh.out.keep hk); have HG3' := Lib.hid (HG3h.out.keep hk); have HK3' := Lib.hid (keep_trans HKh.out hk)
        have KH := Lib.hid hk
        clear hk HG3h HG4h
        have RC := Lib.hid (range_of HM3'.out 0 cs.toList (by simp [List.take_of_length_le]))
        refine mt_take y3 (Below.refl _ _) ?_
        simp only [pick_cons, pick_nil, nth_zero, nth_succ]
        repeat (first | ((with_reducible refine wpQuiet_load_partg b off gs (Eq.trans ?_ rfl) RG.out _ Tryd.underlying50 rfl hgi (Eq.trans ?_ rfl) ?_); rfl; rfl; simp only [Act.put, Array.set!_eq_setIfInBounds, List.setIfInBounds_toArray, List.set_cons_succ, List.set_cons_zero]) | ((with_reducible refine wpQuiet_load_partg w.heap.size 0 cs (Eq.trans ?_ rfl) RC.out _ Tryd.underlying63 rfl hci (Eq.trans ?_ rfl) ?_); rfl; rfl; simp only [Act.put, Array.set!_eq_setIfInBounds, List.setIfInBounds_toArray, List.set_cons_succ, List.set_cons_zero]) | go_big_quiet_step (fail))
        clear RG RC
        refine wpQuiet_nil (mt_force ?_)
        simp only [pick_cons, pick_nil, nth_zero, nth_succ]
        refine fc_step rfl (fun K hK => ?_)
        go_simp
        refine (PL.out m3 gs _ HGA.out HG2.out HG3'.out).mono ?_
        rintro e y4 ⟨m5, d5, rfl, a1, a2, a3, hk⟩
        refine hK _ _ hk ?_
        clear hK K
        have HK4' := Lib.hid (keep_trans HK3'.out hk); have KH4 := Lib.hid (keep_trans KH.out hk)
        clear hk
        refine fc_step rfl (fun K hK => ?_)
        go_simp
        refine (SM.out m5 d5 _ a1 a2 a3 HK4'.out).mono ?_
        rintro e y5 ⟨rfl, hk⟩
        refine hK _ _ hk ?_
        clear hK K a1 a2 a3
        have KH5 := Lib.hid (keep_trans KH4.out hk)
        clear hk PL SM
        have c11 := aft_cell (show y5.cell? ⟨b11, 0, none⟩ = some (iv 0) from ((HQh.out.keep KH5.out).cell 0).trans (by rw [HQA.out.l]; show some (iv z.stage) = _; rw [HZS.out]))
        have c17 := aft_cell (show y5.cell? ⟨b17, 0, none⟩ = some (.string (str nm)) from ((HXh.out.keep KH5.out).cell 0).trans rfl)
        have c5 := aft_cell (HKD.out y5 (HMh.out.keep KH5.out))
        refine fc_nil (mt_take y5 (Below.refl _ _) ?_)
        simp only [pick_cons, pick_nil, nth_zero, nth_succ]
        repeat (go_big_quiet_step (fail))
        clear c11 c17 c5
        refine wpQuiet_nil (mt_force ?_)
        simp only [pick_cons, pick_nil, nth_zero, nth_succ]
        refine fc_step rfl (fun K hK => ?_)
        go_simp
        refine (NM.out _).mono ?_
        rintro e y6 ⟨rfl, hk⟩
        refine hK _ _ hk ?_
        clear hK K
        have KH6 := Lib.hid (keep_trans KH5.out hk)
        clear hk
        refine fc_nil (mt_take y6 (Below.refl _ _) ?_)
        simp only [pick_cons, pick_nil, nth_zero, nth_succ]
        repeat (go_big_quiet_step (fail))
        refine wpQuiet_nil (mt_end ?_)
        have c17 : y6.cell? ⟨b17, 0, none⟩ = some (.string (str nm)) := ((HXh.out.keep KH6.out).cell 0).trans rfl
        go_wp2_with (go_at_call 22; refine (RC6.out _).mono ?_; rintro e y8 ⟨rfl, hk⟩; have KH8 := Lib.hid (keep_trans KH6.out hk); clear hk)
        exact bodyPost_ret (v := .bool true) (by simp [results, Tryd.results4]) rfl ⟨rfl, keep_trans HKh.out KH8.out⟩
      · have HOQ := Lib.hid hoq
        have d9 : (o == g) = false := by rw [beq_eq_false_iff_ne]; exact hoq
        have d8 : ¬ (o.toNat : Int) = g.toNat := fun e => hoq (UInt32.toNat_inj.1 (by omega))
        have d7 : ((o.toNat : Int) == g.toNat) = false := by rw [beq_eq_false_iff_ne]; exact d8
        go_enter Tryd.func4, Tryd.ntmps4
        go_upto_region 1 with fail
        obtain ⟨w1, hw1⟩ : ∃ w1, w1 = w.alloc (.cells cs 63) := ⟨_, rfl⟩
        have HM1 : Hid (Blk w1 w.heap.size 63 cs.toList) := by rw [hw1]; exact Lib.hid (Blk.new w _ cs.toList)
        have HK1 : Hid (Keep w w1) := by rw [hw1]; exact Lib.hid (keep_new _ _)
        rw [← hw1]
        clear hw1
        go_upto_region 2 with (go_at_call 7; refine (AW.out _).mono ?_; rintro e w2 ⟨rfl, k⟩; have HK2 := Lib.hid (keep_trans HK1.out k); have HM2 := Lib.hid (HM1.out.keep k); clear k)
        go_upto_region 4 with (first | ((with_reducible refine load_arr w.heap.size cs (Eq.trans ?_ rfl) HM2.out _ Tryd.underlying63 rfl hci ?_); rfl) | (go_at_call 13; refine (FW.out _ HK2.out).mono ?_; rintro e w3 ⟨rfl, k⟩; have HK3 := Lib.hid (keep_trans HK2.out k); have HM3 := Lib.hid (HM2.out.keep k); clear k))
        clear HK1 HM1 HK2 HM2 AW FW
        go_upto_region 5 with (go_at_call 9; refine (PN.out _ _).mono ?_; rintro e w4 ⟨ps, rfl, hpA, k⟩; have HK4 := Lib.hid (keep_trans HK3.out k); have HM4 := Lib.hid (HM3.out.keep k); have hst := pst_new HZ.out hpA w4; have hpn := hpA.n; have hpz := hpA.z; have hpi := hpA.i; have HPA := Lib.hid hpA; clear k hpA)
        obtain ⟨w5, hw⟩ : ∃ y, y = w4.alloc (.cells ps 31) := ⟨_, rfl⟩
        have HP5 : Hid (Blk w5 w4.heap.size 31 ps.toList) := by rw [hw]; exact Lib.hid (Blk.new w4 _ ps.toList)
        have HM5 := Lib.hid (show Blk w5 _ _ _ from by rw [hw]; exact HM4.out.alloc _)
        have HK5 : Hid (Keep w w5) := by rw [hw]; exact Lib.hid (keep_trans HK4.out (keep_new _ _))
        rw [← hw]
        clear hst hw HK4 HM4 HK3 HM3
        generalize w4.heap.size = b8 at *
        refine wp_region_tree (.take [0,1] (.force [2,3] (.take [4,5,6,7,8] .done))) [] (by kernel_rfl) (by kernel_rfl) (fun y0 hk => ?_)
        have HP6 := Lib.hid (HP5.out.keep hk); have HM6 := Lib.hid (HM5.out.keep hk); have HK6 := Lib.hid (keep_trans HK5.out hk)
        clear hk HP5 HM5 HK5
        have RP := Lib.hid (range_of HP6.out 0 ps.toList (by simp [List.take_of_length_le])); have RC := Lib.hid (range_of HM6.out 0 cs.toList (by simp [List.take_of_length_le]))
        refine mt_take y0 (Below.refl _ _) ?_
        simp only [pick_cons, pick_nil, nth_zero, nth_succ]
        repeat (first | ((with_reducible refine wpQuiet_load_partg b8 0 ps (Eq.trans ?_ rfl) RP.out _ Tryd.underlying31 rfl hpi (Eq.trans ?_ rfl) ?_); rfl; rfl; simp only [Act.put, Array.set!_eq_setIfInBounds, List.setIfInBounds_toArray, List.set_cons_succ, List.set_cons_zero]) | ((with_reducible refine wpQuiet_load_partg w.heap.size 0 cs (Eq.trans ?_ rfl) RC.out _ Tryd.underlying63 rfl hci (Eq.trans ?_ rfl) ?_); rfl; rfl; simp only [Act.put, Array.set!_eq_setIfInBounds, List.setIfInBounds_toArray, List.set_cons_succ, List.set_cons_zero]) | go_big_quiet_step (fail))
        clear RP RC
        refine wpQuiet_nil (mt_force ?_)
        simp only [pick_cons, pick_nil, nth_zero, nth_succ]
        refine fc_step rfl (fun K hK => ?_)
        go_simp
        (with_reducible refine (MS.out _ HK6.out).mono ?_)
        rintro e y1 ⟨m1, d1, rfl, a1, a2, a3, hk⟩
        refine hK _ _ hk ?_
        clear hK K
        have HP7 := Lib.hid (HP6.out.keep hk); have HM7 := Lib.hid (HM6.out.keep hk); have HK7 := Lib.hid (keep_trans HK6.out hk)
        clear hk HP6 HM6 HK6
        refine fc_step rfl (fun K hK => ?_)
        go_simp
        (with_reducible refine (SE.out ps m1 d1 _ HPA.out a1 a2 a3 HK7.out).mono ?_)
        clear a1 a2 a3
        rintro e y2 ⟨A, c, rfl, hc, hr, hk⟩
        have HC := Lib.hid hc; have HR8 := Lib.hid hr
        clear hc hr
        refine hK _ _ hk ?_
        clear hK K
        have HP8 := Lib.hid (HP7.out.keep hk); have HM8 := Lib.hid (HM7.out.keep hk); have HK8 := Lib.hid (keep_trans HK7.out hk)
        clear hk HP7 HM7 HK7 SE
        refine fc_nil (mt_take _ (Below.refl _ _) ?_)
        simp only [pick_cons, pick_nil, nth_zero, nth_succ]
        repeat (go_big_quiet_step (fail))
        refine wpQuiet_nil (mt_end ?_)
        go_upto_region 8 with (first | ((with_reducible refine load_arr w.heap.size cs (Eq.trans ?_ rfl) HM8.out _ Tryd.underlying63 rfl hci ?_); rfl) | (go_at_call 15; refine (MS.out _ HK8.out).mono ?_; rintro e w9 ⟨m2, d2, rfl, a1, a2, a3, k⟩; have A1 := Lib.hid a1; have A2 := Lib.hid a2; have A3 := Lib.hid a3; have HP9 := Lib.hid (HP8.out.keep k); have HM9 := Lib.hid (HM8.out.keep k); have HK9 := Lib.hid (keep_trans HK8.out k); have HR9 := Lib.hid (HR8.out.keep k); clear a1 a2 a3 k) | (go_at_call 16; refine (FT.out m2 d2 _ A1.out A2.out A3.out).mono ?_; rintro e wa ⟨rfl, k⟩; have HPa := Lib.hid (HP9.out.keep k); have HMa := Lib.hid (HM9.out.keep k); have HKa := Lib.hid (keep_trans HK9.out k); have HRa := Lib.hid (HR9.out.keep k); clear k))
        clear HP8 HM8 HK8 HP9 HM9 HK9 HR8 HR9 A1 A2 A3 MS FT
        go_upto_region 9 with (first | ((with_reducible refine load_arr b8 ps (Eq.trans ?_ rfl) HPa.out _ Tryd.underlying31 rfl hpi ?_); rfl) | (go_at_call 17; refine (FD.out ps A c _ HPA.out HKa.out HC.out HRa.out).mono ?_; rintro e wb ⟨qs, z, b, off, lc, m3, gs, rfl, hqA, hzs, hgA, hg2, hg3, hg4, k⟩; have HMb := Lib.hid (HMa.out.keep k); have HKb := Lib.hid (keep_trans HKa.out k); have HRb := Lib.hid (HRa.out.keep k); have hst := pst_new HZ.out hqA wb; have hqn := hqA.n; have hqz := hqA.z; have hqi := hqA.i; have HQA := Lib.hid hqA; have HZS := Lib.hid hzs; have hgi := hgA.i; have hgn := hgA.n; have hgz := hgA.z; have HGA := Lib.hid hgA; have HG2 := Lib.hid hg2; have HG3 := Lib.hid hg3; have HG4 := Lib.hid hg4; clear k hqA hzs hgA hg2 hg3 hg4))
        obtain ⟨wc, hw⟩ : ∃ y, y = wb.alloc (.cells qs 31) := ⟨_, rfl⟩
        have HQc : Hid (Blk wc wb.heap.size 31 qs.toList) := by rw [hw]; exact Lib.hid (Blk.new wb _ qs.toList)
        have kbc : Keep wb wc := by rw [hw]; exact keep_new _ _
        have HMc := Lib.hid (HMb.out.keep kbc); have HKc := Lib.hid (keep_trans HKb.out kbc); have HRc := Lib.hid (HRb.out.keep kbc); have HG3c := Lib.hid (HG3.out.keep kbc); have HG4c : Hid (wc.rangeAt b off gs.toList) := Lib.hid fun j v hv => keep_cell kbc (HG4.out j v hv)
        rw [← hw]
        clear hst hw kbc HMb HKb HRb HG3 HG4 HPa HMa HKa HRa
        generalize wb.heap.size = b11 at *
        go_upto_region 10 with (first | (go_at_call 9; refine (PN.out _ _).mono ?_; rintro e wd ⟨os, rfl, hoA, k⟩; have HOA := Lib.hid hoA; have hon := hoA.n; have HKd := Lib.hid (keep_trans HKc.out k); have HRd := Lib.hid (HRc.out.keep k); have KCD := Lib.hid k; clear k hoA) | (go_at_call 17; refine (FO.out HOQ.out os A c _ HOA.out HKd.out HC.out HRd.out).mono ?_; rintro e we ⟨rs, z2, L2, lc2, rfl, hrA, hrs, k⟩; have HKe := Lib.hid (keep_trans HKd.out k); have KCE := Lib.hid (keep_trans KCD.out k); have hst := pst_new HZ.out hrA we; have hrn := hrA.n; have hrz := hrA.z; have hri := hrA.i; have HRA := Lib.hid hrA; have HRSS := Lib.hid hrs; clear k hrA hrs))
        obtain ⟨wf, hw⟩ : ∃ y, y = we.alloc (.cells rs 31) := ⟨_, rfl⟩
        have HSf : Hid (Blk wf we.heap.size 31 rs.toList) := by rw [hw]; exact Lib.hid (Blk.new we _ rs.toList)
        have kcf : Keep wc wf := by rw [hw]; exact keep_trans KCE.out (keep_new _ _)
        have HMf := Lib.hid (HMc.out.keep kcf); have HKf := Lib.hid (keep_trans HKc.out kcf); have HRf := Lib.hid (HRc.out.keep kcf); have HG3f := Lib.hid (HG3c.out.keep kcf); have HQf := Lib.hid (HQc.out.keep kcf); have HG4f : Hid (wf.rangeAt b off gs.toList) := Lib.hid fun j v hv => keep_cell kcf (HG4c.out j v hv)
        rw [← hw]
        clear hst hw kcf HMc HKc HRc HG3c HG4c HQc HKd HRd KCD KCE HKe PN FD FO
        generalize we.heap.size = b14 at *
        go_upto_region 11 with (go_at_call 18; refine (FG.out A c _ HKf.out HC.out HRf.out).mono ?_; rintro e wg ⟨xv, P, kp, pc, rfl, hxl, k⟩; have hxz : xv.size = 2 := (by rw [← Array.length_toList, hxl]; rfl); have hxn : ¬ xv = #[] := (fun e => by rw [e] at hxz; cases hxz); have hst := run_storeCells_new (P := Tryd.prog) wg 71 zf xv (by rw [hxz]; exact fmsg_info) (hfz.trans hxz.symm) (by have q0 : ∀ v ∈ xv.toList, v.oneCell' = true := (by intro v hv; rw [hxl] at hv; simp only [List.mem_cons, List.not_mem_nil, or_false] at hv; rcases hv with rfl | rfl <;> rfl); have := all_oneCell_toArray q0; simpa using this); have HXL := Lib.hid hxl; clear hxl; have KFG := Lib.hid k; clear k)
        obtain ⟨wh, hw⟩ : ∃ y, y = wg.alloc (.cells xv 71) := ⟨_, rfl⟩
        have HXh : Hid (Blk wh wg.heap.size 71 [.string (str nm), .slice P kp pc]) := by rw [hw, ← HXL.out]; exact Lib.hid (Blk.new wg _ xv.toList)
        have kfh : Keep wf wh := by rw [hw]; exact keep_trans KFG.out (keep_new _ _)
        have HMh := Lib.hid (HMf.out.keep kfh); have HKh := Lib.hid (keep_trans HKf.out kfh); have HG3h := Lib.hid (HG3f.out.keep kfh); have HQh := Lib.hid (HQf.out.keep kfh); have HSh := Lib.hid (HSf.out.keep kfh); have HG4h : Hid (wh.rangeAt b off gs.toList) := Lib.hid fun j v hv => keep_cell kfh (HG4f.out j v hv)
        rw [← hw]
        clear hst hw kfh HMf HKf HRf HG3f HG4f HQf HSf KFG FG HC
        generalize wg.heap.size = b17 at *
        refine wp_region_tree (.take [0,1,2,3,4,5,6,7,8,9,10,11,12,13,14,16] (.force [15,17] (.take [18,19,20,21,22,23,24,25,26,27,28,29,30,31,32,33,34,35,36,37,38,39] (.force [40] (.take [41,42] .done))))) [] (by kernel_rfl) (by kernel_rfl) (fun y3 hk => ?_)
        have RG : Hid (y3.rangeAt b off gs.toList) := Lib.hid fun j v hv => keep_cell hk (HG4h.out j v hv)
        have HM3' := Lib.hid (HMh.out.keep hk); have HG3' := Lib.hid (HG3h.out.keep hk); have HK3' := Lib.hid (keep_trans HKh.out hk)
        have KH := Lib.hid hk
        clear hk HG3h HG4h
        have RC := Lib.hid (range_of HM3'.out 0 cs.toList (by simp [List.take_of_length_le]))
        refine mt_take y3 (Below.refl _ _) ?_
        simp only [pick_cons, pick_nil, nth_zero, nth_succ]
        repeat (first | ((with_reducible refine wpQuiet_load_partg b off gs (Eq.trans ?_ rfl) RG.out _ Tryd.underlying50 rfl hgi (Eq.trans ?_ rfl) ?_); rfl; rfl; simp only [Act.put, Array.set!_eq_setIfInBounds, List.setIfInBounds_toArray, List.set_cons_succ, List.set_cons_zero]) | ((with_reducible refine wpQuiet_load_partg w.heap.size 0 cs (Eq.trans ?_ rfl) RC.out _ Tryd.underlying63 rfl hci (Eq.trans ?_ rfl) ?_); rfl; rfl; simp only [Act.put, Array.set!_eq_setIfInBounds, List.setIfInBounds_toArray, List.set_cons_succ, List.set_cons_zero]) | go_big_quiet_step (fail))
        clear RG RC
        refine wpQuiet_nil (mt_force ?_)
        simp only [pick_cons, pick_nil, nth_zero, nth_succ]
        refine fc_step rfl (fun K hK => ?_)
        go_simp
        refine (PL.out m3 gs _ HGA.out HG2.out HG3'.out).mono ?_
        rintro e y4 ⟨m5, d5, rfl, a1, a2, a3, hk⟩
        refine hK _ _ hk ?_
        clear hK K
        have HK4' := Lib.hid (keep_trans HK3'.out hk); have KH4 := Lib.hid (keep_trans KH.out hk)
        clear hk
        refine fc_step rfl (fun K hK => ?_)
        go_simp
        refine (SM.out m5 d5 _ a1 a2 a3 HK4'.out).mono ?_
        rintro e y5 ⟨rfl, hk⟩
        refine hK _ _ hk ?_
        clear hK K a1 a2 a3
        have KH5 := Lib.hid (keep_trans KH4.out hk)
        clear hk PL SM
        have c11 := aft_cell (show y5.cell? ⟨b11, 0, none⟩ = some (iv 0) from ((HQh.out.keep KH5.out).cell 0).trans (by rw [HQA.out.l]; show some (iv z.stage) = _; rw [HZS.out]))
        have c17 := aft_cell (show y5.cell? ⟨b17, 0, none⟩ = some (.string (str nm)) from ((HXh.out.keep KH5.out).cell 0).trans rfl)
        have c5 := aft_cell (HKD.out y5 (HMh.out.keep KH5.out))
        refine fc_nil (mt_take y5 (Below.refl _ _) ?_)
        simp only [pick_cons, pick_nil, nth_zero, nth_succ]
        repeat (go_big_quiet_step (fail))
        clear c11 c17 c5
        refine wpQuiet_nil (mt_force ?_)
        simp only [pick_cons, pick_nil, nth_zero, nth_succ]
        refine fc_step rfl (fun K hK => ?_)
        go_simp
        refine (NM.out _).mono ?_
        rintro e y6 ⟨rfl, hk⟩
        refine hK _ _ hk ?_
        clear hK K
        have KH6 := Lib.hid (keep_trans KH5.out hk)
        clear hk
        refine fc_nil (mt_take y6 (Below.refl _ _) ?_)
        simp only [pick_cons, pick_nil, nth_zero, nth_succ]
        repeat (go_big_quiet_step (fail))
        refine wpQuiet_nil (mt_end ?_)
        have c17 : y6.cell? ⟨b17, 0, none⟩ = some (.string (str nm)) := ((HXh.out.keep KH6.out).cell 0).trans rfl
        have c14 : y6.cell? ⟨b14, 0, none⟩ = some (iv 3) := ((HSh.out.keep KH6.out).cell 0).trans (by rw [HRA.out.l]; show some (iv z2.stage) = _; rw [HRSS.out])
        go_wp2_with (go_at_call 22; refine (RC6.out _).mono ?_; rintro e y8 ⟨rfl, hk⟩; have KH8 := Lib.hid (keep_trans KH6.out hk); clear hk)
        exact bodyPost_ret (v := .bool true) (by simp [results, Tryd.results4]) rfl ⟨rfl, keep_trans HKh.out KH8.out⟩
end Go.Proofs.YtffpanlpbdnafaaDoor

/- Numbers, hashes and headers that came in, opened. -/
set_option linter.unusedSimpArgs false
set_option linter.unusedVariables false
namespace Go.Proofs.YtffpanlpbdnafaaDoor
open Go.RowKit Go.ChangeShapes Go.WideShapes Go.ChangeAt Go.Deep
theorem cellsByte : Tryd.prog.cellsOf 5 = 1 := by kernel_rfl
theorem word_ofJ {x : Int} (h : 0 ≤ x ∧ x ≤ 4294967295) : ∃ t : UInt32, x = (t.toNat : Int) := ⟨w32 x, w32_of h.1 h.2⟩
theorem byte_ofJ {x : Int} (h : 0 ≤ x ∧ x ≤ 255) : ∃ t : UInt8, x = (t.toNat : Int) := ⟨w8 x, w8_of h.1 h.2⟩
theorem word_openJ {H : Type} {enc : TypeId × Value → H} {w : World} {spare : Nat → Bool} {held : Bool} {fuel : Nat} {cs : List Value} {x : DataW H × List MemPlace}
    (h : DataW.trod enc Tryd.prog w 0 spare held fuel 22 cs = some x) : ∃ t : UInt32, cs = [u32v t] := by
  obtain ⟨k, ek, _, wk⟩ := DataW.trod_int Tryd.underlying22 h
  obtain ⟨t, rfl⟩ := word_ofJ (x := k) (by simpa [Lit.wf, IntKind.min, IntKind.max, IntKind.signed, IntKind.bits] using wk)
  exact ⟨t, ek⟩
theorem cellsHeaderJ : Tryd.prog.cellsOf 42 = 68 := by kernel_rfl
theorem cellsHashJ : Tryd.prog.cellsOf 39 = 32 := by kernel_rfl
theorem cellsWordJ : Tryd.prog.cellsOf 22 = 1 := by kernel_rfl
theorem underHashJ : Tryd.prog.underlying 39 = some (.array 32 5) := by kernel_rfl
theorem hash_openJ {H : Type} {enc : TypeId × Value → H} {w : World} {spare : Nat → Bool} {held : Bool} {fuel : Nat} {cs : List Value} {x : DataW H × List MemPlace}
    (h : DataW.trod enc Tryd.prog w 0 spare held fuel 39 cs = some x) : ∃ l : List UInt8, cs = l.map u8v ∧ l.length = 32 := by
  obtain ⟨xs, m, _, _, h1, h2, h3⟩ := DataW.trod_array underHashJ h
  rw [cellsHashJ] at h1
  obtain ⟨l, rfl, _⟩ := list_choose (f := u8v) (p := fun _ => True) cs fun u hu => by
    obtain ⟨i, hi, rfl⟩ := List.mem_iff_getElem.1 hu
    have h4 := h3 i (by omega)
    rw [cellsByte, Nat.mul_one, List.getElem?_eq_getElem (by omega)] at h4
    obtain ⟨k, ek, _, wk⟩ := DataW.trod_int Tryd.underlying5 h4
    obtain ⟨t, rfl⟩ := byte_ofJ (x := k) (by simpa [Lit.wf, IntKind.min, IntKind.max, IntKind.signed, IntKind.bits] using wk)
    rw [List.drop_eq_getElem_cons hi, List.take_succ_cons, List.take_zero] at ek
    exact ⟨t, (List.cons.inj ek).1, trivial⟩
  exact ⟨l, rfl, by simpa using h1⟩
theorem header_openJ {H : Type} {enc : TypeId × Value → H} {w : World} {spare : Nat → Bool} {held : Bool} {fuel : Nat} {cs : List Value} {x : DataW H × List MemPlace}
    (h : DataW.trod enc Tryd.prog w 0 spare held fuel 42 cs = some x) : ∃ r : Hd, cs = r.cells ∧ r.ok := by
  obtain ⟨xs, n, _, _, hl, hx, F⟩ := DataW.trod_struct Tryd.underlying42 h
  rw [cellsHeaderJ] at hl
  have hx' : xs.length = 6 := hx
  have g : ∀ (i : Nat) (hi : i < 6), xs[i]? = some (xs[i]'(by omega)) := fun i hi => List.getElem?_eq_getElem (by omega)
  have f0 : DataW.trod enc Tryd.prog w 0 spare held n 22 ((cs.drop 0).take (Tryd.prog.cellsOf 22)) = some _ := (F 0 _ rfl).trans (g 0 (by omega))
  have f1 : DataW.trod enc Tryd.prog w 0 spare held n 39 ((cs.drop 1).take (Tryd.prog.cellsOf 39)) = some _ := (F 1 _ rfl).trans (g 1 (by omega))
  have f2 : DataW.trod enc Tryd.prog w 0 spare held n 39 ((cs.drop 33).take (Tryd.prog.cellsOf 39)) = some _ := (F 2 _ rfl).trans (g 2 (by omega))
  have f3 : DataW.trod enc Tryd.prog w 0 spare held n 22 ((cs.drop 65).take (Tryd.prog.cellsOf 22)) = some _ := (F 3 _ rfl).trans (g 3 (by omega))
  have f4 : DataW.trod enc Tryd.prog w 0 spare held n 22 ((cs.drop 66).take (Tryd.prog.cellsOf 22)) = some _ := (F 4 _ rfl).trans (g 4 (by omega))
  have f5 : DataW.trod enc Tryd.prog w 0 spare held n 22 ((cs.drop 67).take (Tryd.prog.cellsOf 22)) = some _ := (F 5 _ rfl).trans (g 5 (by omega))
  simp only [cellsWordJ, cellsHashJ] at f0 f1 f2 f3 f4 f5
  obtain ⟨a, ea⟩ := word_openJ f0
  obtain ⟨p, ep, hp⟩ := hash_openJ f1
  obtain ⟨q, eq, hq⟩ := hash_openJ f2
  obtain ⟨t, et⟩ := word_openJ f3
  obtain ⟨b, eb⟩ := word_openJ f4
  obtain ⟨c, ec⟩ := word_openJ f5
  have key : ∀ (l : List Value) (i k : Nat), l.drop i = (l.drop i).take k ++ l.drop (i + k) := fun l i k => by
    have h1 := (List.take_append_drop k (l.drop i)).symm
    rwa [List.drop_drop] at h1
  refine ⟨⟨a, p, q, t, b, c⟩, ?_, hp, hq⟩
  have e : cs = cs.drop 0 := rfl
  rw [e, key cs 0 1, ea, key cs (0 + 1) 32, ep, key cs (0 + 1 + 32) 32, eq, key cs (0 + 1 + 32 + 32) 1, et, key cs (0 + 1 + 32 + 32 + 1) 1, eb, key cs (0 + 1 + 32 + 32 + 1 + 1) 1, ec, List.drop_eq_nil_of_le (by omega)]
  simp [Hd.cells]
theorem heads_openJ {H : Type} {enc : TypeId × Value → H} {w : World} {spare : Nat → Bool} {held : Bool} {fuel : Nat} {cs : List Value} {x : DataW H × List MemPlace}
    (h : DataW.trod enc Tryd.prog w 0 spare held fuel 36 cs = some x) :
    ∃ (A : Option Addr) (l : List Hd) (c : Nat), cs = [.slice A l.length c] ∧ l.length ≤ c ∧ c ≤ maxLen ∧ Rd w A (l.flatMap Hd.cells) ∧ ∀ y ∈ l, y.ok := by
  obtain ⟨A, n, c, Cs, rfl, h1, h2, rfl, h3, h4⟩ := slice_open Tryd.underlying36 cellsHeaderJ (by omega) h
  obtain ⟨l, rfl, hok⟩ := list_choose (f := Hd.cells) (p := Hd.ok) Cs fun y hy => by
    obtain ⟨_, m, z, hz⟩ := h4 y hy
    exact header_openJ hz
  refine ⟨A, l, c, by simp, by simpa using h1, h2, ?_, hok⟩
  rwa [← List.flatMap_def] at h3
end Go.Proofs.YtffpanlpbdnafaaDoor

/- What the laid tables give where two of Go's own tables are laid as well (chapters 22, 24). -/
set_option linter.unusedSimpArgs false
set_option linter.unusedVariables false
namespace Go.Proofs.YtffpanlpbdnafaaDoor
open Go.RowKit Go.ChangeShapes Go.WideShapes Go.ChangeAt Go.Deep
theorem gK : Tryd.prog.globalNamed "florin/sha2.constants" = some 3 := by kernel_rfl
theorem gH : Tryd.prog.globalNamed "florin/sha2.initials" = some 0 := by kernel_rfl
theorem gKT : (Tryd.prog.globals[3]?).map (·.type) = some 199 := by kernel_rfl
theorem gHT : (Tryd.prog.globals[0]?).map (·.type) = some 171 := by kernel_rfl
theorem cellsK : Tryd.prog.cellsOf 199 = 64 := by kernel_rfl
theorem cells8 : Tryd.prog.cellsOf 171 = 8 := by kernel_rfl
theorem tab_cell {W : World} {name : String} {l : List UInt32} {g : Nat} (h : Lib.TabIs Tryd.prog W name .u32 (l.map fun y => (y.toNat : Int))) (hg : Tryd.prog.globalNamed name = some g) (i : Nat) (y : UInt32) (hy : l[i]? = some y) :
    W.cell? ⟨g, i, none⟩ = some (u32v y) := by
  have hi : i < l.length := (List.getElem?_eq_some_iff.1 hy).1
  have h1 := h.cell hg i (by rw [List.length_map]; exact hi)
  rw [h1, List.getD_eq_getElem?_getD, List.getElem?_map, hy]
  rfl
theorem tab_tail {x : String × DataW Unit} {rest : List (String × DataW Unit)} {W : World} (h : laidMet Tryd.prog (x :: rest) W) : ∃ ps, DataW.LaidVars Tryd.prog W rest ps := by
  obtain ⟨ps, ⟨_, _, _, _, _, q, _, _, _, _, hq, _⟩, _⟩ := h
  exact ⟨q, hq⟩
theorem laid_eqK {H : Type} : (Rows.laid_florin_sha2_constants : DataW H) = Lib.tabData .u32 (kTab.map fun y => (y.toNat : Int)) := by kernel_rfl
theorem laid_eqH {H : Type} : (Rows.laid_florin_sha2_initials : DataW H) = Lib.tabData .u32 (hTab.map fun y => (y.toNat : Int)) := by kernel_rfl
theorem laid_word {W : World} {name : String} {l : List UInt32} {g n : Nat} {d : DataW Unit} {rest : List (String × DataW Unit)} {at_ : TypeId} (hd0 : d = Lib.tabData .u32 (l.map fun y => (y.toNat : Int))) (hg : Tryd.prog.globalNamed name = some g) (hT : (Tryd.prog.globals[g]?).map (·.type) = some at_)
    (ha : Tryd.prog.underlying at_ = some (.array n 22)) (hc : Tryd.prog.cellsOf at_ = n) (h : ∃ ps, DataW.LaidVars Tryd.prog W ((name, d) :: rest) ps) : Lib.TabIs Tryd.prog W name .u32 (l.map fun y => (y.toNat : Int)) := by
  subst hd0
  obtain ⟨qs, g', t', cs, fuel, p, q, hg', ht', hvar, hd, _, _⟩ := h
  obtain rfl := Option.some.inj (hg.symm.trans hg')
  obtain rfl := Option.some.inj (hT.symm.trans ht')
  unfold Lib.TabIs
  rw [hvar, ← Lib.cells_of_tab ha Tryd.underlying22 cellsWordJ hc hd]
theorem vars_tail {x : String × DataW Unit} {rest : List (String × DataW Unit)} {W : World} (h : ∃ ps, DataW.LaidVars Tryd.prog W (x :: rest) ps) : ∃ ps, DataW.LaidVars Tryd.prog W rest ps := by
  obtain ⟨ps, _, _, _, _, _, q, _, _, _, _, hq, _⟩ := h
  exact ⟨q, hq⟩
theorem sha_ok {W : World} {d3 d4 : DataW Unit} (h : laidMet Tryd.prog [("unicode/utf8.acceptRanges", d3), ("florin/sha2.constants", Rows.laid_florin_sha2_constants), ("florin/sha2.initials", Rows.laid_florin_sha2_initials), ("unicode/utf8.first", d4)] W) : ShaOk W := by
  have h1 := tab_tail h
  have hK := laid_word (l := kTab) laid_eqK gK gKT Tryd.underlying199 cellsK h1
  have hH := laid_word (l := hTab) laid_eqH gH gHT Tryd.underlying171 cells8 (vars_tail h1)
  exact ⟨fun i y hy => tab_cell hK gK i y hy, fun i y hy => tab_cell hH gH i y hy⟩
def layTab (g : Nat) (cs : Array Value) (h : Array Obj) : Array Obj := h.modify g fun
  | .cells _ t frozen => .cells cs t frozen
  | o => o
def accT : List Value := [128, 191, 160, 191, 128, 159, 144, 191, 128, 143, 0, 0, 0, 0, 0, 0, 0, 0, 0, 0, 0, 0, 0, 0, 0, 0, 0, 0, 0, 0, 0, 0].map (Value.int .u8)
def fstT : List Value := Go.Pinned.utf8FirstZ.map fun n : Nat => Value.int .u8 (n : Int)
noncomputable def laidWorld (os : Os) : World :=
  { World.holding Tryd.prog os ⟨#[], #[], []⟩ with heap := layTab 1 fstT.toArray (layTab 2 accT.toArray (layTab 0 (hTab.map u32v).toArray (layTab 3 (kTab.map u32v).toArray (World.holding Tryd.prog os ⟨#[], #[], []⟩).heap))) }
end Go.Proofs.YtffpanlpbdnafaaDoor

/- Messages and transactions that came in, opened. (printed by gen_mgo.py) -/
set_option linter.unusedSimpArgs false
set_option linter.unusedVariables false
namespace Go.Proofs.YtffpanlpbdnafaaDoor
open Go.RowKit Go.ChangeShapes Go.WideShapes Go.ChangeAt Go.Deep
theorem u64_openJ {H : Type} {enc : TypeId × Value → H} {w : World} {spare : Nat → Bool} {held : Bool} {fuel : Nat} {cs : List Value} {x : DataW H × List MemPlace}
    (h : DataW.trod enc Tryd.prog w 0 spare held fuel 25 cs = some x) : ∃ n : Nat, cs = [u64v n] ∧ n < 2 ^ 64 := by
  obtain ⟨k, ek, _, wk⟩ := DataW.trod_int Tryd.underlying25 h
  have hb : 0 ≤ k ∧ k ≤ 18446744073709551615 := by simpa [Lit.wf, IntKind.min, IntKind.max, IntKind.signed, IntKind.bits] using wk
  refine ⟨k.toNat, ?_, by omega⟩
  rw [ek]; congr 1
  show Value.int .u64 k = Value.int .u64 ((k.toNat : Nat) : Int)
  rw [show ((k.toNat : Nat) : Int) = k by omega]
theorem int_openJ {H : Type} {enc : TypeId × Value → H} {w : World} {spare : Nat → Bool} {held : Bool} {fuel : Nat} {cs : List Value} {x : DataW H × List MemPlace}
    (h : DataW.trod enc Tryd.prog w 0 spare held fuel 3 cs = some x) : ∃ n : Int, cs = [.int .i64 n] ∧ -9223372036854775808 ≤ n ∧ n ≤ 9223372036854775807 := by
  obtain ⟨k, ek, _, wk⟩ := DataW.trod_int Tryd.underlying3 h
  exact ⟨k, ek, by simpa [Lit.wf, IntKind.min, IntKind.max, IntKind.signed, IntKind.bits] using wk⟩
theorem byteS_openJ {H : Type} {enc : TypeId × Value → H} {w : World} {spare : Nat → Bool} {held : Bool} {fuel : Nat} {cs : List Value} {x : DataW H × List MemPlace}
    (h : DataW.trod enc Tryd.prog w 0 spare held fuel 26 cs = some x) : ∃ (A : Option Addr) (l : List UInt8) (c : Nat), cs = [.slice A l.length c] ∧ l.length ≤ c ∧ c ≤ maxLen ∧ Rd w A (l.map u8v) :=
  bytes_open Tryd.underlying26 Tryd.underlying5 cellsByte h
theorem hashs_openJ {H : Type} {enc : TypeId × Value → H} {w : World} {spare : Nat → Bool} {held : Bool} {fuel : Nat} {cs : List Value} {x : DataW H × List MemPlace}
    (h : DataW.trod enc Tryd.prog w 0 spare held fuel 37 cs = some x) : ∃ (A : Option Addr) (l : List (List UInt8)) (c : Nat), cs = [.slice A l.length c] ∧ l.length ≤ c ∧ c ≤ maxLen ∧ Rd w A (hsL l) ∧ ∀ y ∈ l, y.length = 32 := by
  obtain ⟨A, n, c, Cs, rfl, h1, h2, rfl, h3, h4⟩ := slice_open Tryd.underlying37 cellsHashJ (by omega) h
  obtain ⟨l, rfl, hok⟩ := list_choose (f := fun z : List UInt8 => z.map u8v) (p := fun z => z.length = 32) Cs fun y hy => by
    obtain ⟨_, m, z, hz⟩ := h4 y hy
    exact hash_openJ hz
  refine ⟨A, l, c, by simp, by simpa using h1, h2, ?_, hok⟩
  rwa [← List.flatMap_def] at h3
theorem key_openJ (l : List Value) (i k : Nat) : l.drop i = (l.drop i).take k ++ l.drop (i + k) := by
  have h1 := (List.take_append_drop k (l.drop i)).symm
  rwa [List.drop_drop] at h1
theorem cells_ritem : Tryd.prog.cellsOf 97 = 33 := by kernel_rfl
theorem cells_ritem_0 : Tryd.prog.cellsOf 22 = 1 := by kernel_rfl
theorem cells_ritem_1 : Tryd.prog.cellsOf 39 = 32 := by kernel_rfl
theorem ritem_openJ {H : Type} {enc : TypeId × Value → H} {w : World} {spare : Nat → Bool} {held : Bool} {fuel : Nat} {cs : List Value} {x : DataW H × List MemPlace}
    (h : DataW.trod enc Tryd.prog w 0 spare held fuel 97 cs = some x) : ∃ r : Itm, cs = r.cells ∧ r.ok := by
  obtain ⟨xs, n, _, _, hl, hx, F⟩ := DataW.trod_struct Tryd.underlying97 h
  rw [cells_ritem] at hl
  have hx' : xs.length = 2 := hx
  have g : ∀ (i : Nat) (hi : i < 2), xs[i]? = some (xs[i]'(by omega)) := fun i hi => List.getElem?_eq_getElem (by omega)
  have f0 : DataW.trod enc Tryd.prog w 0 spare held n 22 ((cs.drop 0).take (Tryd.prog.cellsOf 22)) = some _ := (F 0 _ rfl).trans (g 0 (by omega))
  have f1 : DataW.trod enc Tryd.prog w 0 spare held n 39 ((cs.drop 1).take (Tryd.prog.cellsOf 39)) = some _ := (F 1 _ rfl).trans (g 1 (by omega))
  rw [cells_ritem_0] at f0
  rw [cells_ritem_1] at f1
  obtain ⟨t, e0⟩ := word_openJ f0
  obtain ⟨l, e1, hl⟩ := hash_openJ f1
  have e : cs = cs.drop 0 := rfl
  have hcs : cs = u32v t :: l.map u8v := by
    rw [e, key_openJ cs 0 1, e0, key_openJ cs (0 + 1) 32, e1, List.drop_eq_nil_of_le (by omega)]
    simp
  exact ⟨⟨t, l⟩, hcs, hl⟩
theorem cells_rin : Tryd.prog.cellsOf 119 = 35 := by kernel_rfl
theorem cells_rin_0 : Tryd.prog.cellsOf 39 = 32 := by kernel_rfl
theorem cells_rin_1 : Tryd.prog.cellsOf 22 = 1 := by kernel_rfl
theorem cells_rin_2 : Tryd.prog.cellsOf 26 = 1 := by kernel_rfl
theorem cells_rin_3 : Tryd.prog.cellsOf 22 = 1 := by kernel_rfl
theorem rin_openJ {H : Type} {enc : TypeId × Value → H} {w : World} {spare : Nat → Bool} {held : Bool} {fuel : Nat} {cs : List Value} {x : DataW H × List MemPlace}
    (h : DataW.trod enc Tryd.prog w 0 spare held fuel 119 cs = some x) : ∃ r : InR, cs = r.cells ∧ r.at w := by
  obtain ⟨xs, n, _, _, hl, hx, F⟩ := DataW.trod_struct Tryd.underlying119 h
  rw [cells_rin] at hl
  have hx' : xs.length = 4 := hx
  have g : ∀ (i : Nat) (hi : i < 4), xs[i]? = some (xs[i]'(by omega)) := fun i hi => List.getElem?_eq_getElem (by omega)
  have f0 : DataW.trod enc Tryd.prog w 0 spare held n 39 ((cs.drop 0).take (Tryd.prog.cellsOf 39)) = some _ := (F 0 _ rfl).trans (g 0 (by omega))
  have f1 : DataW.trod enc Tryd.prog w 0 spare held n 22 ((cs.drop 32).take (Tryd.prog.cellsOf 22)) = some _ := (F 1 _ rfl).trans (g 1 (by omega))
  have f2 : DataW.trod enc Tryd.prog w 0 spare held n 26 ((cs.drop 33).take (Tryd.prog.cellsOf 26)) = some _ := (F 2 _ rfl).trans (g 2 (by omega))
  have f3 : DataW.trod enc Tryd.prog w 0 spare held n 22 ((cs.drop 34).take (Tryd.prog.cellsOf 22)) = some _ := (F 3 _ rfl).trans (g 3 (by omega))
  rw [cells_rin_0] at f0
  rw [cells_rin_1] at f1
  rw [cells_rin_2] at f2
  rw [cells_rin_3] at f3
  obtain ⟨p, e0, hp⟩ := hash_openJ f0
  obtain ⟨t, e1⟩ := word_openJ f1
  obtain ⟨A, l, c, e2, h1, h2, h3⟩ := byteS_openJ f2
  obtain ⟨s, e3⟩ := word_openJ f3
  have e : cs = cs.drop 0 := rfl
  have hcs : cs = p.map u8v ++ [u32v t, .slice A l.length c, u32v s] := by
    rw [e, key_openJ cs 0 32, e0, key_openJ cs (0 + 32) 1, e1, key_openJ cs (0 + 32 + 1) 1, e2, key_openJ cs (0 + 32 + 1 + 1) 1, e3, List.drop_eq_nil_of_le (by omega)]
    simp
  exact ⟨⟨p, t, A, l, c, s⟩, hcs, hp, ⟨h1, h2⟩, h3⟩
theorem cells_rout : Tryd.prog.cellsOf 121 = 2 := by kernel_rfl
theorem cells_rout_0 : Tryd.prog.cellsOf 25 = 1 := by kernel_rfl
theorem cells_rout_1 : Tryd.prog.cellsOf 26 = 1 := by kernel_rfl
theorem rout_openJ {H : Type} {enc : TypeId × Value → H} {w : World} {spare : Nat → Bool} {held : Bool} {fuel : Nat} {cs : List Value} {x : DataW H × List MemPlace}
    (h : DataW.trod enc Tryd.prog w 0 spare held fuel 121 cs = some x) : ∃ r : OutR, cs = r.cells ∧ r.at w := by
  obtain ⟨xs, n, _, _, hl, hx, F⟩ := DataW.trod_struct Tryd.underlying121 h
  rw [cells_rout] at hl
  have hx' : xs.length = 2 := hx
  have g : ∀ (i : Nat) (hi : i < 2), xs[i]? = some (xs[i]'(by omega)) := fun i hi => List.getElem?_eq_getElem (by omega)
  have f0 : DataW.trod enc Tryd.prog w 0 spare held n 25 ((cs.drop 0).take (Tryd.prog.cellsOf 25)) = some _ := (F 0 _ rfl).trans (g 0 (by omega))
  have f1 : DataW.trod enc Tryd.prog w 0 spare held n 26 ((cs.drop 1).take (Tryd.prog.cellsOf 26)) = some _ := (F 1 _ rfl).trans (g 1 (by omega))
  rw [cells_rout_0] at f0
  rw [cells_rout_1] at f1
  obtain ⟨n1, e0, hn⟩ := u64_openJ f0
  obtain ⟨A, l, c, e1, h1, h2, h3⟩ := byteS_openJ f1
  have e : cs = cs.drop 0 := rfl
  have hcs : cs = [u64v n1, .slice A l.length c] := by
    rw [e, key_openJ cs 0 1, e0, key_openJ cs (0 + 1) 1, e1, List.drop_eq_nil_of_le (by omega)]
    simp
  exact ⟨⟨n1, A, l, c⟩, hcs, hn, ⟨h1, h2⟩, h3⟩
theorem ritems_openJ {H : Type} {enc : TypeId × Value → H} {w : World} {spare : Nat → Bool} {held : Bool} {fuel : Nat} {cs : List Value} {x : DataW H × List MemPlace}
    (h : DataW.trod enc Tryd.prog w 0 spare held fuel 56 cs = some x) : ∃ (A : Option Addr) (l : List Itm) (c : Nat), cs = [.slice A l.length c] ∧ l.length ≤ c ∧ c ≤ maxLen ∧ Rd w A (l.flatMap Itm.cells) ∧ ∀ y ∈ l, y.ok := by
  obtain ⟨A, n, c, Cs, rfl, h1, h2, rfl, h3, h4⟩ := slice_open Tryd.underlying56 cells_ritem (by omega) h
  obtain ⟨l, rfl, hok⟩ := list_choose (f := Itm.cells) (p := fun y => y.ok) Cs fun y hy => by
    obtain ⟨_, m, z, hz⟩ := h4 y hy
    exact ritem_openJ hz
  refine ⟨A, l, c, by simp, by simpa using h1, h2, ?_, hok⟩
  rwa [← List.flatMap_def] at h3
theorem rins_openJ {H : Type} {enc : TypeId × Value → H} {w : World} {spare : Nat → Bool} {held : Bool} {fuel : Nat} {cs : List Value} {x : DataW H × List MemPlace}
    (h : DataW.trod enc Tryd.prog w 0 spare held fuel 58 cs = some x) : ∃ (A : Option Addr) (l : List InR) (c : Nat), cs = [.slice A l.length c] ∧ l.length ≤ c ∧ c ≤ maxLen ∧ Rd w A (l.flatMap InR.cells) ∧ ∀ y ∈ l, y.at w := by
  obtain ⟨A, n, c, Cs, rfl, h1, h2, rfl, h3, h4⟩ := slice_open Tryd.underlying58 cells_rin (by omega) h
  obtain ⟨l, rfl, hok⟩ := list_choose (f := InR.cells) (p := fun y => y.at w) Cs fun y hy => by
    obtain ⟨_, m, z, hz⟩ := h4 y hy
    exact rin_openJ hz
  refine ⟨A, l, c, by simp, by simpa using h1, h2, ?_, hok⟩
  rwa [← List.flatMap_def] at h3
theorem routs_openJ {H : Type} {enc : TypeId × Value → H} {w : World} {spare : Nat → Bool} {held : Bool} {fuel : Nat} {cs : List Value} {x : DataW H × List MemPlace}
    (h : DataW.trod enc Tryd.prog w 0 spare held fuel 59 cs = some x) : ∃ (A : Option Addr) (l : List OutR) (c : Nat), cs = [.slice A l.length c] ∧ l.length ≤ c ∧ c ≤ maxLen ∧ Rd w A (l.flatMap OutR.cells) ∧ ∀ y ∈ l, y.at w := by
  obtain ⟨A, n, c, Cs, rfl, h1, h2, rfl, h3, h4⟩ := slice_open Tryd.underlying59 cells_rout (by omega) h
  obtain ⟨l, rfl, hok⟩ := list_choose (f := OutR.cells) (p := fun y => y.at w) Cs fun y hy => by
    obtain ⟨_, m, z, hz⟩ := h4 y hy
    exact rout_openJ hz
  refine ⟨A, l, c, by simp, by simpa using h1, h2, ?_, hok⟩
  rwa [← List.flatMap_def] at h3
theorem cells_rtx : Tryd.prog.cellsOf 61 = 4 := by kernel_rfl
theorem cells_rtx_0 : Tryd.prog.cellsOf 22 = 1 := by kernel_rfl
theorem cells_rtx_1 : Tryd.prog.cellsOf 58 = 1 := by kernel_rfl
theorem cells_rtx_2 : Tryd.prog.cellsOf 59 = 1 := by kernel_rfl
theorem cells_rtx_3 : Tryd.prog.cellsOf 22 = 1 := by kernel_rfl
theorem rtx_openJ {H : Type} {enc : TypeId × Value → H} {w : World} {spare : Nat → Bool} {held : Bool} {fuel : Nat} {cs : List Value} {x : DataW H × List MemPlace}
    (h : DataW.trod enc Tryd.prog w 0 spare held fuel 61 cs = some x) : ∃ t : TxR, cs = t.cells ∧ t.at w := by
  obtain ⟨xs, n, _, _, hl, hx, F⟩ := DataW.trod_struct Tryd.underlying61 h
  rw [cells_rtx] at hl
  have hx' : xs.length = 4 := hx
  have g : ∀ (i : Nat) (hi : i < 4), xs[i]? = some (xs[i]'(by omega)) := fun i hi => List.getElem?_eq_getElem (by omega)
  have f0 : DataW.trod enc Tryd.prog w 0 spare held n 22 ((cs.drop 0).take (Tryd.prog.cellsOf 22)) = some _ := (F 0 _ rfl).trans (g 0 (by omega))
  have f1 : DataW.trod enc Tryd.prog w 0 spare held n 58 ((cs.drop 1).take (Tryd.prog.cellsOf 58)) = some _ := (F 1 _ rfl).trans (g 1 (by omega))
  have f2 : DataW.trod enc Tryd.prog w 0 spare held n 59 ((cs.drop 2).take (Tryd.prog.cellsOf 59)) = some _ := (F 2 _ rfl).trans (g 2 (by omega))
  have f3 : DataW.trod enc Tryd.prog w 0 spare held n 22 ((cs.drop 3).take (Tryd.prog.cellsOf 22)) = some _ := (F 3 _ rfl).trans (g 3 (by omega))
  rw [cells_rtx_0] at f0
  rw [cells_rtx_1] at f1
  rw [cells_rtx_2] at f2
  rw [cells_rtx_3] at f3
  obtain ⟨v, e0⟩ := word_openJ f0
  obtain ⟨A, l, c, e1, h1, h2, h3, h4⟩ := rins_openJ f1
  obtain ⟨B, r, d, e2, g1, g2, g3, g4⟩ := routs_openJ f2
  obtain ⟨k, e3⟩ := word_openJ f3
  have e : cs = cs.drop 0 := rfl
  have hcs : cs = [u32v v, .slice A l.length c, .slice B r.length d, u32v k] := by
    rw [e, key_openJ cs 0 1, e0, key_openJ cs (0 + 1) 1, e1, key_openJ cs (0 + 1 + 1) 1, e2, key_openJ cs (0 + 1 + 1 + 1) 1, e3, List.drop_eq_nil_of_le (by omega)]
    simp
  exact ⟨⟨v, A, l, c, B, r, d, k⟩, hcs, ⟨h3, g3, ⟨h1, h2⟩, ⟨g1, g2⟩, h4, g4⟩⟩
theorem cells_rblock : Tryd.prog.cellsOf 57 = 71 := by kernel_rfl
theorem cells_rblock_0 : Tryd.prog.cellsOf 42 = 68 := by kernel_rfl
theorem cells_rblock_1 : Tryd.prog.cellsOf 22 = 1 := by kernel_rfl
theorem cells_rblock_2 : Tryd.prog.cellsOf 37 = 1 := by kernel_rfl
theorem cells_rblock_3 : Tryd.prog.cellsOf 26 = 1 := by kernel_rfl
theorem rblock_openJ {H : Type} {enc : TypeId × Value → H} {w : World} {spare : Nat → Bool} {held : Bool} {fuel : Nat} {cs : List Value} {x : DataW H × List MemPlace}
    (h : DataW.trod enc Tryd.prog w 0 spare held fuel 57 cs = some x) : ∃ (r : Hd) (t : UInt32) (A : Option Addr) (l : List (List UInt8)) (c : Nat) (B : Option Addr) (f : List UInt8) (d : Nat), cs = r.cells ++ [u32v t, .slice A l.length c, .slice B f.length d] ∧ r.ok ∧ (l.length ≤ c ∧ c ≤ maxLen) ∧ Rd w A (hsL l) ∧ (∀ y ∈ l, y.length = 32) ∧ (f.length ≤ d ∧ d ≤ maxLen) ∧ Rd w B (f.map u8v) := by
  obtain ⟨xs, n, _, _, hl, hx, F⟩ := DataW.trod_struct Tryd.underlying57 h
  rw [cells_rblock] at hl
  have hx' : xs.length = 4 := hx
  have g : ∀ (i : Nat) (hi : i < 4), xs[i]? = some (xs[i]'(by omega)) := fun i hi => List.getElem?_eq_getElem (by omega)
  have f0 : DataW.trod enc Tryd.prog w 0 spare held n 42 ((cs.drop 0).take (Tryd.prog.cellsOf 42)) = some _ := (F 0 _ rfl).trans (g 0 (by omega))
  have f1 : DataW.trod enc Tryd.prog w 0 spare held n 22 ((cs.drop 68).take (Tryd.prog.cellsOf 22)) = some _ := (F 1 _ rfl).trans (g 1 (by omega))
  have f2 : DataW.trod enc Tryd.prog w 0 spare held n 37 ((cs.drop 69).take (Tryd.prog.cellsOf 37)) = some _ := (F 2 _ rfl).trans (g 2 (by omega))
  have f3 : DataW.trod enc Tryd.prog w 0 spare held n 26 ((cs.drop 70).take (Tryd.prog.cellsOf 26)) = some _ := (F 3 _ rfl).trans (g 3 (by omega))
  rw [cells_rblock_0] at f0
  rw [cells_rblock_1] at f1
  rw [cells_rblock_2] at f2
  rw [cells_rblock_3] at f3
  obtain ⟨r, e0, hr⟩ := header_openJ f0
  obtain ⟨t, e1⟩ := word_openJ f1
  obtain ⟨A, l, c, e2, h1, h2, h3, h4⟩ := hashs_openJ f2
  obtain ⟨B, f, d, e3, g1, g2, g3⟩ := byteS_openJ f3
  have e : cs = cs.drop 0 := rfl
  have hcs : cs = r.cells ++ [u32v t, .slice A l.length c, .slice B f.length d] := by
    rw [e, key_openJ cs 0 68, e0, key_openJ cs (0 + 68) 1, e1, key_openJ cs (0 + 68 + 1) 1, e2, key_openJ cs (0 + 68 + 1 + 1) 1, e3, List.drop_eq_nil_of_le (by omega)]
    simp
  exact ⟨r, t, A, l, c, B, f, d, hcs, hr, ⟨h1, h2⟩, h3, h4, ⟨g1, g2⟩, g3⟩
theorem cells_rmsg : Tryd.prog.cellsOf 63 = 114 := by kernel_rfl
theorem cells_rmsg_0 : Tryd.prog.cellsOf 3 = 1 := by kernel_rfl
theorem cells_rmsg_1 : Tryd.prog.cellsOf 22 = 1 := by kernel_rfl
theorem cells_rmsg_2 : Tryd.prog.cellsOf 25 = 1 := by kernel_rfl
theorem cells_rmsg_3 : Tryd.prog.cellsOf 22 = 1 := by kernel_rfl
theorem cells_rmsg_4 : Tryd.prog.cellsOf 36 = 1 := by kernel_rfl
theorem cells_rmsg_5 : Tryd.prog.cellsOf 37 = 1 := by kernel_rfl
theorem cells_rmsg_6 : Tryd.prog.cellsOf 39 = 32 := by kernel_rfl
theorem cells_rmsg_7 : Tryd.prog.cellsOf 56 = 1 := by kernel_rfl
theorem cells_rmsg_8 : Tryd.prog.cellsOf 57 = 71 := by kernel_rfl
theorem cells_rmsg_9 : Tryd.prog.cellsOf 61 = 4 := by kernel_rfl
theorem rmsg_openJ {H : Type} {enc : TypeId × Value → H} {w : World} {spare : Nat → Bool} {held : Bool} {fuel : Nat} {cs : List Value} {x : DataW H × List MemPlace}
    (h : DataW.trod enc Tryd.prog w 0 spare held fuel 63 cs = some x) : ∃ m : MsgR, cs = m.cells ∧ m.at_ w := by
  obtain ⟨xs, n, _, _, hl, hx, F⟩ := DataW.trod_struct Tryd.underlying63 h
  rw [cells_rmsg] at hl
  have hx' : xs.length = 10 := hx
  have g : ∀ (i : Nat) (hi : i < 10), xs[i]? = some (xs[i]'(by omega)) := fun i hi => List.getElem?_eq_getElem (by omega)
  have f0 : DataW.trod enc Tryd.prog w 0 spare held n 3 ((cs.drop 0).take (Tryd.prog.cellsOf 3)) = some _ := (F 0 _ rfl).trans (g 0 (by omega))
  have f1 : DataW.trod enc Tryd.prog w 0 spare held n 22 ((cs.drop 1).take (Tryd.prog.cellsOf 22)) = some _ := (F 1 _ rfl).trans (g 1 (by omega))
  have f2 : DataW.trod enc Tryd.prog w 0 spare held n 25 ((cs.drop 2).take (Tryd.prog.cellsOf 25)) = some _ := (F 2 _ rfl).trans (g 2 (by omega))
  have f3 : DataW.trod enc Tryd.prog w 0 spare held n 22 ((cs.drop 3).take (Tryd.prog.cellsOf 22)) = some _ := (F 3 _ rfl).trans (g 3 (by omega))
  have f4 : DataW.trod enc Tryd.prog w 0 spare held n 36 ((cs.drop 4).take (Tryd.prog.cellsOf 36)) = some _ := (F 4 _ rfl).trans (g 4 (by omega))
  have f5 : DataW.trod enc Tryd.prog w 0 spare held n 37 ((cs.drop 5).take (Tryd.prog.cellsOf 37)) = some _ := (F 5 _ rfl).trans (g 5 (by omega))
  have f6 : DataW.trod enc Tryd.prog w 0 spare held n 39 ((cs.drop 6).take (Tryd.prog.cellsOf 39)) = some _ := (F 6 _ rfl).trans (g 6 (by omega))
  have f7 : DataW.trod enc Tryd.prog w 0 spare held n 56 ((cs.drop 38).take (Tryd.prog.cellsOf 56)) = some _ := (F 7 _ rfl).trans (g 7 (by omega))
  have f8 : DataW.trod enc Tryd.prog w 0 spare held n 57 ((cs.drop 39).take (Tryd.prog.cellsOf 57)) = some _ := (F 8 _ rfl).trans (g 8 (by omega))
  have f9 : DataW.trod enc Tryd.prog w 0 spare held n 61 ((cs.drop 110).take (Tryd.prog.cellsOf 61)) = some _ := (F 9 _ rfl).trans (g 9 (by omega))
  rw [cells_rmsg_0] at f0
  rw [cells_rmsg_1] at f1
  rw [cells_rmsg_2] at f2
  rw [cells_rmsg_3] at f3
  rw [cells_rmsg_4] at f4
  rw [cells_rmsg_5] at f5
  rw [cells_rmsg_6] at f6
  rw [cells_rmsg_7] at f7
  rw [cells_rmsg_8] at f8
  rw [cells_rmsg_9] at f9
  obtain ⟨k, e0, k0, k1⟩ := int_openJ f0
  obtain ⟨p, e1⟩ := word_openJ f1
  obtain ⟨nn, e2, hn⟩ := u64_openJ f2
  obtain ⟨hh, e3⟩ := word_openJ f3
  obtain ⟨hA, hs, hc, e4, a1, a2, a3, a4⟩ := heads_openJ f4
  obtain ⟨lA, ls, lc, e5, b1, b2, b3, b4⟩ := hashs_openJ f5
  obtain ⟨stop, e6, hst⟩ := hash_openJ f6
  obtain ⟨iA, is, ic, e7, c1, c2, c3, c4⟩ := ritems_openJ f7
  obtain ⟨bh, total, sA, shs, sc, fA, fs, fc, e8, d1, d2, d3, d4, d5, d6⟩ := rblock_openJ f8
  obtain ⟨t, e9, ht⟩ := rtx_openJ f9
  have e : cs = cs.drop 0 := rfl
  have hcs : cs = MsgR.cells ⟨k, p, nn, hh, hA, hs, hc, lA, ls, lc, stop, iA, is, ic, bh, total, sA, shs, sc, fA, fs, fc, t⟩ := by
    unfold MsgR.cells MsgR.blk TxR.cells
    rw [e, key_openJ cs 0 1, e0, key_openJ cs (0 + 1) 1, e1, key_openJ cs (0 + 1 + 1) 1, e2, key_openJ cs (0 + 1 + 1 + 1) 1, e3, key_openJ cs (0 + 1 + 1 + 1 + 1) 1, e4, key_openJ cs (0 + 1 + 1 + 1 + 1 + 1) 1, e5, key_openJ cs (0 + 1 + 1 + 1 + 1 + 1 + 1) 32, e6, key_openJ cs (0 + 1 + 1 + 1 + 1 + 1 + 1 + 32) 1, e7, key_openJ cs (0 + 1 + 1 + 1 + 1 + 1 + 1 + 32 + 1) 71, e8, key_openJ cs (0 + 1 + 1 + 1 + 1 + 1 + 1 + 32 + 1 + 71) 4, e9, List.drop_eq_nil_of_le (by omega)]
    simp [TxR.cells]
  exact ⟨⟨k, p, nn, hh, hA, hs, hc, lA, ls, lc, stop, iA, is, ic, bh, total, sA, shs, sc, fA, fs, fc, t⟩, hcs, ⟨⟨⟨k0, k1⟩, hn, hst, d1, a4, b4, c4, d4⟩, a3, ⟨a1, a2⟩, b3, ⟨b1, b2⟩, c3, ⟨c1, c2⟩, d3, d2, d6, d5, ht⟩⟩
end Go.Proofs.YtffpanlpbdnafaaDoor
