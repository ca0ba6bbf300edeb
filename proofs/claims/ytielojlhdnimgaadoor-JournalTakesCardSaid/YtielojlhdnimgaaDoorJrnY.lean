/- Each record hangs on the one ahead: the walk. -/
import Derived.Test.YtielojlhdnimgaaDoorJrnY0
import Derived.Laws.Concat
set_option linter.unusedSimpArgs false
set_option linter.unusedVariables false
namespace Go.Proofs.YtielojlhdnimgaaDoor
open Go.RowKit
attribute [local go_sem ↓] Go.wp_at_zero Go.wp_at_succ

theorem low16 (n : Int) : bits .and .i64 n 65535 = n % 65536 := by
  have h127 : (BitVec.ofInt 64 65535).toNat = 2 ^ 16 - 1 := by decide
  have key : (BitVec.ofInt 64 n &&& BitVec.ofInt 64 65535).toNat = (n % ((2 ^ 64 : Nat) : Int)).toNat % 2 ^ 16 := by
    rw [BitVec.toNat_and, BitVec.toNat_ofInt, h127, Nat.and_two_pow_sub_one_eq_mod]
  show IntKind.i64.wrap ((BitVec.ofInt 64 n &&& BitVec.ofInt 64 65535).toNat : Nat) = n % 65536
  rw [key, IntKind.wrap_i64]
  omega
theorem part_blk {w : World} {g : Nat} {t : TypeId} {d0 d1 : Value} {base room n : Int} {last : List UInt8} (hb : Blk w g t (lgCells d0 d1 base room n last)) (hl : last.length = 32) : Rd w (some ⟨g, 5, none⟩) (last.map u8v) := by
  have h1 := hb.rd.sub 5 32 (by rw [lg_len hl]; omega)
  rw [Nat.zero_add, lg_last hl] at h1
  exact h1

set_option maxRecDepth 100000 in
set_option maxHeartbeats 8000000 in
theorem last_walk (h : Hd) (hv : Array Value) (g : Hd) (gv : Array Value) (n : Int) (w : World) (hS : ShaOk w) (hk : h.ok) (hhv : HdA h hv) (gk : g.ok) (hgv : HdA g gv) (hn : -9223372036854775808 ≤ n ∧ n ≤ 9223372036854775807) :
    Calls Tryd.prog 6 #[.agg hv, .agg gv, .int .i64 n] w fun e w' => e = .returned (.bool true) ∧ Keep w w' := by
  have HS := Lib.hid hS; have Hk := Lib.hid hk; have Hhv := Lib.hid hhv; have Gk := Lib.hid gk; have Hgv := Lib.hid hgv
  have hvz := hhv.z; have hvn := hhv.n; have hvi := hhv.i
  have gvz := hgv.z; have gvn := hgv.n; have gvi := hgv.i
  clear hS hk hhv gk hgv
  obtain ⟨zs, hz1, hz2, hz3⟩ := zlog_letter
  obtain ⟨sz, hSZ, szz, szb⟩ := zhash_B
  have szs := hSZ.z; have szn := hSZ.n; have szi := hSZ.i
  have HSZ := Lib.hid hSZ; have Hszb := Lib.hid szb
  clear hSZ szb
  obtain ⟨k, hk1, hk2⟩ : ∃ k : Nat, (k : Int) = n % 65536 ∧ k < 65536 := ⟨(n % 65536).toNat, by omega, by omega⟩
  have hlow : bits .and .i64 n 65535 = (k : Int) := by rw [low16, hk1]
  clear hk1 hn
  go_enter Tryd.func6, Tryd.ntmps6
  go_upto_region 1 with fail
  obtain ⟨w0, hw0⟩ : ∃ w0, w0 = (w.alloc (.cells hv 44)).alloc (.cells gv 44) := ⟨_, rfl⟩
  have HH0 : Hid (Blk w0 w.heap.size 44 hv.toList) := by rw [hw0]; exact (Blk.new w _ hv.toList).alloc _
  have HG0 : Hid (Blk w0 (w.heap.size + 1) 44 gv.toList) := by
    rw [hw0]
    have h1 := Blk.new (w.alloc (.cells hv 44)) 44 gv.toList
    rw [World.size_alloc] at h1
    exact h1
  have HK0 : Hid (Keep w w0) := by rw [hw0]; exact keep_trans (keep_new _ _) (keep_new _ _)
  rw [← hw0]
  clear hw0
  generalize w.heap.size = H at *
  generalize hG : H + 1 = G at *
  clear hG
  go_wp2_with fail
  refine (awake_any w0 (HS.out.keep HK0.out)).mono ?_
  rintro e w1 ⟨rfl, k1⟩
  have HK1 := Lib.hid (keep_trans HK0.out k1); have HH1 := Lib.hid (HH0.out.keep k1); have HG1 := Lib.hid (HG0.out.keep k1)
  clear k1 HH0 HG0
  go_wp2_with fail
  refine (new_any 8 8 _ (by omega)).mono ?_
  rintro e w2 ⟨A2, c2, rfl, own2, k2⟩
  have hd2 : DOk w2 A2 lasB c2 none [] 0 := DOk.own own2
  have HK2 := Lib.hid (keep_trans HK1.out k2); have HH2 := Lib.hid (HH1.out.keep k2); have HG2 := Lib.hid (HG1.out.keep k2)
  have C2 := reop_w A2 lasB c2 none [] 0 0 2 w2 hd2 (HS.out.keep HK2.out) (by omega) (by decide)
  rw [lasB_len] at C2
  clear hd2 own2 k2 HH1 HG1
  go_wp2_with fail
  refine C2.mono ?_
  clear C2
  rintro e w3 ⟨B, hs, A3, c3, cs, Ah, ch, rfl, R, hcs, hd3, own3, _, k3⟩
  have hn : hs = [] := R.fnd.uniq lasB_found
  subst hn
  have hBl : B.length = 256 := by rw [R.len]; exact (congrArg List.length (bytesQ_nil lasB_sane)).trans lasB_len
  have Hi := Lib.hid R.inv; have Hsn := Lib.hid R.sane
  have hcz := hcs.z; have hcn := hcs.n; have hci := hcs.i
  have Hcs := Lib.hid hcs; have Hd3 := Lib.hid hd3; have HK3 := Lib.hid (keep_trans HK2.out k3); have HH3 := Lib.hid (HH2.out.keep k3); have HG3 := Lib.hid (HG2.out.keep k3)
  have hst : (storeCells ⟨w3.heap.size, 0, none⟩ cs.toList 0).run Tryd.prog (w3.alloc (.cells zs 35)) = .ok () (w3.alloc (.cells cs 35)) := run_storeCells_new (P := Tryd.prog) w3 35 zs cs hci (hz1.trans hcz.symm) (by have := all_oneCell_toArray Hcs.out.o; rwa [Array.toArray_toList] at this)
  clear hcs hd3 own3 R k3 HH2 HG2
  go_upto_region 3 with fail
  clear hst
  obtain ⟨w4, hw4⟩ : ∃ w4, w4 = w3.alloc (.cells cs 35) := ⟨_, rfl⟩
  have HC4 : Hid (Blk w4 w3.heap.size 35 cs.toList) := by rw [hw4]; exact Blk.new w3 _ cs.toList
  have k4 : Keep w3 w4 := by rw [hw4]; exact keep_new _ _
  rw [← hw4]
  clear hw4
  have HK4 := Lib.hid (keep_trans HK3.out k4); have HH4 := Lib.hid (HH3.out.keep k4); have HG4 := Lib.hid (HG3.out.keep k4)
  obtain ⟨L1, L2, X, Y, hl1, hl2, hX, hY, hX1, hY1, RX, RY, RK, C4⟩ := last_calls A3 B c3 h g cs hv gv w4 hBl Hsn.out Hi.out Hcs.out Hk.out Hhv.out Gk.out Hgv.out (fun W hW => Hd3.out W (Fr.of_keep (keep_trans k4 hW))) (HS.out.keep HK4.out)
  obtain ⟨R, S, hRl, hSl, hRS, hRne, RR, RS⟩ := RK k (by omega)
  have HRX := Lib.hid RX; have HRY := Lib.hid RY; have HRR := Lib.hid RR; have HRS := Lib.hid RS
  have HX := Lib.hid hX; have HY := Lib.hid hY; have HX1 := Lib.hid hX1; have HY1 := Lib.hid hY1; have HRl := Lib.hid hRl; have HSl := Lib.hid hSl; have HRSe := Lib.hid hRS; have HRne := Lib.hid hRne; have HL1 := Lib.hid hl1; have HL2 := Lib.hid hl2
  clear RX RY RK RR RS hX hY hX1 hY1 hRl hSl hRS hRne hl1 hl2
  generalize hbl : B.length = bl at *
  clear hbl hBl
  generalize w3.heap.size = P at *
  clear k4 HH3 HG3 Hi Hsn Hcs Hd3
  go_wp2_with (first
    | ((with_reducible refine load_arr P cs (Eq.trans ?_ rfl) HC4.out _ Tryd.underlying35 rfl hci ?_); rfl)
    | ((with_reducible refine load_arr H hv (Eq.trans ?_ rfl) HH4.out _ Tryd.underlying44 rfl hvi ?_); rfl))
  refine C4.mono ?_
  clear C4
  rintro e w5 ⟨A5, c5, PA5, n5, pc5, ds, rfl, hds, k5, C5⟩
  have HC5 := Lib.hid C5
  have hdz := hds.z; have hdn := hds.n; have hdi := hds.i
  have Hds := Lib.hid hds; have HK5 := Lib.hid (keep_trans HK4.out k5); have HH5 := Lib.hid (HH4.out.keep k5); have HG5 := Lib.hid (HG4.out.keep k5)
  have hst : (storeCells ⟨w5.heap.size, 0, none⟩ ds.toList 0).run Tryd.prog (w5.alloc (.cells zs 35)) = .ok () (w5.alloc (.cells ds 35)) := run_storeCells_new (P := Tryd.prog) w5 35 zs ds hdi (hz1.trans hdz.symm) (by have := all_oneCell_toArray Hds.out.o; rwa [Array.toArray_toList] at this)
  clear hds k5 C5 HC4 HH4 HG4
  go_upto_region 4 with fail
  clear hst
  obtain ⟨w6, hw6⟩ : ∃ w6, w6 = w5.alloc (.cells ds 35) := ⟨_, rfl⟩
  have HA6 : Hid (Blk w6 w5.heap.size 35 ds.toList) := by rw [hw6]; exact Blk.new w5 _ ds.toList
  have k6 : Keep w5 w6 := by rw [hw6]; exact keep_new _ _
  rw [← hw6]
  clear hw6
  have HK6 := Lib.hid (keep_trans HK5.out k6); have HH6 := Lib.hid (HH5.out.keep k6); have HG6 := Lib.hid (HG5.out.keep k6)
  have C6 := HC5.out w6 k6
  generalize w5.heap.size = Q at *
  clear k6 HC5 HH5 HG5
  go_wp2_with (first
    | ((with_reducible refine load_arr Q ds (Eq.trans ?_ rfl) HA6.out _ Tryd.underlying35 rfl hdi ?_); rfl)
    | ((with_reducible refine load_arr G gv (Eq.trans ?_ rfl) HG6.out _ Tryd.underlying44 rfl gvi ?_); rfl))
  refine C6.mono ?_
  clear C6
  rintro e w7 ⟨A7, c7, PA7, n7, pc7, es, rfl, hes, k7, C7⟩
  have HC7 := Lib.hid C7
  have hez := hes.z; have hen := hes.n; have hei := hes.i
  have Hes := Lib.hid hes; have HK7 := Lib.hid (keep_trans HK6.out k7); have HH7 := Lib.hid (HH6.out.keep k7); have HG7 := Lib.hid (HG6.out.keep k7); have HA7 := Lib.hid (HA6.out.keep k7)
  have hst : (storeCells ⟨w7.heap.size, 0, none⟩ es.toList 0).run Tryd.prog (w7.alloc (.cells zs 35)) = .ok () (w7.alloc (.cells es 35)) := run_storeCells_new (P := Tryd.prog) w7 35 zs es hei (hz1.trans hez.symm) (by have := all_oneCell_toArray Hes.out.o; rwa [Array.toArray_toList] at this)
  clear hes k7 C7 HH6 HG6 HA6
  go_upto_region 5 with fail
  clear hst
  obtain ⟨w8, hw8⟩ : ∃ w8, w8 = w7.alloc (.cells es 35) := ⟨_, rfl⟩
  have HE8 : Hid (Blk w8 w7.heap.size 35 (lgCells (.slice A7 bl c7) (.slice PA7 n7 pc7) 0 2 2 L2)) := by rw [hw8, ← Hes.out.l]; exact Blk.new w7 _ es.toList
  have k8 : Keep w7 w8 := by rw [hw8]; exact keep_new _ _
  rw [← hw8]
  clear hw8
  have HK8 := Lib.hid (keep_trans HK7.out k8); have HH8 := Lib.hid (HH7.out.keep k8); have HG8 := Lib.hid (HG7.out.keep k8)
  have HA8 : Hid (Blk w8 Q 35 (lgCells (.slice A5 bl c5) (.slice PA5 n5 pc5) 0 2 1 L1)) := by rw [← Hds.out.l]; exact HA7.out.keep k8
  have C8 : Hid (∀ V, Keep w8 V → Calls Tryd.prog 23 #[DV A7 bl c7 PA7 n7 pc7] V fun e v' => ∃ A6 c6, e = .returned (.slice A6 (X ++ Y).length c6) ∧ Rd v' A6 ((X ++ Y).map u8v) ∧ (X ++ Y).length ≤ c6 ∧ c6 ≤ maxLen ∧ Keep V v') := fun V hV => HC7.out V (keep_trans k8 hV)
  generalize w7.heap.size = E at *
  clear k8 HC7 HH7 HG7 HA7 Hes Hds
  obtain ⟨lv, hlv⟩ : ∃ lv, HashA L1 lv := ⟨_, HashA.of HL1.out⟩
  have lvz := hlv.z; have lvn := hlv.n; have lvi := hlv.i
  have Hlv := Lib.hid hlv
  have Hrg : Hid (∀ W, Keep w8 W → W.rangeAt Q 5 lv.toList) := fun W hW => range_of (HA8.out.keep hW) 5 lv.toList (by rw [Hlv.out.l, List.length_map, HL1.out]; exact lg_last HL1.out)
  clear hlv
  go_wp2_with (first
    | ((with_reducible refine list_build [] sz (Eq.trans ?_ rfl) Hszb.out ?_); rfl)
    | ((with_reducible refine load_arr H hv (Eq.trans ?_ rfl) HH8.out _ Tryd.underlying44 rfl hvi ?_); rfl))
  refine (HRX.out w8 sz (HS.out.keep HK8.out) HSZ.out).mono ?_
  rintro e w9 ⟨Ax, cx, rfl, hrx, hcx, hmx, k9⟩
  have Hrx := Lib.hid hrx; have K9 := Lib.hid k9; have HH9 := Lib.hid (HH8.out.keep k9); have HG9 := Lib.hid (HG8.out.keep k9); have HK9 := Lib.hid (keep_trans HK8.out k9)
  have hrg9 := Lib.hid (Hrg.out w9 k9)
  clear hrx k9 HH8 HG8
  go_wp2_with (first
    | ((with_reducible refine load_part Q 5 lv (Eq.trans ?_ rfl) hrg9.out (.array 32 5) hash_under (arr_row _ _) lvi ?_); rfl)
    | ((with_reducible refine load_arr G gv (Eq.trans ?_ rfl) HG9.out _ Tryd.underlying44 rfl gvi ?_); rfl))
  refine (HRY.out w9 lv (HS.out.keep HK9.out) Hlv.out).mono ?_
  rintro e wa ⟨Ay, cy, rfl, hry, hcy, hmy, ka⟩
  have Hry := Lib.hid hry; have Ka := Lib.hid (keep_trans K9.out ka); have HHa := Lib.hid (HH9.out.keep ka); have HKa := Lib.hid (keep_trans HK9.out ka); have Hrxa := Lib.hid (Hrx.out.keep ka)
  have hrga := Lib.hid (Hrg.out wa Ka.out)
  clear hry ka HH9 HG9 Hrx K9 hrg9
  go_wp2_with (first
    | ((with_reducible refine load_part Q 5 lv (Eq.trans ?_ rfl) hrga.out (.array 32 5) hash_under (arr_row _ _) lvi ?_); rfl)
    | ((with_reducible refine load_arr H hv (Eq.trans ?_ rfl) HHa.out _ Tryd.underlying44 rfl hvi ?_); rfl))
  refine (HRR.out wa lv (HS.out.keep HKa.out) Hlv.out).mono ?_
  rintro e wb ⟨Ar, cr, rfl, hrr, hcr, hmr, kb⟩
  have Hrr := Lib.hid hrr; have Kb := Lib.hid (keep_trans Ka.out kb); have HHb := Lib.hid (HHa.out.keep kb); have HKb := Lib.hid (keep_trans HKa.out kb); have Hrxb := Lib.hid (Hrxa.out.keep kb); have Hryb := Lib.hid (Hry.out.keep kb)
  have hrgb := Lib.hid (Hrg.out wb Kb.out)
  clear hrr kb HHa Hrxa Hry Ka hrga
  go_wp2_with (first
    | ((with_reducible refine load_part Q 5 lv (Eq.trans ?_ rfl) hrgb.out (.array 32 5) hash_under (arr_row _ _) lvi ?_); rfl)
    | ((with_reducible refine load_arr H hv (Eq.trans ?_ rfl) HHb.out _ Tryd.underlying44 rfl hvi ?_); rfl))
  refine (HRS.out wb lv (HS.out.keep HKb.out) Hlv.out).mono ?_
  rintro e wc ⟨As, cS, rfl, hrs, hcs', hms, kc⟩
  have Hrs := Lib.hid hrs; have Kc := Lib.hid (keep_trans Kb.out kc); have HKc := Lib.hid (keep_trans HKb.out kc); have Hrxc := Lib.hid (Hrxb.out.keep kc); have Hryc := Lib.hid (Hryb.out.keep kc); have Hrrc := Lib.hid (Hrr.out.keep kc)
  clear hrs kc HHb Hrxb Hryb Hrr Kb hrgb
  go_upto_region 12 with fail
  obtain ⟨bx, ox, rfl, hbx, -⟩ := Hrxc.out.at (k := 0) (by rw [List.length_map, HX.out]; omega)
  obtain ⟨by_, oy, rfl, hby, -⟩ := Hryc.out.at (k := 0) (by rw [List.length_map, HY.out]; omega)
  obtain ⟨br, or_, rfl, hbr, -⟩ := Hrrc.out.at (k := 0) (by rw [List.length_map, HRl.out]; omega)
  obtain ⟨bs, os, rfl, hbs, -⟩ := Hrs.out.at (k := 0) (by rw [List.length_map, HSl.out]; omega)
  obtain ⟨T, hT⟩ : ∃ T, T = (R.drop 4).take 92 := ⟨_, rfl⟩
  have hTl : T.length = 92 := by rw [hT, List.length_take, List.length_drop, HRl.out]; rfl
  obtain ⟨R4, hR4⟩ : ∃ R4, R4 = R.take 4 := ⟨_, rfl⟩
  obtain ⟨S4, hS4⟩ : ∃ S4, S4 = S.take 4 := ⟨_, rfl⟩
  have hR4l : R4.length = 4 := by rw [hR4, List.length_take, HRl.out]; rfl
  have hS4l : S4.length = 4 := by rw [hS4, List.length_take, HSl.out]; rfl
  have hne : (R4 == S4) = false := beq_eq_false_iff_ne.2 (by rw [hR4, hS4]; exact HRne.out)
  have U1 : Hid (∀ W, Keep wc W → (convert 22 9 (.slice (some ⟨Q, 5, none⟩) 32 32)).run Tryd.prog W = .ok (.string (str L1)) W) := fun W hW => bytes_str 32 32 HL1.out.symm (part_blk (HA8.out.keep (keep_trans Kc.out hW)) HL1.out)
  have U2 : Hid (∀ W, Keep wc W → (convert 22 9 (.slice (some ⟨bx, ox + 96, none⟩) 32 (cx - 96))).run Tryd.prog W = .ok (.string (str L1)) W) := fun W hW => by
    have h1 := (Hrxc.out.keep hW).sub 96 32 (by rw [List.length_map, HX.out]; omega)
    rw [← List.map_drop, ← List.map_take, HX1.out, List.take_of_length_le (by rw [HL1.out]; omega)] at h1
    exact bytes_str 32 _ HL1.out.symm h1
  have U3 : Hid (∀ W, Keep wc W → (convert 22 9 (.slice (some ⟨E, 5, none⟩) 32 32)).run Tryd.prog W = .ok (.string (str L2)) W) := fun W hW => bytes_str 32 32 HL2.out.symm (part_blk (HE8.out.keep (keep_trans Kc.out hW)) HL2.out)
  have U4 : Hid (∀ W, Keep wc W → (convert 22 9 (.slice (some ⟨by_, oy + 96, none⟩) 32 (cy - 96))).run Tryd.prog W = .ok (.string (str L2)) W) := fun W hW => by
    have h1 := (Hryc.out.keep hW).sub 96 32 (by rw [List.length_map, HY.out]; omega)
    rw [← List.map_drop, ← List.map_take, HY1.out, List.take_of_length_le (by rw [HL2.out]; omega)] at h1
    exact bytes_str 32 _ HL2.out.symm h1
  have U5 : Hid (∀ W, Keep wc W → (convert 22 9 (.slice (some ⟨bx, ox, none⟩) 128 cx)).run Tryd.prog W = .ok (.string (str X)) W) := fun W hW => bytes_str 128 _ HX.out.symm (Hrxc.out.keep hW)
  have U6 : Hid (∀ W, Keep wc W → (convert 22 9 (.slice (some ⟨by_, oy, none⟩) 128 cy)).run Tryd.prog W = .ok (.string (str Y)) W) := fun W hW => bytes_str 128 _ HY.out.symm (Hryc.out.keep hW)
  have U7 : Hid (∀ W, Keep wc W → (convert 22 9 (.slice (some ⟨br, or_ + 4, none⟩) 92 (cr - 4))).run Tryd.prog W = .ok (.string (str T)) W) := fun W hW => by
    have h1 := (Hrrc.out.keep hW).sub 4 92 (by rw [List.length_map, HRl.out]; omega)
    rw [← List.map_drop, ← List.map_take, ← hT] at h1
    exact bytes_str 92 _ hTl.symm h1
  have U8 : Hid (∀ W, Keep wc W → (convert 22 9 (.slice (some ⟨bs, os + 4, none⟩) 92 (cS - 4))).run Tryd.prog W = .ok (.string (str T)) W) := fun W hW => by
    have h1 := (Hrs.out.keep hW).sub 4 92 (by rw [List.length_map, HSl.out]; omega)
    rw [← List.map_drop, ← List.map_take, ← HRSe.out, ← hT] at h1
    exact bytes_str 92 _ hTl.symm h1
  have U9 : Hid (∀ W, Keep wc W → (convert 22 9 (.slice (some ⟨br, or_, none⟩) 4 cr)).run Tryd.prog W = .ok (.string (str R4)) W) := fun W hW => by
    have h1 := (Hrrc.out.keep hW).sub 0 4 (by rw [List.length_map, HRl.out]; omega)
    rw [← List.map_drop, ← List.map_take, List.drop_zero, ← hR4, Nat.add_zero] at h1
    exact bytes_str 4 _ hR4l.symm h1
  have U10 : Hid (∀ W, Keep wc W → (convert 22 9 (.slice (some ⟨bs, os, none⟩) 4 cS)).run Tryd.prog W = .ok (.string (str S4)) W) := fun W hW => by
    have h1 := (Hrs.out.keep hW).sub 0 4 (by rw [List.length_map, HSl.out]; omega)
    rw [← List.map_drop, ← List.map_take, List.drop_zero, ← hS4, Nat.add_zero] at h1
    exact bytes_str 4 _ hS4l.symm h1
  have hx128 : (str X).size = 128 := by show X.toArray.size = 128; rw [List.size_toArray, HX.out]
  have hy128 : (str Y).size = 128 := by show Y.toArray.size = 128; rw [List.size_toArray, HY.out]
  obtain ⟨Z, hZ⟩ : ∃ Z, X ++ Y = Z := ⟨_, rfl⟩
  have hadd2 : str X ++ str Y = str Z := by rw [← hZ]; exact ByteArray.mk_append_mk ..
  have hadd : ∀ w, (Op.stringOp .add (str X) (str Y)).run Tryd.prog w = .ok (.string (str Z)) w := fun w => by rw [← hZ]; exact run_string_add_lists w X Y (by rw [HX.out]; omega) (by rw [HY.out]; omega)
  rw [hZ] at C8
  have hZl : Z.length ≤ 9223372036854775807 := by rw [← hZ, List.length_append, HX.out, HY.out]; omega
  clear hZ
  clear hT hTl hR4 hS4 hR4l hS4l
  unfold maxLen at hmx hmy hmr hms
  refine wp_region_tree (.take [0,1,2,3,4,5,6,7,8,9,10,11,12,13,14,15,16,17,18,19,20,21,22,23,24,25,26,27,28,29,32,33,34,35,36] (.force [30] (.take [31,37,38,39,40,41,42,43,44,45,46,47,48,49,50,51,52,53,54,55,56,57] .done))) [] (by kernel_rfl) (by kernel_rfl) (fun y0 q0' => ?_)
  have q0 := Lib.hid q0'
  obtain ⟨p0, p1, p2, p3, p4⟩ := lg_d (HE8.out.keep (keep_trans Kc.out q0'))
  have a0 := aft_cell p0; have a1 := aft_cell p1
  have v1 := fun y => U1.out (aft y0 y) (keep_trans q0' (aft_keep y0 y)); have v2 := fun y => U2.out (aft y0 y) (keep_trans q0' (aft_keep y0 y)); have v3 := fun y => U3.out (aft y0 y) (keep_trans q0' (aft_keep y0 y)); have v4 := fun y => U4.out (aft y0 y) (keep_trans q0' (aft_keep y0 y)); have v5 := fun y => U5.out (aft y0 y) (keep_trans q0' (aft_keep y0 y)); have v6 := fun y => U6.out (aft y0 y) (keep_trans q0' (aft_keep y0 y))
  clear q0' p0 p1 p2 p3 p4
  refine mt_take y0 (Below.refl _ _) ?_
  simp only [pick_cons, pick_nil, nth_zero, nth_succ]
  repeat (go_big_quiet_step (fail))
  clear v1 v2 v3 v4 v5 v6 a0 a1 hadd hadd2 hx128 hy128
  refine wpQuiet_nil (mt_force ?_)
  simp only [pick_cons, pick_nil, nth_zero, nth_succ]
  refine fc_step rfl (fun K hK => ?_)
  go_simp
  (with_reducible refine (C8.out y0 (keep_trans Kc.out q0.out)).mono ?_)
  rintro e y1 ⟨A6, c6, rfl, hr6, hc6, hm6, hk6⟩
  refine hK _ _ hk6 ?_
  clear hK K
  have q1 := Lib.hid (keep_trans q0.out hk6)
  have v0 : ∀ y, (convert 22 9 (.slice A6 Z.length c6)).run Tryd.prog (aft y1 y) = .ok (.string (str Z)) (aft y1 y) := fun y => bytes_str _ _ rfl (hr6.keep (aft_keep y1 y))
  have v7 := fun y => U7.out (aft y1 y) (keep_trans q1.out (aft_keep y1 y)); have v8 := fun y => U8.out (aft y1 y) (keep_trans q1.out (aft_keep y1 y)); have v9 := fun y => U9.out (aft y1 y) (keep_trans q1.out (aft_keep y1 y)); have v10 := fun y => U10.out (aft y1 y) (keep_trans q1.out (aft_keep y1 y))
  clear hk6 hr6
  refine fc_nil (mt_take y1 (Below.refl _ _) ?_)
  simp only [pick_cons, pick_nil, nth_zero, nth_succ]
  repeat (go_big_quiet_step (fail))
  clear v0 v7 v8 v9 v10
  refine wpQuiet_nil (mt_end ?_)
  go_wp2
  exact bodyPost_ret (v := .bool true) (by simp [results, Tryd.results6, hne]) rfl ⟨rfl, keep_trans HKc.out q1.out⟩
end Go.Proofs.YtielojlhdnimgaaDoor
