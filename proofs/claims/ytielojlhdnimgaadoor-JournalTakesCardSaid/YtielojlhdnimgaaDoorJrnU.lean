/- The document's example. -/
import Derived.Test.YtielojlhdnimgaaDoorJrnT
set_option linter.unusedSimpArgs false
set_option linter.unusedVariables false
namespace Go.Proofs.YtielojlhdnimgaaDoor
open Go.RowKit
attribute [local go_sem ↓] Go.wp_at_zero Go.wp_at_succ

theorem list_buildg {P : Program} {w : World} {ops : Array Oper} {rest : List Oper} {a : Act} {Q : Exit → Act → World → Prop} {parts : Array (Nat × Operand)} {dst : Option Tmp} {t ty' : TypeId} {pos : String} {af : Array Edge} {gd : Option (Nat × Bool)}
    (ps : List (Nat × Value)) (cells : Array Value) (hx : (parts.toList.map fun p => (p.1, a.eval p.2)) = ps) (hb : P.built t ps = some cells)
    (hw : Region.wanted { dst := dst, op := .build t parts, type := ty', pos := pos, after := af, guard := gd } (yielded ops a.tmps) = true)
    (h : wpList P ops Q rest (a.put dst (.agg cells)) w) : wpList P ops Q ({ dst := dst, op := .build t parts, type := ty', pos := pos, after := af, guard := gd } :: rest) a w := by
  unfold wpList
  rw [if_pos hw]
  left
  exact wp_build t parts rfl (by rw [show (parts.map fun (i, x) => (i, a.eval x)).toList = ps by rw [Array.toList_map]; exact hx, hb]; rfl) (by rw [show (parts.map fun (i, x) => (i, a.eval x)).toList = ps by rw [Array.toList_map]; exact hx, hb]; exact h)
theorem zhash_B : ∃ zs : Array Value, HashA z32 zs ∧ (∀ w, (zeroValue 33).run Tryd.prog w = .ok (.agg zs) w) ∧ Tryd.prog.built 33 [] = some zs :=
  ⟨zhash, ⟨zhash_list, zhash_size, by rw [zhash_size]; kernel_rfl, (fun h => by have := zhash_size; rw [h] at this; cases this), by rw [zhash_list]; exact one_w8 _, by rw [show z32.map u8v = zhash.toList from zhash_list.symm, Array.toArray_toList]⟩, zhash_zero, by kernel_rfl⟩

def jawB : List UInt8 := List.replicate 288 0
def jawH : Hd := ⟨0, z32, z32, 0, 0, 5⟩
theorem jawB_len : jawB.length = 288 := by kernel_rfl
theorem jawB_sane : saneP jawB.length [] = true := by kernel_rfl
theorem jawB_found : Found 1 2 (bytesQ jawB []) [] := by
  rw [bytesQ_nil jawB_sane]
  exact found_of (by omega) (by rw [jawB_len]; decide) trivial (Nat.zero_le _) (nx_zero fun _ _ => by kernel_rfl)
theorem jawH_ok : jawH.ok := ⟨rfl, rfl⟩
theorem jaw_app {B : List UInt8} (hB : B.length = 288) (hs : saneP B.length [] = true) : (appendD B 1 2 0 z32 jawH []).1 = 0 := by
  unfold appendD
  rw [if_neg (by decide), if_pos]
  unfold appOk
  rw [hs, hB, Bool.true_and]
  exact decide_eq_true ⟨by unfold wrap64; omega, by unfold wrap64; omega, by simp⟩
theorem jawH_build : ∃ hv : Array Value, HdA jawH hv ∧ Tryd.prog.built 44 [(5, .int .u32 5)] = some hv := ⟨_, HdA.of jawH_ok, by kernel_rfl⟩

theorem app_open_w (A2 : Option Addr) (B : List UInt8) (c2 : Nat) (base room : Int) (hs : List Hd) (h : Hd) (cs hv : Array Value) (w3 : World) (hb : -9223372036854775808 ≤ base ∧ base ≤ 9223372036854775807) (hi : LogInv B [] base room hs)
    (hls : LogA (lgCells (.slice A2 B.length c2) (.slice none 0 0) base room (hs.length : Nat) (lastL 0 z32 hs)) cs) (hk : h.ok) (hhv : HdA h hv) (hz : (appendD B base room hs.length (lastL 0 z32 hs) h []).1 = 0)
    (hd2 : ∀ W, Keep w3 W → DOk W A2 B c2 none [] 0) (hS : ShaOk w3) : ∃ L, Calls Tryd.prog 12 #[.agg cs, .agg hv] w3 fun e w' => ∃ A4 c4 PA4 n4 pc4 ds, e = .returned (.tuple #[.agg ds, .int .i64 0]) ∧
      LogA (lgCells (.slice A4 B.length c4) (.slice PA4 n4 pc4) base room (hs.length + 1 : Nat) L) ds ∧ Keep w3 w' ∧
      (∀ W, Keep w' W → Calls Tryd.prog 16 #[DV A4 B.length c4 PA4 n4 pc4, .int .i64 base, .int .i64 room] W fun e w'' => ∃ es Ag cg, e = .returned (.tuple #[.agg es, .slice Ag (hs.length + 1) cg]) ∧ LogA (lgCells (.slice A4 B.length c4) (.slice PA4 n4 pc4) base room (hs.length + 1 : Nat) L) es ∧ Rd w'' Ag ((hs ++ [h]).flatMap Hd.cells) ∧ Keep W w'') ∧
      (∀ W, Keep w' W → Calls Tryd.prog 18 #[.agg ds] W fun e w'' => e = .returned (.bool true) ∧ Keep W w'') := by
  refine ⟨lastL 0 z32 (hs ++ [h]), ?_⟩
  have hln : (hs ++ [h]).length = hs.length + 1 := by rw [List.length_append, List.length_singleton]
  have hc := app_w A2 B c2 none [] 0 base room hs cs h hv w3 (fun W => Keep w3 W) (fun W hW => hW) hd2 hS hb hi hls hk hhv
  refine hc.mono ?_
  rintro e w4 ⟨A4, c4, PA4, pc4, vs, ds, er, rfl, her, hd4, k4, h0, h1⟩
  have her0 : er = 0 := her.trans hz
  subst her0
  obtain ⟨hds, hi4, _⟩ := h0 rfl
  have hd : ∀ W, Keep w4 W → DOk W A4 B c4 PA4 vs pc4 := fun W hW => hd4 W ⟨keep_trans k4 hW, fun k _ h2 => hW.block k h2⟩
  refine ⟨A4, c4, PA4, vs.length, pc4, ds, rfl, by rw [← hln]; exact hds, k4, fun W hW => ?_, fun W hW => ?_⟩
  · refine (open_w A4 B c4 PA4 vs pc4 base room W (hd W hW) (hS.keep (keep_trans k4 hW)) hb).mono ?_
    rintro e w'' ⟨gs, es, Ag, cg, rfl, hf, hes, own, _, hk⟩
    have hn : gs = hs ++ [h] := hf.uniq hi4.fnd
    subst hn
    rw [hln] at hes ⊢
    exact ⟨es, Ag, cg, rfl, hes, own_rd own, hk⟩
  · exact sane_w A4 B c4 PA4 vs pc4 base room (hs ++ [h]) ds W (hd W hW) (hS.keep (keep_trans k4 hW)) hb hi4 hds (lastL_len _ _ _ rfl)

set_option maxRecDepth 100000 in
set_option maxHeartbeats 4000000 in
theorem awake_any (w : World) (hS : ShaOk w) : Calls Tryd.prog 8 #[] w fun e w' => e = .returned (.bool true) ∧ Keep w w' := by
  have HS := Lib.hid hS; clear hS
  obtain ⟨zs, hz1, hz2, hz3⟩ := zlog_letter
  obtain ⟨sz, hSZ, szz, szb⟩ := zhash_B
  have szs := hSZ.z; have szn := hSZ.n; have szi := hSZ.i
  have HSZ := Lib.hid hSZ; have Hszb := Lib.hid szb
  clear hSZ szb
  obtain ⟨XS, hXS⟩ : ∃ XS, [jawH].flatMap Hd.cells = XS := ⟨_, rfl⟩
  have HXS := Lib.hid hXS; clear hXS
  obtain ⟨hv, hhv, hvb⟩ := jawH_build
  have hvz := hhv.z; have hvn := hhv.n; have hvi := hhv.i
  have Hhv := Lib.hid hhv; have Hvb := Lib.hid hvb
  clear hhv hvb
  go_enter Tryd.func8, Tryd.ntmps8
  go_wp2_with fail
  refine (new_any 9 9 _ (by omega)).mono ?_
  rintro e w1 ⟨A1, c1, rfl, own1, k1⟩
  have hd1 : DOk w1 A1 jawB c1 none [] 0 := DOk.own own1
  have HK1 := Lib.hid k1
  have C1 := reop_w A1 jawB c1 none [] 0 1 2 w1 hd1 (HS.out.keep k1) (by omega) (by decide)
  rw [jawB_len] at C1
  clear hd1 own1 k1
  go_wp2_with fail
  refine C1.mono ?_
  clear C1
  rintro e w2 ⟨B, hs, A2, c2, cs, Ah, ch, rfl, R, hcs, hd2, own2, _, k2⟩
  have hn : hs = [] := R.fnd.uniq jawB_found
  subst hn
  have hBl : B.length = 288 := by rw [R.len]; exact (congrArg List.length (bytesQ_nil jawB_sane)).trans jawB_len
  have Hi := Lib.hid R.inv; have Hsn := Lib.hid R.sane
  have hcz := hcs.z; have hcn := hcs.n; have hci := hcs.i
  have Hcs := Lib.hid hcs; have Hd2 := Lib.hid hd2; have HK2 := Lib.hid (keep_trans HK1.out k2)
  have hst : (storeCells ⟨w2.heap.size, 0, none⟩ cs.toList 0).run Tryd.prog (w2.alloc (.cells zs 35)) = .ok () (w2.alloc (.cells cs 35)) := run_storeCells_new (P := Tryd.prog) w2 35 zs cs hci (hz1.trans hcz.symm) (by have := all_oneCell_toArray Hcs.out.o; rwa [Array.toArray_toList] at this)
  clear hcs hd2 own2 R k2
  go_upto_region 2 with fail
  clear hst
  obtain ⟨w3, hw3⟩ : ∃ w3, w3 = w2.alloc (.cells cs 35) := ⟨_, rfl⟩
  have HC3 : Hid (Blk w3 w2.heap.size 35 cs.toList) := by rw [hw3]; exact Blk.new w2 _ cs.toList
  have k3 : Keep w2 w3 := by rw [hw3]; exact keep_new _ _
  rw [← hw3]
  clear hw3
  have HK3 := Lib.hid (keep_trans HK2.out k3)
  have hz23 : w2.heap.size < w3.heap.size := HC3.out.lt
  obtain ⟨L, C2⟩ := app_open_w A2 B c2 1 2 [] jawH cs hv w3 (by omega) Hi.out Hcs.out jawH_ok Hhv.out (jaw_app hBl Hsn.out) (fun W hW => Hd2.out W (Fr.of_keep (keep_trans k3 hW))) (HS.out.keep HK3.out)
  generalize w2.heap.size = C at *
  clear k3
  go_wp2_with (first
    | ((with_reducible refine load_arr C cs (Eq.trans ?_ rfl) HC3.out _ Tryd.underlying35 rfl hci ?_); rfl)
    | ((with_reducible refine list_build [(5, .int .u32 5)] hv (Eq.trans ?_ rfl) Hvb.out ?_); rfl))
  refine C2.mono ?_
  clear C2
  rintro e w4 ⟨A4, c4, PA4, n4, pc4, ds, rfl, hds, k4, ho, hs4⟩
  simp only [List.length_nil, Nat.zero_add, List.nil_append] at hds ho
  rw [HXS.out] at ho
  have hdz := hds.z; have hdn := hds.n; have hdi := hds.i
  have Hds := Lib.hid hds; have Ho := Lib.hid ho; have Hs4 := Lib.hid hs4
  have HK4 := Lib.hid (keep_trans HK3.out k4)
  generalize hbl : B.length = bl at *
  clear hbl hBl
  have hst : (storeCells ⟨w4.heap.size, 0, none⟩ ds.toList 0).run Tryd.prog (w4.alloc (.cells zs 35)) = .ok () (w4.alloc (.cells ds 35)) := run_storeCells_new (P := Tryd.prog) w4 35 zs ds hdi (hz1.trans hdz.symm) (by have := all_oneCell_toArray Hds.out.o; rwa [Array.toArray_toList] at this)
  clear hds k4 ho hs4 HC3
  go_upto_region 3 with fail
  clear hst
  obtain ⟨w5, hw5⟩ : ∃ w5, w5 = w4.alloc (.cells ds 35) := ⟨_, rfl⟩
  have HM5 : Hid (Blk w5 w4.heap.size 35 ds.toList) := by rw [hw5]; exact Blk.new w4 _ ds.toList
  have k5 : Keep w4 w5 := by rw [hw5]; exact keep_new _ _
  rw [← hw5]
  clear hw5
  have HK5 := Lib.hid (keep_trans HK4.out k5)
  have C3 := Ho.out w5 k5
  have S3 : Hid (∀ W, Keep w5 W → Calls Tryd.prog 18 #[.agg ds] W fun e w' => e = .returned (.bool true) ∧ Keep W w') := fun W hW => Hs4.out W (keep_trans k5 hW)
  have HM5' : Hid (Blk w5 w4.heap.size 35 (lgCells (.slice A4 bl c4) (.slice PA4 n4 pc4) 1 2 ((1 : Nat) : Int) L)) := by rw [← Hds.out.l]; exact HM5.out
  obtain ⟨c0, c1', c2', c3, c4'⟩ := lg_d HM5'.out
  generalize w4.heap.size = M at *
  clear k5 HM5' c2' c3 c4'
  go_wp2_with fail
  refine C3.mono ?_
  clear C3 c0 c1'
  rintro e w6 ⟨es, Ag, cg, rfl, hes, hr6, k6⟩
  have hez := hes.z; have hen := hes.n; have hei := hes.i
  have Hes := Lib.hid hes; have HK6 := Lib.hid (keep_trans HK5.out k6); have HM6 := Lib.hid (HM5.out.keep k6)
  have S6 : Hid (∀ W, Keep w6 W → Calls Tryd.prog 18 #[.agg ds] W fun e w' => e = .returned (.bool true) ∧ Keep W w') := fun W hW => S3.out W (keep_trans k6 hW)
  have Hr6 := Lib.hid hr6
  have hst : (storeCells ⟨w6.heap.size, 0, none⟩ es.toList 0).run Tryd.prog (w6.alloc (.cells zs 35)) = .ok () (w6.alloc (.cells es 35)) := run_storeCells_new (P := Tryd.prog) w6 35 zs es hei (hz1.trans hez.symm) (by have := all_oneCell_toArray Hes.out.o; rwa [Array.toArray_toList] at this)
  clear hes hr6 k6 S3 Ho
  go_upto_region 4 with fail
  clear hst
  obtain ⟨w7, hw7⟩ : ∃ w7, w7 = w6.alloc (.cells es 35) := ⟨_, rfl⟩
  have HE7 : Hid (Blk w7 w6.heap.size 35 es.toList) := by rw [hw7]; exact Blk.new w6 _ es.toList
  have k7 : Keep w6 w7 := by rw [hw7]; exact keep_new _ _
  rw [← hw7]
  clear hw7
  have HK7 := Lib.hid (keep_trans HK6.out k7); have HM7 := Lib.hid (HM6.out.keep k7)
  have HE7' : Hid (Blk w7 w6.heap.size 35 (lgCells (.slice A4 bl c4) (.slice PA4 n4 pc4) 1 2 ((1 : Nat) : Int) L)) := by rw [← Hes.out.l]; exact HE7.out
  obtain ⟨c0, c1', c2', c3, c4'⟩ := lg_d HE7'.out
  clear c0 c1' c2' c3
  have S7 : Hid (∀ W, Keep w7 W → Calls Tryd.prog 18 #[.agg ds] W fun e w' => e = .returned (.bool true) ∧ Keep W w') := fun W hW => S6.out W (keep_trans k7 hW)
  obtain ⟨gb, off, rfl, hgb, F⟩ := Hd.at_ (hs := [jawH]) (by rw [HXS.out]; exact Hr6.out.keep k7) (fun x hx => by rw [List.mem_singleton.1 hx]; exact jawH_ok) (k := 0) (by simp)
  have F' : Hid (∀ W, Keep w7 W → W.rangeAt gb off hv.toList) := fun W hW => by rw [Hhv.out.l]; exact F W hW
  have r0 : w7.cell? ⟨gb, off + 67, none⟩ = some (.int .u32 5) := F'.out w7 (Below.refl _ _) 67 _ (by rw [Hhv.out.l]; rfl)
  have R7 : Hid (∀ W, Keep w7 W → Calls Tryd.prog 19 #[.agg sz, .int .i64 0, .agg hv] W fun e w' => ∃ A c, e = .returned (.slice A 128 c) ∧ Keep W w') := fun W hW =>
    (rec_any z32 sz 0 jawH hv W HSZ.out rfl jawH_ok Hhv.out (HS.out.keep (keep_trans HK7.out hW))).mono fun e w' ⟨A, c, h1, _, h3⟩ => ⟨A, c, h1, h3⟩
  generalize w6.heap.size = E at *
  clear k7 HE7' F S6 Hr6
  go_wp2_with (first
    | ((with_reducible refine load_arr M ds (Eq.trans ?_ rfl) HM7.out _ Tryd.underlying35 rfl hdi ?_); rfl)
    | ((with_reducible refine load_partg M 0 ds (Eq.trans ?_ rfl) (range_of HM7.out 0 ds.toList (by rw [List.drop_zero, List.take_length])) _ Tryd.underlying35 rfl hdi (Eq.trans ?_ rfl) ?_); rfl; rfl)
    | ((with_reducible refine list_buildg [] sz (Eq.trans ?_ rfl) Hszb.out (Eq.trans ?_ rfl) ?_); rfl; rfl))
  refine (S7.out w7 (Below.refl _ _)).mono ?_
  rintro e w8 ⟨rfl, k8⟩
  have Hrg8 := Lib.hid (F'.out w8 k8)
  have K8 := Lib.hid k8
  clear c4' r0 k8
  have Hrg8' : Hid (w8.rangeAt gb off hv.toList) := by first | exact Hrg8 | (have h := Hrg8.out; simp only [Nat.zero_mul, Nat.add_zero] at h; exact Lib.hid h)
  go_wp2_with (first
    | ((with_reducible refine list_buildg [] sz (Eq.trans ?_ rfl) Hszb.out (Eq.trans ?_ rfl) ?_); rfl; rfl)
    | ((with_reducible refine load_partg gb off hv (Eq.trans ?_ rfl) Hrg8'.out _ Tryd.underlying44 rfl hvi (Eq.trans ?_ rfl) ?_); rfl; rfl))
  refine (R7.out w8 K8.out).mono ?_
  rintro e w9 ⟨A9, c9, rfl, k9⟩
  go_wp2_with fail
  exact bodyPost_ret (v := .bool true) (by simp [results, Tryd.results8]) rfl ⟨rfl, keep_trans HK7.out (keep_trans K8.out k9)⟩
end Go.Proofs.YtielojlhdnimgaaDoor
