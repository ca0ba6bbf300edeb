/- A record taken. -/
import Derived.Test.YtielojlhdnimgaaDoorJrnB
set_option linter.unusedSimpArgs false
set_option linter.unusedVariables false
namespace Go.Proofs.YtielojlhdnimgaaDoor
open Go.RowKit
attribute [local go_sem ↓] Go.wp_at_zero Go.wp_at_succ

theorem results_cell_cell_tmp {P : Program} {fn : Func} {p q u : Tmp} {ty ty' : TypeId} (h : fn.results = #[.cell p ty, .cell q ty', .tmp u]) (tmps : Array Value) (w : World) (g g' : Nat) (t t' : TypeId) (cs cs' : Array Value) (fr fr' : Nat × Nat) (d d' : TypeDesc)
    (hp : tmps.getD p undef = .pointer (some ⟨g, 0, none⟩)) (hq : tmps.getD q undef = .pointer (some ⟨g', 0, none⟩)) (hg : w.heap[g]? = some (.cells cs t fr)) (hg' : w.heap[g']? = some (.cells cs' t' fr'))
    (hu : P.underlying ty = some d) (hu' : P.underlying ty' = some d') (hd : (match d with | .struct _ | .array _ _ => true | _ => false) = true) (hd' : (match d' with | .struct _ | .array _ _ => true | _ => false) = true)
    (hi : (P.info? ty).map (·.size) = some cs.size) (hi' : (P.info? ty').map (·.size) = some cs'.size) :
    (results fn tmps).run P w = .ok (.tuple #[.agg cs, .agg cs', tmps.getD u undef]) w := by
  have hp' : tmps[p]?.getD undef = .pointer (some ⟨g, 0, none⟩) := by simpa using hp
  have hq' : tmps[q]?.getD undef = .pointer (some ⟨g', 0, none⟩) := by simpa using hq
  simp [results, h, hp', hq', asAddr, run_loadVar_row w g t ty cs fr d hg hu hd hi, run_loadVar_row w g' t' ty' cs' fr' d' hg' hu' hd' hi']

def zHd : Hd := ⟨0, z32, z32, 0, 0, 0⟩
theorem zhash_A : ∃ zs : Array Value, HashA z32 zs ∧ (∀ w, (zeroValue 33).run Tryd.prog w = .ok (.agg zs) w) :=
  ⟨zhash, ⟨zhash_list, zhash_size, by rw [zhash_size]; kernel_rfl, (fun h => by have := zhash_size; rw [h] at this; cases this), by rw [zhash_list]; exact one_w8 _, by rw [show z32.map u8v = zhash.toList from zhash_list.symm, Array.toArray_toList]⟩, zhash_zero⟩
theorem zhead_A : ∃ zs : Array Value, HdA zHd zs ∧ (∀ w, (zeroValue 44).run Tryd.prog w = .ok (.agg zs) w) :=
  ⟨zhead, ⟨zhead_list, zhead_size, by rw [zhead_size]; kernel_rfl, (fun h => by have := zhead_size; rw [h] at this; cases this), by rw [zhead_list]; exact Hd.one _⟩, zhead_zero⟩

/-- What is taken of bytes. -/
def takeD (last : List UInt8) (seq : Int) (b : List UInt8) : Bool × Hd × List UInt8 :=
  if b.length = 128 ∧ recB last seq (hgetL ((b.drop 4).take 80)) = b then (true, hgetL ((b.drop 4).take 80), b.drop 96) else (false, zHd, z32)
theorem recSum_of {last : List UInt8} {seq : Int} {h : Hd} {b : List UInt8} (hk : h.ok) (e : recB last seq h = b) : recSum last seq h = b.drop 96 := by
  rw [← e, recB, List.drop_left' (recHead_len seq hk)]

set_option maxRecDepth 100000 in
set_option maxHeartbeats 3000000 in
theorem take_any (last : List UInt8) (ls : Array Value) (seq : Int) (A : Option Addr) (b : List UInt8) (c : Nat) (w : World) (hls : HashA last ls) (hll : last.length = 32) (hr : Rd w A (b.map u8v)) (hbc : b.length ≤ c) (hcm : c ≤ maxLen) (hS : ShaOk w) :
    Calls Tryd.prog 20 #[.agg ls, .int .i64 seq, .slice A b.length c] w fun e w' => ∃ hv sv, e = .returned (.tuple #[.agg hv, .agg sv, .bool (takeD last seq b).1]) ∧ HdA (takeD last seq b).2.1 hv ∧ HashA (takeD last seq b).2.2 sv ∧ Keep w w' := by
  obtain ⟨sz, hSZ, szz⟩ := zhash_A
  obtain ⟨hz, hHZ, hzz⟩ := zhead_A
  have szs := hSZ.z; have szn := hSZ.n; have szi := hSZ.i; have szo := hSZ.o
  have hzs := hHZ.z; have hzn := hHZ.n; have hzi := hHZ.i; have hzo := hHZ.o
  have SZ := Lib.hid hSZ; have HZ := Lib.hid hHZ
  have hcz := hls.z; have hcn := hls.n; have hci := hls.i
  have Hls := Lib.hid hls; have Hll := Lib.hid hll; have HS := Lib.hid hS; have Hr := Lib.hid hr
  unfold maxLen at hcm
  clear hSZ hHZ hls hll hS hr
  by_cases hb : b.length = 128
  · have hb80 : ((b.drop 4).take 80).length = 80 := by rw [List.length_take, List.length_drop]; omega
    have hok := hgetL_ok hb80
    have G1 : Hid (∀ w' g off, Keep w w' → Rd w' (some ⟨g, off, none⟩) (((b.drop 4).take 80).map u8v) → ∀ d, 80 ≤ d → d ≤ 9223372036854775807 → Calls Tryd.prog 36 #[.slice (some ⟨g, off, none⟩) 80 d] w' fun e w'' => ∃ cs, e = .returned (.tuple #[.agg cs, .int .i64 0]) ∧ HdA (hgetL ((b.drop 4).take 80)) cs ∧ Keep w' w'') := fun w' g off hk hr' d h1 h2 => hget_any _ _ d w' hb80 h1 (by unfold maxLen; omega) hr'
    have R1 : Hid (∀ w' hs, Keep w w' → HdA (hgetL ((b.drop 4).take 80)) hs → Calls Tryd.prog 30 #[.agg ls, .int .i64 seq, .agg hs] w' fun e w'' => ∃ A c ds, e = .returned (.tuple #[.slice A 128 c, .agg ds]) ∧ HashA (recSum last seq (hgetL ((b.drop 4).take 80))) ds ∧ w''.ownsRow w'.heap.size 5 1 (.slice A 128 c) 128 ((recB last seq (hgetL ((b.drop 4).take 80))).map u8v) ∧ Keep w' w'') := fun w' hs hk' hhs => record_any last ls seq _ hs w' Hls.out Hll.out hok hhs (HS.out.keep hk')
    have HD0 : Hid (∀ H RB RS, hgetL ((b.drop 4).take 80) = H → recB last seq H = RB → recSum last seq H = RS → RB.length = 128 ∧ (RB = b → takeD last seq b = (true, H, RS)) ∧ (RB ≠ b → takeD last seq b = (false, zHd, z32))) := fun H RB RS e1 e2 e3 => by
      subst e1 e2 e3
      refine ⟨recB_len _ _ hok, fun e => ?_, fun e => if_neg (fun h => e h.2)⟩
      rw [takeD, if_pos ⟨hb, e⟩, recSum_of hok e]
    obtain ⟨g, off, rfl, hg, _⟩ := Hr.out.at (k := 0) (by simp; omega)
    have HRs : Hid (∀ w', Keep w w' → Rd w' (some ⟨g, off + 4, none⟩) (((b.drop 4).take 80).map u8v)) := fun w' h => by
      have h1 := (Hr.out.keep h).sub 4 80 (by rw [List.length_map]; omega)
      rwa [← List.map_drop, ← List.map_take] at h1
    obtain ⟨D, hDD⟩ : ∃ D, takeD last seq b = D := ⟨_, rfl⟩
    rw [hDD] at HD0 ⊢
    have hD3 := HD0.out _ _ _ rfl rfl rfl
    generalize recB last seq (hgetL ((b.drop 4).take 80)) = RB at R1 hD3
    generalize recSum last seq (hgetL ((b.drop 4).take 80)) = RS at R1 hD3
    generalize hgetL ((b.drop 4).take 80) = H at G1 R1 hD3
    generalize (b.drop 4).take 80 = b4 at HRs G1
    have HD3 := Lib.hid hD3
    clear hD3 HD0 hDD hok hb80
    have Hb := Lib.hid hb
    have hb' : (128 : Int) = (b.length : Int) := by omega
    rw [hb] at hbc ⊢
    clear hb hb'
    go_enter Tryd.func20, Tryd.ntmps20
    go_wp2_with fail
    obtain ⟨w1, hw1⟩ : ∃ w1, w1 = ((w.alloc (.cells ls 33)).alloc (.cells hz 44)).alloc (.cells sz 33) := ⟨_, rfl⟩
    have HL1 : Hid (Blk w1 w.heap.size 33 ls.toList) := by rw [hw1]; exact ((Blk.new w _ ls.toList).alloc _).alloc _
    have H61 : Hid (Blk w1 (w.heap.size + 1) 44 hz.toList) := by
      rw [hw1]
      have h1 := Blk.new (w.alloc (.cells ls 33)) 44 hz.toList
      rw [World.size_alloc] at h1
      exact h1.alloc _
    have H71 : Hid (Blk w1 (w.heap.size + 1 + 1) 33 sz.toList) := by
      rw [hw1]
      have h1 := Blk.new ((w.alloc (.cells ls 33)).alloc (.cells hz 44)) 33 sz.toList
      rw [World.size_alloc, World.size_alloc] at h1
      exact h1
    have HK1 : Hid (Keep w w1) := by rw [hw1]; exact keep_trans (keep_trans (keep_new _ _) (keep_new _ _)) (keep_new _ _)
    have hz1 : w.heap.size + 3 = w1.heap.size := by rw [hw1]; simp
    rw [← hw1]
    clear hw1
    refine (G1.out w1 g (off + 4) HK1.out (HRs.out _ HK1.out) (c - 4) (by omega) (by omega)).mono ?_
    rintro e w2 ⟨hs, rfl, hhs, k2⟩
    have hes := hhs.z; have hen := hhs.n; have hei := hhs.i
    have Hhs := Lib.hid hhs
    have hst2 : (storeCells ⟨w2.heap.size, 0, none⟩ hs.toList 0).run Tryd.prog (w2.alloc (.cells hz 44)) = .ok () (w2.alloc (.cells hs 44)) := run_storeCells_new (P := Tryd.prog) w2 44 hz hs hei (hzs.trans hes.symm) (by have := all_oneCell_toArray Hhs.out.o; rwa [Array.toArray_toList] at this)
    clear hhs
    go_upto_region 6 with fail
    obtain ⟨w3, hw3⟩ : ∃ w3, w3 = w2.alloc (.cells hs 44) := ⟨_, rfl⟩
    have HH3 : Hid (Blk w3 w2.heap.size 44 hs.toList) := by rw [hw3]; exact Blk.new w2 _ hs.toList
    have k13 : Keep w1 w3 := by rw [hw3]; exact keep_trans k2 (keep_new _ _)
    have hz2 : w1.heap.size ≤ w2.heap.size := k2.size
    have HL3 := Lib.hid (HL1.out.keep k13); have H63 := Lib.hid (H61.out.keep k13); have H73 := Lib.hid (H71.out.keep k13)
    have HK3 := Lib.hid (keep_trans HK1.out k13)
    rw [← hw3]
    clear hw3 hst2 k13 k2
    have hX2 : w2.heap.size < w3.heap.size := HH3.out.lt
    generalize w2.heap.size = X at HH3 hz2 hX2 ⊢
    go_wp2_with (first
      | ((with_reducible refine load_arr w.heap.size ls (Eq.trans ?_ rfl) HL3.out (.array 32 5) hash_under (arr_row _ _) hci ?_); rfl)
      | ((with_reducible refine load_arr X hs (Eq.trans ?_ rfl) HH3.out _ Tryd.underlying44 rfl hei ?_); rfl))
    refine (R1.out w3 hs HK3.out Hhs.out).mono ?_
    rintro e w4 ⟨A4, c4, ds, rfl, hds, own4, k4⟩
    have hfs := hds.z; have hfn := hds.n; have hfi := hds.i
    have Hds := Lib.hid hds
    have hst4 : (storeCells ⟨w4.heap.size, 0, none⟩ ds.toList 0).run Tryd.prog (w4.alloc (.cells sz 33)) = .ok () (w4.alloc (.cells ds 33)) := run_storeCells_new (P := Tryd.prog) w4 33 sz ds hfi (szs.trans hfs.symm) (by have := all_oneCell_toArray Hds.out.o; rwa [Array.toArray_toList] at this)
    obtain ⟨A4', c4', hv4, hc4, hm4, hr4⟩ := own_form own4
    obtain ⟨rfl, rfl⟩ : A4 = A4' ∧ c4 = c4' := by injection hv4 with h1 h2 h3; exact ⟨h1, h3⟩
    have Hr4 := Lib.hid hr4
    have hrb : Hid (RB.length = 128) := HD3.out.1
    clear hds own4 hv4 hr4 hm4
    go_upto_region 7 with fail
    obtain ⟨w5, hw5⟩ : ∃ w5, w5 = w4.alloc (.cells ds 33) := ⟨_, rfl⟩
    have HS5 : Hid (Blk w5 w4.heap.size 33 ds.toList) := by rw [hw5]; exact Blk.new w4 _ ds.toList
    have k35 : Keep w3 w5 := by rw [hw5]; exact keep_trans k4 (keep_new _ _)
    have hz4 : w3.heap.size ≤ w4.heap.size := k4.size
    have HH5 := Lib.hid (HH3.out.keep k35); have H65 := Lib.hid (H63.out.keep k35); have H75 := Lib.hid (H73.out.keep k35)
    have HK5 := Lib.hid (keep_trans HK3.out k35)
    have Hr5 : Hid (Rd w5 A4 (RB.map u8v)) := by rw [hw5]; exact Hr4.out.alloc _
    rw [← hw5]
    clear hw5 hst4 k35 k4
    have hY2 : w4.heap.size < w5.heap.size := HS5.out.lt
    generalize w4.heap.size = Y at HS5 hz4 hY2 ⊢
    go_wp2_with fail
    refine (equal_any A4 RB 128 c4 (some ⟨g, off, none⟩) b 128 c w5 Hr5.out (Hr.out.keep HK5.out) hrb.out.symm Hb.out.symm).mono ?_
    rintro e w6 ⟨rfl, rfl⟩
    by_cases heq : RB = b
    · have HD : Hid (D = (true, H, RS)) := HD3.out.2.1 heq
      have hdt : decide (RB = b) = true := decide_eq_true heq
      clear heq
      go_upto_region 9 with fail
      letI iM : G.Mk := ⟨some (w.heap.size + 1)⟩
      refine G.wp_region_tree (.take [0,1] (.force [2] .done)) [3,4] (by kernel_rfl) (by kernel_rfl) (fun w7 k7 => ?_)
      have hneX : G.Mk.m ≠ some X := fun e => by have e2 : w.heap.size + 1 = X := Option.some.inj e; omega
      have hneY : G.Mk.m ≠ some Y := fun e => by have e2 : w.heap.size + 1 = Y := Option.some.inj e; omega
      have HH7 := Lib.hid (HH5.out.keep k7); have HS7 := Lib.hid (HS5.out.keep k7); have H67 := Lib.hid (H65.out.keep k7); have H77 := Lib.hid (H75.out.keep k7)
      have HK7 := Lib.hid (keep_trans HK5.out k7)
      obtain ⟨wa, hsta, hba, hga⟩ := run_store_blk (P := Tryd.prog) hs.toList H67.out (by simp [hzs, hes]) Hhs.out.o
      obtain ⟨wb, hstb, hbb, hgb⟩ := run_store_blk (P := Tryd.prog) ds.toList (H77.out.grown hga (fun e => by have e2 : w.heap.size + 1 = w.heap.size + 1 + 1 := Option.some.inj e; omega)) (by simp [szs, hfs]) Hds.out.o
      have hba2 := Lib.hid (hba.grown hgb (fun e => by have e2 : w.heap.size + 1 + 1 = w.heap.size + 1 := Option.some.inj e; omega)); have hbb2 := Lib.hid hbb; have hga2 := Lib.hid hga; have hgb2 := Lib.hid hgb
      clear hba hbb hga hgb
      refine G.mt_take w7 (G.Gr.refl _) ?_
      simp only [pick_cons, pick_nil, nth_zero, nth_succ]
      (with_reducible refine G.wpQuiet_load_arrG X hs (Eq.trans ?_ rfl) HH7.out hneX _ Tryd.underlying44 rfl hei ?_)
      rfl
      simp only [Act.put, Array.set!_eq_setIfInBounds, List.setIfInBounds_toArray, List.set_cons_succ, List.set_cons_zero]
      (with_reducible refine G.wpQuiet_load_arrG Y ds (Eq.trans ?_ rfl) HS7.out hneY (.array 32 5) hash_under (arr_row _ _) hfi ?_)
      rfl
      simp only [Act.put, Array.set!_eq_setIfInBounds, List.setIfInBounds_toArray, List.set_cons_succ, List.set_cons_zero]
      refine wpQuiet_nil (G.mt_force ?_)
      simp only [pick_cons, pick_nil, nth_zero, nth_succ]
      refine G.fc_step rfl (fun K hK => ?_)
      go_simp
      refine hK _ _ (show G.Gr w7 wa from hga2.out) ?_
      clear hK K
      refine G.fc_nil (G.mt_end ?_)
      clear hneX hneY
      clear iM
      go_wp2
      rw [HD.out]
      exact bodyPost_ret (v := .tuple #[.agg hs, .agg ds, .bool true]) (results_cell_cell_tmp Tryd.results20 _ _ (w.heap.size + 1) (w.heap.size + 1 + 1) _ _ _ _ _ _ _ (.array 32 5) rfl rfl hba2.out hbb2.out Tryd.underlying44 hash_under rfl rfl (by rw [List.size_toArray, Array.length_toList]; exact hei) (by rw [List.size_toArray, Array.length_toList]; exact hfi)) rfl ⟨hs, ds, rfl, Hhs.out, Hds.out, (HK7.out.grown hga2.out HK7.out.size (fun q hq => by injection hq with hq; omega)).grown hgb2.out (Nat.le_trans HK7.out.size hga2.out.size) (fun q hq => by injection hq with hq; omega)⟩
    · have HD : Hid (D = (false, zHd, z32)) := HD3.out.2.2 heq
      have hdt : decide (RB = b) = false := decide_eq_false heq
      clear heq
      go_upto_region 8 with fail
      obtain ⟨wa, hsta, hba, hga⟩ := run_store_blk (P := Tryd.prog) hz.toList H65.out (by simp) hzo
      obtain ⟨wb, hstb, hbb, hgb⟩ := run_store_blk (P := Tryd.prog) sz.toList (H75.out.grown hga (fun e => by have e2 : w.heap.size + 1 = w.heap.size + 1 + 1 := Option.some.inj e; omega)) (by simp) szo
      have hba2 := Lib.hid (hba.grown hgb (fun e => by have e2 : w.heap.size + 1 + 1 = w.heap.size + 1 := Option.some.inj e; omega)); have hbb2 := Lib.hid hbb; have hga2 := Lib.hid hga; have hgb2 := Lib.hid hgb
      clear hba hbb hga hgb
      go_wp2
      rw [HD.out]
      exact bodyPost_ret (v := .tuple #[.agg hz, .agg sz, .bool false]) (results_cell_cell_tmp Tryd.results20 _ _ (w.heap.size + 1) (w.heap.size + 1 + 1) _ _ _ _ _ _ _ (.array 32 5) rfl rfl hba2.out hbb2.out Tryd.underlying44 hash_under rfl rfl (by rw [List.size_toArray, Array.length_toList]; exact hzi) (by rw [List.size_toArray, Array.length_toList]; exact szi)) rfl ⟨hz, sz, rfl, HZ.out, SZ.out, (HK5.out.grown hga2.out HK5.out.size (fun q hq => by injection hq with hq; omega)).grown hgb2.out (Nat.le_trans HK5.out.size hga2.out.size) (fun q hq => by injection hq with hq; omega)⟩
  · have HD : Hid (takeD last seq b = (false, zHd, z32)) := if_neg (fun h => hb h.1)
    have t1 : ((b.length : Int) != 128) = true := by simp; omega
    obtain ⟨D, hDD⟩ : ∃ D, takeD last seq b = D := ⟨_, rfl⟩
    rw [hDD] at HD ⊢
    clear hDD hb
    go_enter Tryd.func20, Tryd.ntmps20
    go_upto_region 2 with fail
    have H3 : Hid (Blk (((w.alloc (.cells ls 33)).alloc (.cells hz 44)).alloc (.cells sz 33)) (w.heap.size + 1) 44 hz.toList) := by
      have h1 := Blk.new (w.alloc (.cells ls 33)) 44 hz.toList
      rw [World.size_alloc] at h1
      exact h1.alloc _
    have H4 : Hid (Blk (((w.alloc (.cells ls 33)).alloc (.cells hz 44)).alloc (.cells sz 33)) (w.heap.size + 1 + 1) 33 sz.toList) := by
      have h1 := Blk.new ((w.alloc (.cells ls 33)).alloc (.cells hz 44)) 33 sz.toList
      rw [World.size_alloc, World.size_alloc] at h1
      exact h1
    have HK : Hid (Keep w (((w.alloc (.cells ls 33)).alloc (.cells hz 44)).alloc (.cells sz 33))) := keep_trans (keep_trans (keep_new _ _) (keep_new _ _)) (keep_new _ _)
    generalize ((w.alloc (.cells ls 33)).alloc (.cells hz 44)).alloc (.cells sz 33) = w1 at H3 H4 HK ⊢
    obtain ⟨wa, hsta, hba, hga⟩ := run_store_blk (P := Tryd.prog) hz.toList H3.out (by simp) hzo
    obtain ⟨wb, hstb, hbb, hgb⟩ := run_store_blk (P := Tryd.prog) sz.toList (H4.out.grown hga (fun e => by have e2 : w.heap.size + 1 = w.heap.size + 1 + 1 := Option.some.inj e; omega)) (by simp) szo
    have hba2 := Lib.hid (hba.grown hgb (fun e => by have e2 : w.heap.size + 1 + 1 = w.heap.size + 1 := Option.some.inj e; omega)); have hbb2 := Lib.hid hbb; have hga2 := Lib.hid hga; have hgb2 := Lib.hid hgb
    clear hba hbb hga hgb
    go_wp2
    rw [HD.out]
    exact bodyPost_ret (v := .tuple #[.agg hz, .agg sz, .bool false]) (results_cell_cell_tmp Tryd.results20 _ _ (w.heap.size + 1) (w.heap.size + 1 + 1) _ _ _ _ _ _ _ (.array 32 5) rfl rfl hba2.out hbb2.out Tryd.underlying44 hash_under rfl rfl (by rw [List.size_toArray, Array.length_toList]; exact hzi) (by rw [List.size_toArray, Array.length_toList]; exact szi)) rfl ⟨hz, sz, rfl, HZ.out, SZ.out, (HK.out.grown hga2.out HK.out.size (fun q hq => by injection hq with hq; omega)).grown hgb2.out (Nat.le_trans HK.out.size hga2.out.size) (fun q hq => by injection hq with hq; omega)⟩
end Go.Proofs.YtielojlhdnimgaaDoor
