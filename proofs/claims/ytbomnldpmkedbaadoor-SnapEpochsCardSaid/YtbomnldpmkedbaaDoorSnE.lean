/- A store takes one more; a store synced. -/
import Derived.Test.YtbomnldpmkedbaaDoorSnD
set_option linter.unusedSimpArgs false
set_option linter.unusedVariables false
namespace Go.Proofs.YtbomnldpmkedbaaDoor
open Go.RowKit
attribute [local go_sem ↓] Go.wp_at_zero Go.wp_at_succ

/-- What one more leaves of a log. -/
structure AppU (b : List UInt8) (ps qs : List WP) (base room : Int) (hs : List Hd) (h : Hd) (er : Int) (n : Int) (last : List UInt8) : Prop where
  erE : er = (appendD b base room hs.length (lastL 0 z32 hs) h ps).1
  ok : er = 0 → n = (hs ++ [h]).length ∧ last = lastL 0 z32 (hs ++ [h]) ∧ LogInv b qs base room (hs ++ [h]) ∧ AppR b base hs h ps qs
  no : er ≠ 0 → (er = 12 ∨ er = 14) ∧ n = hs.length ∧ last = lastL 0 z32 hs ∧ qs = ps
  len : last.length = 32

section
variable (A : Option Addr) (b : List UInt8) (c : Nat) (PA : Option Addr) (ws : List WriteR) (pc : Nat) (base room : Int) (hs : List Hd)
theorem app_u (cs : Array Value) (h : Hd) (hd : Array Value) (w : World) (F : World → Prop) (hF : ∀ W, Keep w W → F W) (h0 : ∀ W, F W → DOk W A b c PA ws pc) (hS : ShaOk w) (hb : -9223372036854775808 ≤ base ∧ base ≤ 9223372036854775807)
    (hi : LogInv b (ws.map WriteR.pl) base room hs) (hls : LogA (lgCells (.slice A b.length c) (.slice PA ws.length pc) base room (hs.length : Nat) (lastL 0 z32 hs)) cs) (hk : h.ok) (hhd : HdA h hd) :
    Calls Tryd.prog 41 #[.agg cs, .agg hd] w fun e w' => ∃ A' c' PA' pc' vs cs' er n last, e = .returned (.tuple #[.agg cs', .int .i64 er]) ∧ AppU b (ws.map WriteR.pl) (vs.map WriteR.pl) base room hs h er n last ∧
      LogA (lgCells (.slice A' b.length c') (.slice PA' vs.length pc') base room n last) cs' ∧ (∀ W, MidF F w w' W → DOk W A' b c' PA' vs pc') ∧ Keep w w' := by
  refine (app_w A b c PA ws pc base room hs cs h hd w F hF h0 hS hb hi hls hk hhd).mono ?_
  rintro e w' ⟨A', c', PA', pc', vs, cs', er, h1, h2, h3, h4, h5, h6⟩
  by_cases hz : er = 0
  · obtain ⟨g1, g2, g3⟩ := h5 hz
    exact ⟨A', c', PA', pc', vs, cs', er, _, _, h1, ⟨h2, fun _ => ⟨rfl, rfl, g2, g3⟩, fun n => absurd hz n, lastL_len _ _ _ rfl⟩, g1, h3, h4⟩
  · obtain ⟨g1, g2, g3⟩ := h6 hz
    exact ⟨A', c', PA', pc', vs, cs', er, _, _, h1, ⟨h2, fun n => absurd n hz, fun _ => ⟨g1, rfl, rfl, g3⟩, lastL_len _ _ _ rfl⟩, g2, h3, h4⟩

set_option maxRecDepth 100000 in
set_option maxHeartbeats 4000000 in
theorem sapp_w (ep : Int) (ss : Array Value) (h : Hd) (hd : Array Value) (w : World) (F : World → Prop) (hF : ∀ W, Keep w W → F W) (h0 : ∀ W, F W → DOk W A b c PA ws pc) (hS : ShaOk w) (hb : -9223372036854775808 ≤ base ∧ base ≤ 9223372036854775807)
    (hi : LogInv b (ws.map WriteR.pl) base room hs) (hss : StA (stCells (.slice A b.length c) (.slice PA ws.length pc) base room (hs.length : Nat) (lastL 0 z32 hs) ep) ss) (hk : h.ok) (hhd : HdA h hd) :
    Calls Tryd.prog 22 #[.agg ss, .agg hd] w fun e w' => ∃ A' c' PA' pc' vs ss' er n last, e = .returned (.tuple #[.agg ss', .int .i64 er]) ∧ AppU b (ws.map WriteR.pl) (vs.map WriteR.pl) base room hs h er n last ∧
      StA (stCells (.slice A' b.length c') (.slice PA' vs.length pc') base room n last ep) ss' ∧ (∀ W, MidF F w w' W → DOk W A' b c' PA' vs pc') ∧ Keep w w' := by
  obtain ⟨ls, hls⟩ : ∃ ls : Array Value, ls.toList = lgCells (.slice A b.length c) (.slice PA ws.length pc) base room (hs.length : Nat) (lastL 0 z32 hs) := ⟨_, rfl⟩
  have hlA := LogA.of (lastL_len hs 0 z32 rfl) hls
  have C1 : Hid (∀ y, Keep w y → Calls Tryd.prog 41 #[.agg ls, .agg hd] y fun e w' => ∃ A' c' PA' pc' vs cs' er n last, e = .returned (.tuple #[.agg cs', .int .i64 er]) ∧ AppU b (ws.map WriteR.pl) (vs.map WriteR.pl) base room hs h er n last ∧
      LogA (lgCells (.slice A' b.length c') (.slice PA' vs.length pc') base room n last) cs' ∧ (∀ W, MidF F y w' W → DOk W A' b c' PA' vs pc') ∧ Keep y w') := fun y hy => app_u A b c PA ws pc base room hs ls h hd y F (fun W hW => hF W (keep_trans hy hW)) h0 (hS.keep hy) hb hi hlA hk hhd
  obtain ⟨zs, hz1, hz2, hz3⟩ := zst_letter
  obtain ⟨zl, hl1, hl2, hl3⟩ := zlog_letter
  have hsz := hss.z; have hsn := hss.n; have hsi := hss.i
  have hdz := hhd.z; have hdn := hhd.n; have hdi := hhd.i
  have hlz := hlA.z; have hln := hlA.n; have hli := hlA.i
  have Hss := Lib.hid hss; have Hhd := Lib.hid hhd
  have hbc : b.length ≤ c ∧ c ≤ 9223372036854775807 := by have h1 := h0 w (hF w (Below.refl _ _)); have := h1.bc; have := h1.cm; unfold maxLen at *; omega
  have Hlg : Hid (((stCells (.slice A b.length c) (.slice PA ws.length pc) base room (hs.length : Nat) (lastL 0 z32 hs) ep).drop 0).take ls.toList.length = ls.toList) := by
    rw [Array.length_toList, hlz, hls]; exact st_lg (lastL_len hs 0 z32 rfl)
  have Hll := Lib.hid (lastL_len hs 0 z32 rfl : (lastL 0 z32 hs).length = 32)
  clear hss hhd hlA hls hi hk hS
  generalize hbl : b.length = bl at *
  have Hbl := Lib.hid hbl; clear hbl
  generalize ws.length = wl at *
  go_enter Tryd.func22, Tryd.ntmps22
  go_upto_region 1 with fail
  obtain ⟨w1, hw1⟩ : ∃ w1, w1 = ((w.alloc (.cells ss 38)).alloc (.cells hd 65)).alloc (.cells zs 38) := ⟨_, rfl⟩
  have HS1 : Hid (Blk w1 w.heap.size 38 ss.toList) := by rw [hw1]; exact ((Blk.new w _ ss.toList).alloc _).alloc _
  have HH1 : Hid (Blk w1 (w.heap.size + 1) 65 hd.toList) := by
    rw [hw1]
    have h1 := Blk.new (w.alloc (.cells ss 38)) 65 hd.toList
    rw [World.size_alloc] at h1
    exact h1.alloc _
  have HR1 : Hid (Blk w1 (w.heap.size + 1 + 1) 38 zs.toList) := by
    rw [hw1]
    have h1 := Blk.new ((w.alloc (.cells ss 38)).alloc (.cells hd 65)) 38 zs.toList
    rw [World.size_alloc, World.size_alloc] at h1
    exact h1
  have HK1 : Hid (Keep w w1) := by rw [hw1]; exact keep_trans (keep_trans (keep_new _ _) (keep_new _ _)) (keep_new _ _)
  have hz11 : w.heap.size + 3 ≤ w1.heap.size := by rw [hw1]; simp
  rw [← hw1]
  clear hw1
  have hrg : Hid (w1.rangeAt w.heap.size 0 ls.toList) := range_of HS1.out 0 ls.toList (by rw [Hss.out.l]; exact Hlg.out)
  go_wp2_with (first
    | ((with_reducible refine load_part w.heap.size 0 ls (Eq.trans ?_ rfl) hrg.out _ Tryd.underlying36 rfl hli ?_); rfl)
    | ((with_reducible refine load_arr (w.heap.size + 1) hd (Eq.trans ?_ rfl) HH1.out _ Tryd.underlying65 rfl hdi ?_); rfl))
  refine (C1.out w1 HK1.out).mono ?_
  clear C1
  rintro e w2 ⟨A2, c2, PA2, pc2, vs, ds, er, n2, last2, rfl, hap, hds, hd2, k2⟩
  have hz2' := hds.z; have hn2 := hds.n; have hi2 := hds.i
  have Hap := Lib.hid hap; have Hds := Lib.hid hds; have Hd2 := Lib.hid hd2; have K2 := Lib.hid k2
  have HK2 := Lib.hid (keep_trans HK1.out k2)
  have HS2 := Lib.hid (HS1.out.keep k2); have HR2 := Lib.hid (HR1.out.keep k2)
  have hz12 : w1.heap.size ≤ w2.heap.size := k2.size
  have hst : (storeCells ⟨w2.heap.size, 0, none⟩ ds.toList 0).run Tryd.prog (w2.alloc (.cells zl 36)) = .ok () (w2.alloc (.cells ds 36)) := run_storeCells_new (P := Tryd.prog) w2 36 zl ds hi2 (hl1.trans hz2'.symm) (by have := all_oneCell_toArray Hds.out.o; rwa [Array.toArray_toList] at this)
  clear hap hds hd2 k2 HS1 HH1 HR1 hrg
  go_upto_region 2 with fail
  clear hst
  obtain ⟨w3, hw3⟩ : ∃ w3, w3 = w2.alloc (.cells ds 36) := ⟨_, rfl⟩
  have HX3 : Hid (Blk w3 w2.heap.size 36 ds.toList) := by rw [hw3]; exact Blk.new w2 _ ds.toList
  have HS3 : Hid (Blk w3 w.heap.size 38 ss.toList) := by rw [hw3]; exact HS2.out.alloc _
  have HR3 : Hid (Blk w3 (w.heap.size + 1 + 1) 38 zs.toList) := by rw [hw3]; exact HR2.out.alloc _
  have K3 : Hid (Keep w2 w3) := by rw [hw3]; exact keep_new _ _
  rw [← hw3]
  clear hw3
  have hz23 : w2.heap.size < w3.heap.size := HX3.out.lt
  obtain ⟨ss4, hss4, _⟩ := st_letter (lv := ds) Hap.out.len Hds.out.l ep
  have hz4 := hss4.z; have hn4 := hss4.n; have hi4 := hss4.i
  have Hss4 := Lib.hid hss4
  obtain ⟨w4, hst4, hb4, hg4⟩ := run_store_part (P := Tryd.prog) 0 ds.toList HS3.out (by rw [Array.length_toList, Array.length_toList]; omega) Hds.out.o
  have hb4' : Blk w4 w.heap.size 38 ss4.toList := by
    have e : splice ss.toList 0 ds.toList = ss4.toList := by
      rw [Hss.out.l, Hss4.out.l, Hds.out.l]
      unfold splice stCells
      rw [List.take_zero, List.nil_append, Nat.zero_add, lg_len Hap.out.len, List.drop_left' (lg_len Hll.out)]
    rw [← e]; exact hb4
  have Hb4 := Lib.hid hb4'; have Hg4 := Lib.hid hg4
  have HR4 := Lib.hid (HR3.out.grown hg4 (fun e => by have e2 : w.heap.size = w.heap.size + 1 + 1 := Option.some.inj e; omega))
  have hs4 := hg4.size
  clear hss4 hb4 hb4' hg4
  generalize hX : w2.heap.size = X at *
  have hXa : w2.heap.size ≤ X := Nat.le_of_eq hX
  clear hX
  go_upto_region 3 with ((with_reducible refine load_arr X ds (Eq.trans ?_ rfl) HX3.out _ Tryd.underlying36 rfl hi2 ?_); rfl)
  clear hst4
  obtain ⟨w5, hst5, hb5, hg5⟩ := run_store_blk (P := Tryd.prog) ss4.toList HR4.out (by simp [hz1, hz4]) Hss4.out.o
  have Hb5 := Lib.hid hb5; have Hg5 := Lib.hid hg5
  clear hb5 hg5
  go_wp2_with ((with_reducible refine load_arr w.heap.size ss4 (Eq.trans ?_ rfl) Hb4.out _ Tryd.underlying38 rfl hi4 ?_); rfl)
  have hb8 := Hb5.out
  have hK3 := keep_trans HK2.out K3.out
  have hK4 := hK3.grown Hg4.out (by omega) (fun q hq => by injection hq with hq; omega)
  have hs5 := Hg5.out.size
  refine bodyPost_ret (v := .tuple #[.agg ss4, .int .i64 er]) (results_cell_tmp_row Tryd.results22 _ _ (w.heap.size + 1 + 1) _ _ _ _ rfl hb8 Tryd.underlying38 rfl (by rw [List.size_toArray, Array.length_toList]; exact hi4)) rfl ⟨A2, c2, PA2, pc2, vs, ss4, er, n2, last2, rfl, Hap.out, Hss4.out, fun W hW => Hd2.out W ⟨hW.1, fun k h1 h2 => ?_⟩, hK4.grown Hg5.out (by omega) (fun q hq => by injection hq with hq; omega)⟩
  have e1 : k ≠ w.heap.size := by omega
  have e2 : k ≠ w.heap.size + 1 + 1 := by omega
  exact (hW.2 k (by omega) (by omega)).trans ((Hg5.out.block k (by omega) (fun e => e2 (Option.some.inj e))).trans ((Hg4.out.block k (by omega) (fun e => e1 (Option.some.inj e))).trans (K3.out.block k (by omega))))

set_option maxRecDepth 100000 in
set_option maxHeartbeats 4000000 in
theorem ssync_w (ep : Int) (ss : Array Value) (w : World) (h : DOk w A b c PA ws pc) (hS : ShaOk w) (hb : -9223372036854775808 ≤ base ∧ base ≤ 9223372036854775807)
    (hi : LogInv b (ws.map WriteR.pl) base room hs) (hss : StA (stCells (.slice A b.length c) (.slice PA ws.length pc) base room (hs.length : Nat) (lastL 0 z32 hs) ep) ss) :
    Calls Tryd.prog 25 #[.agg ss] w fun e w' => ∃ B A' c' ds, B = bytesQ b (ws.map WriteR.pl) ∧ e = .returned (.agg ds) ∧ StA (stCells (.slice A' B.length c') (.slice none 0 0) base room (hs.length : Nat) (lastL 0 z32 hs) ep) ds ∧ LogInv B [] base room hs ∧
      (∀ W, Fr w.heap.size (fun _ => False) w' W → DOk W A' B c' none [] 0) ∧ Keep w w' := by
  obtain ⟨ls, hls⟩ : ∃ ls : Array Value, ls.toList = lgCells (.slice A b.length c) (.slice PA ws.length pc) base room (hs.length : Nat) (lastL 0 z32 hs) := ⟨_, rfl⟩
  have hlA := LogA.of (lastL_len hs 0 z32 rfl) hls
  have C1 : Hid (∀ y, Keep w y → Calls Tryd.prog 46 #[.agg ls] y fun e w' => ∃ B A' c' ds, B = bytesQ b (ws.map WriteR.pl) ∧ e = .returned (.agg ds) ∧ LogA (lgCells (.slice A' B.length c') (.slice none 0 0) base room (hs.length : Nat) (lastL 0 z32 hs)) ds ∧ LogInv B [] base room hs ∧
      (∀ W, Fr y.heap.size (fun _ => False) w' W → DOk W A' B c' none [] 0) ∧ Keep y w') := fun y hy => sync_w A b c PA ws pc base room hs ls y (h.keep hy) (hS.keep hy) hb hi hlA
  obtain ⟨zs, hz1, hz2, hz3⟩ := zst_letter
  have hsz := hss.z; have hsn := hss.n; have hsi := hss.i
  have hlz := hlA.z; have hln := hlA.n; have hli := hlA.i
  have Hss := Lib.hid hss
  have hbc : b.length ≤ c ∧ c ≤ 9223372036854775807 := by have := h.bc; have := h.cm; unfold maxLen at *; omega
  have Hlg : Hid (((stCells (.slice A b.length c) (.slice PA ws.length pc) base room (hs.length : Nat) (lastL 0 z32 hs) ep).drop 0).take ls.toList.length = ls.toList) := by
    rw [Array.length_toList, hlz, hls]; exact st_lg (lastL_len hs 0 z32 rfl)
  have Hll := Lib.hid (lastL_len hs 0 z32 rfl : (lastL 0 z32 hs).length = 32)
  clear hss hlA hls hi hS h
  generalize bytesQ b (ws.map WriteR.pl) = BQ at *
  generalize hbl : b.length = bl at *
  clear hbl
  generalize ws.length = wl at *
  go_enter Tryd.func25, Tryd.ntmps25
  go_upto_region 1 with fail
  obtain ⟨w1, hw1⟩ : ∃ w1, w1 = (w.alloc (.cells ss 38)).alloc (.cells zs 38) := ⟨_, rfl⟩
  have HS1 : Hid (Blk w1 w.heap.size 38 ss.toList) := by rw [hw1]; exact (Blk.new w _ ss.toList).alloc _
  have HR1 : Hid (Blk w1 (w.heap.size + 1) 38 zs.toList) := by
    rw [hw1]
    have h1 := Blk.new (w.alloc (.cells ss 38)) 38 zs.toList
    rw [World.size_alloc] at h1
    exact h1
  have HK1 : Hid (Keep w w1) := by rw [hw1]; exact keep_trans (keep_new _ _) (keep_new _ _)
  have hz11 : w.heap.size + 2 ≤ w1.heap.size := by rw [hw1]; simp
  rw [← hw1]
  clear hw1
  have hrg : Hid (w1.rangeAt w.heap.size 0 ls.toList) := range_of HS1.out 0 ls.toList (by rw [Hss.out.l]; exact Hlg.out)
  go_wp2_with ((with_reducible refine load_part w.heap.size 0 ls (Eq.trans ?_ rfl) hrg.out _ Tryd.underlying36 rfl hli ?_); rfl)
  refine (C1.out w1 HK1.out).mono ?_
  clear C1
  rintro e w2 ⟨B, A2, c2, ds, hB, rfl, hds, hinv, hd2, k2⟩
  have HB := Lib.hid hB
  have hz2' := hds.z; have hn2 := hds.n; have hi2 := hds.i
  have Hds := Lib.hid hds; have Hd2 := Lib.hid hd2; have K2 := Lib.hid k2; have Hinv := Lib.hid hinv
  have HK2 := Lib.hid (keep_trans HK1.out k2)
  have HS2 := Lib.hid (HS1.out.keep k2); have HR2 := Lib.hid (HR1.out.keep k2)
  have hz12 : w1.heap.size ≤ w2.heap.size := k2.size
  obtain ⟨ss4, hss4, _⟩ := st_letter (lv := ds) Hll.out Hds.out.l ep
  have hz4 := hss4.z; have hn4 := hss4.n; have hi4 := hss4.i
  have Hss4 := Lib.hid hss4
  obtain ⟨w4, hst4, hb4, hg4⟩ := run_store_part (P := Tryd.prog) 0 ds.toList HS2.out (by rw [Array.length_toList, Array.length_toList]; omega) Hds.out.o
  have hb4' : Blk w4 w.heap.size 38 ss4.toList := by
    have e : splice ss.toList 0 ds.toList = ss4.toList := by
      rw [Hss.out.l, Hss4.out.l, Hds.out.l]
      unfold splice stCells
      rw [List.take_zero, List.nil_append, Nat.zero_add, lg_len Hll.out, List.drop_left' (lg_len Hll.out)]
    rw [← e]; exact hb4
  have Hb4 := Lib.hid hb4'; have Hg4 := Lib.hid hg4
  have HR4 := Lib.hid (HR2.out.grown hg4 (fun e => by have e2 : w.heap.size = w.heap.size + 1 := Option.some.inj e; omega))
  have hs4 := hg4.size
  clear hss4 hb4 hb4' hg4 hds hd2 k2 hinv hB HS1 HR1 hrg
  go_upto_region 2 with fail
  clear hst4
  obtain ⟨w5, hst5, hb5, hg5⟩ := run_store_blk (P := Tryd.prog) ss4.toList HR4.out (by simp [hz1, hz4]) Hss4.out.o
  have Hb5 := Lib.hid hb5; have Hg5 := Lib.hid hg5
  clear hb5 hg5
  go_wp2_with ((with_reducible refine load_arr w.heap.size ss4 (Eq.trans ?_ rfl) Hb4.out _ Tryd.underlying38 rfl hi4 ?_); rfl)
  have hb8 := Hb5.out
  have hK4 := HK2.out.grown Hg4.out (by omega) (fun q hq => by injection hq with hq; omega)
  have hs5 := Hg5.out.size
  refine bodyPost_ret (v := .agg ss4) (results_cell_row Tryd.results25 _ _ (w.heap.size + 1) _ _ _ _ rfl hb8 Tryd.underlying38 rfl (by rw [List.size_toArray, Array.length_toList]; exact hi4)) rfl ⟨B, A2, c2, ss4, HB.out, rfl, Hss4.out, Hinv.out, fun W hW => Hd2.out W (fun k h1 h2 h3 => ?_), hK4.grown Hg5.out (by omega) (fun q hq => by injection hq with hq; omega)⟩
  have e1 : k ≠ w.heap.size := by omega
  have e2 : k ≠ w.heap.size + 1 := by omega
  exact (hW k (by omega) (by omega) h3).trans ((Hg5.out.block k (by omega) (fun e => e2 (Option.some.inj e))).trans (Hg4.out.block k (by omega) (fun e => e1 (Option.some.inj e))))

set_option maxHeartbeats 1000000 in
theorem other_w (n : Int) (last : List UInt8) (hl : last.length = 32) (ep : Int) (ss : Array Value) (w : World) (h : DOk w A b c PA ws pc) (hS : ShaOk w) (hss : StA (stCells (.slice A b.length c) (.slice PA ws.length pc) base room n last ep) ss) :
    Calls Tryd.prog 37 #[.agg ss] w fun e w' => e = .returned (.int .i64 (1 - (lookB (bytesQ b (ws.map WriteR.pl))).2.1)) ∧ Keep w w' := by
  have F1 : Hid (∀ w', Keep w w' → Calls Tryd.prog 21 #[DV A b.length c PA ws.length pc] w' fun e w'' => e = .returned (.tuple #[.int .i64 (lookB (bytesQ b (ws.map WriteR.pl))).1, .int .i64 (lookB (bytesQ b (ws.map WriteR.pl))).2.1]) ∧ Keep w' w'') := fun w' hk => by
    have h1 := find_any A b c PA ws pc w' (h.keep hk) (hS.keep hk)
    rw [bytesD_Q] at h1; exact h1
  have hT := look_told (bytesQ b (ws.map WriteR.pl))
  generalize lookB (bytesQ b (ws.map WriteR.pl)) = L at *
  obtain ⟨le, lr, sl⟩ := L
  have hr : 0 ≤ lr ∧ lr ≤ 1 := by rcases hT.r with e | e <;> (simp only at e; omega)
  obtain ⟨hr0, hr1⟩ := hr
  have hsz := hss.z; have hsn := hss.n; have hsi := hss.i
  have Hss := Lib.hid hss
  clear hss hT h hS
  generalize b.length = bl at *
  generalize ws.length = wl at *
  go_enter Tryd.func37, Tryd.ntmps37
  go_upto_region 1 with fail
  have HB : Hid (Blk (w.alloc (.cells ss 38)) w.heap.size 38 (stCells (.slice A bl c) (.slice PA wl pc) base room n last ep)) := by rw [← Hss.out.l]; exact Blk.new w _ ss.toList
  have HK1 : Hid (Keep w (w.alloc (.cells ss 38))) := keep_new _ _
  obtain ⟨c0, c1, c2, c3, c4, c5⟩ := st_d hl HB.out
  generalize w.alloc (.cells ss 38) = w1 at *
  go_wp2_with fail
  refine (F1.out w1 HK1.out).mono ?_
  rintro e w2 ⟨rfl, k2⟩
  go_wp2
  go_ret
  exact ⟨rfl, keep_trans HK1.out k2⟩
end
end Go.Proofs.YtbomnldpmkedbaaDoor
