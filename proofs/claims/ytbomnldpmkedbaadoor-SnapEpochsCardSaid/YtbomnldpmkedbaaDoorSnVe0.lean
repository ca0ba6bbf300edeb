/- A store as the document has it; two that are the same. -/
import Derived.Test.YtbomnldpmkedbaaDoorSnU
import Derived.Test.YtbomnldpmkedbaaDoorJrnP
set_option linter.unusedSimpArgs false
set_option linter.unusedVariables false
namespace Go.Proofs.YtbomnldpmkedbaaDoor
open Go.RowKit
attribute [local go_sem ↓] Go.wp_at_zero Go.wp_at_succ

theorem sameL_self (b : List UInt8) (ws : List WriteR) (base room n : Int) (last : List UInt8) : sameL b ws base room n last b ws base room n last = true := by
  unfold sameL sameD
  simp
/-- What a walk has to know of a store, as the document has it, as a value. -/
structure SoA (l : List Value) (cs : Array Value) : Prop where
  l : cs.toList = l
  z : cs.size = 38
  i : (Tryd.prog.info? 53).map (·.size) = some cs.size
  n : ¬ cs = #[]
  o : ∀ v ∈ cs.toList, v.oneCell' = true
theorem SoA.of {A : Option Addr} {n c : Nat} {PA : Option Addr} {m pc : Nat} {base room k ep : Int} {last : List UInt8} {cs : Array Value} (hl : last.length = 32) (h : cs.toList = stCells (.slice A n c) (.slice PA m pc) base room k last ep) : SoA (stCells (.slice A n c) (.slice PA m pc) base room k last ep) cs := by
  have h1 := StA.of hl h
  exact ⟨h, h1.z, by rw [h1.z]; kernel_rfl, h1.n, by rw [h]; have := h1.o; rw [h] at this; exact this⟩
noncomputable def zso : Array Value := match (Tryd.prog.info? 53).bind (·.zero) with | some (.agg c) => c | _ => #[]
theorem zso_size : zso.size = 38 := by kernel_rfl
theorem zso_zero (w : World) : (zeroValue 53).run Tryd.prog w = .ok (.agg zso) w := by kernel_rfl
theorem zso_letter : ∃ zs : Array Value, zs.size = 38 ∧ (∀ w, (zeroValue 53).run Tryd.prog w = .ok (.agg zs) w) ∧ ¬ zs = #[] :=
  ⟨zso, zso_size, zso_zero, fun h => by have := zso_size; rw [h] at this; cases this⟩
theorem built_so (s0 s1 : Value) (base room n : Int) {last : List UInt8} {lv : Array Value} (hl : last.length = 32) (hv : lv.toList = lgCells s0 s1 base room n last) (ep : Int) :
    Tryd.prog.built 53 [(0, .agg lv), (1, .int .i64 ep)] = some (stCells s0 s1 base room n last ep).toArray := by
  obtain rfl : lv = (lgCells s0 s1 base room n last).toArray := by rw [← hv]
  obtain ⟨a0, a1, a2, a3, a4, a5, a6, a7, a8, a9, b0, b1, b2, b3, b4, b5, b6, b7, b8, b9, c0, c1, c2, c3, c4, c5, c6, c7, c8, c9, d0, d1, rfl⟩ := list32 hl
  kernel_rfl

set_option maxRecDepth 100000 in
set_option maxHeartbeats 3000000 in
theorem stored_any (A : Option Addr) (b : List UInt8) (c : Nat) (PA : Option Addr) (pc : Nat) (base room n : Int) (last : List UInt8) (ep : Int) (ss : Array Value) (w : World) (h : DOk w A b c PA [] pc)
    (hss : StA (stCells (.slice A b.length c) (.slice PA 0 pc) base room n last ep) ss) (hl : last.length = 32) :
    Calls Tryd.prog 16 #[.agg ss] w fun e w' => ∃ PA' pc' cs, e = .returned (.agg cs) ∧ SoA (stCells (.slice A b.length c) (.slice PA' 0 pc') base room n last ep) cs ∧ (∀ W, Keep w' W → DOk W A b c PA' [] pc') ∧ Keep w w' := by
  obtain ⟨ls, hls⟩ : ∃ ls : Array Value, ls.toList = lgCells (.slice A b.length c) (.slice PA 0 pc) base room n last := ⟨_, rfl⟩
  have hlA := LogA.of hl hls
  have T1 : Hid (∀ w', Keep w w' → Calls Tryd.prog 39 #[.agg ls] w' fun e w'' => ∃ PA' pc' cs, e = .returned (.agg cs) ∧ LoA (lgCells (.slice A b.length c) (.slice PA' 0 pc') base room n last) cs ∧ (∀ W, Keep w'' W → DOk W A b c PA' [] pc') ∧ Keep w' w'') := fun w' hk =>
    plainly_any A b c PA [] pc base room n last ls w' (h.keep hk) (by decide) hlA hl
  obtain ⟨zs, hz1, hz2, hz3⟩ := zso_letter
  have hsz := hss.z; have hsn := hss.n; have hsi := hss.i
  have hlz := hlA.z; have hln := hlA.n; have hli := hlA.i
  have Hss := Lib.hid hss
  have Hlg : Hid (((stCells (.slice A b.length c) (.slice PA 0 pc) base room n last ep).drop 0).take ls.toList.length = ls.toList) := by
    rw [Array.length_toList, hlz, hls]; exact st_lg hl
  have Hl := Lib.hid hl; have Hh := Lib.hid h
  clear hss hlA hls h hl
  generalize hbl : b.length = bl at *
  clear hbl
  go_enter Tryd.func16, Tryd.ntmps16
  go_upto_region 1 with fail
  obtain ⟨w1, hw1⟩ : ∃ w1, w1 = (w.alloc (.cells ss 38)).alloc (.cells zs 53) := ⟨_, rfl⟩
  have HS1 : Hid (Blk w1 w.heap.size 38 ss.toList) := by rw [hw1]; exact (Blk.new w _ ss.toList).alloc _
  have HR1 : Hid (Blk w1 (w.heap.size + 1) 53 zs.toList) := by
    rw [hw1]
    have h1 := Blk.new (w.alloc (.cells ss 38)) 53 zs.toList
    rw [World.size_alloc] at h1
    exact h1
  have HK1 : Hid (Keep w w1) := by rw [hw1]; exact keep_trans (keep_new _ _) (keep_new _ _)
  have hz11 : w.heap.size + 2 ≤ w1.heap.size := by rw [hw1]; simp
  rw [← hw1]
  clear hw1
  refine wp_region_tree (.take [0,1,3,4] (.force [2] .done)) [5,6] (by kernel_rfl) (by kernel_rfl) (fun w2 k2 => ?_)
  have HS2 := Lib.hid (HS1.out.keep k2); have HR2 := Lib.hid (HR1.out.keep k2); have HK2 := Lib.hid (keep_trans HK1.out k2)
  have hz2' : w1.heap.size ≤ w2.heap.size := k2.size
  clear k2
  have hS2 := HS2.out
  rw [Hss.out.l] at hS2
  obtain ⟨_, _, _, _, _, c5⟩ := st_d Hl.out hS2
  have a5 := aft_cell c5
  have Hrg : Hid (w2.rangeAt w.heap.size 0 ls.toList) := range_of HS2.out 0 ls.toList (by rw [Hss.out.l]; exact Hlg.out)
  clear c5 hS2
  refine mt_take w2 (Below.refl _ _) ?_
  simp only [pick_cons, pick_nil, nth_zero, nth_succ]
  iterate 1 (go_big_quiet_step (fail))
  (with_reducible refine wpQuiet_load_part w.heap.size 0 ls (Eq.trans ?_ rfl) Hrg.out _ Tryd.underlying36 rfl hli ?_)
  rfl
  simp only [Act.put, Array.set!_eq_setIfInBounds, List.setIfInBounds_toArray, List.set_cons_succ, List.set_cons_zero]
  repeat (go_big_quiet_step (fail))
  refine wpQuiet_nil ?_
  clear a5
  refine mt_force ?_
  simp only [pick_cons, pick_nil, nth_zero, nth_succ]
  refine fc_step rfl (fun K hK => ?_)
  go_simp
  (with_reducible refine (T1.out w2 HK2.out).mono ?_)
  rintro e w3 ⟨PA', pc', ls', rfl, hls', hd3, k3⟩
  refine hK _ _ k3 ?_
  clear hK K
  have HR3 := Lib.hid (HR2.out.keep k3); have HK3 := Lib.hid (keep_trans HK2.out k3)
  have Hd3 := Lib.hid hd3
  have hz3' : w2.heap.size ≤ w3.heap.size := k3.size
  clear hd3 k3
  obtain ⟨fs, hfs⟩ : ∃ fs : Array Value, fs.toList = stCells (.slice A bl c) (.slice PA' 0 pc') base room n last ep := ⟨_, rfl⟩
  have hfe : (stCells (.slice A bl c) (.slice PA' 0 pc') base room n last ep).toArray = fs := by rw [← hfs]
  have hbu := built_so (.slice A bl c) (.slice PA' 0 pc') base room n Hl.out hls'.l ep
  rw [hfe] at hbu
  have hfA := SoA.of Hl.out hfs
  have hfz := hfA.z; have hfn := hfA.n; have hfi := hfA.i
  have HfA := Lib.hid hfA; have Hbu := Lib.hid hbu
  clear hfA hfs hfe hbu hls'
  obtain ⟨w8, hst8, hb8, hg8⟩ := run_store_blk (P := Tryd.prog) fs.toList HR3.out (by simp [hz1, hfz]) HfA.out.o
  have Hb8 := Lib.hid hb8; have Hg8 := Lib.hid hg8
  clear hb8 hg8
  refine fc_nil (mt_end ?_)
  (with_reducible refine list_build _ fs (Eq.trans ?_ rfl) Hbu.out ?_)
  rfl
  simp only [Act.put, Array.set!_eq_setIfInBounds, List.setIfInBounds_toArray, List.set_cons_succ, List.set_cons_zero]
  go_wp2
  have hb8 := Hb8.out
  have hk8 : Keep w w8 := HK3.out.grown Hg8.out HK3.out.size (fun q hq => by injection hq with hq; omega)
  refine bodyPost_ret (v := .agg fs) (results_cell_row Tryd.results16 _ _ (w.heap.size + 1) _ _ _ _ rfl hb8 Tryd.underlying53 rfl (by rw [List.size_toArray, Array.length_toList]; exact hfi)) rfl ⟨PA', pc', fs, rfl, HfA.out, fun W hW => ?_, hk8⟩
  have h1 := Hh.out.keep (keep_trans hk8 hW)
  have h2 := Hd3.out w3 (Below.refl _ _)
  exact ⟨h1.rb, h1.bc, h1.cm, .inl rfl, h2.pl, h2.pm, fun s hs => by cases hs⟩

set_option maxRecDepth 100000 in
set_option maxHeartbeats 3000000 in
theorem ssame_self (A : Option Addr) (b : List UInt8) (c : Nat) (PA : Option Addr) (pc : Nat) (PB : Option Addr) (qc : Nat) (base room n : Int) (last : List UInt8) (ep : Int) (ss ts : Array Value) (w : World) (h : DOk w A b c PA [] pc) (h' : DOk w A b c PB [] qc)
    (hss : SoA (stCells (.slice A b.length c) (.slice PA 0 pc) base room n last ep) ss) (hts : SoA (stCells (.slice A b.length c) (.slice PB 0 qc) base room n last ep) ts) (hl : last.length = 32) :
    Calls Tryd.prog 15 #[.agg ss, .agg ts] w fun e w' => e = .returned (.bool true) ∧ Keep w w' := by
  obtain ⟨ls, hls⟩ : ∃ ls : Array Value, ls.toList = lgCells (.slice A b.length c) (.slice PA 0 pc) base room n last := ⟨_, rfl⟩
  obtain ⟨ms, hms⟩ : ∃ ls : Array Value, ls.toList = lgCells (.slice A b.length c) (.slice PB 0 qc) base room n last := ⟨_, rfl⟩
  have hlA := LoA.of hl hls; have hmA := LoA.of hl hms
  have T1 : Hid (∀ w', Keep w w' → Calls Tryd.prog 38 #[.agg ls, .agg ms] w' fun e w'' => e = .returned (.bool true) ∧ Keep w' w'') := fun w' hk => by
    have h1 := lsame_any A b c PA [] pc base room n last ls A b c PB [] qc base room n last ms w' (h.keep hk) (h'.keep hk) hlA hl hmA hl
    rw [sameL_self] at h1; exact h1
  have hsz := hss.z; have hsn := hss.n; have hsi := hss.i
  have htz := hts.z; have htn := hts.n; have hti := hts.i
  have hlz := hlA.z; have hln := hlA.n; have hli := hlA.i
  have hmz := hmA.z; have hmn := hmA.n; have hmi := hmA.i
  have Hss := Lib.hid hss; have Hts := Lib.hid hts
  have Hlg : Hid (((stCells (.slice A b.length c) (.slice PA 0 pc) base room n last ep).drop 0).take ls.toList.length = ls.toList) := by
    rw [Array.length_toList, hlz, hls]; exact st_lg hl
  have Hmg : Hid (((stCells (.slice A b.length c) (.slice PB 0 qc) base room n last ep).drop 0).take ms.toList.length = ms.toList) := by
    rw [Array.length_toList, hmz, hms]; exact st_lg hl
  have Hl := Lib.hid hl
  clear hss hts hlA hmA hls hms h h' hl
  generalize hbl : b.length = bl at *
  clear hbl
  go_enter Tryd.func15, Tryd.ntmps15
  go_upto_region 1 with fail
  obtain ⟨w1, hw1⟩ : ∃ w1, w1 = (w.alloc (.cells ss 53)).alloc (.cells ts 53) := ⟨_, rfl⟩
  have HS1 : Hid (Blk w1 w.heap.size 53 ss.toList) := by rw [hw1]; exact (Blk.new w _ ss.toList).alloc _
  have HT1 : Hid (Blk w1 (w.heap.size + 1) 53 ts.toList) := by
    rw [hw1]
    have h1 := Blk.new (w.alloc (.cells ss 53)) 53 ts.toList
    rw [World.size_alloc] at h1
    exact h1
  have HK1 : Hid (Keep w w1) := by rw [hw1]; exact keep_trans (keep_new _ _) (keep_new _ _)
  rw [← hw1]
  clear hw1
  have Hrs : Hid (w1.rangeAt w.heap.size 0 ls.toList) := range_of HS1.out 0 ls.toList (by rw [Hss.out.l]; exact Hlg.out)
  have Hrt : Hid (w1.rangeAt (w.heap.size + 1) 0 ms.toList) := range_of HT1.out 0 ms.toList (by rw [Hts.out.l]; exact Hmg.out)
  go_wp2_with (first
    | ((with_reducible refine load_part w.heap.size 0 ls (Eq.trans ?_ rfl) Hrs.out _ Tryd.underlying51 rfl hli ?_); rfl)
    | ((with_reducible refine load_part (w.heap.size + 1) 0 ms (Eq.trans ?_ rfl) Hrt.out _ Tryd.underlying51 rfl hmi ?_); rfl))
  refine (T1.out w1 HK1.out).mono ?_
  rintro e w2 ⟨rfl, k2⟩
  have HS2 := HS1.out.keep k2; have HT2 := HT1.out.keep k2; have HK2 := Lib.hid (keep_trans HK1.out k2)
  rw [Hss.out.l] at HS2
  rw [Hts.out.l] at HT2
  obtain ⟨_, _, _, _, _, c5⟩ := st_d Hl.out HS2
  obtain ⟨_, _, _, _, _, d5⟩ := st_d Hl.out HT2
  have C5 := Lib.hid c5; have D5 := Lib.hid d5
  clear k2 HS2 HT2 T1
  have g2 : (ep == ep) = true := by simp
  go_wp2_with fail
  exact bodyPost_ret (v := .bool true) (by simp [results, Tryd.results15]) rfl ⟨rfl, HK2.out⟩
end Go.Proofs.YtbomnldpmkedbaaDoor
