/- Logs as the document has them; are logs the same, are headers. -/
import Derived.Test.YtbomnldpmkedbaaDoorJrnN
set_option linter.unusedSimpArgs false
set_option linter.unusedVariables false
namespace Go.Proofs.YtbomnldpmkedbaaDoor
open Go.RowKit
attribute [local go_sem ↓] Go.wp_at_zero Go.wp_at_succ

/-- What a walk has to know of a log, as the document has it, as a value. -/
structure LoA (l : List Value) (cs : Array Value) : Prop where
  l : cs.toList = l
  z : cs.size = 37
  i : (Tryd.prog.info? 51).map (·.size) = some cs.size
  n : ¬ cs = #[]
  o : ∀ v ∈ cs.toList, v.oneCell' = true
theorem LoA.of {A : Option Addr} {n c : Nat} {PA : Option Addr} {m pc : Nat} {base room k : Int} {last : List UInt8} {cs : Array Value} (hl : last.length = 32) (h : cs.toList = lgCells (.slice A n c) (.slice PA m pc) base room k last) : LoA (lgCells (.slice A n c) (.slice PA m pc) base room k last) cs := by
  have hz : cs.size = 37 := by rw [← Array.length_toList, h]; exact lg_len hl
  exact ⟨h, hz, by rw [hz]; kernel_rfl, (fun e => by rw [e] at hz; simp at hz), by rw [h]; exact one_lg _ _ _ _ _ _ rfl rfl⟩
noncomputable def zlo : Array Value := match (Tryd.prog.info? 51).bind (·.zero) with | some (.agg c) => c | _ => #[]
theorem zlo_size : zlo.size = 37 := by kernel_rfl
theorem zlo_zero (w : World) : (zeroValue 51).run Tryd.prog w = .ok (.agg zlo) w := by kernel_rfl
theorem zlo_letter : ∃ zs : Array Value, zs.size = 37 ∧ (∀ w, (zeroValue 51).run Tryd.prog w = .ok (.agg zs) w) ∧ ¬ zs = #[] :=
  ⟨zlo, zlo_size, zlo_zero, fun h => by have := zlo_size; rw [h] at this; cases this⟩

theorem list32 {l : List UInt8} (h : l.length = 32) : ∃ a0 a1 a2 a3 a4 a5 a6 a7 a8 a9 b0 b1 b2 b3 b4 b5 b6 b7 b8 b9 c0 c1 c2 c3 c4 c5 c6 c7 c8 c9 d0 d1 : UInt8, l = [a0, a1, a2, a3, a4, a5, a6, a7, a8, a9, b0, b1, b2, b3, b4, b5, b6, b7, b8, b9, c0, c1, c2, c3, c4, c5, c6, c7, c8, c9, d0, d1] := by
  match l, h with
  | [a0, a1, a2, a3, a4, a5, a6, a7, a8, a9, b0, b1, b2, b3, b4, b5, b6, b7, b8, b9, c0, c1, c2, c3, c4, c5, c6, c7, c8, c9, d0, d1], _ => exact ⟨a0, a1, a2, a3, a4, a5, a6, a7, a8, a9, b0, b1, b2, b3, b4, b5, b6, b7, b8, b9, c0, c1, c2, c3, c4, c5, c6, c7, c8, c9, d0, d1, rfl⟩
theorem built_lo (s0 s1 : Value) (base room n : Int) {last : List UInt8} {lv : Array Value} (hl : last.length = 32) (hv : HashA last lv) :
    Tryd.prog.built 51 [(0, .agg #[s0, s1]), (1, .int .i64 base), (2, .int .i64 room), (3, .int .i64 n), (4, .agg lv)] = some (lgCells s0 s1 base room n last).toArray := by
  obtain rfl := hv.e
  obtain ⟨a0, a1, a2, a3, a4, a5, a6, a7, a8, a9, b0, b1, b2, b3, b4, b5, b6, b7, b8, b9, c0, c1, c2, c3, c4, c5, c6, c7, c8, c9, d0, d1, rfl⟩ := list32 hl
  kernel_rfl
theorem list_build {P : Program} {w : World} {ops : Array Oper} {rest : List Oper} {a : Act} {Q : Exit → Act → World → Prop} {parts : Array (Nat × Operand)} {dst : Option Tmp} {t ty' : TypeId} {pos : String} {af : Array Edge}
    (ps : List (Nat × Value)) (cells : Array Value) (hx : (parts.toList.map fun p => (p.1, a.eval p.2)) = ps) (hb : P.built t ps = some cells)
    (h : wpList P ops Q rest (a.put dst (.agg cells)) w) : wpList P ops Q ({ dst := dst, op := .build t parts, type := ty', pos := pos, after := af, guard := none } :: rest) a w :=
  wpList_plain rfl fun _ hK => wp_build t parts rfl (by rw [show (parts.map fun (i, x) => (i, a.eval x)).toList = ps by rw [Array.toList_map]; exact hx, hb]; rfl) (by rw [show (parts.map fun (i, x) => (i, a.eval x)).toList = ps by rw [Array.toList_map]; exact hx, hb]; exact hK _ _ h)

set_option maxRecDepth 100000 in
set_option maxHeartbeats 3000000 in
theorem plainly_any (A : Option Addr) (b : List UInt8) (c : Nat) (PA : Option Addr) (ws : List WriteR) (pc : Nat) (base room n : Int) (last : List UInt8) (ls : Array Value) (w : World) (h : DOk w A b c PA ws pc) (hw : ws.length ≤ 200000)
    (hls : LogA (lgCells (.slice A b.length c) (.slice PA ws.length pc) base room n last) ls) (hl : last.length = 32) :
    Calls Tryd.prog 39 #[.agg ls] w fun e w' => ∃ PA' pc' cs, e = .returned (.agg cs) ∧ LoA (lgCells (.slice A b.length c) (.slice PA' ws.length pc') base room n last) cs ∧ (∀ W, Keep w' W → DOk W A b c PA' ws pc') ∧ Keep w w' := by
  have T1 : Hid (∀ w', Keep w w' → Calls Tryd.prog 57 #[DV A b.length c PA ws.length pc] w' fun e w'' => ∃ PA' pc', e = .returned (DV A b.length c PA' ws.length pc') ∧ w''.ownsRow w'.heap.size 91 2 (.slice PA' ws.length pc') ws.length (ws.flatMap WriteR.cells) ∧ (∀ W, Keep w'' W → DOk W A b c PA' ws pc') ∧ Keep w' w'') := fun w' hk => flat_any A b c PA ws pc w' (h.keep hk) hw
  obtain ⟨zs, hz1, hz2, hz3⟩ := zlo_letter
  have hlz := hls.z; have hln := hls.n; have hli := hls.i
  have Hls := Lib.hid hls
  obtain ⟨lv, hlv⟩ : ∃ lv, HashA last lv := ⟨_, HashA.of hl⟩
  have hvz := hlv.z; have hvn := hlv.n; have hvi := hlv.i
  have Hlv := Lib.hid hlv; have Hl := Lib.hid hl; have Hh := Lib.hid h
  clear hls h hw hlv hl
  generalize hbl : b.length = bl at *
  generalize hwl : ws.length = wl at *
  have Hwl := Lib.hid hwl
  clear hbl hwl
  go_enter Tryd.func39, Tryd.ntmps39
  go_upto_region 1 with fail
  obtain ⟨w1, hw1⟩ : ∃ w1, w1 = (w.alloc (.cells ls 36)).alloc (.cells zs 51) := ⟨_, rfl⟩
  have HL1 : Hid (Blk w1 w.heap.size 36 (lgCells (.slice A bl c) (.slice PA wl pc) base room n last)) := by rw [hw1, ← Hls.out.l]; exact (Blk.new w _ ls.toList).alloc _
  have HR1 : Hid (Blk w1 (w.heap.size + 1) 51 zs.toList) := by
    rw [hw1]
    have h1 := Blk.new (w.alloc (.cells ls 36)) 51 zs.toList
    rw [World.size_alloc] at h1
    exact h1
  have HK1 : Hid (Keep w w1) := by rw [hw1]; exact keep_trans (keep_new _ _) (keep_new _ _)
  have hz11 : w.heap.size + 2 ≤ w1.heap.size := by rw [hw1]; simp
  rw [← hw1]
  clear hw1
  refine wp_region_tree (.take [0,1,3,4,5,6,7,8,9,10] (.force [2] .done)) [11,12] (by kernel_rfl) (by kernel_rfl) (fun w2 k2 => ?_)
  have HL2 := Lib.hid (HL1.out.keep k2); have HR2 := Lib.hid (HR1.out.keep k2); have HK2 := Lib.hid (keep_trans HK1.out k2)
  have hz2' : w1.heap.size ≤ w2.heap.size := k2.size
  clear k2
  obtain ⟨c0, c1, c2, c3, c4⟩ := lg_d HL2.out
  have a0 := aft_cell c0; have a1 := aft_cell c1; have a2 := aft_cell c2; have a3 := aft_cell c3; have a4 := aft_cell c4
  have Hrg : Hid (w2.rangeAt w.heap.size 5 lv.toList) := range_of HL2.out 5 lv.toList (by rw [Hlv.out.l, List.length_map, Hl.out]; exact lg_last Hl.out)
  clear c0 c1 c2 c3 c4
  refine mt_take w2 (Below.refl _ _) ?_
  simp only [pick_cons, pick_nil, nth_zero, nth_succ]
  iterate 9 (go_big_quiet_step (fail))
  (with_reducible refine wpQuiet_load_part w.heap.size 5 lv (Eq.trans ?_ rfl) Hrg.out (.array 32 5) hash_under (arr_row _ _) hvi ?_)
  rfl
  simp only [Act.put, Array.set!_eq_setIfInBounds, List.setIfInBounds_toArray, List.set_cons_succ, List.set_cons_zero]
  repeat (go_big_quiet_step (fail))
  refine wpQuiet_nil ?_
  clear a0 a1 a2 a3 a4
  refine mt_force ?_
  simp only [pick_cons, pick_nil, nth_zero, nth_succ]
  refine fc_step rfl (fun K hK => ?_)
  go_simp
  (with_reducible refine (T1.out w2 HK2.out).mono ?_)
  rintro e w3 ⟨PA', pc', rfl, own3, hd3, k3⟩
  refine hK _ _ k3 ?_
  clear hK K
  have Own3 := Lib.hid own3; have HR3 := Lib.hid (HR2.out.keep k3); have HK3 := Lib.hid (keep_trans HK2.out k3)
  clear own3 hd3 k3
  obtain ⟨fs, hfs⟩ : ∃ fs : Array Value, fs.toList = lgCells (.slice A bl c) (.slice PA' wl pc') base room n last := ⟨_, rfl⟩
  have hfe : (lgCells (.slice A bl c) (.slice PA' wl pc') base room n last).toArray = fs := by rw [← hfs]
  have hbu := built_lo (.slice A bl c) (.slice PA' wl pc') base room n Hl.out Hlv.out
  rw [hfe] at hbu
  have hfA := LoA.of Hl.out hfs
  have hfz := hfA.z; have hfn := hfA.n; have hfi := hfA.i
  have HfA := Lib.hid hfA; have Hbu := Lib.hid hbu
  clear hfA hfs hfe hbu
  obtain ⟨w8, hst8, hb8, hg8⟩ := run_store_blk (P := Tryd.prog) fs.toList HR3.out (by simp [hz1, hfz]) HfA.out.o
  have Hb8 := Lib.hid hb8; have Hg8 := Lib.hid hg8
  clear hb8 hg8
  refine fc_nil (mt_end ?_)
  (with_reducible refine list_build _ fs (Eq.trans ?_ rfl) Hbu.out ?_)
  rfl
  simp only [Act.put, Array.set!_eq_setIfInBounds, List.setIfInBounds_toArray, List.set_cons_succ, List.set_cons_zero]
  go_wp2
  have hb8 := Hb8.out
  refine bodyPost_ret (v := .agg fs) (results_cell_row Tryd.results39 _ _ (w.heap.size + 1) _ _ _ _ rfl hb8 Tryd.underlying51 rfl (by rw [List.size_toArray, Array.length_toList]; exact hfi)) rfl ⟨PA', pc', fs, rfl, HfA.out, fun W hW => ?_, HK3.out.grown Hg8.out HK3.out.size (fun q hq => by injection hq with hq; omega)⟩
  have hk8 : Keep w w8 := HK3.out.grown Hg8.out HK3.out.size (fun q hq => by injection hq with hq; omega)
  exact (Hh.out.keep (keep_trans hk8 hW)).other (Own3.out.kept Hg8.out (.inr (fun e => by have h1 := (Own3.out.lt _ e).1; omega))) Hwl.out.symm hW
end Go.Proofs.YtbomnldpmkedbaaDoor
