/- The log that a call takes. -/
import Derived.Test.YtielojlhdnimgaaDoorJrnF
set_option linter.unusedSimpArgs false
set_option linter.unusedVariables false
namespace Go.Proofs.YtielojlhdnimgaaDoor
open Go.RowKit
attribute [local go_sem ↓] Go.wp_at_zero Go.wp_at_succ

theorem lg_d {d0 d1 : Value} {base room n : Int} {last : List UInt8} {w : World} {g : Nat} {t : TypeId} (hb : Blk w g t (lgCells d0 d1 base room n last)) :
    w.cell? ⟨g, 0, none⟩ = some d0 ∧ w.cell? ⟨g, 1, none⟩ = some d1 ∧ w.cell? ⟨g, 2, none⟩ = some (.int .i64 base) ∧ w.cell? ⟨g, 3, none⟩ = some (.int .i64 room) ∧ w.cell? ⟨g, 4, none⟩ = some (.int .i64 n) :=
  ⟨(hb.cell 0).trans rfl, (hb.cell 1).trans rfl, (hb.cell 2).trans rfl, (hb.cell 3).trans rfl, (hb.cell 4).trans rfl⟩
/-- What a walk has to know of a log as a value. -/
structure LogA (l : List Value) (cs : Array Value) : Prop where
  l : cs.toList = l
  z : cs.size = 37
  i : (Tryd.prog.info? 35).map (·.size) = some cs.size
  n : ¬ cs = #[]
  o : ∀ v ∈ cs.toList, v.oneCell' = true
theorem LogA.of {A : Option Addr} {n c : Nat} {PA : Option Addr} {m pc : Nat} {base room k : Int} {last : List UInt8} {cs : Array Value} (hl : last.length = 32) (h : cs.toList = lgCells (.slice A n c) (.slice PA m pc) base room k last) : LogA (lgCells (.slice A n c) (.slice PA m pc) base room k last) cs := by
  have hz : cs.size = 37 := by rw [← Array.length_toList, h]; exact lg_len hl
  exact ⟨h, hz, by rw [hz]; kernel_rfl, (fun e => by rw [e] at hz; simp at hz), by rw [h]; exact one_lg _ _ _ _ _ _ rfl rfl⟩
noncomputable def zlog : Array Value := match (Tryd.prog.info? 35).bind (·.zero) with | some (.agg c) => c | _ => #[]
theorem zlog_size : zlog.size = 37 := by kernel_rfl
theorem zlog_zero (w : World) : (zeroValue 35).run Tryd.prog w = .ok (.agg zlog) w := by kernel_rfl
theorem zlog_letter : ∃ zs : Array Value, zs.size = 37 ∧ (∀ w, (zeroValue 35).run Tryd.prog w = .ok (.agg zs) w) ∧ ¬ zs = #[] :=
  ⟨zlog, zlog_size, zlog_zero, fun h => by have := zlog_size; rw [h] at this; cases this⟩
theorem opL_len (bn : Nat) (room : Int) (bs : List UInt8) : ∀ (f k : Nat) (last : List UInt8) (hs : List Hd), last.length = 32 → (opL bn room bs f k last hs).2.1.length = 32
  | 0, k, last, hs, h => h
  | f + 1, k, last, hs, h => by
    rw [opL]
    split
    · rename_i h1
      refine opL_len bn room bs f _ _ _ ?_
      unfold nxD at h1 ⊢
      split
      · exact (take_ok last k _ rfl).2
      · rename_i h2; rw [if_neg h2] at h1; cases h1
    · exact h
theorem openL_len (base room : Int) (bs : List UInt8) : (openL base room bs).2.1.length = 32 := by
  unfold openL; split
  · rfl
  · exact opL_len _ _ _ _ _ _ _ rfl

set_option maxRecDepth 100000 in
set_option maxHeartbeats 3000000 in
theorem jtaken_any (A : Option Addr) (b : List UInt8) (c : Nat) (PA : Option Addr) (ws : List WriteR) (pc : Nat) (base room n : Int) (last : List UInt8) (ls : Array Value) (w : World) (h : DOk w A b c PA ws pc) (hS : ShaOk w) (hb1 : -9223372036854775808 ≤ base ∧ base ≤ 9223372036854775807)
    (hls : LogA (lgCells (.slice A b.length c) (.slice PA ws.length pc) base room n last) ls) :
    Calls Tryd.prog 28 #[.agg ls] w fun e w' => ∃ cs, e = .returned (.agg cs) ∧ LogA (lgCells (.slice A b.length c) (.slice PA ws.length pc) base room ((openL base room (bytesD b ws)).1 : Nat) (openL base room (bytesD b ws)).2.1) cs ∧ Keep w w' := by
  have O1 : Hid (∀ w', Keep w w' → Calls Tryd.prog 16 #[DV A b.length c PA ws.length pc, .int .i64 base, .int .i64 room] w' fun e w'' => ∃ cs hv, e = .returned (.tuple #[.agg cs, hv]) ∧
      LogA (lgCells (.slice A b.length c) (.slice PA ws.length pc) base room ((openL base room (bytesD b ws)).1 : Nat) (openL base room (bytesD b ws)).2.1) cs ∧ (∃ Ah nh ch, hv = .slice Ah nh ch) ∧ Keep w' w'') := fun w' hk =>
    (open_any A b c PA ws pc base room w' (h.keep hk) (hS.keep hk) hb1).mono fun e w'' ⟨cs, hv, h1, h2, h3, h4⟩ => ⟨cs, hv, h1, LogA.of (openL_len _ _ _) h2, (by obtain ⟨Ah, ch, h5, _⟩ := own_form h3; exact ⟨Ah, _, ch, h5⟩), h4⟩
  generalize openL base room (bytesD b ws) = OP at *
  obtain ⟨zs, hz1, hz2, hz3⟩ := zlog_letter
  have hlz := hls.z; have hln := hls.n
  have Hls := Lib.hid hls
  clear hls h hS
  generalize b.length = bl at *
  generalize ws.length = wl at *
  go_enter Tryd.func28, Tryd.ntmps28
  go_upto_region 1 with fail
  obtain ⟨w1, hw1⟩ : ∃ w1, w1 = (w.alloc (.cells ls 35)).alloc (.cells zs 35) := ⟨_, rfl⟩
  have HL1 : Hid (Blk w1 w.heap.size 35 (lgCells (.slice A bl c) (.slice PA wl pc) base room n last)) := by rw [hw1, ← Hls.out.l]; exact (Blk.new w _ ls.toList).alloc _
  have HR1 : Hid (Blk w1 (w.heap.size + 1) 35 zs.toList) := by
    rw [hw1]
    have h1 := Blk.new (w.alloc (.cells ls 35)) 35 zs.toList
    rw [World.size_alloc] at h1
    exact h1
  have HK1 : Hid (Keep w w1) := by rw [hw1]; exact keep_trans (keep_new _ _) (keep_new _ _)
  rw [← hw1]
  clear hw1
  obtain ⟨c0, c1, c2, c3, c4⟩ := lg_d HL1.out
  go_wp2_with fail
  refine (O1.out w1 HK1.out).mono ?_
  rintro e w2 ⟨cs, hv, rfl, hcs, ⟨Ah, nh, ch, rfl⟩, k2⟩
  have hcz := hcs.z; have hcn := hcs.n; have hci := hcs.i
  have Hcs := Lib.hid hcs
  have HR2 := Lib.hid (HR1.out.keep k2)
  have HK2 := Lib.hid (keep_trans HK1.out k2)
  have hst2 : (storeCells ⟨w2.heap.size, 0, none⟩ cs.toList 0).run Tryd.prog (w2.alloc (.cells zs 35)) = .ok () (w2.alloc (.cells cs 35)) := run_storeCells_new (P := Tryd.prog) w2 35 zs cs hci (hz1.trans hcz.symm) (by have := all_oneCell_toArray Hcs.out.o; rwa [Array.toArray_toList] at this)
  clear hcs k2 c0 c1 c2 c3 c4
  go_upto_region 2 with fail
  have HB3 : Hid (Blk (w2.alloc (.cells cs 35)) w2.heap.size 35 cs.toList) := Blk.new w2 _ cs.toList
  have HR3 : Hid (Blk (w2.alloc (.cells cs 35)) (w.heap.size + 1) 35 zs.toList) := HR2.out.alloc _
  have HK3 : Hid (Keep w (w2.alloc (.cells cs 35))) := keep_trans HK2.out (keep_new _ _)
  generalize w2.alloc (.cells cs 35) = w3 at HB3 HR3 HK3 ⊢
  clear hst2
  obtain ⟨w8, hst, hb8, hg8⟩ := run_store_blk (P := Tryd.prog) cs.toList HR3.out (by simp [hz1, hcz]) Hcs.out.o
  have Hb8 := Lib.hid hb8; have Hg8 := Lib.hid hg8
  clear hb8 hg8
  generalize w2.heap.size = X at HB3 ⊢
  go_wp2_with ((with_reducible refine load_arr X cs (Eq.trans ?_ rfl) HB3.out _ Tryd.underlying35 rfl hci ?_); rfl)
  have hb8 := Hb8.out
  exact bodyPost_ret (v := .agg cs) (results_cell_row Tryd.results28 _ _ (w.heap.size + 1) _ _ _ _ rfl hb8 Tryd.underlying35 rfl (by rw [List.size_toArray, Array.length_toList]; exact hci)) rfl ⟨cs, rfl, Hcs.out, HK3.out.grown Hg8.out HK3.out.size (fun q hq => by injection hq with hq; omega)⟩
end Go.Proofs.YtielojlhdnimgaaDoor
