/- A slice of one built; lists of 32. -/
import Derived.Test.YteoilddiilegmaaDoorHdE
import Derived.Great.BuildSlice
set_option linter.unusedSimpArgs false
set_option linter.unusedVariables false
namespace Go.Proofs.YteoilddiilegmaaDoor
open Go.RowKit
attribute [local go_sem ↓] Go.wp_at_zero Go.wp_at_succ

theorem foldl_setb : ∀ (l : List Value) (k : Nat) (acc : Array Value), k + l.length = acc.size → (l.zipIdx k).foldl (fun cs x => cs.setIfInBounds (0 + x.2) x.1) acc = (acc.toList.take k ++ l).toArray
  | [], k, acc, h => by
    have : acc.toList.take k = acc.toList := List.take_of_length_le (by simp at h ⊢; omega)
    simp [this]
  | v :: r, k, acc, h => by
    rw [List.zipIdx_cons, List.foldl_cons, foldl_setb r (k + 1) _ (by simp at h ⊢; omega)]
    have hk : k < acc.size := by simp at h; omega
    congr 1
    rw [Array.toList_setIfInBounds, Nat.zero_add, List.take_succ_eq_append_getElem (by simpa using hk), List.getElem_set_self, List.take_set_of_le (Nat.le_refl _)]
    simp
/-- A slice of one struct is built. -/
theorem wp_build1b {P : Program} {t e : TypeId} {zc : Array Value} {size bytes : Nat} (T : ElT P t e (.agg zc) size bytes) {o : Oper} {a : Act} {w : World} {K : Act → World → Prop} {Q : Exit → Act → World → Prop} (x : Operand) (ho : o.op = .buildSlice t 1 #[(0, x)])
    (cs : Array Value) (hz : cs.size = size) (hsm : size ≤ 1000) (hx : a.eval x = .agg cs)
    (h : K (a.put o.dst (.slice (some ⟨w.heap.size, 0, none⟩) 1 1)) (w.alloc (.cells cs e))) : o.wp P a w K Q := by
  obtain ⟨i, hi, hiz, his, _⟩ := T.info
  have hzc : zc.size = size := T.zs
  have hp := T.pos
  refine wp_buildSlice t e 1 _ ho cs i (.agg zc) T.und hi hiz (by rw [his]; omega) (by rw [his]; omega) ?_ h
  have hc : (Value.agg cs).cells = cs := rfl
  simp only [List.map_toArray, List.map_cons, List.map_nil, hx, Instr.fill, hc, his, hz, Nat.zero_mul, Nat.one_mul]
  rw [if_neg (by simp)]
  congr 1
  rw [← Array.foldl_toList, Array.toList_zipIdx]
  have hf := foldl_setb cs.toList 0 ((Array.range size).map fun j => zc[j % zc.size]!) (by simp [hz])
  simp only [List.take_zero, List.nil_append, Array.toArray_toList] at hf
  exact hf

set_option maxRecDepth 100000 in
theorem headTb : ElT Tryd.prog 26 30 (Value.agg zhead) 68 80 := ElT.mk' Tryd.underlying26 (by kernel_rfl) zhead_size (by omega)
set_option maxRecDepth 100000 in
theorem list32b {l : List UInt8} (h : l.length = 32) : ∃ a0 a1 a2 a3 a4 a5 a6 a7 a8 a9 b0 b1 b2 b3 b4 b5 b6 b7 b8 b9 c0 c1 c2 c3 c4 c5 c6 c7 c8 c9 d0 d1 : UInt8, l = [a0, a1, a2, a3, a4, a5, a6, a7, a8, a9, b0, b1, b2, b3, b4, b5, b6, b7, b8, b9, c0, c1, c2, c3, c4, c5, c6, c7, c8, c9, d0, d1] := by
  match l, h with
  | [a0, a1, a2, a3, a4, a5, a6, a7, a8, a9, b0, b1, b2, b3, b4, b5, b6, b7, b8, b9, c0, c1, c2, c3, c4, c5, c6, c7, c8, c9, d0, d1], _ => exact ⟨a0, a1, a2, a3, a4, a5, a6, a7, a8, a9, b0, b1, b2, b3, b4, b5, b6, b7, b8, b9, c0, c1, c2, c3, c4, c5, c6, c7, c8, c9, d0, d1, rfl⟩
end Go.Proofs.YteoilddiilegmaaDoor
