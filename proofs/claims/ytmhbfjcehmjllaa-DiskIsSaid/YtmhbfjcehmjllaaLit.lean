/- An empty literal appended to: a row of its own, and nothing that was there has turned. -/
import Derived.Test.YtmhbfjcehmjllaaBase
import Derived.Test.YtmhbfjcehmjllaaMov
import Derived.Deep.AppendSrc
set_option linter.unusedSimpArgs false
set_option linter.unusedVariables false
namespace Go.Proofs.Ytmhbfjcehmjllaa
open Go.RowKit
section
variable {P : Program}
theorem run_append_lit {t e : TypeId} {z : Value} {size bytes : Nat} (T : ElT P t e z size bytes) (w : World) (ty : TypeId) (base : Nat) (A : Option Addr) (hown : w.ownsRow base e size (.slice A 0 0) 0 []) (hbase : base ≤ w.heap.size)
    (B : Option Addr) (m c : Nat) (news : List Value) (hl : news.length = m * size) (hn : Rd w B news) (h1 : ∀ u ∈ news, u.oneCell' = true) (hb : m ≤ 100000000) (hb2 : m * bytes ≤ 140737488355328) :
    ∃ v' w', (Builtin.append_ #[t, t] ty #[.slice A 0 0, .slice B m c]).run P w = .ok v' w' ∧ w'.ownsRow base e size v' m news ∧ Keep w w' := by
  obtain ⟨i, hi, hz, hsz, hby⟩ := T.info
  by_cases hm : m = 0
  · subst hm
    obtain rfl : news = [] := List.eq_nil_of_length_eq_zero (by simpa using hl)
    refine ⟨.slice A 0 0, w, ?_, hown, Below.refl _ _⟩
    rcases hown.2 with ⟨h0, _⟩ | ⟨g, cap, cur, h0, _, _, hnc, _⟩
    · obtain rfl : A = none := by injection h0
      cases B <;> simp [Builtin.append_, run_underlying T.und, sizeOf, typeInfo, Builtin.lenOf, Builtin.firstCells, loadCells, loadCellsFrom, storeCells, *]
    · obtain rfl : A = some ⟨g, 0, none⟩ := by injection h0
      cases B <;> simp [Builtin.append_, run_underlying T.und, sizeOf, typeInfo, Builtin.lenOf, Builtin.firstCells, loadCells, loadCellsFrom, storeCells, *]
  · have hpos : 0 < m * size := Nat.mul_pos (by omega) T.pos
    rcases hn with rfl | ⟨b, off, rfl, hc⟩
    · simp at hl; omega
    have hs : Src P i.size t (.slice (some ⟨b, off, none⟩) m c) m news w := Src.ofSlice w T.und ⟨b, off, none⟩ m c news (by rw [hsz, hl]) (fun j u hu => by
      obtain ⟨hj, rfl⟩ := List.getElem?_eq_some_iff.1 hu
      rw [add_lit0]; exact hc j hj) h1
    have hold : (Builtin.firstCells i.size 0 (.slice A 0 0)).run P w.drew = .ok ([] : List Value).toArray w.drew := by
      cases A <;> simp [Builtin.firstCells, loadCells, loadCellsFrom]
    have hge := grownCap_ge w (0 + m) 0 e
    have hcm : grownCap w (0 + m) 0 e ≤ maxLen := grownCap_le_maxLen w (0 + m) 0 e (by unfold maxLen; omega)
    have hrun := run_append_grow_src w t t ty e i z T.und hi hz A 0 0 [] hold _ m news hs (by omega) (by omega) (growslice_fits (by omega) (by rw [hby]; simpa using hb2))
    refine ⟨_, _, hrun, ⟨by simp [hl], .inr ⟨w.heap.size, grownCap w (0 + m) 0 e, ([] ++ news).toArray ++ Builtin.zeroCells z.cells (grownCap w (0 + m) 0 e - (0 + m)), ?_, hbase, ?_, by omega, hcm, ?_, ?_⟩⟩, ?_⟩
    · simp
    · exact heap_alloc_new w.drew _
    · have e1 : grownCap w (0 + m) 0 e * size = m * size + (grownCap w (0 + m) 0 e - m) * size := by
        rw [← Nat.add_mul]; congr 1; omega
      simp [size_zeroCells, T.zs, hl]
      rw [Nat.zero_add] at e1
      omega
    · rw [Array.toList_append, List.take_left' (by simp [hl])]; simp
    · exact ((Below.refl w.heap.size w).drew).alloc (Nat.le_refl _) _
theorem wp_lit {t e : TypeId} {z : Value} {size bytes : Nat} (T : ElT P t e z size bytes) {w : World} {a : Act} {K : Act → World → Prop} {Q : Exit → Act → World → Prop} {s x : Operand} {dst : Option Tmp} {ty : TypeId} {pos : String} {af : Array Edge} {gd : Option (Nat × Bool)}
    (base : Nat) (A : Option Addr) (hsv : a.eval s = .slice A 0 0) (hown : w.ownsRow base e size (.slice A 0 0) 0 []) (hbase : base ≤ w.heap.size)
    (B : Option Addr) (m c : Nat) (news : List Value) (hxv : a.eval x = .slice B m c) (hl : news.length = m * size) (hn : Rd w B news) (h1 : ∀ u ∈ news, u.oneCell' = true) (hb : m ≤ 100000000) (hb2 : m * bytes ≤ 140737488355328)
    (h : ∀ v' w', w'.ownsRow base e size v' m news → Keep w w' → K (a.put dst v') w') :
    Oper.wp P { dst := dst, op := .call { callee := .builtin .append, args := #[s, x], argTypes := #[t, t] }, type := ty, pos := pos, after := af, guard := gd } a w K Q := by
  obtain ⟨v', w', hrun, h2, h3⟩ := run_append_lit T w ty base A hown hbase B m c news hl hn h1 hb hb2
  unfold Oper.wp execOp
  simp only [resolve, invoke, builtin, Sem.run_bind, Sem.run_pure, Result.andThen_ok, List.map_toArray, List.map_cons, List.map_nil, hsv, hxv, hrun]
  exact h v' w' h2 h3
end
end Go.Proofs.Ytmhbfjcehmjllaa
