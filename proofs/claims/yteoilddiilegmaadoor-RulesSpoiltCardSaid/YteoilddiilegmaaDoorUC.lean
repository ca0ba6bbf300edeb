/- u256: Of; numbers compared. -/
import Derived.Test.YteoilddiilegmaaDoorUB
import Derived.Laws.StructEq
set_option linter.unusedSimpArgs false
set_option linter.unusedVariables false
namespace Go.Proofs.YteoilddiilegmaaDoor
open Go.RowKit
attribute [local go_sem ↓] Go.wp_at_zero Go.wp_at_succ

theorem all_range_eqN : ∀ (xs ys : List Nat), xs.length = ys.length → ((List.range xs.length).all fun i => xs.getD i 0 == ys.getD i 0) = (xs == ys)
  | [], [], _ => rfl
  | x :: xs, y :: ys, h => by
    have ih := all_range_eqN xs ys (by simpa using h)
    rw [List.length_cons, List.range_succ_eq_map, List.all_cons, List.all_map]
    simp only [List.getD_cons_zero, Function.comp_def, List.getD_cons_succ, ih]
    simp [List.cons_beq_cons]
  | [], _ :: _, h => by simp at h
  | _ :: _, [], h => by simp at h
theorem run_equalIn_words {P : Program} (w : World) (d : Nat) (t e : TypeId) (n : Nat) (ht : P.underlying t = some (.array n e)) (he : P.underlying e = some (.int .u64)) (hsz : ∀ w, (sizeOf e).run P w = .ok 1 w)
    (xs ys : List Nat) (hx : xs.length = n) (hy : ys.length = n) :
    (Op.equalIn (d + 2) t (.agg (xs.map n64).toArray) (.agg (ys.map n64).toArray)).run P w = .ok (xs == ys) w := by
  rw [← all_range_eqN xs ys (hx.trans hy.symm), hx, List.range_eq_range', Op.equalIn]
  simp only [Sem.run_bind, run_underlying ht, Result.andThen_ok, hsz, Std.Legacy.Range.forIn_eq_forIn_range', Std.Legacy.Range.size, Nat.sub_zero, Nat.add_sub_cancel, Nat.div_one]
  have hl : ∀ i ∈ List.range' 0 n 1, i < n := fun i hi => by simpa using (List.mem_range'_1.1 hi).2
  generalize List.range' 0 n 1 = l at hl ⊢
  induction l with
  | nil => simp
  | cons i l ih =>
    have hi : i < n := hl i (by simp)
    have px : (part e (xs.map n64).toArray (i * 1)).run P w = .ok (n64 (xs.getD i 0)) w := by
      simp [part, isAgg, run_underlying he, List.getD, List.getElem?_eq_getElem (show i < xs.length by omega)]
    have py : (part e (ys.map n64).toArray (i * 1)).run P w = .ok (n64 (ys.getD i 0)) w := by
      simp [part, isAgg, run_underlying he, List.getD, List.getElem?_eq_getElem (show i < ys.length by omega)]
    have pe : (Op.equalIn (d + 1) e (n64 (xs.getD i 0)) (n64 (ys.getD i 0))).run P w = .ok (xs.getD i 0 == ys.getD i 0) w := by
      unfold n64
      rw [run_equalIn_int w d e .u64 .u64 _ _ he]
      congr 1
      rw [Bool.eq_iff_iff]
      simp
      omega
    simp only [List.forIn_cons, Sem.run_bind, px, py, pe, Result.andThen_ok, List.all_cons]
    cases hb : (xs.getD i 0 == ys.getD i 0)
    · simp
    · simp only [Bool.not_true, Bool.false_eq_true, if_false, Sem.run_pure, Result.andThen_ok, Bool.true_and]
      exact ih fun j hj => hl j (by simp [hj])
theorem u64_size (w : World) : (sizeOf 47).run Tryd.prog w = .ok 1 w := by kernel_rfl
theorem u256_under : Tryd.prog.underlying 49 = some (.array 4 47) := by kernel_rfl
theorem u256_guard : Tryd.prog.eqGuardType Tryd.prog.depth 49 = false := by kernel_rfl
theorem words_eq {N M : Nat} (hN : N < 2 ^ 256) (hM : M < 2 ^ 256) : ([limb N 0, limb N 1, limb N 2, limb N 3] == [limb M 0, limb M 1, limb M 2, limb M 3]) = decide (N = M) := by
  by_cases h : N = M
  · subst h; simp
  · rw [decide_eq_false h, beq_eq_false_iff_ne]
    intro e
    injection e with e0 e
    injection e with e1 e
    injection e with e2 e
    injection e with e3 _
    exact h (limb_ext hN hM fun i hi => by
      rcases (show i = 0 ∨ i = 1 ∨ i = 2 ∨ i = 3 by omega) with rfl | rfl | rfl | rfl <;> assumption)
theorem u_eql {N M : Nat} (hN : N < 2 ^ 256) (hM : M < 2 ^ 256) (w : World) : (Go.binOp .eql 49 (uV N) (uV M)).run Tryd.prog w = .ok (.bool (decide (N = M))) w := by
  rw [run_eql_struct, show (10000 : Nat) = 9998 + 2 from rfl]
  have h := run_equalIn_words (P := Tryd.prog) w 9998 49 47 4 u256_under Tryd.underlying47 u64_size [limb N 0, limb N 1, limb N 2, limb N 3] [limb M 0, limb M 1, limb M 2, limb M 3] rfl rfl
  rw [words_eq hN hM] at h
  have h' : (Op.equalIn (9998 + 2) 49 (uV N) (uV M)).run Tryd.prog w = .ok (decide (N = M)) w := h
  rw [h']
  rfl
theorem u_neq {N M : Nat} (hN : N < 2 ^ 256) (hM : M < 2 ^ 256) (w : World) : (Go.binOp .neq 49 (uV N) (uV M)).run Tryd.prog w = .ok (.bool (!decide (N = M))) w := by
  rw [run_neq_struct, show (10000 : Nat) = 9998 + 2 from rfl]
  have h := run_equalIn_words (P := Tryd.prog) w 9998 49 47 4 u256_under Tryd.underlying47 u64_size [limb N 0, limb N 1, limb N 2, limb N 3] [limb M 0, limb M 1, limb M 2, limb M 3] rfl rfl
  rw [words_eq hN hM] at h
  have h' : (Op.equalIn (9998 + 2) 49 (uV N) (uV M)).run Tryd.prog w = .ok (decide (N = M)) w := h
  rw [h']
  rfl
/-- No number at all. -/
abbrev u0 : Value := .agg #[.int .u64 0, .int .u64 0, .int .u64 0, .int .u64 0]
theorem uV_zero : uV 0 = u0 := by simp [uV, n64, limb0]
theorem uV_small {n : Nat} (h : n < 2 ^ 64) : uV n = .agg #[n64 n, .int .u64 0, .int .u64 0, .int .u64 0] := by simp [uV, n64, limb_small h]

set_option maxHeartbeats 400000 in
theorem of_any (n : Nat) (w : World) (hn : n < 2 ^ 64) : Calls Tryd.prog 35 #[n64 n] w fun e w' => e = .returned (uV n) ∧ Keep w w' := by
  rw [uV_small hn]
  clear hn
  go_enter Tryd.func35, Tryd.ntmps35
  go_wp2
  have hb : Blk (w.alloc (.cells #[n64 n, .int .u64 0, .int .u64 0, .int .u64 0] 49)) w.heap.size 49 [n64 n, .int .u64 0, .int .u64 0, .int .u64 0] := Blk.new w _ [n64 n, .int .u64 0, .int .u64 0, .int .u64 0]
  exact bodyPost_ret (v := .agg #[n64 n, .int .u64 0, .int .u64 0, .int .u64 0]) (results_cell_row Tryd.results35 _ _ w.heap.size _ _ _ _ rfl hb Tryd.underlying49 rfl (by kernel_rfl)) rfl ⟨rfl, keep_new _ _⟩
end Go.Proofs.YteoilddiilegmaaDoor
