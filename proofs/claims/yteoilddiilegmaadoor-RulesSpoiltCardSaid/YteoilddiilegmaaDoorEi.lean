/- errors.Is of an api.Errno, and rules.wrong. -/
import Derived.Test.YteoilddiilegmaaDoorUA
import Derived.LaidEql
import Derived.Stop.Asserts
import Derived.RowKitTokens
import Derived.Lib.IfaceEq
set_option linter.unusedSimpArgs false
set_option linter.unusedVariables false
namespace Go.Proofs.YteoilddiilegmaaDoor
open Go.RowKit Go.Extern.Stop Go.Stop Go.Extern
attribute [local go_sem ↓] Go.wp_at_zero Go.wp_at_succ

theorem errno_comp : (Tryd.prog.info? 32).map (·.comparable) = some true := by kernel_rfl
theorem ei_typeOf (v : Value) (w : World) : (Extern.ReflectliteType.typeOf #[.iface 32 v]).run Tryd.prog w = .ok (.iface 110 (.agg #[.pointer (some ⟨4, 32, none⟩)])) w := by kernel_rfl
def compE : Array Value → Sem Value := Extern.ReflectliteType.method fun t => do Extern.Rtype.noPackHeld "Comparable" t; pure (.bool (← typeInfo t).comparable)
theorem ei_comparable (w : World) : (compE #[.agg #[.pointer (some ⟨4, 32, none⟩)]]).run Tryd.prog w = .ok (.bool true) w := by kernel_rfl
theorem ei_method (v : Value) (w : World) : (Go.method 268 110 v "Comparable").run Tryd.prog w = .ok (94, v) w := by kernel_rfl
theorem ei_noIs (v : Value) (xT : TypeId) (w : World) : (Instr.typeAssert (.iface 32 v) xT 112 true).run Tryd.prog w = .ok (.tuple #[.nilIface, .bool false]) w := run_typeAssert_lacksB Tryd.underlying112 (by kernel_rfl) (by kernel_rfl) v xT w
theorem ei_noUn (v : Value) (xT : TypeId) (w : World) : (Instr.typeAssert (.iface 32 v) xT 115 true).run Tryd.prog w = .ok (.tuple #[.nilIface, .bool false]) w := run_typeAssert_lacksB Tryd.underlying115 (by kernel_rfl) (by kernel_rfl) v xT w
theorem ei_noUns (v : Value) (xT : TypeId) (w : World) : (Instr.typeAssert (.iface 32 v) xT 117 true).run Tryd.prog w = .ok (.tuple #[.nilIface, .bool false]) w := run_typeAssert_lacksB Tryd.underlying117 (by kernel_rfl) (by kernel_rfl) v xT w

set_option maxRecDepth 100000 in
set_option maxHeartbeats 4000000 in
/-- errors.Is(e, api.OK). -/
theorem errors_Is (e : Int) (w : World) : Calls Tryd.prog 38 #[.iface 32 (.int .i64 e), .iface 32 (.int .i64 0)] w fun x w' => x = .returned (.bool (e == 0)) ∧ w' = w := by
  have h8 := @run_callFunc_extern Tryd.prog 48 _ Extern.ReflectliteType.typeOf Tryd.func48 (by kernel_rfl) (by kernel_rfl) (by kernel_rfl) (by kernel_rfl)
  have h32 := @run_callFunc_extern Tryd.prog 94 _ compE Tryd.func94 (by kernel_rfl) (by kernel_rfl) (by kernel_rfl) (by kernel_rfl)
  have tT := ei_typeOf
  have cT := ei_comparable
  have mR := ei_method
  have nE := ei_noIs
  have uE := ei_noUn
  have vE := ei_noUns
  have heq := Lib.run_eql_iface_int (P := Tryd.prog) w (k := .i64) e 0 Tryd.underlying91 errno_comp Tryd.underlying32
  go_enter Tryd.func38, Tryd.ntmps38
  by_cases h0 : e = 0
  · subst h0
    have hb : ((0 : Int) == 0) = true := rfl
    rw [hb] at heq
    go_wp2

    refine wp_loop_rounds 1 ?_
    rw [rounds_succ]
    go_wp2
    go_ret
    exact ⟨rfl, rfl⟩
  · have hb : (e == 0) = false := by simp [h0]
    rw [hb] at heq ⊢
    clear h0
    go_wp2
    refine wp_loop_rounds 1 ?_
    rw [rounds_succ]
    go_wp2
    go_ret
    exact ⟨rfl, rfl⟩

set_option maxRecDepth 100000 in
set_option maxHeartbeats 4000000 in
theorem wrong_any (e : Int) (w : World) : Calls Tryd.prog 25 #[.int .i64 e] w fun x w' => x = .returned (.bool (e != 0)) ∧ w' = w := by
  go_enter Tryd.func25, Tryd.ntmps25
  go_wp2_with fail
  refine (errors_Is e _).mono ?_
  rintro x w' ⟨rfl, rfl⟩
  go_wp2
  exact bodyPost_ret (v := .bool (e != 0)) (by simp [results, Tryd.results25, bne]) rfl ⟨rfl, rfl⟩

end Go.Proofs.YteoilddiilegmaaDoor
