import Derived.Test.YtofcjfkakmlbbaaScrD
import Derived.Deep.QuietTactic
import Derived.BigQuiet
namespace Go.Proofs.Ytofcjfkakmlbbaa
open Go.RowKit

def StepR.pl (s : StepR) : Int × Int × Int × List UInt8 := (s.k, s.p, s.n, s.d)

set_option maxRecDepth 100000 in
set_option maxHeartbeats 2000000 in
theorem same_any (A B : Option Addr) (vs us : List StepR) (ca cb : Nat) (w : World) (hl : vs.length ≤ 100000) (hl2 : us.length ≤ 100000) (hr : Rd w A (vs.flatMap StepR.cells)) (hs : Rd w B (us.flatMap StepR.cells))
    (ho : ∀ s ∈ vs, Ok w s) (ho2 : ∀ s ∈ us, Ok w s) :
    Calls Try.prog 13 #[.slice A vs.length ca, .slice B us.length cb] w fun e w' =>
      e = .returned (.bool (decide (vs.map StepR.pl = us.map StepR.pl))) ∧ Keep w w' := by
  by_cases hne : vs.length = us.length
  · go_enter Try.func13, Try.ntmps13
    have hne1 : ((vs.length : Int) != (us.length : Int)) = false := by simp [hne]
    have hne2 := Lib.hid hne
    clear hne
    go_wp2
    go_loopw [5] (fun i wr => ∃ k : Nat, k ≤ vs.length ∧ i = .int .i64 k ∧ (vs.take k).map StepR.pl = (us.take k).map StepR.pl ∧ ∃ n, wr = w.drewN n)
      (fun i _ => vs.length - (intOf i).toNat)
    case atStart => exact ⟨0, Nat.zero_le _, rfl, rfl, 0, rfl⟩
    case round =>
      obtain ⟨k, hk, rfl, heq, n, rfl⟩ := hrel
      have Heq := Lib.hid heq; clear heq
      by_cases hlt : k < vs.length
      · have hlt2 : k < us.length := by have := hne2.out; omega
        obtain ⟨b, off, rfl, hb, F⟩ := StepR.at4 hr hlt
        obtain ⟨b2, off2, rfl, hb2, F2⟩ := StepR.at4 hs hlt2
        have o1 := ho _ (List.getElem_mem hlt)
        have o2 := ho2 _ (List.getElem_mem hlt2)
        have s1 : (vs.map StepR.pl)[k]? = some vs[k].pl := by simp [hlt]
        have s2 : (us.map StepR.pl)[k]? = some us[k].pl := by simp [hlt2]
        have t1 := take_flat (fun s => [StepR.pl s]) vs k hlt
        have t2 := take_flat (fun s => [StepR.pl s]) us k hlt2
        simp only [← List.map_eq_flatMap] at t1 t2
        generalize vs[k] = x at F o1 s1 t1
        generalize us[k] = y at F2 o2 s2 t2
        have HS1 := Lib.hid s1; have HS2 := Lib.hid s2; have T1 := Lib.hid t1; have T2 := Lib.hid t2
        obtain ⟨c0, c1, c2, c3⟩ := F w (Below.refl _ _)
        obtain ⟨d0, d1, d2, d3⟩ := F2 w (Below.refl _ _)
        have v1 : ∀ n, (convert 23 9 (.slice x.A x.d.length x.cap)).run Try.prog (w.drewN n) = .ok (.string (str x.d)) (w.drewN n) := fun n => run_bytes_str Try.underlying23 Try.underlying5 Try.underlying9 _ (Rd.drewN o1 n)
        have v2 : ∀ n, (convert 23 9 (.slice y.A y.d.length y.cap)).run Try.prog (w.drewN n) = .ok (.string (str y.d)) (w.drewN n) := fun n => run_bytes_str Try.underlying23 Try.underlying5 Try.underlying9 _ (Rd.drewN o2 n)
        clear F F2 s1 s2 t1 t2 hr hs ho ho2 o1 o2
        have fin : ∀ (_ : ¬ x.pl = y.pl), decide (vs.map StepR.pl = us.map StepR.pl) = false := by
          intro h
          refine decide_eq_false fun he => h ?_
          have h1 := HS1.out; rw [he, HS2.out] at h1; injection h1 with h1; exact h1.symm
        have Fin := Lib.hid fin; clear fin
        by_cases e1 : x.k = y.k
        · have e1' : (x.k != y.k) = false := by simp [e1]
          have E1 := Lib.hid e1; clear e1
          by_cases e2 : x.p = y.p
          · have e2' : (x.p != y.p) = false := by simp [e2]
            have E2 := Lib.hid e2; clear e2
            by_cases e3 : x.n = y.n
            · have e3' : (x.n != y.n) = false := by simp [e3]
              have E3 := Lib.hid e3; clear e3
              by_cases e4 : x.d = y.d
              · have e4' : (x.d == y.d) = true := by simp [e4]
                have E4 := Lib.hid e4; clear e4
                go_wp2
                go_quiet (fail)
                go_wp2
                go_roundw
                case rel => exact ⟨k + 1, by omega, by go_num, by rw [T1.out, T2.out, Heq.out]; simp [StepR.pl, E1.out, E2.out, E3.out, E4.out], _, rfl⟩
                case measure => simp [intOf]; omega
              · have e4' : (x.d == y.d) = false := by simp [e4]
                have E4 := Lib.hid e4; clear e4
                go_wp2
                go_quiet (fail)
                go_wp2
                go_ret
                exact ⟨ret_bool (Fin.out fun h => E4.out (congrArg (·.2.2.2) h)).symm, below_drewN (below_drewN (Below.refl _ _) _) _⟩
            · have e3' : (x.n != y.n) = true := by simp [e3]
              have E3 := Lib.hid e3; clear e3
              go_wp2
              go_quiet (fail)
              go_wp2
              go_ret
              exact ⟨ret_bool (Fin.out fun h => E3.out (congrArg (·.2.2.1) h)).symm, below_drewN (below_drewN (Below.refl _ _) _) _⟩
          · have e2' : (x.p != y.p) = true := by simp [e2]
            have E2 := Lib.hid e2; clear e2
            go_wp2
            go_quiet (fail)
            go_wp2
            go_ret
            exact ⟨ret_bool (Fin.out fun h => E2.out (congrArg (·.2.1) h)).symm, below_drewN (below_drewN (Below.refl _ _) _) _⟩
        · have e1' : (x.k != y.k) = true := by simp [e1]
          have E1 := Lib.hid e1; clear e1
          go_wp2
          go_quiet (fail)
          go_wp2
          go_ret
          exact ⟨ret_bool (Fin.out fun h => E1.out (congrArg (·.1) h)).symm, below_drewN (below_drewN (Below.refl _ _) _) _⟩
      · have hk' : vs.take k = vs := List.take_of_length_le (by omega)
        have hk2 : us.take k = us := List.take_of_length_le (by have := hne2.out; omega)
        have hh := Heq.out
        rw [hk', hk2] at hh
        have Hh := Lib.hid hh
        clear hk' hk2 hh
        go_wp2
        go_ret
        exact ⟨ret_bool (decide_eq_true Hh.out).symm, below_drewN (Below.refl _ _) _⟩
  · have hne1 : ((vs.length : Int) != (us.length : Int)) = true := by simp; omega
    have hfin : decide (vs.map StepR.pl = us.map StepR.pl) = false := decide_eq_false fun h => hne (by simpa using congrArg List.length h)
    have Hfin := Lib.hid hfin
    clear hne hfin
    go_enter Try.func13, Try.ntmps13
    go_wp2
    go_ret
    exact ⟨ret_bool Hfin.out.symm, Below.refl _ _⟩
end Go.Proofs.Ytofcjfkakmlbbaa
