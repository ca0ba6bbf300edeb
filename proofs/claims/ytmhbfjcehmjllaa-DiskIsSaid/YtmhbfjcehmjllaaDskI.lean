import Derived.Test.YtmhbfjcehmjllaaDskH
set_option linter.unusedSimpArgs false
set_option linter.unusedVariables false
namespace Go.Proofs.Ytmhbfjcehmjllaa
open Go.RowKit
attribute [local go_sem ↓] Go.wp_at_zero Go.wp_at_succ

def fewD (nb np : Nat) : Bool := decide (nb ≤ 9600 ∧ np ≤ 300)
set_option maxHeartbeats 400000 in
theorem few_any (A : Option Addr) (n c : Nat) (PA : Option Addr) (m pc : Nat) (w : World) (hn : n ≤ 9223372036854775807) (hm : m ≤ 9223372036854775807) :
    Calls Try.prog 5 #[DV A n c PA m pc] w fun e w' => e = .returned (.bool (fewD n m)) ∧ Keep w w' := by
  by_cases h1 : n ≤ 9600
  · by_cases h2 : m ≤ 300
    · have H := Lib.hid (show fewD n m = true from decide_eq_true ⟨h1, h2⟩)
      go_enter Try.func5, Try.ntmps5
      go_wp2
      go_ret
      exact ⟨ret_bool (by rw [H.out]; simp; omega), keep_new _ _⟩
    · have H := Lib.hid (show fewD n m = false from decide_eq_false (by omega))
      have h2' : decide (m ≤ 300) = false := decide_eq_false h2
      go_enter Try.func5, Try.ntmps5
      go_wp2
      go_ret
      exact ⟨ret_bool (by rw [H.out]; simp; omega), keep_new _ _⟩
  · have H := Lib.hid (show fewD n m = false from decide_eq_false (by omega))
    have h1' : decide (n ≤ 9600) = false := decide_eq_false h1
    go_enter Try.func5, Try.ntmps5
    go_wp2
    go_ret
    exact ⟨ret_bool H.out.symm, keep_new _ _⟩

theorem bcv {A : Option Addr} {l : List UInt8} {w : World} (c : Nat) (hr : Rd w A (l.map u8v)) : (convert 22 9 (.slice A l.length c)).run Try.prog w = .ok (.string (str l)) w :=
  run_bytes_str Try.underlying22 Try.underlying5 Try.underlying9 _ hr

def sameD (b : List UInt8) (ws : List WriteR) (b' : List UInt8) (ws' : List WriteR) : Bool := decide (b = b' ∧ ws.map WriteR.pl = ws'.map WriteR.pl)

set_option maxRecDepth 100000 in
set_option maxHeartbeats 2000000 in
theorem same_any (A : Option Addr) (b : List UInt8) (c : Nat) (PA : Option Addr) (ws : List WriteR) (pc : Nat) (A' : Option Addr) (b' : List UInt8) (c' : Nat) (PA' : Option Addr) (ws' : List WriteR) (pc' : Nat) (w : World) (h : DOk w A b c PA ws pc) (h' : DOk w A' b' c' PA' ws' pc') :
    Calls Try.prog 13 #[DV A b.length c PA ws.length pc, DV A' b'.length c' PA' ws'.length pc'] w fun e w' => e = .returned (.bool (sameD b ws b' ws')) ∧ Keep w w' := by
  have hpl := h.pl; have hpm := h.pm; have hpl' := h'.pl; have hpm' := h'.pm
  unfold maxLen at hpm hpm'
  have hcv : ∀ o o', (convert 22 9 (.slice A b.length c)).run Try.prog ((w.alloc o).alloc o') = .ok (.string (str b)) ((w.alloc o).alloc o') := fun o o' => bcv c ((h.rb.keep (keep_new _ _)).keep (keep_new _ _))
  have hcv' : ∀ o o', (convert 22 9 (.slice A' b'.length c')).run Try.prog ((w.alloc o).alloc o') = .ok (.string (str b')) ((w.alloc o).alloc o') := fun o o' => bcv c' ((h'.rb.keep (keep_new _ _)).keep (keep_new _ _))
  have hk0 : ∀ o o', Keep w ((w.alloc o).alloc o') := fun o o' => keep_trans (keep_new _ _) (keep_new _ _)
  by_cases hb : b = b'
  · subst hb
    by_cases hl : ws.length = ws'.length
    · have hlb : ((ws.length : Int) != (ws'.length : Int)) = false := by simp; omega
      have Hl := Lib.hid hl; clear hl
      have hll : ws.length ≤ ws'.length := by have := Hl.out; omega
      go_enter Try.func13, Try.ntmps13
      go_wp2
      clear hcv hcv'
      obtain ⟨w1, hw1⟩ : ∃ w1, w1 = (w.alloc (.cells #[.slice A b.length c, .slice PA ws.length pc] 25)).alloc (.cells #[.slice A' b.length c', .slice PA' ws'.length pc'] 25) := ⟨_, rfl⟩
      have k1 : Keep w w1 := by rw [hw1]; exact hk0 _ _
      have e0 : w1.cell? ⟨w.heap.size, 1, none⟩ = some (.slice PA ws.length pc) := by rw [hw1]; go_simp
      have e1 : w1.cell? ⟨w.heap.size + 1, 1, none⟩ = some (.slice PA' ws'.length pc') := by rw [hw1]; go_simp
      have hs1 : w1.heap.size = w.heap.size + 2 := by rw [hw1]; simp
      have Hs1 := Lib.hid hs1; clear hs1
      rw [← hw1]
      clear hw1 hk0
      go_loopw [5] (fun i wr => ∃ k : Nat, k ≤ ws.length ∧ i = .int .i64 k ∧ Keep w1 wr ∧ (ws.take k).map WriteR.pl = (ws'.take k).map WriteR.pl) (fun i _ => ws.length - (intOf i).toNat)
      case atStart => exact ⟨0, Nat.zero_le _, rfl, Below.refl _ _, by simp⟩
      case round =>
        obtain ⟨k, hk, rfl, hkr, heq⟩ := hrel
        have Heq := Lib.hid heq; clear heq
        have r0 := keep_cell hkr e0; have r1 := keep_cell hkr e1
        by_cases hlt : k < ws.length
        · have hlt' : k < ws'.length := by omega
          obtain ⟨bp, off, rfl, hbb, F⟩ := WriteR.at2 h.rp hlt
          obtain ⟨bp', off', rfl, hbb', F'⟩ := WriteR.at2 h'.rp hlt'
          have hx := h.ok _ (List.getElem_mem hlt); have hx' := h'.ok _ (List.getElem_mem hlt')
          have hts : (ws.take (k + 1)).map WriteR.pl = (ws.take k).map WriteR.pl ++ [ws[k].pl] := by rw [List.take_succ_eq_append_getElem hlt, List.map_append]; rfl
          have hts' : (ws'.take (k + 1)).map WriteR.pl = (ws'.take k).map WriteR.pl ++ [ws'[k].pl] := by rw [List.take_succ_eq_append_getElem hlt', List.map_append]; rfl
          have hno : ws[k].pl ≠ ws'[k].pl → sameD b ws b ws' = false := fun hn => decide_eq_false fun hh => hn (by
            have h1 := congrArg (fun l => l[k]?) hh.2
            simp [hlt, hlt'] at h1
            exact h1)
          generalize ws[k] = x at F hx hts hno
          generalize ws'[k] = x' at F' hx' hts' hno
          have kr := keep_trans k1 hkr
          obtain ⟨c0, c1⟩ := F wr kr; obtain ⟨c0', c1'⟩ := F' wr kr
          have Hts := Lib.hid hts; have Hts' := Lib.hid hts'; have Hno := Lib.hid hno
          clear F F' hts hts' hno
          have a0 := aft_cell r0; have a1 := aft_cell r1
          have a2 := aft_cell c0; have a3 := aft_cell c1; have a4 := aft_cell c0'; have a5 := aft_cell c1'
          have v1 : ∀ y, (convert 22 9 (.slice x.A x.d.length x.cap)).run Try.prog (aft wr y) = .ok (.string (str x.d)) (aft wr y) := fun y => bcv _ (hx.1.keep (keep_trans kr (aft_keep _ _)))
          have v2 : ∀ y, (convert 22 9 (.slice x'.A x'.d.length x'.cap)).run Try.prog (aft wr y) = .ok (.string (str x'.d)) (aft wr y) := fun y => bcv _ (hx'.1.keep (keep_trans kr (aft_keep _ _)))
          by_cases q1 : x.at_ = x'.at_
          · have q1' : (x.at_ != x'.at_) = false := bne_eq_false_iff_eq.2 q1
            by_cases q2 : x.d = x'.d
            · have q2' : (x.d == x'.d) = true := beq_iff_eq.2 q2
              have Q := Lib.hid (show x.pl = x'.pl by unfold WriteR.pl; rw [q1, q2])
              clear q1 q2
              go_wp2
              refine wp_region_aft (by kernel_rfl) (by kernel_rfl) wr (Below.refl _ _) ?_
              repeat (go_big_quiet_step (fail))
              refine wpQuiet_nil ?_
              rintro _ ⟨y, rfl⟩
              have hk2 := aft_keep wr y
              generalize aft wr y = w2 at hk2 ⊢
              clear a0 a1 a2 a3 a4 a5 v1 v2
              go_wp2
              go_roundw
              case rel => exact ⟨k + 1, by omega, by go_num, keep_trans hkr hk2, by rw [Hts.out, Hts'.out, Heq.out, Q.out]⟩
              case measure => simp [intOf]; omega
            · have q2' : (x.d == x'.d) = false := beq_eq_false_iff_ne.2 q2
              have Q := Lib.hid (Hno.out (fun hh => q2 (congrArg Prod.snd hh)))
              clear q1 q2
              go_wp2
              refine wp_region_aft (by kernel_rfl) (by kernel_rfl) wr (Below.refl _ _) ?_
              repeat (go_big_quiet_step (fail))
              refine wpQuiet_nil ?_
              rintro _ ⟨y, rfl⟩
              have hk2 := aft_keep wr y
              generalize aft wr y = w2 at hk2 ⊢
              clear a0 a1 a2 a3 a4 a5 v1 v2
              go_wp2
              go_ret
              exact ⟨ret_bool Q.out.symm, keep_trans kr hk2⟩
          · have q1' : (x.at_ != x'.at_) = true := bne_iff_ne.2 q1
            have Q := Lib.hid (Hno.out (fun hh => q1 (congrArg Prod.fst hh)))
            clear q1
            go_wp2
            refine wp_region_aft (by kernel_rfl) (by kernel_rfl) wr (Below.refl _ _) ?_
            repeat (go_big_quiet_step (fail))
            refine wpQuiet_nil ?_
            rintro _ ⟨y, rfl⟩
            have hk2 := aft_keep wr y
            generalize aft wr y = w2 at hk2 ⊢
            clear a0 a1 a2 a3 a4 a5 v1 v2
            go_wp2
            go_ret
            exact ⟨ret_bool Q.out.symm, keep_trans kr hk2⟩
        · obtain rfl : k = ws.length := by omega
          have Q := Lib.hid (show sameD b ws b ws' = true from decide_eq_true ⟨rfl, by
            have h1 := Heq.out
            rw [List.take_length] at h1
            rw [h1, Hl.out, List.take_length]⟩)
          go_wp2
          go_ret
          exact ⟨ret_bool Q.out.symm, keep_trans k1 hkr⟩
    · have hlb : ((ws.length : Int) != (ws'.length : Int)) = true := by simp; omega
      have Q := Lib.hid (show sameD b ws b ws' = false from decide_eq_false fun hh => hl (by simpa using congrArg List.length hh.2))
      clear hl
      go_enter Try.func13, Try.ntmps13
      go_wp2
      go_ret
      exact ⟨ret_bool Q.out.symm, hk0 _ _⟩
  · have hbb : (b == b') = false := beq_eq_false_iff_ne.2 hb
    have Q := Lib.hid (show sameD b ws b' ws' = false from decide_eq_false fun hh => hb hh.1)
    go_enter Try.func13, Try.ntmps13
    go_wp2
    go_ret
    exact ⟨ret_bool Q.out.symm, hk0 _ _⟩
end Go.Proofs.Ytmhbfjcehmjllaa
