/- Are logs the same? -/
import Derived.Test.YtbomnldpmkedbaaDoorJrnO
set_option linter.unusedSimpArgs false
set_option linter.unusedVariables false
namespace Go.Proofs.YtbomnldpmkedbaaDoor
open Go.RowKit
attribute [local go_sem ↓] Go.wp_at_zero Go.wp_at_succ

def sameL (b : List UInt8) (ws : List WriteR) (base room n : Int) (last : List UInt8) (b' : List UInt8) (ws' : List WriteR) (base' room' n' : Int) (last' : List UInt8) : Bool :=
  sameD b ws b' ws' && (decide (base = base') && (decide (room = room') && (decide (n = n') && last == last')))

set_option maxRecDepth 100000 in
set_option maxHeartbeats 3000000 in
theorem lsame_any (A : Option Addr) (b : List UInt8) (c : Nat) (PA : Option Addr) (ws : List WriteR) (pc : Nat) (base room n : Int) (last : List UInt8) (ls : Array Value)
    (A' : Option Addr) (b' : List UInt8) (c' : Nat) (PA' : Option Addr) (ws' : List WriteR) (pc' : Nat) (base' room' n' : Int) (last' : List UInt8) (ms : Array Value) (w : World) (h : DOk w A b c PA ws pc) (h' : DOk w A' b' c' PA' ws' pc')
    (hls : LoA (lgCells (.slice A b.length c) (.slice PA ws.length pc) base room n last) ls) (hl : last.length = 32)
    (hms : LoA (lgCells (.slice A' b'.length c') (.slice PA' ws'.length pc') base' room' n' last') ms) (hl' : last'.length = 32) :
    Calls Tryd.prog 38 #[.agg ls, .agg ms] w fun e w' => e = .returned (.bool (sameL b ws base room n last b' ws' base' room' n' last')) ∧ Keep w w' := by
  have T1 : Hid (∀ w', Keep w w' → Calls Tryd.prog 56 #[DV A b.length c PA ws.length pc, DV A' b'.length c' PA' ws'.length pc'] w' fun e w'' => e = .returned (.bool (sameD b ws b' ws')) ∧ Keep w' w'') := fun w' hk => same_any A b c PA ws pc A' b' c' PA' ws' pc' w' (h.keep hk) (h'.keep hk)
  unfold sameL
  generalize sameD b ws b' ws' = SD at *
  have hlz := hls.z; have hln := hls.n; have hli := hls.i
  have hmz := hms.z; have hmn := hms.n; have hmi := hms.i
  have Hls := Lib.hid hls; have Hms := Lib.hid hms
  obtain ⟨lv, hlv⟩ : ∃ lv, HashA last lv := ⟨_, HashA.of hl⟩
  have hvz := hlv.z; have hvn := hlv.n; have hvi := hlv.i
  obtain ⟨mv, hmv⟩ : ∃ mv, HashA last' mv := ⟨_, HashA.of hl'⟩
  have huz := hmv.z; have hun := hmv.n; have hui := hmv.i
  have HE : Hid (∀ w, (Go.binOp .eql 34 (.agg lv) (.agg mv)).run Tryd.prog w = .ok (.bool (last == last')) w) := fun w => hash_eql hlv hmv hl hl' w
  have Hlv := Lib.hid hlv; have Hl := Lib.hid hl; have Hmv := Lib.hid hmv; have Hl' := Lib.hid hl'
  clear hls h hlv hl hms h' hmv hl'
  generalize hbl : b.length = bl at *
  generalize hwl : ws.length = wl at *
  generalize hbl' : b'.length = bl' at *
  generalize hwl' : ws'.length = wl' at *
  clear hbl hwl hbl' hwl'
  go_enter Tryd.func38, Tryd.ntmps38
  go_upto_region 1 with fail
  obtain ⟨w1, hw1⟩ : ∃ w1, w1 = (w.alloc (.cells ls 51)).alloc (.cells ms 51) := ⟨_, rfl⟩
  have HL1 : Hid (Blk w1 w.heap.size 51 (lgCells (.slice A bl c) (.slice PA wl pc) base room n last)) := by rw [hw1, ← Hls.out.l]; exact (Blk.new w _ ls.toList).alloc _
  have HM1 : Hid (Blk w1 (w.heap.size + 1) 51 (lgCells (.slice A' bl' c') (.slice PA' wl' pc') base' room' n' last')) := by
    rw [hw1, ← Hms.out.l]
    have h1 := Blk.new (w.alloc (.cells ls 51)) 51 ms.toList
    rw [World.size_alloc] at h1
    exact h1
  have HK1 : Hid (Keep w w1) := by rw [hw1]; exact keep_trans (keep_new _ _) (keep_new _ _)
  rw [← hw1]
  clear hw1
  obtain ⟨c0, c1, c2, c3, c4⟩ := lg_d HL1.out
  obtain ⟨d0, d1, d2, d3, d4⟩ := lg_d HM1.out
  go_wp2_with fail
  refine (T1.out w1 HK1.out).mono ?_
  rintro e w2 ⟨rfl, k2⟩
  have HL2 := Lib.hid (HL1.out.keep k2); have HM2 := Lib.hid (HM1.out.keep k2); have HK2 := Lib.hid (keep_trans HK1.out k2)
  clear k2 c0 c1 c2 c3 c4 d0 d1 d2 d3 d4
  obtain ⟨p0, p1, c2, c3, c4⟩ := lg_d HL2.out
  clear p0 p1
  obtain ⟨p0, p1, d2, d3, d4⟩ := lg_d HM2.out
  clear p0 p1
  have Hrg : Hid (w2.rangeAt w.heap.size 5 lv.toList) := range_of HL2.out 5 lv.toList (by rw [Hlv.out.l, List.length_map, Hl.out]; exact lg_last Hl.out)
  have Hrm : Hid (w2.rangeAt (w.heap.size + 1) 5 mv.toList) := range_of HM2.out 5 mv.toList (by rw [Hmv.out.l, List.length_map, Hl'.out]; exact lg_last Hl'.out)
  have he := HE.out
  have hgd := hash_guard
  cases SD with
  | false =>
    go_wp2_with fail
    exact bodyPost_ret (v := .bool false) (by simp [results, Tryd.results38]) rfl ⟨by simp, HK2.out⟩
  | true =>
    by_cases h1 : base = base'
    · subst h1
      by_cases h2 : room = room'
      · subst h2
        by_cases h3 : n = n'
        · subst h3
          go_wp2_with (first
            | ((with_reducible refine load_partg w.heap.size 5 lv (Eq.trans ?_ rfl) Hrg.out (.array 32 5) hash_under (arr_row _ _) hvi (Eq.trans ?_ rfl) ?_); rfl; rfl)
            | ((with_reducible refine load_partg (w.heap.size + 1) 5 mv (Eq.trans ?_ rfl) Hrm.out (.array 32 5) hash_under (arr_row _ _) hui (Eq.trans ?_ rfl) ?_); rfl; rfl))
          exact bodyPost_ret (v := .bool (last == last')) (by simp [results, Tryd.results38]) rfl ⟨by simp, HK2.out⟩
        · have hn2 : (n == n') = false := by simpa using h3
          go_wp2_with fail
          exact bodyPost_ret (v := .bool false) (by simp [results, Tryd.results38]) rfl ⟨by simp [h3], HK2.out⟩
      · have hn2 : (room == room') = false := by simpa using h2
        go_wp2_with fail
        exact bodyPost_ret (v := .bool false) (by simp [results, Tryd.results38]) rfl ⟨by simp [h2], HK2.out⟩
    · have hn2 : (base == base') = false := by simpa using h1
      go_wp2_with fail
      exact bodyPost_ret (v := .bool false) (by simp [results, Tryd.results38]) rfl ⟨by simp [h1], HK2.out⟩
end Go.Proofs.YtbomnldpmkedbaaDoor
