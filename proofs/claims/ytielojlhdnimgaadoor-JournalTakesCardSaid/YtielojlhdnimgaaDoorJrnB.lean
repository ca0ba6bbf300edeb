/- A record's bytes; bytes compared. -/
import Derived.Test.YtielojlhdnimgaaDoorJrnA
set_option linter.unusedSimpArgs false
set_option linter.unusedVariables false
namespace Go.Proofs.YtielojlhdnimgaaDoor
open Go.RowKit
attribute [local go_sem ↓] Go.wp_at_zero Go.wp_at_succ

theorem bytes_str {A : Option Addr} {l : List UInt8} {w : World} (n c : Nat) (hn : n = l.length) (hr : Rd w A (l.map u8v)) : (convert 22 9 (.slice A n c)).run Tryd.prog w = .ok (.string (str l)) w := by
  subst hn
  exact run_bytes_str Tryd.underlying22 Tryd.underlying5 Tryd.underlying9 _ hr
set_option maxHeartbeats 400000 in
theorem equal_any (A : Option Addr) (a : List UInt8) (n c : Nat) (B : Option Addr) (b : List UInt8) (m d : Nat) (w : World) (ha : Rd w A (a.map u8v)) (hb : Rd w B (b.map u8v)) (hn : n = a.length) (hm : m = b.length) :
    Calls Tryd.prog 37 #[.slice A n c, .slice B m d] w fun e w' => e = .returned (.bool (decide (a = b))) ∧ w = w' := by
  have c1 := bytes_str n c hn ha
  have c2 := bytes_str m d hm hb
  have t := str_beq a b
  clear hn hm
  go_enter Tryd.func37, Tryd.ntmps37
  go_wp2
  go_ret
  exact ⟨ret_bool (by by_cases h : a = b <;> simp [h]), rfl⟩

set_option maxRecDepth 100000 in
set_option maxHeartbeats 1000000 in
theorem rec_any (last : List UInt8) (ls : Array Value) (seq : Int) (h : Hd) (hs : Array Value) (w : World) (hls : HashA last ls) (hll : last.length = 32) (hk : h.ok) (hhs : HdA h hs) (hS : ShaOk w) :
    Calls Tryd.prog 19 #[.agg ls, .int .i64 seq, .agg hs] w fun e w' => ∃ A c, e = .returned (.slice A 128 c) ∧ w'.ownsRow w.heap.size 5 1 (.slice A 128 c) 128 ((recB last seq h).map u8v) ∧ Keep w w' := by
  have R1 : Hid (∀ w', Keep w w' → Calls Tryd.prog 30 #[.agg ls, .int .i64 seq, .agg hs] w' fun e w'' => ∃ A c ds, e = .returned (.tuple #[.slice A 128 c, .agg ds]) ∧ HashA (recSum last seq h) ds ∧ w''.ownsRow w'.heap.size 5 1 (.slice A 128 c) 128 ((recB last seq h).map u8v) ∧ Keep w' w'') := fun w' hk' => record_any last ls seq h hs w' hls hll hk hhs (hS.keep hk')
  generalize recB last seq h = RB at *
  generalize recSum last seq h = RS at *
  obtain ⟨zs, hz1, hz2, hz3, hz4⟩ := zhash_letter
  have hcz := hls.z; have hcn := hls.n; have hci := hls.i; have hdz := hhs.z; have hdn := hhs.n; have hdi := hhs.i
  clear hls hhs hll hk hS hz4
  go_enter Tryd.func19, Tryd.ntmps19
  go_upto_region 1 with fail
  have HL : Hid (Blk ((w.alloc (.cells ls 33)).alloc (.cells hs 44)) w.heap.size 33 ls.toList) := (Blk.new w 33 ls.toList).alloc _
  have HH : Hid (Blk ((w.alloc (.cells ls 33)).alloc (.cells hs 44)) (w.heap.size + 1) 44 hs.toList) := by
    have h1 := Blk.new (w.alloc (.cells ls 33)) 44 hs.toList
    rw [World.size_alloc] at h1
    exact h1
  have kw1 : Keep w ((w.alloc (.cells ls 33)).alloc (.cells hs 44)) := keep_trans (keep_new _ _) (keep_new _ _)
  generalize (w.alloc (.cells ls 33)).alloc (.cells hs 44) = w1 at HL HH kw1 ⊢
  go_wp2_with (first
    | ((with_reducible refine load_arr w.heap.size ls (Eq.trans ?_ rfl) HL.out (.array 32 5) hash_under (arr_row _ _) hci ?_); rfl)
    | ((with_reducible refine load_arr (w.heap.size + 1) hs (Eq.trans ?_ rfl) HH.out _ Tryd.underlying44 rfl hdi ?_); rfl))
  refine (R1.out _ kw1).mono ?_
  rintro e w2 ⟨A2, c2, ds, rfl, hds, own2, k2⟩
  have hez := hds.z; have hen := hds.n
  have hst : (storeCells ⟨w2.heap.size, 0, none⟩ ds.toList 0).run Tryd.prog (w2.alloc (.cells zs 33)) = .ok () (w2.alloc (.cells ds 33)) := run_storeCells_new (P := Tryd.prog) w2 33 zs ds hds.i (hz1.trans hez.symm) (by have := all_oneCell_toArray hds.o; rwa [Array.toArray_toList] at this)
  have Own2 := Lib.hid own2
  clear hds own2
  go_wp2
  go_ret
  exact ⟨A2, c2, rfl, own_lowH (own_keep Own2.out (keep_new _ _)) kw1.size, keep_trans (keep_trans kw1 k2) (keep_new _ _)⟩
end Go.Proofs.YtielojlhdnimgaaDoor
