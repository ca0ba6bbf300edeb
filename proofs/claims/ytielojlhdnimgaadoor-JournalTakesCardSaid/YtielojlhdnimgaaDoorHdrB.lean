/- A header's bytes laid, and taken. -/
import Derived.Test.YtielojlhdnimgaaDoorHdrA
import Derived.Lib.EndianBits
set_option linter.unusedSimpArgs false
set_option linter.unusedVariables false
namespace Go.Proofs.YtielojlhdnimgaaDoor
open Go.RowKit
attribute [local go_sem ↓] Go.wp_at_zero Go.wp_at_succ

theorem z80_letter : ∃ zs : Array Value, zs.size = 80 ∧ (∀ w, (zeroValue 83).run Tryd.prog w = .ok (.agg zs) w) ∧ ¬ zs = #[] :=
  ⟨z80, z80_size, z80_zero, fun h => by have := z80_size; rw [h] at this; cases this⟩

set_option maxRecDepth 100000 in
set_option maxHeartbeats 1000000 in
theorem hput_any (h : Hd) (cs : Array Value) (w : World) (hk : h.ok) (hcs : HdA h cs) :
    Calls Tryd.prog 21 #[.agg cs] w fun e w' => ∃ A, e = .returned (.slice A 80 80) ∧ Rd w' A ((hputL h).map u8v) ∧ Keep w w' := by
  have hpl := hputL_len hk
  have A1 : Hid (∀ w', Calls Tryd.prog 38 #[.agg cs] w' fun e w'' => e = .returned (.agg ((hputL h).map u8v).toArray) ∧ Keep w' w'') := fun w' => array_any h cs w' hk hcs
  generalize hputL h = p at *
  obtain ⟨ps, hps⟩ : ∃ ps : Array Value, ps.toList = p.map u8v := ⟨(p.map u8v).toArray, rfl⟩
  have hpz : ps.size = 80 := by rw [← Array.length_toList, hps, List.length_map, hpl]
  have hpn : ¬ ps = #[] := by intro h; rw [h] at hpz; simp at hpz
  have hpi : (Tryd.prog.info? 83).map (·.size) = some ps.size := by rw [hpz]; kernel_rfl
  rw [show (p.map u8v).toArray = ps by rw [← hps, Array.toArray_toList]] at A1
  obtain ⟨zs, hz1, hz2, hz3⟩ := z80_letter
  have hst : ∀ ww : World, (storeCells ⟨ww.heap.size, 0, none⟩ ps.toList 0).run Tryd.prog (ww.alloc (.cells zs 83)) = .ok () (ww.alloc (.cells ps 83)) := fun ww =>
    run_storeCells_new (P := Tryd.prog) ww 83 zs ps hpi (hz1.trans hpz.symm) (by have := all_oneCell_toArray (show ∀ v ∈ ps.toList, v.oneCell' = true by rw [hps]; exact one_w8 _); rwa [Array.toArray_toList] at this)
  have Hps := Lib.hid hps
  have hcz := hcs.z; have hcn := hcs.n; have hci := hcs.i
  clear hps hpi hcs hpl
  go_enter Tryd.func21, Tryd.ntmps21
  have Hbx : Hid (Blk (w.alloc (.cells cs 44)) w.heap.size 44 cs.toList) := Blk.new w _ cs.toList
  go_upto_region 1 with fail
  go_wp2_with ((with_reducible refine load_arr w.heap.size cs (Eq.trans ?_ rfl) Hbx.out _ Tryd.underlying44 rfl hci ?_); rfl)
  refine (A1.out _).mono ?_
  rintro e w1 ⟨rfl, k1⟩
  have kw1 := keep_trans (keep_new w _) k1
  go_wp2
  go_ret
  refine ⟨_, rfl, ?_, keep_trans kw1 (keep_new _ _)⟩
  rw [← Hps.out]
  exact (show Blk _ w1.heap.size 83 ps.toList from Blk.new w1 _ ps.toList).rd

theorem or_add (k : Nat) (hk : k < 4) (n y : Int) (h0 : 0 ≤ n) (h1 : n < 2 ^ (8 * k)) (h2 : 0 ≤ y) (h3 : y < 256) : bits .or .u32 n (y * 2 ^ (8 * k) % 4294967296) = n + y * 2 ^ (8 * k) := by
  rcases (show k = 0 ∨ k = 1 ∨ k = 2 ∨ k = 3 by omega) with rfl | rfl | rfl | rfl
  · obtain rfl : n = 0 := by simp at h1; omega
    have e := u32_or 0 (y * 2 ^ (8 * 0) % 4294967296) (by omega) (by omega) (by omega) (by omega)
    rw [e]; simp; omega
  · simp only [show (8 * 1 : Nat) = 8 from rfl, show ((2 : Int) ^ 8) = 256 from rfl] at *
    rw [u32_or8 _ _ h0 h1 (by omega) (by omega) (by omega)]; omega
  · simp only [show (8 * 2 : Nat) = 16 from rfl, show ((2 : Int) ^ 16) = 65536 from rfl] at *
    rw [u32_or16 _ _ h0 h1 (by omega) (by omega) (by omega)]; omega
  · simp only [show (8 * 3 : Nat) = 24 from rfl, show ((2 : Int) ^ 24) = 16777216 from rfl] at *
    rw [u32_or24 _ _ h0 h1 (by omega) (by omega) (by omega)]; omega

/-- The number in the first k of the bytes. -/
def numE (b : List UInt8) : Nat → Int
  | 0 => 0
  | k + 1 => numE b k + (b.getD k 0).toNat * 2 ^ (8 * k)
theorem numE_rng (b : List UInt8) (k : Nat) : 0 ≤ numE b k ∧ numE b k < 2 ^ (8 * k) := by
  induction k with
  | zero => simp [numE]
  | succ k ih =>
    have hy := (b.getD k 0).toNat_lt
    have hp : (0 : Int) < 2 ^ (8 * k) := Int.pow_pos (by omega)
    have e : (2 : Int) ^ (8 * (k + 1)) = 256 * 2 ^ (8 * k) := by rw [Nat.mul_succ, Int.pow_add]; omega
    rw [numE, e]
    have h1 : ((b.getD k 0).toNat : Int) * 2 ^ (8 * k) ≤ 255 * 2 ^ (8 * k) := Int.mul_le_mul_of_nonneg_right (by omega) (by omega)
    have h2 : (0 : Int) ≤ ((b.getD k 0).toNat : Int) * 2 ^ (8 * k) := Int.mul_nonneg (by omega) (by omega)
    omega
def num32 (b : List UInt8) : UInt32 := w32 (numE b 4)

set_option maxRecDepth 100000 in
set_option maxHeartbeats 1000000 in
theorem number_any (A : Option Addr) (b : List UInt8) (n c : Nat) (w : World) (hn : n = b.length) (hl : 4 ≤ b.length) (hr : Rd w A (b.map u8v)) :
    Calls Tryd.prog 45 #[.slice A n c] w fun e w' => e = .returned (u32v (num32 b)) ∧ w = w' := by
  obtain ⟨g, off, rfl, hg, hc⟩ := hr.at (k := 0) (by simp; omega)
  have hn4 : 4 ≤ n := by omega
  clear hn
  go_enter Tryd.func45, Tryd.ntmps45
  go_wp2_with fail
  go_loopw [3, 5] (fun v i wr => ∃ k : Nat, k ≤ 4 ∧ i = .int .i64 k ∧ v = .int .u32 (numE b k) ∧ w = wr) (fun _ i _ => 4 - (intOf i).toNat)
  case atStart => exact ⟨0, by omega, rfl, rfl, rfl⟩
  case round =>
    obtain ⟨k, hk, rfl, rfl, rfl⟩ := hrel
    by_cases hlt : k < 4
    · obtain ⟨y, hy⟩ : ∃ y, b[k]? = some y := ⟨_, List.getElem?_eq_getElem (by omega)⟩
      have c0 := hc k (by simp; omega)
      rw [show (b.map u8v)[k]'(by simp; omega) = u8v y by
        obtain ⟨_, h⟩ := List.getElem?_eq_some_iff.1 hy
        simp [h]] at c0
      have hy2 := y.toNat_lt
      have hr1 := numE_rng b k
      have hor := or_add k hlt (numE b k) y.toNat hr1.1 hr1.2 (by omega) (by omega)
      have Hne := Lib.hid (show numE b (k + 1) = numE b k + y.toNat * 2 ^ (8 * k) by rw [numE, getD_of hy])
      generalize numE b k = e at *
      clear hy hr1 hc hr
      go_wp2
      go_roundw
      case rel => exact ⟨k + 1, by omega, by go_num, by rw [Hne.out], by trivial⟩
      case measure => simp [intOf]; omega
    · have Hk := Lib.hid (show k = 4 by omega)
      have hr1 := numE_rng b 4
      go_wp2
      go_ret
      refine ⟨?_, rfl⟩
      rw [Hk.out]
      exact ret_int (w32_of hr1.1 (by have := hr1.2; omega))
end Go.Proofs.YtielojlhdnimgaaDoor
