/- SHA-256: the beginning, the padding. -/
import Derived.Test.YtielojlhdnimgaaDoorShaB
set_option linter.unusedSimpArgs false
set_option linter.unusedVariables false
namespace Go.Proofs.YtielojlhdnimgaaDoor
open Go.RowKit
attribute [local go_sem ↓] Go.wp_at_zero Go.wp_at_succ

theorem byteW : ElT Tryd.prog 22 5 (.int .u8 0) 1 1 := ElT.mk' Tryd.underlying22 (by kernel_rfl) rfl (by omega)
theorem one_w8 (l : List UInt8) : ∀ u ∈ l.map u8v, u.oneCell' = true := by
  intro u hu; obtain ⟨x, _, rfl⟩ := List.mem_map.1 hu; rfl
def zb (n : Nat) : Array Value := madeCells #[.int .u8 0] (n * 1)
theorem zb_list (n : Nat) : (zb n).toList = (List.replicate n (0 : UInt8)).map u8v := by
  apply List.ext_getElem
  · simp [zb, madeCells]
  · intro i h1 h2
    simp [zb, madeCells, Nat.mod_one]
theorem zb_blk (w : World) (n : Nat) : Blk (w.alloc (.cells (zb n) 5)) w.heap.size 5 ((List.replicate n (0 : UInt8)).map u8v) := by
  rw [← zb_list]; exact Blk.new w _ (zb n).toList
theorem make_bytes (k c : Nat) (hk : k ≤ c) (hc : c ≤ 1000000) (W : World) : (Instr.makeSlice 22 (.int .i64 (k : Int)) (.int .i64 (c : Int))).run Tryd.prog W = .ok (.slice (some ⟨W.heap.size, 0, none⟩) k c) (W.alloc (.cells (zb c) 5)) := by
  rw [byteW.make k c hk (by omega) (by omega) W]; rfl
theorem make_blk (k c : Nat) (i j : Int) (hi : i = k) (hj : j = c) (hk : k ≤ c) (hc : c ≤ 1000000) (W : World) : ∃ W', (Instr.makeSlice 22 (.int .i64 i) (.int .i64 j)).run Tryd.prog W = .ok (.slice (some ⟨W.heap.size, 0, none⟩) k c) W' ∧
    Blk W' W.heap.size 5 ((List.replicate c (0 : UInt8)).map u8v) ∧ Keep W W' ∧ W'.heap.size = W.heap.size + 1 := by
  subst hi hj
  exact ⟨_, make_bytes k c hk hc W, zb_blk W c, keep_new _ _, by simp⟩
/-- A number as a byte. -/
def w8 (n : Int) : UInt8 := UInt8.ofNat n.toNat
theorem w8_of {n : Int} (h0 : 0 ≤ n) (h1 : n ≤ 255) : n = ((w8 n).toNat : Int) := by
  unfold w8; rw [UInt8.toNat_ofNat']; omega
theorem set_map8 (l : List UInt8) (k : Nat) (E : Int) (h0 : 0 ≤ E) (h1 : E ≤ 255) : (l.set k (w8 E)).map u8v = (l.map u8v).set k (.int .u8 E) := by
  rw [List.map_set]; unfold u8v; rw [← w8_of h0 h1]

/-- A state: its words, what is left, how many bytes. -/
abbrev SV (v : H8) (A : Option Addr) (n c : Nat) (N : Int) : Value := .agg #[u32v v.a, u32v v.b, u32v v.c, u32v v.d, u32v v.e, u32v v.f, u32v v.g, u32v v.h, .slice A n c, .int .u64 N]
def h0V : H8 := ⟨1779033703, 3144134277, 1013904242, 2773480762, 1359893119, 2600822924, 528734635, 1541459225⟩
def stL : Nat → List UInt32
  | 0 => [0, 0, 0, 0, 0, 0, 0, 0]
  | k + 1 => (stL k).set k (hTab.getD k 0)
theorem stL_len (k : Nat) : (stL k).length = 8 := by
  induction k with
  | zero => rfl
  | succ k ih => rw [stL, List.length_set, ih]
theorem stL_8 : stL 8 = h0V.l := by decide

set_option maxRecDepth 100000 in
set_option maxHeartbeats 1000000 in
theorem start_any (w : World) (hS : ShaOk w) : Calls Tryd.prog 50 #[] w fun e w' => e = .returned (SV h0V none 0 0 0) ∧ Keep w w' := by
  go_enter Tryd.func50, Tryd.ntmps50
  go_wp2_with fail
  go_loopw [3] (fun i wr => ∃ k : Nat, k ≤ 8 ∧ i = .int .i64 k ∧ Keep w wr ∧ Blk wr w.heap.size 96 ((stL 0).map u32v ++ ([.slice none 0 0, .int .u64 0] : List Value)) ∧ Blk wr (w.heap.size + 1) 96 ((stL k).map u32v ++ ([.slice none 0 0, .int .u64 0] : List Value))) (fun i _ => 8 - (intOf i).toNat)
  case atStart => 
    refine ⟨0, by omega, rfl, keep_trans (keep_new _ _) (keep_new _ _), (Blk.new w _ ((stL 0).map u32v ++ ([.slice none 0 0, .int .u64 0] : List Value))).alloc _, ?_⟩
    have h := Blk.new (w.alloc (.cells ((stL 0).map u32v ++ ([.slice none 0 0, .int .u64 0] : List Value)).toArray 96)) 96 ((stL 0).map u32v ++ ([.slice none 0 0, .int .u64 0] : List Value))
    rw [World.size_alloc] at h
    exact h
  case round =>
    obtain ⟨k, hk, rfl, hkr, hbr, hbs⟩ := hrel
    by_cases hlt : k < 8
    · have hst := stL_len k
      have hsu := Lib.hid (show stL (k + 1) = (stL k).set k (hTab.getD k 0) from rfl)
      have hh : ∀ w', Keep w w' → Calls Tryd.prog 54 #[.int .i64 k] w' fun e w'' => e = .returned (u32v (hTab.getD k 0)) ∧ w' = w'' := fun w' h => initial_any k w' (hS.keep h) hlt
      generalize hTab.getD k 0 = y at hh hsu
      obtain ⟨o, ho⟩ : ∃ o, (stL k)[k]? = some o := ⟨_, List.getElem?_eq_getElem (by omega)⟩
      have c0 := hbs.cell k
      rw [List.getElem?_append_left (by rw [List.length_map, hst]; exact hlt), List.getElem?_map, ho, Option.map_some] at c0
      have f0 := hbs.frozen k
      have Hr := Lib.hid hbr; have Hs := Lib.hid hbs; have Hst := Lib.hid hst; have Hh := Lib.hid hh
      clear hbr hbs hst hh ho
      go_wp2_with (go_at_call 54; refine (Hh.out _ hkr).mono ?_; rintro e w3 ⟨rfl, rfl⟩)
      go_roundw
      case rel =>
        refine ⟨k + 1, by omega, by go_num, hkr.setCell (by simp) _, Hr.out.far (by simp) _, ?_⟩
        have h := Hs.out.set_ k (u32v y)
        rw [List.set_append_left _ _ (by rw [List.length_map, Hst.out]; exact hlt), ← List.map_set, ← hsu.out] at h
        exact h
      case measure => simp [intOf]; omega
    · obtain rfl : 8 = k := by omega
      rw [stL_8] at hbs
      have c0 := hbs.cell 0; have c1 := hbs.cell 1; have c2 := hbs.cell 2; have c3 := hbs.cell 3; have c4 := hbs.cell 4; have c5 := hbs.cell 5; have c6 := hbs.cell 6; have c7 := hbs.cell 7; have c8 := hbs.cell 8; have c9 := hbs.cell 9
      have d0 := hbr.cell 0; have d1 := hbr.cell 1; have d2 := hbr.cell 2; have d3 := hbr.cell 3; have d4 := hbr.cell 4; have d5 := hbr.cell 5; have d6 := hbr.cell 6; have d7 := hbr.cell 7; have d8 := hbr.cell 8; have d9 := hbr.cell 9
      have f0 := hbr.frozen 0; have f1 := hbr.frozen 1; have f2 := hbr.frozen 2; have f3 := hbr.frozen 3; have f4 := hbr.frozen 4; have f5 := hbr.frozen 5; have f6 := hbr.frozen 6; have f7 := hbr.frozen 7; have f8 := hbr.frozen 8; have f9 := hbr.frozen 9
      simp only [H8.l, stL, List.map_cons, List.map_nil, List.cons_append, List.nil_append, List.getElem?_cons_zero, List.getElem?_cons_succ] at c0 c1 c2 c3 c4 c5 c6 c7 c8 c9 d0 d1 d2 d3 d4 d5 d6 d7 d8 d9
      clear hbr hbs
      go_wp2
      refine bodyPost_ret (v := SV h0V none 0 0 0) (by simp [results, Tryd.results50, go_sem, d0, d1, d2, d3, d4, d5, d6, d7, d8, d9]) rfl ⟨rfl, ?_⟩
      repeat (refine Below.setCell ?_ (by simp) _)
      exact hkr

/-- How many zeros. -/
def padZ (n : Nat) : Nat := if n % 64 ≤ 55 then 55 - n % 64 else 119 - n % 64
def padE (n k : Nat) : Int := (n : Int) * 8 / 2 ^ (56 - 8 * k) % 256
def padK (n : Nat) : Nat → List UInt8
  | 0 => 128 :: List.replicate (padZ n + 8) 0
  | k + 1 => (padK n k).set (1 + padZ n + k) (w8 (padE n k))
theorem padK_len (n k : Nat) : (padK n k).length = 9 + padZ n := by
  induction k with
  | zero => rw [padK, List.length_cons, List.length_replicate]; omega
  | succ k ih => rw [padK, List.length_set, ih]

set_option maxRecDepth 100000 in
set_option maxHeartbeats 1000000 in
theorem pad_any (n : Nat) (w : World) (hn : n ≤ 1000000000000) : Calls Tryd.prog 52 #[.int .u64 n] w fun e w' => e = .returned (.slice (some ⟨w.heap.size, 0, none⟩) (9 + padZ n) (9 + padZ n)) ∧ Blk w' w.heap.size 5 ((padK n 8).map u8v) ∧ Keep w w' := by
  obtain ⟨z, hz⟩ : ∃ z, padZ n = z := ⟨_, rfl⟩
  have hzl : z ≤ 63 := by rw [← hz]; unfold padZ; split <;> omega
  have Hz := Lib.hid hz
  rw [hz]
  go_enter Tryd.func52, Tryd.ntmps52
  go_upto_if 13 with fail
  go_cut [3, 4] (fun v3 v4 wx => v4 = .int .i64 z ∧ wx = w)
  case first =>
    by_cases h : n % 64 ≤ 55
    · have hz := Hz.out; rw [padZ, if_pos h] at hz
      go_wp2
      all_goals go_meet
      all_goals exact ⟨by congr 1; omega, rfl⟩
    · have hz := Hz.out; rw [padZ, if_neg h] at hz
      go_wp2
      all_goals go_meet
      all_goals exact ⟨by congr 1; omega, rfl⟩
  case rest =>
    obtain ⟨rfl, rfl⟩ := hcut
    obtain ⟨wm, hmk, hbm, km, hsz⟩ := make_blk (z + 9) (z + 9) (1 + (z : Int) + 8) (1 + (z : Int) + 8) (by omega) (by omega) (Nat.le_refl _) (by omega) wc
    have c0 := hbm.cell 0; rw [List.getElem?_map, List.getElem?_replicate, if_pos (by omega), Option.map_some] at c0
    have f0 := hbm.frozen 0
    have Hbm := Lib.hid hbm
    clear hbm hsz
    go_wp2_with fail
    go_loopw [22] (fun i wr => ∃ k : Nat, k ≤ 8 ∧ i = .int .i64 k ∧ Keep wc wr ∧ Blk wr wc.heap.size 5 ((padK n k).map u8v)) (fun i _ => 8 - (intOf i).toNat)
    case atStart =>
      refine ⟨0, by omega, rfl, km.setCell (by simp) _, ?_⟩
      have h := Hbm.out.set_ 0 (u8v 128)
      rw [show ((List.replicate (z + 9) (0 : UInt8)).map u8v).set 0 (u8v 128) = (padK n 0).map u8v by rw [padK, Hz.out]; rfl] at h
      exact h
    case round =>
      obtain ⟨k, hk, rfl, hkr, hb⟩ := hrel
      by_cases hlt : k < 8
      · have hpl := padK_len n k
        rw [Hz.out] at hpl
        obtain ⟨o, ho⟩ : ∃ o, (padK n k)[1 + z + k]? = some o := ⟨_, List.getElem?_eq_getElem (by omega)⟩
        have c1 := hb.cell (1 + z + k); rw [List.getElem?_map, ho, Option.map_some] at c1
        have f1 := hb.frozen (1 + z + k)
        have Hb := Lib.hid hb
        clear hb ho hpl
        go_wp2
        go_roundw
        case rel =>
          refine ⟨k + 1, by omega, by go_num, hkr.setCell (by simp) _, ?_⟩
          rw [padK, Hz.out, set_map8 _ _ (padE n k) (by unfold padE; omega) (by unfold padE; omega)]
          exact Hb.out.set_ _ _
        case measure => simp [intOf]; omega
      · have Hk := Lib.hid (show k = 8 by omega)
        have Hb := Lib.hid hb; clear hb
        go_wp2
        go_ret
        refine ⟨by show Ending.returned (Value.slice _ (z + 9) (z + 9)) = _; rw [Nat.add_comm z 9], ?_, hkr⟩
        have h := Hb.out
        rw [Hk.out] at h
        exact h
end Go.Proofs.YtielojlhdnimgaaDoor
