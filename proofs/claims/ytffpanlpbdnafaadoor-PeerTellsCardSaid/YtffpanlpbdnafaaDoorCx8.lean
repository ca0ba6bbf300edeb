/- Texts merged by pack.py: Sha, Eql, Qk, Rf, Ro, Rmk, Re, Rq4. -/
import Derived.Test.YtffpanlpbdnafaaDoorRows
import Derived.Test.YtffpanlpbdnafaaDoorCx1
import Derived.Test.YtffpanlpbdnafaaDoorCx2
import Derived.Deep.RegionHeld3
import Derived.Deep.DrawnRows
import Derived.Deep.DeepCutAuto
import Derived.Deep.RegionLaw
import Derived.Deep.MidRow
import Derived.Deep.WholeRow
import Derived.Test.YtffpanlpbdnafaaDoorCx7
import Derived.RangeFuncNested
import Derived.RangeFuncLeaves
import Derived.RangeFuncBound
import Derived.RangeFuncCalls
import Derived.OwnWalkIn
import Derived.TacticsInMore
import Derived.LoopNIn
import Derived.LoopIn
/- SHA-256: its words. -/
set_option linter.unusedSimpArgs false
set_option linter.unusedVariables false
namespace Go.Proofs.YtffpanlpbdnafaaDoor
open Go.RowKit
attribute [local go_sem ↓] Go.wp_at_zero Go.wp_at_succ
def rotL (x : UInt32) (s : Nat) : UInt32 := w32 (bits .or .u32 ((x.toNat : Int) * 2 ^ s % 4294967296) ((x.toNat : Int) / 2 ^ (32 - s)))
set_option maxHeartbeats 400000 in
theorem rotl_any (x : UInt32) (k : Int) (s : Nat) (w : World) (hs : bits BinOp.and IntKind.u64 (IntKind.u64.wrap k) 31 = s) (hs1 : 1 ≤ s) (hs2 : s ≤ 31) :
    Calls Tryd.prog 107 #[u32v x, .int .i64 k] w fun e w' => e = .returned (u32v (rotL x s)) ∧ w = w' := by
  have hx := w32_hi x
  go_enter Tryd.func107, Tryd.ntmps107
  go_wp2
  go_ret
  exact ⟨ret_int (w32_of (bits_lo_u32 _ _ _) (bits_hi_u32 _ _ _)), rfl⟩
def rotR (x : UInt32) (n : Nat) : UInt32 := rotL x (32 - n)
set_option maxHeartbeats 400000 in
theorem turned_any (x : UInt32) (k : Int) (w : World) (hs : bits BinOp.and IntKind.u64 (IntKind.u64.wrap (-k)) 31 = (32 - k.toNat : Nat)) (hs1 : 1 ≤ k.toNat) (hs2 : k.toNat ≤ 31) :
    Calls Tryd.prog 104 #[u32v x, .int .i64 k] w fun e w' => e = .returned (u32v (rotR x k.toNat)) ∧ w = w' := by
  go_enter Tryd.func104, Tryd.ntmps104
  go_wp2_with fail
  refine (rotl_any x (-k) (32 - k.toNat) w hs (by omega) (by omega)).mono ?_
  rintro e w1 ⟨rfl, rfl⟩
  go_wp2
  go_ret
  exact ⟨rfl, rfl⟩
def z64 : List UInt32 := List.replicate 64 0
def beE (y0 y1 y2 y3 : UInt8) : Int := bits .or .u32 (bits .or .u32 (bits .or .u32 ((y0.toNat : Int) % 4294967296 * 16777216 % 4294967296) ((y1.toNat : Int) % 4294967296 * 65536 % 4294967296)) ((y2.toNat : Int) % 4294967296 * 256 % 4294967296)) ((y3.toNat : Int) % 4294967296)
def be32 (b : List UInt8) (k : Nat) : UInt32 := w32 (beE (b.getD (4 * k) 0) (b.getD (4 * k + 1) 0) (b.getD (4 * k + 2) 0) (b.getD (4 * k + 3) 0))
def wdE (x y a c : UInt32) : Int := (bits .xor .u32 (bits .xor .u32 ((rotR y 17).toNat : Int) ((rotR y 19).toNat : Int)) ((y.toNat : Int) / 1024) + (a.toNat : Int) + bits .xor .u32 (bits .xor .u32 ((rotR x 7).toNat : Int) ((rotR x 18).toNat : Int)) ((x.toNat : Int) / 8) + (c.toNat : Int)) % 4294967296
def wd2 (l : List UInt32) : Nat → List UInt32
  | 0 => l
  | j + 1 => (wd2 l j).set (j + 16) (w32 (wdE ((wd2 l j).getD (j + 1) 0) ((wd2 l j).getD (j + 14) 0) ((wd2 l j).getD (j + 9) 0) ((wd2 l j).getD j 0)))
theorem wd2_len (l : List UInt32) (j : Nat) : (wd2 l j).length = l.length := by
  induction j with
  | zero => rfl
  | succ j ih => rw [wd2, List.length_set, ih]
def wd1 (b : List UInt8) : Nat → List UInt32
  | 0 => z64
  | k + 1 => (wd1 b k).set k (be32 b k)
theorem wd1_len (b : List UInt8) (k : Nat) : (wd1 b k).length = 64 := by
  induction k with
  | zero => rfl
  | succ k ih => rw [wd1, List.length_set, ih]
def wordsL (b : List UInt8) : List UInt32 := wd2 (wd1 b 16) 48
theorem z64_blk (w : World) (n : Nat) (hn : n = w.heap.size) : Blk (w.alloc (.cells #[.int .u32 0, .int .u32 0, .int .u32 0, .int .u32 0, .int .u32 0, .int .u32 0, .int .u32 0, .int .u32 0, .int .u32 0, .int .u32 0, .int .u32 0, .int .u32 0, .int .u32 0, .int .u32 0, .int .u32 0, .int .u32 0, .int .u32 0, .int .u32 0, .int .u32 0, .int .u32 0, .int .u32 0, .int .u32 0, .int .u32 0, .int .u32 0, .int .u32 0, .int .u32 0, .int .u32 0, .int .u32 0, .int .u32 0, .int .u32 0, .int .u32 0, .int .u32 0, .int .u32 0, .int .u32 0, .int .u32 0, .int .u32 0, .int .u32 0, .int .u32 0, .int .u32 0, .int .u32 0, .int .u32 0, .int .u32 0, .int .u32 0, .int .u32 0, .int .u32 0, .int .u32 0, .int .u32 0, .int .u32 0, .int .u32 0, .int .u32 0, .int .u32 0, .int .u32 0, .int .u32 0, .int .u32 0, .int .u32 0, .int .u32 0, .int .u32 0, .int .u32 0, .int .u32 0, .int .u32 0, .int .u32 0, .int .u32 0, .int .u32 0, .int .u32 0] 199)) n 199 (z64.map u32v) := hn ▸ Blk.new w _ (z64.map u32v)
set_option maxRecDepth 100000 in
set_option maxHeartbeats 3000000 in
theorem words_any (A : Option Addr) (b : List UInt8) (c : Nat) (w : World) (hb : b.length = 64) (hr : Rd w A (b.map u8v)) :
    Calls Tryd.prog 103 #[.slice A 64 c] w fun e w' => e = .returned (.agg ((wordsL b).map u32v).toArray) ∧ Keep w w' := by
  go_enter Tryd.func103, Tryd.ntmps103
  go_wp2_with fail
  go_loopw [10] (fun i wr => ∃ k : Nat, k ≤ 16 ∧ i = .int .i64 k ∧ Keep w wr ∧ Blk wr w.heap.size 199 (z64.map u32v) ∧ Blk wr (w.heap.size + 1) 199 ((wd1 b k).map u32v)) (fun i _ => 16 - (intOf i).toNat)
  case atStart => exact ⟨0, by omega, rfl, keep_trans (keep_new _ _) (keep_new _ _), (z64_blk _ _ rfl).alloc _, z64_blk _ _ (by simp)⟩
  case round =>
    obtain ⟨k, hk, rfl, hkr, hb0, hb1⟩ := hrel
    by_cases hlt : k < 16
    · obtain ⟨g, off, rfl, hg, hc⟩ := (hr.keep hkr).at (k := 0) (by simp; omega)
      have rd : ∀ j y, b[j]? = some y → wr.cell? ⟨g, off + j, none⟩ = some (u8v y) := fun j y h => by
        obtain ⟨hj, rfl⟩ := List.getElem?_eq_some_iff.1 h
        rw [hc j (by simpa using hj)]; simp
      obtain ⟨y0, h0⟩ : ∃ y, b[4 * k]? = some y := ⟨_, List.getElem?_eq_getElem (by omega)⟩
      obtain ⟨y1, h1⟩ : ∃ y, b[4 * k + 1]? = some y := ⟨_, List.getElem?_eq_getElem (by omega)⟩
      obtain ⟨y2, h2⟩ : ∃ y, b[4 * k + 2]? = some y := ⟨_, List.getElem?_eq_getElem (by omega)⟩
      obtain ⟨y3, h3⟩ : ∃ y, b[4 * k + 3]? = some y := ⟨_, List.getElem?_eq_getElem (by omega)⟩
      have e0 := rd _ _ h0; have e1 := rd _ _ h1; have e2 := rd _ _ h2; have e3 := rd _ _ h3
      have Hbe := Lib.hid (show be32 b k = w32 (beE y0 y1 y2 y3) by unfold be32; rw [getD_of h0, getD_of h1, getD_of h2, getD_of h3])
      clear h0 h1 h2 h3
      have Hb0 := Lib.hid hb0; have Hb1 := Lib.hid hb1; clear hb0 hb1
      clear hc rd
      go_wp2
      refine wp_region_tree (.take [0,1,2,3,4,5,6,7,8,9,10,11,12,13,14,15,16,17,18,19,20,21,22,23,24,25,26,27,28,29,30,31,32,33,34] .done) [35] (by kernel_rfl) (by kernel_rfl) (fun w1 k1 => ?_)
      have a0 := aft_cell (keep_cell k1 e0); have a1 := aft_cell (keep_cell k1 e1); have a2 := aft_cell (keep_cell k1 e2); have a3 := aft_cell (keep_cell k1 e3)
      refine mt_take w1 (Below.refl _ _) ?_
      simp only [pick_cons, pick_nil, nth_zero, nth_succ]
      repeat (go_big_quiet_step (fail))
      refine wpQuiet_nil (mt_end ?_)
      have hb1 : Blk w1 (w.heap.size + 1) 199 ((wd1 b k).map u32v) := Hb1.out.keep k1
      have Hb1' := Lib.hid hb1
      have x0 := hb1.cell k; rw [List.getElem?_map, List.getElem?_eq_getElem (by rw [wd1_len]; omega)] at x0
      have x1 := hb1.frozen k
      have Hb0' := Lib.hid (Hb0.out.keep k1)
      have k9 := keep_trans hkr k1
      clear a0 a1 a2 a3 e0 e1 e2 e3 hb1
      go_wp2
      go_roundw
      case rel =>
        refine ⟨k + 1, by omega, by go_num, k9.setCell (by simp) _, Hb0'.out.far (by simp) _, ?_⟩
        rw [wd1, Hbe.out, set_map _ _ (beE y0 y1 y2 y3) (bits_lo_u32 _ _ _) (bits_hi_u32 _ _ _)]
        exact Hb1'.out.set_ _ _
      case measure => simp [intOf]; omega
    · have Hk := Lib.hid (show k = 16 by omega)
      have Hb0 := Lib.hid hb0; have Hb1 := Lib.hid hb1; clear hb0 hb1
      go_wp2_with fail
      have hll : (wd1 b k).length = 64 := wd1_len b k
      generalize hl : wd1 b k = l at Hb1 hll
      have Hl := Lib.hid hl; clear hl
      have hkw := hkr
      go_loopw [5] (fun i wr => ∃ j : Nat, j ≤ 48 ∧ i = .int .i64 ((j + 16 : Nat) : Int) ∧ Keep w wr ∧ Blk wr w.heap.size 199 (z64.map u32v) ∧ Blk wr (w.heap.size + 1) 199 ((wd2 l j).map u32v)) (fun i _ => 64 - (intOf i).toNat)
      case atStart => exact ⟨0, by omega, rfl, hkw, Hb0.out, Hb1.out⟩
      case round =>
        obtain ⟨j, hj, rfl, hkr, hb0, hb1⟩ := hrel
        by_cases hlt : j < 48
        · have hl' : (wd2 l j).length = 64 := by rw [wd2_len, hll]
          obtain ⟨x, h0⟩ : ∃ y, (wd2 l j)[j + 1]? = some y := ⟨_, List.getElem?_eq_getElem (by omega)⟩
          obtain ⟨y, h1⟩ : ∃ y, (wd2 l j)[j + 14]? = some y := ⟨_, List.getElem?_eq_getElem (by omega)⟩
          obtain ⟨a, h2⟩ : ∃ y, (wd2 l j)[j + 9]? = some y := ⟨_, List.getElem?_eq_getElem (by omega)⟩
          obtain ⟨d, h3⟩ : ∃ y, (wd2 l j)[j]? = some y := ⟨_, List.getElem?_eq_getElem (by omega)⟩
          obtain ⟨o, h4⟩ : ∃ y, (wd2 l j)[j + 16]? = some y := ⟨_, List.getElem?_eq_getElem (by omega)⟩
          have Hwd := Lib.hid (show wd2 l (j + 1) = (wd2 l j).set (j + 16) (w32 (wdE x y a d)) by rw [wd2, getD_of h0, getD_of h1, getD_of h2, getD_of h3])
          have c0 := hb1.cell (j + 1); rw [List.getElem?_map, h0] at c0
          have c1 := hb1.cell (j + 14); rw [List.getElem?_map, h1] at c1
          have c2 := hb1.cell (j + 9); rw [List.getElem?_map, h2] at c2
          have c3 := hb1.cell j; rw [List.getElem?_map, h3] at c3
          have c4 := hb1.cell (j + 16); rw [List.getElem?_map, h4] at c4
          have f4 := hb1.frozen (j + 16)
          simp only [Option.map_some] at c0 c1 c2 c3 c4
          have Hb0 := Lib.hid hb0; have Hb1 := Lib.hid hb1
          clear hb0 hb1 h0 h1 h2 h3 h4
          go_wp2
          have a0 := aft_cell c0; have a1 := aft_cell c1
          refine wp_region_aft (by kernel_rfl) (by kernel_rfl) wr (Below.refl _ _) ?_
          repeat (go_big_quiet_step (fail))
          refine wpQuiet_nil ?_
          rintro _ ⟨z, rfl⟩
          have k2 := aft_keep wr z
          generalize aft wr z = w2 at k2 ⊢
          clear a0 a1 c0 c1
          replace c2 := keep_cell k2 c2; replace c3 := keep_cell k2 c3
          have k3 := keep_trans hkr k2
          replace f4 := keep_frozen k2 (cell_lt c4) f4; replace c4 := keep_cell k2 c4
          go_wp2_with (go_at_call 104; refine (turned_any _ _ _ (by rfl) (by decide) (by decide)).mono ?_; rintro e w9 ⟨rfl, rfl⟩)
          refine wp_region_tree (.take [0,1,2,3,4,5,6,7,8,9,10,11,12,13,14] .done) [15] (by kernel_rfl) (by kernel_rfl) (fun w1 k1 => ?_)
          have a2 := aft_cell (keep_cell k1 c2); have a3 := aft_cell (keep_cell k1 c3)
          refine mt_take w1 (Below.refl _ _) ?_
          simp only [pick_cons, pick_nil, nth_zero, nth_succ]
          repeat (go_big_quiet_step (fail))
          refine wpQuiet_nil (mt_end ?_)
          have k4 := keep_trans k3 k1
          have k5 := keep_trans k2 k1
          replace f4 := keep_frozen k1 (cell_lt c4) f4; replace c4 := keep_cell k1 c4
          clear a2 a3 c2 c3
          go_wp2
          go_roundw
          case rel =>
            refine ⟨j + 1, by omega, by go_num, k4.setCell (by simp) _, (Hb0.out.keep k5).far (by simp) _, ?_⟩
            rw [Hwd.out, set_map _ _ (wdE x y a d) (by unfold wdE; omega) (by unfold wdE; omega)]
            exact (Hb1.out.keep k5).set_ _ _
          case measure => simp [intOf]; omega
        · have Hj := Lib.hid (show j = 48 by omega)
          have hl' : (wd2 l j).length = 64 := by rw [wd2_len, hll]
          generalize hl2 : wd2 l j = l' at hb1 hl'
          have Hl2 := Lib.hid hl2; clear hl2
          obtain ⟨cs, hcs⟩ : ∃ cs : Array Value, cs.toList = l'.map u32v := ⟨(l'.map u32v).toArray, rfl⟩
          have hcz : cs.size = 64 := by rw [← Array.length_toList, hcs, List.length_map, hl']
          have hci : (Tryd.prog.info? 199).map (·.size) = some cs.size := by rw [hcz]; kernel_rfl
          have hcn : ¬ cs = #[] := by intro h; rw [h] at hcz; simp at hcz
          rw [← hcs] at hb1
          obtain ⟨w8, hst, hb8, hg8⟩ := run_store_blk (P := Tryd.prog) cs.toList hb0 (by simp [hcz]; rfl) (by rw [hcs]; exact one_w32 _)
          have Hb1' := Lib.hid hb1; have Hb8 := Lib.hid hb8; have Hg8 := Lib.hid hg8; have Hcs := Lib.hid hcs; clear hb0 hb1 hb8 hg8 hcs
          go_upto_region 14 with fail
          go_wp2_with ((with_reducible refine load_arr (w.heap.size + 1) cs (Eq.trans ?_ rfl) Hb1'.out (.array 64 22) Tryd.underlying199 (arr_row _ _) hci ?_); rfl)
          have hb8 := Hb8.out
          refine bodyPost_ret (v := .agg cs) (results_cell_row Tryd.results103 _ _ w.heap.size _ _ _ _ rfl hb8 Tryd.underlying199 rfl (by rw [List.size_toArray, Array.length_toList, hcz]; kernel_rfl)) rfl ⟨?_, hkr.grown Hg8.out (by have := hkr.size; omega) (fun q hq => by injection hq with hq; omega)⟩
          rw [show cs = (l'.map u32v).toArray from by rw [← Hcs.out, Array.toArray_toList], ← Hl2.out, ← Hl.out, Hj.out, Hk.out]
          rfl
end Go.Proofs.YtffpanlpbdnafaaDoor
namespace Go.Proofs.YtffpanlpbdnafaaDoor
open Go.RowKit
attribute [local go_sem ↓] Go.wp_at_zero Go.wp_at_succ
def kTab : List UInt32 := [1116352408, 1899447441, 3049323471, 3921009573, 961987163, 1508970993, 2453635748, 2870763221, 3624381080, 310598401, 607225278, 1426881987, 1925078388, 2162078206, 2614888103, 3248222580, 3835390401, 4022224774, 264347078, 604807628, 770255983, 1249150122, 1555081692, 1996064986, 2554220882, 2821834349, 2952996808, 3210313671, 3336571891, 3584528711, 113926993, 338241895, 666307205, 773529912, 1294757372, 1396182291, 1695183700, 1986661051, 2177026350, 2456956037, 2730485921, 2820302411, 3259730800, 3345764771, 3516065817, 3600352804, 4094571909, 275423344, 430227734, 506948616, 659060556, 883997877, 958139571, 1322822218, 1537002063, 1747873779, 1955562222, 2024104815, 2227730452, 2361852424, 2428436474, 2756734187, 3204031479, 3329325298]
def hTab : List UInt32 := [1779033703, 3144134277, 1013904242, 2773480762, 1359893119, 2600822924, 528734635, 1541459225]
structure ShaOk (w : World) : Prop where
  k : ∀ (i : Nat) (y : UInt32), kTab[i]? = some y → w.cell? ⟨3, i, none⟩ = some (u32v y)
  h : ∀ (i : Nat) (y : UInt32), hTab[i]? = some y → w.cell? ⟨0, i, none⟩ = some (u32v y)
theorem ShaOk.keep {w w' : World} (h : ShaOk w) (hk : Keep w w') : ShaOk w' := ⟨fun i y e => keep_cell hk (h.k i y e), fun i y e => keep_cell hk (h.h i y e)⟩
set_option maxRecDepth 100000 in
set_option maxHeartbeats 400000 in
theorem constant_any (i : Nat) (w : World) (hS : ShaOk w) (hi : i < 64) :
    Calls Tryd.prog 105 #[.int .i64 i] w fun e w' => e = .returned (u32v (kTab.getD i 0)) ∧ w = w' := by
  obtain ⟨y, hy⟩ : ∃ y, kTab[i]? = some y := ⟨_, List.getElem?_eq_getElem (by exact hi)⟩
  rw [getD_of hy]
  have c0 := hS.k i y hy
  clear hy hS
  go_enter Tryd.func105, Tryd.ntmps105
  go_wp2
  go_ret
  exact ⟨rfl, rfl⟩
set_option maxRecDepth 100000 in
set_option maxHeartbeats 400000 in
theorem initial_any (i : Nat) (w : World) (hS : ShaOk w) (hi : i < 8) :
    Calls Tryd.prog 98 #[.int .i64 i] w fun e w' => e = .returned (u32v (hTab.getD i 0)) ∧ w = w' := by
  obtain ⟨y, hy⟩ : ∃ y, hTab[i]? = some y := ⟨_, List.getElem?_eq_getElem (by exact hi)⟩
  rw [getD_of hy]
  have c0 := hS.h i y hy
  clear hy hS
  go_enter Tryd.func98, Tryd.ntmps98
  go_wp2
  go_ret
  exact ⟨rfl, rfl⟩
structure H8 where
  a : UInt32
  b : UInt32
  c : UInt32
  d : UInt32
  e : UInt32
  f : UInt32
  g : UInt32
  h : UInt32
def H8.l (v : H8) : List UInt32 := [v.a, v.b, v.c, v.d, v.e, v.f, v.g, v.h]
def H8.cells (v : H8) : List Value := [u32v v.a, u32v v.b, u32v v.c, u32v v.d, u32v v.e, u32v v.f, u32v v.g, u32v v.h]
abbrev H8.agg (v : H8) : Value := .agg #[u32v v.a, u32v v.b, u32v v.c, u32v v.d, u32v v.e, u32v v.f, u32v v.g, u32v v.h]
theorem H8.cells_eq (v : H8) : v.cells = v.l.map u32v := rfl
theorem h8 {w : World} {g : Nat} {t : TypeId} {v : H8} (h : Blk w g t v.cells) : w.cell? ⟨g, 0, none⟩ = some (u32v v.a) ∧ w.cell? ⟨g, 1, none⟩ = some (u32v v.b) ∧ w.cell? ⟨g, 2, none⟩ = some (u32v v.c) ∧ w.cell? ⟨g, 3, none⟩ = some (u32v v.d) ∧ w.cell? ⟨g, 4, none⟩ = some (u32v v.e) ∧ w.cell? ⟨g, 5, none⟩ = some (u32v v.f) ∧ w.cell? ⟨g, 6, none⟩ = some (u32v v.g) ∧ w.cell? ⟨g, 7, none⟩ = some (u32v v.h) :=
  ⟨h.cell 0, h.cell 1, h.cell 2, h.cell 3, h.cell 4, h.cell 5, h.cell 6, h.cell 7⟩
def h80 : H8 := ⟨0, 0, 0, 0, 0, 0, 0, 0⟩
theorem h80_blk (w : World) (n : Nat) (t : TypeId) (hn : n = w.heap.size) : Blk (w.alloc (.cells #[.int .u32 0, .int .u32 0, .int .u32 0, .int .u32 0, .int .u32 0, .int .u32 0, .int .u32 0, .int .u32 0] t)) n t h80.cells := hn ▸ Blk.new w t h80.cells
theorem h8_blk (w : World) (n : Nat) (t : TypeId) (v : H8) (hn : n = w.heap.size) : Blk (w.alloc (.cells #[u32v v.a, u32v v.b, u32v v.c, u32v v.d, u32v v.e, u32v v.f, u32v v.g, u32v v.h] t)) n t v.cells := hn ▸ Blk.new w t v.cells
def rndT (v : H8) (k w : UInt32) : Int := (v.h.toNat : Int) + bits .xor .u32 (bits .xor .u32 ((rotR v.e 6).toNat : Int) ((rotR v.e 11).toNat : Int)) ((rotR v.e 25).toNat : Int) + bits .xor .u32 (bits .and .u32 (v.e.toNat : Int) (v.f.toNat : Int)) (bits .and .u32 (bits .xor .u32 IntKind.u32.max (v.e.toNat : Int)) (v.g.toNat : Int)) + (k.toNat : Int) + (w.toNat : Int)
def rndA (v : H8) (k w : UInt32) : Int := (rndT v k w + (bits .xor .u32 (bits .xor .u32 ((rotR v.a 2).toNat : Int) ((rotR v.a 13).toNat : Int)) ((rotR v.a 22).toNat : Int) + bits .xor .u32 (bits .xor .u32 (bits .and .u32 (v.a.toNat : Int) (v.b.toNat : Int)) (bits .and .u32 (v.a.toNat : Int) (v.c.toNat : Int))) (bits .and .u32 (v.b.toNat : Int) (v.c.toNat : Int)))) % 4294967296
def rndE (v : H8) (k w : UInt32) : Int := ((v.d.toNat : Int) + rndT v k w) % 4294967296
def rnd (v : H8) (k w : UInt32) : H8 := ⟨w32 (rndA v k w), v.a, v.b, v.c, w32 (rndE v k w), v.e, v.f, v.g⟩
def addL (v h : List UInt32) : Nat → List UInt32
  | 0 => v
  | k + 1 => (addL v h k).set k (w32 (((v.getD k 0).toNat + (h.getD k 0).toNat : Int) % 4294967296))
theorem addL_get (v h : List UInt32) : ∀ (k j : Nat), k ≤ j → (addL v h k)[j]? = v[j]?
  | 0, _, _ => rfl
  | k + 1, j, hj => by rw [addL, List.getElem?_set_ne (by omega)]; exact addL_get v h k j (by omega)
def add32 (x y : UInt32) : UInt32 := w32 ((x.toNat + y.toNat : Int) % 4294967296)
def H8.add (v h : H8) : H8 := ⟨add32 v.a h.a, add32 v.b h.b, add32 v.c h.c, add32 v.d h.d, add32 v.e h.e, add32 v.f h.f, add32 v.g h.g, add32 v.h h.h⟩
theorem addL_h8 (v h : H8) : addL v.l h.l 8 = (v.add h).l := rfl
def rnds (ws : List UInt32) (v : H8) : Nat → H8
  | 0 => v
  | k + 1 => rnd (rnds ws v k) (kTab.getD k 0) (ws.getD k 0)
def blockH (v : H8) (b : List UInt8) : H8 := (rnds (wordsL b) v 64).add v
noncomputable def zw64 : Array Value := match (Tryd.prog.info? 199).bind (·.zero) with | some (.agg c) => c | _ => #[]
theorem zw64_size : zw64.size = 64 := by kernel_rfl
theorem zw64_zero (w : World) : (zeroValue 199).run Tryd.prog w = .ok (.agg zw64) w := by kernel_rfl
theorem u32v_w {E : Int} (h0 : 0 ≤ E) (h1 : E ≤ 4294967295) : Value.int .u32 E = u32v (w32 E) := by unfold u32v; rw [← w32_of h0 h1]
theorem h8_set {w : World} {g : Nat} {t : TypeId} {u : H8} (h : Blk w g t u.cells) (v0 v1 v2 v3 v4 v5 v6 v7 : Value) :
    Blk ((((((((w.setCell ⟨g, 0, none⟩ v0).setCell ⟨g, 1, none⟩ v1).setCell ⟨g, 2, none⟩ v2).setCell ⟨g, 3, none⟩ v3).setCell ⟨g, 4, none⟩ v4).setCell ⟨g, 5, none⟩ v5).setCell ⟨g, 6, none⟩ v6).setCell ⟨g, 7, none⟩ v7) g t [v0, v1, v2, v3, v4, v5, v6, v7] :=
  (((((((h.set_ 0 v0).set_ 1 v1).set_ 2 v2).set_ 3 v3).set_ 4 v4).set_ 5 v5).set_ 6 v6).set_ 7 v7
theorem rnd_cells (u : H8) (k y : UInt32) : (rnd u k y).cells = [.int .u32 (rndA u k y), u32v u.a, u32v u.b, u32v u.c, .int .u32 (rndE u k y), u32v u.e, u32v u.f, u32v u.g] := by
  have h1 := u32v_w (E := rndA u k y) (by unfold rndA; omega) (by unfold rndA; omega)
  have h2 := u32v_w (E := rndE u k y) (by unfold rndE; omega) (by unfold rndE; omega)
  rw [h1, h2]; rfl
set_option maxRecDepth 100000 in
set_option maxHeartbeats 3000000 in
theorem block_any (v : H8) (A : Option Addr) (b : List UInt8) (c : Nat) (w : World) (hb : b.length = 64) (hr : Rd w A (b.map u8v)) (hS : ShaOk w) :
    Calls Tryd.prog 97 #[v.agg, .slice A 64 c] w fun e w' => e = .returned (blockH v b).agg ∧ Keep w w' := by
  obtain ⟨R, hR⟩ : ∃ R, blockH v b = R := ⟨_, rfl⟩
  rw [hR]
  have HR : Hid ((rnds (wordsL b) v 64).add v = R) := hR
  clear hR
  have hwl : (wordsL b).length = 64 := by unfold wordsL; rw [wd2_len, wd1_len]
  have W1 : ∀ w', Keep w w' → Calls Tryd.prog 103 #[.slice A 64 c] w' fun e w'' => e = .returned (.agg ((wordsL b).map u32v).toArray) ∧ Keep w' w'' := fun w' hk => words_any A b c w' hb (hr.keep hk)
  generalize wordsL b = ws at *
  obtain ⟨cs, hcs⟩ : ∃ cs : Array Value, cs.toList = ws.map u32v := ⟨(ws.map u32v).toArray, rfl⟩
  have hcz : cs.size = 64 := by rw [← Array.length_toList, hcs, List.length_map, hwl]
  have hci : (Tryd.prog.info? 199).map (·.size) = some cs.size := by rw [hcz]; kernel_rfl
  have hcn : ¬ cs = #[] := by intro h; rw [h] at hcz; simp at hcz
  have hc1 : cs.all (·.oneCell') = true := by
    rw [show cs = (ws.map u32v).toArray from by rw [← hcs, Array.toArray_toList]]; exact all_oneCell_toArray (one_w32 _)
  rw [show (ws.map u32v).toArray = cs from by rw [← hcs, Array.toArray_toList]] at W1
  have HW1 := Lib.hid W1; have Hcs := Lib.hid hcs; clear W1 hcs hr
  obtain ⟨zs, hzs⟩ : ∃ zs, zs = zw64 := ⟨_, rfl⟩
  have hz1 : zs.size = 64 := by rw [hzs]; exact zw64_size
  have hz2 : ∀ w, (zeroValue 199).run Tryd.prog w = .ok (.agg zs) w := fun w => by rw [hzs]; exact zw64_zero w
  have hz3 : ¬ zs = #[] := fun h => by rw [h] at hz1; cases hz1
  have hst : ∀ ww : World, (storeCells ⟨ww.heap.size, 0, none⟩ cs.toList 0).run Tryd.prog (ww.alloc (.cells zs 199)) = .ok () (ww.alloc (.cells cs 199)) := fun ww => run_storeCells_new (P := Tryd.prog) ww 199 zs cs hci (hz1.trans hcz.symm) hc1
  clear hzs hci hc1
  go_enter Tryd.func97, Tryd.ntmps97
  go_wp2_with fail
  refine (HW1.out _ (keep_trans (keep_new _ _) (keep_new _ _))).mono ?_
  rintro e w1 ⟨rfl, k1⟩
  have Hbx := Lib.hid (((h8_blk w w.heap.size 171 v rfl).alloc _).keep k1)
  have Hbr := Lib.hid ((h80_blk _ (w.heap.size + 1) 171 (by simp)).keep k1)
  obtain ⟨x0, x1, x2, x3, x4, x5, x6, x7⟩ := h8 Hbx.out
  have hz1 : w.heap.size + 2 ≤ w1.heap.size := by have := k1.size; simpa using this
  have hzl : w.heap.size < w1.heap.size := by omega
  have kw := keep_trans (keep_trans (keep_new _ _) (keep_new _ _)) k1
  go_wp2_with fail
  have Hb5 := Lib.hid ((Blk.new w1 199 cs.toList).alloc (.cells #[u32v v.a, u32v v.b, u32v v.c, u32v v.d, u32v v.e, u32v v.f, u32v v.g, u32v v.h] 171))
  have Hb6 := Lib.hid (h8_blk (w1.alloc (.cells cs 199)) (w1.heap.size + 1) 171 v (by simp))
  have k2 := keep_trans (keep_new w1 (.cells cs 199)) (keep_new (w1.alloc (.cells cs 199)) (.cells #[u32v v.a, u32v v.b, u32v v.c, u32v v.d, u32v v.e, u32v v.f, u32v v.g, u32v v.h] 171))
  have Hbx2 := Lib.hid (Hbx.out.keep k2); have Hbr2 := Lib.hid (Hbr.out.keep k2)
  clear x0 x1 x2 x3 x4 x5 x6 x7 Hbx Hbr hst
  have kv := keep_trans kw k2
  generalize (w1.alloc (.cells cs 199)).alloc (.cells #[u32v v.a, u32v v.b, u32v v.c, u32v v.d, u32v v.e, u32v v.f, u32v v.g, u32v v.h] 171) = w2 at k2 kv Hb5 Hb6 Hbx2 Hbr2 ⊢
  go_loopw [22] (fun i wr => ∃ k : Nat, k ≤ 64 ∧ i = .int .i64 k ∧ Keep w wr ∧ Blk wr w.heap.size 171 v.cells ∧ Blk wr (w.heap.size + 1) 171 h80.cells ∧ Blk wr w1.heap.size 199 cs.toList ∧ Blk wr (w1.heap.size + 1) 171 (rnds ws v k).cells) (fun i _ => 64 - (intOf i).toNat)
  case atStart => exact ⟨0, by omega, rfl, kv, Hbx2.out, Hbr2.out, Hb5.out, Hb6.out⟩
  case round =>
    obtain ⟨k, hk, rfl, hkr, hbx, hbr, hbw, hbv⟩ := hrel
    by_cases hlt : k < 64
    · obtain ⟨y, hy⟩ : ∃ y, ws[k]? = some y := ⟨_, List.getElem?_eq_getElem (by omega)⟩
      have Hrn := Lib.hid (show rnds ws v (k + 1) = rnd (rnds ws v k) (kTab.getD k 0) y by rw [rnds, getD_of hy])
      have cw := hbw.cell k; rw [Hcs.out, List.getElem?_map, hy, Option.map_some] at cw
      generalize rnds ws v k = u at hbv Hrn
      have hkk : ∀ w', Keep w w' → Calls Tryd.prog 105 #[.int .i64 k] w' fun e w'' => e = .returned (u32v (kTab.getD k 0)) ∧ w' = w'' := fun w' h => constant_any k w' (hS.keep h) hlt
      generalize kTab.getD k 0 = kk at Hrn hkk
      have Hkk := Lib.hid hkk; clear hkk
      obtain ⟨x0, x1, x2, x3, x4, x5, x6, x7⟩ := h8 hbv
      clear hy
      have Hx := Lib.hid hbx; have Hr := Lib.hid hbr; have Hw := Lib.hid hbw; have Hv := Lib.hid hbv
      clear hbx hbr hbw hbv
      have a4 := aft_cell x4
      go_wp2
      refine wp_region_aft (by kernel_rfl) (by kernel_rfl) wr (Below.refl _ _) ?_
      repeat (go_big_quiet_step ((go_at_call 104; exact quiet_aft_same (turned_any _ _ _ (by rfl) (by decide) (by decide)))))
      refine wpQuiet_nil ?_
      rintro _ ⟨z, rfl⟩
      have j3 := aft_keep wr z
      generalize aft wr z = w3 at j3 ⊢
      clear a4 x0 x1 x2 x3 x4 x5 x6 x7
      have hbv := Hv.out.keep j3
      obtain ⟨x0, x1, x2, x3, x4, x5, x6, x7⟩ := h8 hbv
      have k3 := keep_trans hkr j3
      replace cw := keep_cell j3 cw
      clear hbv
      go_wp2
      have a7 := aft_cell x7; have aw := aft_cell cw
      refine wp_region_aft (by kernel_rfl) (by kernel_rfl) w3 (Below.refl _ _) ?_
      repeat (go_big_quiet_step ((go_at_call 105; exact quiet_aft_same (Hkk.out _ (keep_trans k3 (aft_keep _ _))))))
      refine wpQuiet_nil ?_
      rintro _ ⟨z4, rfl⟩
      have j4 := aft_keep w3 z4
      generalize aft w3 z4 = w4 at j4 ⊢
      clear a7 aw cw x0 x1 x2 x3 x4 x5 x6 x7
      have k4 := keep_trans k3 j4
      obtain ⟨x0, x1, x2, x3, x4, x5, x6, x7⟩ := h8 (Hv.out.keep (keep_trans j3 j4))
      have a0 := aft_cell x0
      go_wp2
      refine wp_region_aft (by kernel_rfl) (by kernel_rfl) w4 (Below.refl _ _) ?_
      repeat (go_big_quiet_step ((go_at_call 104; exact quiet_aft_same (turned_any _ _ _ (by rfl) (by decide) (by decide)))))
      refine wpQuiet_nil ?_
      rintro _ ⟨z5, rfl⟩
      have j5 := aft_keep w4 z5
      generalize aft w4 z5 = w5 at j5 ⊢
      clear a0 x0 x1 x2 x3 x4 x5 x6 x7
      have k5 := keep_trans k4 j5
      have j2 := keep_trans (keep_trans j3 j4) j5
      have Hv5 := Lib.hid (Hv.out.keep j2)
      obtain ⟨x0, x1, x2, x3, x4, x5, x6, x7⟩ := h8 Hv5.out
      have f0 := Hv5.out.frozen 0; have f1 := Hv5.out.frozen 1; have f2 := Hv5.out.frozen 2; have f3 := Hv5.out.frozen 3; have f4 := Hv5.out.frozen 4; have f5 := Hv5.out.frozen 5; have f6 := Hv5.out.frozen 6; have f7 := Hv5.out.frozen 7
      go_wp2
      go_roundw
      case rel =>
        refine ⟨k + 1, by omega, by go_num, ?_, ?_, ?_, ?_, ?_⟩
        · repeat (refine Below.setCell ?_ (by simp; omega) _)
          exact k5
        · repeat (refine Blk.far ?_ (by simp; omega) _)
          exact Hx.out.keep j2
        · repeat (refine Blk.far ?_ (by simp; omega) _)
          exact Hr.out.keep j2
        · repeat (refine Blk.far ?_ (by simp) _)
          exact Hw.out.keep j2
        · rw [Hrn.out, rnd_cells]
          exact h8_set Hv5.out _ _ _ _ _ _ _ _
      case measure => simp [intOf]; omega
    · have Hk := Lib.hid (show k = 64 by omega)
      generalize hu : rnds ws v k = u at hbv
      have Hu := Lib.hid hu
      have Hx := Lib.hid hbx; have Hr := Lib.hid hbr; have Hw := Lib.hid hbw; have Hv := Lib.hid hbv
      clear hbx hbr hbw hbv hu
      go_wp2_with fail
      go_loopw [113] (fun i w9 => ∃ j : Nat, j ≤ 8 ∧ i = .int .i64 j ∧ Keep w w9 ∧ Blk w9 w.heap.size 171 (v.l.map u32v) ∧ Blk w9 (w.heap.size + 1) 171 h80.cells ∧ Blk w9 (w1.heap.size + 1) 171 ((addL u.l v.l j).map u32v)) (fun i _ => 8 - (intOf i).toNat)
      case atStart => exact ⟨0, by omega, rfl, hkr, Hx.out, Hr.out, Hv.out⟩
      case round =>
        obtain ⟨j, hj, rfl, hkr, hbx, hbr, hbv⟩ := hrel
        by_cases hlt : j < 8
        · obtain ⟨y, hy⟩ : ∃ y, v.l[j]? = some y := ⟨_, List.getElem?_eq_getElem (by exact hlt)⟩
          obtain ⟨x, hx⟩ : ∃ x, u.l[j]? = some x := ⟨_, List.getElem?_eq_getElem (by exact hlt)⟩
          have Had := Lib.hid (show addL u.l v.l (j + 1) = (addL u.l v.l j).set j (w32 ((x.toNat + y.toNat : Int) % 4294967296)) by rw [addL, getD_of hy, getD_of hx])
          have c0 := hbv.cell j; rw [List.getElem?_map, addL_get _ _ _ _ (Nat.le_refl _), hx, Option.map_some] at c0
          have c1 := hbx.cell j; rw [List.getElem?_map, hy, Option.map_some] at c1
          have Hx := Lib.hid hbx; have Hr := Lib.hid hbr; have Hv := Lib.hid hbv
          clear hbx hbr hbv hy hx
          go_wp2
          refine wp_region_tree (.take [0,1,2,3,4,5,6,7] .done) [8] (by kernel_rfl) (by kernel_rfl) (fun w3 k3 => ?_)
          have a0 := aft_cell (keep_cell k3 c0); have a1 := aft_cell (keep_cell k3 c1)
          refine mt_take w3 (Below.refl _ _) ?_
          simp only [pick_cons, pick_nil, nth_zero, nth_succ]
          repeat (go_big_quiet_step (fail))
          refine wpQuiet_nil (mt_end ?_)
          have k4 := keep_trans hkr k3
          replace c0 := keep_cell k3 c0
          have f0 := (Hv.out.keep k3).frozen j
          clear a0 a1 c1
          go_wp2
          go_roundw
          case rel =>
            refine ⟨j + 1, by omega, by go_num, k4.setCell (by simp; omega) _, (Hx.out.keep k3).far (by simp; omega) _, (Hr.out.keep k3).far (by simp; omega) _, ?_⟩
            rw [Had.out, set_map _ _ _ (by omega) (by omega)]
            exact (Hv.out.keep k3).set_ _ _
          case measure => simp [intOf]; omega
        · have Hj := Lib.hid (show j = 8 by omega)
          have e8 : addL u.l v.l j = (u.add v).l := by rw [Hj.out]; exact addL_h8 u v
          rw [e8, ← H8.cells_eq] at hbv
          clear e8
          have HR2 : Hid (u.add v = R) := by
            have h := HR.out
            rw [← Hk.out, Hu.out] at h
            exact h
          generalize u.add v = r at hbv HR2
          obtain ⟨x0, x1, x2, x3, x4, x5, x6, x7⟩ := h8 hbv
          have Hr := Lib.hid hbr
          have c0 := Hr.out.cell 0; have c1 := Hr.out.cell 1; have c2 := Hr.out.cell 2; have c3 := Hr.out.cell 3; have c4 := Hr.out.cell 4; have c5 := Hr.out.cell 5; have c6 := Hr.out.cell 6; have c7 := Hr.out.cell 7
          have f0 := Hr.out.frozen 0; have f1 := Hr.out.frozen 1; have f2 := Hr.out.frozen 2; have f3 := Hr.out.frozen 3; have f4 := Hr.out.frozen 4; have f5 := Hr.out.frozen 5; have f6 := Hr.out.frozen 6; have f7 := Hr.out.frozen 7
          simp only [H8.cells, List.getElem?_cons_zero, List.getElem?_cons_succ] at c0 c1 c2 c3 c4 c5 c6 c7
          clear hbr hbx hbv
          go_wp2
          refine bodyPost_ret (v := r.agg) (results_cell_row Tryd.results97 _ _ (w.heap.size + 1) _ _ _ _ rfl (h8_set Hr.out _ _ _ _ _ _ _ _) Tryd.underlying171 rfl (by kernel_rfl)) rfl ⟨by rw [← HR2.out], ?_⟩
          repeat (refine Below.setCell ?_ (by simp) _)
          exact hkr
end Go.Proofs.YtffpanlpbdnafaaDoor
namespace Go.Proofs.YtffpanlpbdnafaaDoor
open Go.RowKit
attribute [local go_sem ↓] Go.wp_at_zero Go.wp_at_succ
abbrev SV (v : H8) (A : Option Addr) (n c : Nat) (N : Int) : Value := .agg #[u32v v.a, u32v v.b, u32v v.c, u32v v.d, u32v v.e, u32v v.f, u32v v.g, u32v v.h, .slice A n c, .int .u64 N]
def h0V : H8 := ⟨1779033703, 3144134277, 1013904242, 2773480762, 1359893119, 2600822924, 528734635, 1541459225⟩
def stL : Nat → List UInt32
  | 0 => [0, 0, 0, 0, 0, 0, 0, 0]
  | k + 1 => (stL k).set k (hTab.getD k 0)
theorem stL_len (k : Nat) : (stL k).length = 8 := by
  induction k with
  | zero => rfl
  | succ k ih => rw [stL, List.length_set, ih]
theorem stL_8 : stL 8 = h0V.l := by decide
set_option maxRecDepth 100000 in
set_option maxHeartbeats 1000000 in
theorem start_any (w : World) (hS : ShaOk w) : Calls Tryd.prog 81 #[] w fun e w' => e = .returned (SV h0V none 0 0 0) ∧ Keep w w' := by
  go_enter Tryd.func81, Tryd.ntmps81
  go_wp2_with fail
  go_loopw [3] (fun i wr => ∃ k : Nat, k ≤ 8 ∧ i = .int .i64 k ∧ Keep w wr ∧ Blk wr w.heap.size 173 ((stL 0).map u32v ++ ([.slice none 0 0, .int .u64 0] : List Value)) ∧ Blk wr (w.heap.size + 1) 173 ((stL k).map u32v ++ ([.slice none 0 0, .int .u64 0] : List Value))) (fun i _ => 8 - (intOf i).toNat)
  case atStart => 
    refine ⟨0, by omega, rfl, keep_trans (keep_new _ _) (keep_new _ _), (Blk.new w _ ((stL 0).map u32v ++ ([.slice none 0 0, .int .u64 0] : List Value))).alloc _, ?_⟩
    have h := Blk.new (w.alloc (.cells ((stL 0).map u32v ++ ([.slice none 0 0, .int .u64 0] : List Value)).toArray 173)) 173 ((stL 0).map u32v ++ ([.slice none 0 0, .int .u64 0] : List Value))
    rw [World.size_alloc] at h
    exact h
  case round =>
    obtain ⟨k, hk, rfl, hkr, hbr, hbs⟩ := hrel
    by_cases hlt : k < 8
    · have hst := stL_len k
      have hsu := Lib.hid (show stL (k + 1) = (stL k).set k (hTab.getD k 0) from rfl)
      have hh : ∀ w', Keep w w' → Calls Tryd.prog 98 #[.int .i64 k] w' fun e w'' => e = .returned (u32v (hTab.getD k 0)) ∧ w' = w'' := fun w' h => initial_any k w' (hS.keep h) hlt
      generalize hTab.getD k 0 = y at hh hsu
      obtain ⟨o, ho⟩ : ∃ o, (stL k)[k]? = some o := ⟨_, List.getElem?_eq_getElem (by omega)⟩
      have c0 := hbs.cell k
      rw [List.getElem?_append_left (by rw [List.length_map, hst]; exact hlt), List.getElem?_map, ho, Option.map_some] at c0
      have f0 := hbs.frozen k
      have Hr := Lib.hid hbr; have Hs := Lib.hid hbs; have Hst := Lib.hid hst; have Hh := Lib.hid hh
      clear hbr hbs hst hh ho
      go_wp2_with (go_at_call 98; refine (Hh.out _ hkr).mono ?_; rintro e w3 ⟨rfl, rfl⟩)
      go_roundw
      case rel =>
        refine ⟨k + 1, by omega, by go_num, hkr.setCell (by simp) _, Hr.out.far (by simp) _, ?_⟩
        have h := Hs.out.set_ k (u32v y)
        rw [List.set_append_left _ _ (by rw [List.length_map, Hst.out]; exact hlt), ← List.map_set, ← hsu.out] at h
        exact h
      case measure => simp [intOf]; omega
    · obtain rfl : 8 = k := by omega
      rw [stL_8] at hbs
      have c0 := hbs.cell 0; have c1 := hbs.cell 1; have c2 := hbs.cell 2; have c3 := hbs.cell 3; have c4 := hbs.cell 4; have c5 := hbs.cell 5; have c6 := hbs.cell 6; have c7 := hbs.cell 7; have c8 := hbs.cell 8; have c9 := hbs.cell 9
      have d0 := hbr.cell 0; have d1 := hbr.cell 1; have d2 := hbr.cell 2; have d3 := hbr.cell 3; have d4 := hbr.cell 4; have d5 := hbr.cell 5; have d6 := hbr.cell 6; have d7 := hbr.cell 7; have d8 := hbr.cell 8; have d9 := hbr.cell 9
      have f0 := hbr.frozen 0; have f1 := hbr.frozen 1; have f2 := hbr.frozen 2; have f3 := hbr.frozen 3; have f4 := hbr.frozen 4; have f5 := hbr.frozen 5; have f6 := hbr.frozen 6; have f7 := hbr.frozen 7; have f8 := hbr.frozen 8; have f9 := hbr.frozen 9
      simp only [H8.l, stL, List.map_cons, List.map_nil, List.cons_append, List.nil_append, List.getElem?_cons_zero, List.getElem?_cons_succ] at c0 c1 c2 c3 c4 c5 c6 c7 c8 c9 d0 d1 d2 d3 d4 d5 d6 d7 d8 d9
      clear hbr hbs
      go_wp2
      refine bodyPost_ret (v := SV h0V none 0 0 0) (by simp [results, Tryd.results81, go_sem, d0, d1, d2, d3, d4, d5, d6, d7, d8, d9]) rfl ⟨rfl, ?_⟩
      repeat (refine Below.setCell ?_ (by simp) _)
      exact hkr
def padZ (n : Nat) : Nat := if n % 64 ≤ 55 then 55 - n % 64 else 119 - n % 64
def padE (n k : Nat) : Int := (n : Int) * 8 / 2 ^ (56 - 8 * k) % 256
def padK (n : Nat) : Nat → List UInt8
  | 0 => 128 :: List.replicate (padZ n + 8) 0
  | k + 1 => (padK n k).set (1 + padZ n + k) (w8 (padE n k))
theorem padK_len (n k : Nat) : (padK n k).length = 9 + padZ n := by
  induction k with
  | zero => rw [padK, List.length_cons, List.length_replicate]; omega
  | succ k ih => rw [padK, List.length_set, ih]
set_option maxRecDepth 100000 in
set_option maxHeartbeats 1000000 in
theorem pad_any (n : Nat) (w : World) (hn : n ≤ 1000000000000) : Calls Tryd.prog 96 #[.int .u64 n] w fun e w' => e = .returned (.slice (some ⟨w.heap.size, 0, none⟩) (9 + padZ n) (9 + padZ n)) ∧ Blk w' w.heap.size 5 ((padK n 8).map u8v) ∧ Keep w w' := by
  obtain ⟨z, hz⟩ : ∃ z, padZ n = z := ⟨_, rfl⟩
  have hzl : z ≤ 63 := by rw [← hz]; unfold padZ; split <;> omega
  have Hz := Lib.hid hz
  rw [hz]
  go_enter Tryd.func96, Tryd.ntmps96
  go_upto_if 13 with fail
  go_cut [3, 4] (fun v3 v4 wx => v4 = .int .i64 z ∧ wx = w)
  case first =>
    by_cases h : n % 64 ≤ 55
    · have hz := Hz.out; rw [padZ, if_pos h] at hz
      go_wp2
      all_goals go_meet
      all_goals exact ⟨by congr 1; omega, rfl⟩
    · have hz := Hz.out; rw [padZ, if_neg h] at hz
      go_wp2
      all_goals go_meet
      all_goals exact ⟨by congr 1; omega, rfl⟩
  case rest =>
    obtain ⟨rfl, rfl⟩ := hcut
    obtain ⟨wm, hmk, hbm, km, hsz⟩ := make_blk (z + 9) (z + 9) (1 + (z : Int) + 8) (1 + (z : Int) + 8) (by omega) (by omega) (Nat.le_refl _) (by omega) wc
    have c0 := hbm.cell 0; rw [List.getElem?_map, List.getElem?_replicate, if_pos (by omega), Option.map_some] at c0
    have f0 := hbm.frozen 0
    have Hbm := Lib.hid hbm
    clear hbm hsz
    go_wp2_with fail
    go_loopw [22] (fun i wr => ∃ k : Nat, k ≤ 8 ∧ i = .int .i64 k ∧ Keep wc wr ∧ Blk wr wc.heap.size 5 ((padK n k).map u8v)) (fun i _ => 8 - (intOf i).toNat)
    case atStart =>
      refine ⟨0, by omega, rfl, km.setCell (by simp) _, ?_⟩
      have h := Hbm.out.set_ 0 (u8v 128)
      rw [show ((List.replicate (z + 9) (0 : UInt8)).map u8v).set 0 (u8v 128) = (padK n 0).map u8v by rw [padK, Hz.out]; rfl] at h
      exact h
    case round =>
      obtain ⟨k, hk, rfl, hkr, hb⟩ := hrel
      by_cases hlt : k < 8
      · have hpl := padK_len n k
        rw [Hz.out] at hpl
        obtain ⟨o, ho⟩ : ∃ o, (padK n k)[1 + z + k]? = some o := ⟨_, List.getElem?_eq_getElem (by omega)⟩
        have c1 := hb.cell (1 + z + k); rw [List.getElem?_map, ho, Option.map_some] at c1
        have f1 := hb.frozen (1 + z + k)
        have Hb := Lib.hid hb
        clear hb ho hpl
        go_wp2
        go_roundw
        case rel =>
          refine ⟨k + 1, by omega, by go_num, hkr.setCell (by simp) _, ?_⟩
          rw [padK, Hz.out, set_map8 _ _ (padE n k) (by unfold padE; omega) (by unfold padE; omega)]
          exact Hb.out.set_ _ _
        case measure => simp [intOf]; omega
      · have Hk := Lib.hid (show k = 8 by omega)
        have Hb := Lib.hid hb; clear hb
        go_wp2
        go_ret
        refine ⟨by show Ending.returned (Value.slice _ (z + 9) (z + 9)) = _; rw [Nat.add_comm z 9], ?_, hkr⟩
        have h := Hb.out
        rw [Hk.out] at h
        exact h
end Go.Proofs.YtffpanlpbdnafaaDoor
namespace Go.Proofs.YtffpanlpbdnafaaDoor
open Go.RowKit
attribute [local go_sem ↓] Go.wp_at_zero Go.wp_at_succ
set_option maxHeartbeats 1000000 in
theorem ssane_any (v : H8) (A : Option Addr) (n c N : Nat) (w : World) (hn : n < 64) (hN : N ≤ 1000000000000) (h : n = N % 64) :
    Calls Tryd.prog 95 #[SV v A n c N] w fun e w' => e = .returned (.bool true) ∧ Keep w w' := by
  have t : ((n : Int) == (N : Int) % 64) = true := by simp; omega
  go_enter Tryd.func95, Tryd.ntmps95
  go_wp2
  go_ret
  exact ⟨ret_bool (by first | rfl | (simp; omega)), keep_new _ _⟩
def blocks (v : H8) (l : List UInt8) : Nat → H8
  | 0 => v
  | k + 1 => blockH (blocks v l k) ((l.drop (64 * k)).take 64)
structure StCells (w : World) (g : Nat) (v : H8) (A : Option Addr) (n c : Nat) (N : Int) : Prop where
  b : Blk w g 173 (v.cells ++ [.slice A n c, .int .u64 N])
theorem StCells.all {w : World} {g : Nat} {v : H8} {A : Option Addr} {n c : Nat} {N : Int} (h : StCells w g v A n c N) :
    w.cell? ⟨g, 0, none⟩ = some (u32v v.a) ∧ w.cell? ⟨g, 1, none⟩ = some (u32v v.b) ∧ w.cell? ⟨g, 2, none⟩ = some (u32v v.c) ∧ w.cell? ⟨g, 3, none⟩ = some (u32v v.d) ∧ w.cell? ⟨g, 4, none⟩ = some (u32v v.e) ∧ w.cell? ⟨g, 5, none⟩ = some (u32v v.f) ∧ w.cell? ⟨g, 6, none⟩ = some (u32v v.g) ∧ w.cell? ⟨g, 7, none⟩ = some (u32v v.h) ∧ w.cell? ⟨g, 8, none⟩ = some (.slice A n c) ∧ w.cell? ⟨g, 9, none⟩ = some (.int .u64 N) :=
  ⟨h.b.cell 0, h.b.cell 1, h.b.cell 2, h.b.cell 3, h.b.cell 4, h.b.cell 5, h.b.cell 6, h.b.cell 7, h.b.cell 8, h.b.cell 9⟩
theorem StCells.fr {w : World} {g : Nat} {v : H8} {A : Option Addr} {n c : Nat} {N : Int} (h : StCells w g v A n c N) :
    w.frozen? ⟨g, 0, none⟩ = false ∧ w.frozen? ⟨g, 1, none⟩ = false ∧ w.frozen? ⟨g, 2, none⟩ = false ∧ w.frozen? ⟨g, 3, none⟩ = false ∧ w.frozen? ⟨g, 4, none⟩ = false ∧ w.frozen? ⟨g, 5, none⟩ = false ∧ w.frozen? ⟨g, 6, none⟩ = false ∧ w.frozen? ⟨g, 7, none⟩ = false ∧ w.frozen? ⟨g, 8, none⟩ = false ∧ w.frozen? ⟨g, 9, none⟩ = false :=
  ⟨h.b.frozen 0, h.b.frozen 1, h.b.frozen 2, h.b.frozen 3, h.b.frozen 4, h.b.frozen 5, h.b.frozen 6, h.b.frozen 7, h.b.frozen 8, h.b.frozen 9⟩
theorem StCells.keep {w w' : World} {g : Nat} {v : H8} {A : Option Addr} {n c : Nat} {N : Int} (h : StCells w g v A n c N) (hk : Keep w w') : StCells w' g v A n c N := ⟨h.b.keep hk⟩
theorem StCells.grown {w w' : World} {g : Nat} {v : H8} {A : Option Addr} {n c : Nat} {N : Int} {row : Option Nat} (h : StCells w g v A n c N) (hg : w.grownBy w' row) (hne : row ≠ some g) : StCells w' g v A n c N := ⟨h.b.grown hg hne⟩
theorem StCells.new (w : World) (g : Nat) (v : H8) (A : Option Addr) (n c : Nat) (N : Int) (hg : g = w.heap.size) : StCells (w.alloc (.cells #[u32v v.a, u32v v.b, u32v v.c, u32v v.d, u32v v.e, u32v v.f, u32v v.g, u32v v.h, .slice A n c, .int .u64 N] 173)) g v A n c N :=
  ⟨hg ▸ Blk.new w _ (v.cells ++ [.slice A n c, .int .u64 N])⟩
theorem StCells.set8 {w : World} {g : Nat} {v : H8} {A : Option Addr} {n c : Nat} {N : Int} (h : StCells w g v A n c N) (u : H8) :
    StCells ((((((((w.setCell ⟨g, 0, none⟩ (u32v u.a)).setCell ⟨g, 1, none⟩ (u32v u.b)).setCell ⟨g, 2, none⟩ (u32v u.c)).setCell ⟨g, 3, none⟩ (u32v u.d)).setCell ⟨g, 4, none⟩ (u32v u.e)).setCell ⟨g, 5, none⟩ (u32v u.f)).setCell ⟨g, 6, none⟩ (u32v u.g)).setCell ⟨g, 7, none⟩ (u32v u.h)) g u A n c N :=
  ⟨(((((((h.b.set_ 0 (u32v u.a)).set_ 1 (u32v u.b)).set_ 2 (u32v u.c)).set_ 3 (u32v u.d)).set_ 4 (u32v u.e)).set_ 5 (u32v u.f)).set_ 6 (u32v u.g)).set_ 7 (u32v u.h)⟩
theorem StCells.set10 {w : World} {g : Nat} {v : H8} {A : Option Addr} {n c : Nat} {N : Int} (h : StCells w g v A n c N) (u : H8) (A' : Option Addr) (n' c' : Nat) (N' : Int) :
    ((((((((((w.setCell ⟨g, 0, none⟩ (u32v u.a)).setCell ⟨g, 1, none⟩ (u32v u.b)).setCell ⟨g, 2, none⟩ (u32v u.c)).setCell ⟨g, 3, none⟩ (u32v u.d)).setCell ⟨g, 4, none⟩ (u32v u.e)).setCell ⟨g, 5, none⟩ (u32v u.f)).setCell ⟨g, 6, none⟩ (u32v u.g)).setCell ⟨g, 7, none⟩ (u32v u.h)).setCell ⟨g, 8, none⟩ (.slice A' n' c')).setCell ⟨g, 9, none⟩ (.int .u64 N')).heap[g]? = some (.cells #[u32v u.a, u32v u.b, u32v u.c, u32v u.d, u32v u.e, u32v u.f, u32v u.g, u32v u.h, .slice A' n' c', .int .u64 N'] 173 (0, 0)) :=
  (((((((((h.b.set_ 0 (u32v u.a)).set_ 1 (u32v u.b)).set_ 2 (u32v u.c)).set_ 3 (u32v u.d)).set_ 4 (u32v u.e)).set_ 5 (u32v u.f)).set_ 6 (u32v u.g)).set_ 7 (u32v u.h)).set_ 8 (.slice A' n' c')).set_ 9 (.int .u64 N')
structure Summed (F : List UInt8) (v : H8) (bk : List UInt8) (vk : H8) : Prop where
  at_ : ∃ m, F.drop (64 * m) = bk ∧ 64 * m + bk.length = F.length ∧ vk = blocks v F m
theorem Summed.first {F r b : List UInt8} (v : H8) (h : r ++ b = F) (h1 : r.length < 64) (h2 : 64 ≤ r.length + b.length) : Summed F v (b.drop (64 - r.length)) (blockH v (r ++ b.take (64 - r.length))) := by
  subst h
  refine ⟨1, ?_, ?_, ?_⟩
  · rw [List.drop_append, List.drop_eq_nil_of_le (by omega), List.nil_append]
  · rw [List.length_drop, List.length_append]; omega
  · show _ = blockH v (((r ++ b).drop (64 * 0)).take 64)
    rw [Nat.mul_zero, List.drop_zero, List.take_append, List.take_of_length_le (l := r) (by omega)]
theorem Summed.zero {F r b : List UInt8} (v : H8) (h : r ++ b = F) (h1 : r = []) : Summed F v b v := by
  subst h h1
  exact ⟨0, rfl, by simp, rfl⟩
theorem Summed.next {F bk : List UInt8} {v vk : H8} (h : Summed F v bk vk) (hl : 64 ≤ bk.length) : Summed F v (bk.drop 64) (blockH vk (bk.take 64)) := by
  obtain ⟨m, h1, h2, h3⟩ := h
  refine ⟨m + 1, ?_, ?_, ?_⟩
  · rw [← h1, List.drop_drop, Nat.mul_succ]
  · rw [List.length_drop]; omega
  · rw [blocks, h1, h3]
theorem Summed.done {F bk : List UInt8} {v vk : H8} (h : Summed F v bk vk) (hl : bk.length < 64) : blocks v F (F.length / 64) = vk ∧ F.length % 64 = bk.length ∧ F.drop (64 * (F.length / 64)) = bk := by
  obtain ⟨m, h1, h2, h3⟩ := h
  have e : F.length / 64 = m := by omega
  rw [e]
  exact ⟨h3.symm, by omega, h1⟩
set_option maxRecDepth 100000 in
set_option maxHeartbeats 3000000 in
theorem write_any (v : H8) (RA : Option Addr) (r : List UInt8) (rc N : Nat) (A : Option Addr) (b : List UInt8) (c : Nat) (w : World) (hS : ShaOk w) (hr : Rd w RA (r.map u8v)) (hrl : r.length = N % 64) (hb : Rd w A (b.map u8v)) (hbc : b.length ≤ c) (hcm : c ≤ maxLen) (hbl : b.length ≤ 100000000) (hN : N ≤ 100000000000) (hrb : r = [] ∨ 64 ≤ r.length + b.length) :
    Calls Tryd.prog 80 #[SV v RA r.length rc N, .slice A b.length c] w fun e w' => ∃ A' c', e = .returned (SV (blocks v (r ++ b) ((r ++ b).length / 64)) A' ((r ++ b).length % 64) c' ((N + b.length : Nat) : Int)) ∧ Rd w' A' (((r ++ b).drop (64 * ((r ++ b).length / 64))).map u8v) ∧ Keep w w' := by
  have Hrl := Lib.hid hrl; have Hrb := Lib.hid hrb
  have hrn : r.length < 64 := by omega
  unfold maxLen at hcm
  clear hrl hrb
  obtain ⟨F, hF⟩ : ∃ F, r ++ b = F := ⟨_, rfl⟩
  rw [hF]
  have HF := Lib.hid hF; clear hF
  have Hr := Lib.hid hr; have Hb := Lib.hid hb; have HS := Lib.hid hS
  clear hr hb hS
  go_enter Tryd.func80, Tryd.ntmps80
  go_wp2_with fail
  refine (ssane_any v RA r.length rc N _ hrn (by omega) Hrl.out).mono ?_
  rintro e w1 ⟨rfl, k1⟩
  have HX1 := Lib.hid (((StCells.new w w.heap.size v RA r.length rc N rfl).b.alloc (.cells (h80.cells ++ ([.slice none 0 0, .int .u64 0] : List Value)).toArray 173)).keep k1)
  have HR1 : Hid (StCells w1 (w.heap.size + 1) h80 none 0 0 0) := (StCells.new _ _ h80 none 0 0 0 (by simp)).keep k1
  have hz1 : w.heap.size + 2 ≤ w1.heap.size := by have := k1.size; simpa using this
  have hzl : w.heap.size < w1.heap.size := by omega
  have kw := keep_trans (keep_trans (keep_new _ _) (keep_new _ _)) k1
  clear k1
  obtain ⟨x0, x1, x2, x3, x4, x5, x6, x7, x8, x9⟩ := (show StCells w1 w.heap.size v RA r.length rc N from ⟨HX1.out⟩).all
  go_upto_if 24 with fail
  have HO2 : Hid (StCells (w1.alloc (.cells #[.int .u32 v.a.toNat, .int .u32 v.b.toNat, .int .u32 v.c.toNat, .int .u32 v.d.toNat, .int .u32 v.e.toNat, .int .u32 v.f.toNat, .int .u32 v.g.toNat, .int .u32 v.h.toNat, .slice none 0 0, .int .u64 ((N : Int) + (b.length : Int))] 173)) w1.heap.size v none 0 0 ((N : Int) + (b.length : Int))) := StCells.new w1 w1.heap.size v none 0 0 _ rfl
  have k2 := keep_new w1 (.cells #[.int .u32 v.a.toNat, .int .u32 v.b.toNat, .int .u32 v.c.toNat, .int .u32 v.d.toNat, .int .u32 v.e.toNat, .int .u32 v.f.toNat, .int .u32 v.g.toNat, .int .u32 v.h.toNat, .slice none 0 0, .int .u64 ((N : Int) + (b.length : Int))] 173)
  have hz2 : w1.heap.size < (w1.alloc (.cells #[.int .u32 v.a.toNat, .int .u32 v.b.toNat, .int .u32 v.c.toNat, .int .u32 v.d.toNat, .int .u32 v.e.toNat, .int .u32 v.f.toNat, .int .u32 v.g.toNat, .int .u32 v.h.toNat, .slice none 0 0, .int .u64 ((N : Int) + (b.length : Int))] 173)).heap.size := by simp
  generalize w1.alloc (.cells #[.int .u32 v.a.toNat, .int .u32 v.b.toNat, .int .u32 v.c.toNat, .int .u32 v.d.toNat, .int .u32 v.e.toNat, .int .u32 v.f.toNat, .int .u32 v.g.toNat, .int .u32 v.h.toNat, .slice none 0 0, .int .u64 ((N : Int) + (b.length : Int))] 173) = w2 at HO2 k2 hz2 ⊢
  clear x0 x1 x2 x3 x4 x5 x6 x7 x8 x9
  have HX2 := Lib.hid (HX1.out.keep k2); have HR2 := Lib.hid (HR1.out.keep k2)
  replace kw := keep_trans kw k2
  clear HX1 HR1 k2
  go_cut [1] (fun s wx => ∃ A1 b1 c1 v1, s = .slice A1 b1.length c1 ∧ b1.length ≤ c1 ∧ c1 ≤ 9223372036854775807 ∧ b1.length ≤ 100000000 ∧ Rd w A1 (b1.map u8v) ∧ Hid (Summed F v b1 v1) ∧ Hid (StCells wx w1.heap.size v1 none 0 0 ((N : Int) + (b.length : Int))) ∧ Hid (StCells wx (w.heap.size + 1) h80 none 0 0 0) ∧ Keep w wx)
  case first =>
    by_cases hr0 : 0 < r.length
    · have hge : 64 ≤ r.length + b.length := by
        rcases Hrb.out with h | h
        · rw [h] at hr0; simp at hr0
        · exact h
      obtain ⟨_, _, _, _, _, _, _, _, x8, _⟩ := (show StCells w2 w.heap.size v RA r.length rc N from ⟨HX2.out⟩).all
      obtain ⟨wm, hmk, hbm, km, hsz⟩ := make_blk 0 64 0 64 rfl rfl (by omega) (by omega) w2
      have x8m := keep_cell km x8
      have own0 := own_made hbm (Nat.le_refl _) (by unfold maxLen; omega)
      have Own0 := Lib.hid own0; have Km := Lib.hid km
      have hqb : 64 - r.length ≤ b.length := by omega
      have x8m := keep_cell km x8
      have own0 := own_made hbm (Nat.le_refl _) (by unfold maxLen; omega)
      have Own0 := Lib.hid own0; have Km := Lib.hid km
      obtain ⟨q, hq⟩ : ∃ q, r.length + q = 64 := ⟨64 - r.length, by omega⟩
      have hmin : min (64 - (r.length : Int)) (b.length : Int) = (q : Int) := by omega
      have hqb : q ≤ b.length := by omega
      have Hq := Lib.hid hq; clear hq
      clear hbm own0
      go_upto_region 8 with (at_builtin; refine wpList_app byteW (by rfl) _ _ (by rfl) w2.heap.size _ 0 _ (by rfl) Own0.out _ r.length rc (r.map u8v) (by rfl) (by simp) (Hr.out.keep (keep_trans kw Km.out)) (one_w8 _) (by omega) (by unfold maxLen; omega) (by omega) ?_; intro v3 w3 own3 hg3 hat3)
      rw [Nat.zero_add, List.nil_append] at own3
      obtain ⟨A3, c3, rfl, hc3, hm3, hr3⟩ := own_form own3
      have Own3 := Lib.hid own3
      have k3 := keep_grown Km.out Km.out.size hg3 Own0.out
      clear own3 hr3
      have Brd := Lib.hid (((Hb.out.take (64 - r.length)).keep (keep_trans kw k3)))
      have hbk : (r ++ b.take (64 - r.length)).length = 64 := by rw [List.length_append, List.length_take]; omega
      go_upto_if 44 with (at_builtin; refine wpList_app byteW (by rfl) _ _ (by rfl) w2.heap.size _ r.length _ (by rfl) Own3.out _ (64 - r.length) c ((b.map u8v).take (64 - r.length)) (by rfl) (by simp; omega) Brd.out (fun u hu => one_w8 b u (List.mem_of_mem_take hu)) (by omega) (by unfold maxLen; omega) (by have := k3.size; omega) ?_; intro v4 w4 own4 hg4 hat4; have own5 := own_eq own4 (n' := 64) (xs' := (r ++ b.take (64 - r.length)).map u8v) (by omega) (by rw [List.map_append, List.map_take]); obtain ⟨A4, c4, rfl, hc4, hm4, hr4⟩ := own_form own5)
      have k4 := keep_grown k3 k3.size hg4 Own3.out
      have HO4 := Lib.hid (HO2.out.keep k4); have HR4 := Lib.hid (HR2.out.keep k4)
      have kw4 := keep_trans kw k4
      obtain ⟨x0, x1, x2, x3, x4, x5, x6, x7, _, _⟩ := HO4.out.all
      have Hr4 := Lib.hid hr4; have Hbk := Lib.hid hbk
      clear own4 own5 hg3 hg4 hat3 hat4 hr4 x8 x8m hmk
      go_wp2_with fail
      refine (block_any v A4 _ c4 _ Hbk.out Hr4.out (HS.out.keep kw4)).mono ?_
      rintro e w5 ⟨rfl, k5⟩
      have HO5 := Lib.hid (HO4.out.keep k5); have HR5 := Lib.hid (HR4.out.keep k5)
      have kw5 := keep_trans kw4 k5
      obtain ⟨y0, y1, y2, y3, y4, y5, y6, y7, _, _⟩ := HO5.out.all
      obtain ⟨f0, f1, f2, f3, f4, f5, f6, f7, _, _⟩ := HO5.out.fr
      clear x0 x1 x2 x3 x4 x5 x6 x7
      have HF' := HF.out
      generalize hu : blockH v (r ++ b.take (64 - r.length)) = u
      have Hu := Lib.hid hu; clear hu
      go_wp2
      all_goals go_meet
      all_goals refine ⟨_, b.drop (64 - r.length), _, u, by rw [List.length_drop], by rw [List.length_drop]; omega, by omega, by rw [List.length_drop]; omega, ?_, by rw [← Hu.out]; exact Summed.first v HF.out hrn hge, HO5.out.set8 u, ?_, ?_⟩
      all_goals first
        | (rw [List.map_drop]; exact Hb.out.dropN (by simp; omega))
        | (rw [List.drop_eq_nil_of_le (by omega)]; exact .inl rfl)
        | (repeat (refine Below.setCell ?_ (by simp; omega) _)
           exact kw5)
        | (refine ⟨?_⟩
           repeat (refine Blk.far ?_ (by simp; omega) _)
           exact HR5.out.b)
    · have HF' := HF.out
      have hr1 : r = [] := List.eq_nil_of_length_eq_zero (by omega)
      have Hr1 := Lib.hid hr1; clear hr1
      go_wp2
      all_goals go_meet
      all_goals exact ⟨A, b, c, v, rfl, hbc, hcm, hbl, Hb.out, Summed.zero v HF.out Hr1.out, HO2.out, HR2.out, kw⟩
  case rest =>
    obtain ⟨A1, b1, c1, v1, rfl, hbc1, hcm1, hbl1, hb1, HS1, HO1, HR1, kw1⟩ := hcut
    have Hb1 := Lib.hid hb1; clear hb1
    go_wp2_with fail
    go_loopw [1] (fun s wr => ∃ A2 b2 c2 v2, s = .slice A2 b2.length c2 ∧ b2.length ≤ c2 ∧ c2 ≤ 9223372036854775807 ∧ b2.length ≤ 100000000 ∧ Rd w A2 (b2.map u8v) ∧ Hid (Summed F v b2 v2) ∧ Hid (StCells wr w1.heap.size v2 none 0 0 ((N : Int) + (b.length : Int))) ∧ Hid (StCells wr (w.heap.size + 1) h80 none 0 0 0) ∧ Keep w wr) (fun s _ => match s with | .slice _ n _ => n | _ => 0)
    case atStart => exact ⟨A1, b1, c1, v1, rfl, hbc1, hcm1, hbl1, Hb1.out, HS1, HO1, HR1, kw1⟩
    case round =>
      obtain ⟨A2, b2, c2, v2, rfl, hbc2, hcm2, hbl2, hb2, HS2, HO2, HR2, kw2⟩ := hrel
      have Hb2 := Lib.hid hb2; clear hb2
      by_cases hlt : 64 ≤ b2.length
      · obtain ⟨x0, x1, x2, x3, x4, x5, x6, x7, _, _⟩ := HO2.out.all
        have HBl : Hid (∀ w', Keep w w' → ∀ c', Calls Tryd.prog 97 #[v2.agg, .slice A2 64 c'] w' fun e w'' => e = .returned (blockH v2 (b2.take 64)).agg ∧ Keep w' w'') := fun w' h c' => block_any v2 A2 (b2.take 64) c' w' (by rw [List.length_take]; omega) (by rw [List.map_take]; exact (Hb2.out.keep h).take 64) (HS.out.keep h)
        generalize hu : blockH v2 (b2.take 64) = u at HBl
        have Hu := Lib.hid hu; clear hu
        go_wp2
        refine wp_region_tree (.take [0,1,2,3] (.force [4] (.take [5] .done))) [6] (by kernel_rfl) (by kernel_rfl) (fun w3 k3 => ?_)
        have a0 := aft_cell (keep_cell k3 x0); have a1 := aft_cell (keep_cell k3 x1); have a2 := aft_cell (keep_cell k3 x2); have a3 := aft_cell (keep_cell k3 x3)
        have a4 := aft_cell (keep_cell k3 x4); have a5 := aft_cell (keep_cell k3 x5); have a6 := aft_cell (keep_cell k3 x6); have a7 := aft_cell (keep_cell k3 x7)
        refine mt_take w3 (Below.refl _ _) ?_
        simp only [pick_cons, pick_nil, nth_zero, nth_succ]
        repeat (go_big_quiet_step (fail))
        refine wpQuiet_nil ?_
        clear a0 a1 a2 a3 a4 a5 a6 a7 x0 x1 x2 x3 x4 x5 x6 x7
        refine mt_force ?_
        simp only [pick_cons, pick_nil, nth_zero, nth_succ]
        refine fc_step rfl (fun K hK => ?_)
        go_simp
        have kw3 := keep_trans kw2 k3
        (with_reducible refine (HBl.out _ kw3 _).mono ?_)
        rintro e w4 ⟨rfl, hk⟩
        refine hK _ _ hk ?_
        clear hK K
        refine fc_nil ?_
        refine mt_take w4 (Below.refl _ _) ?_
        simp only [pick_cons, pick_nil, nth_zero, nth_succ]
        repeat (go_big_quiet_step (fail))
        refine wpQuiet_nil (mt_end ?_)
        have k4 := keep_trans k3 hk
        have HO4 := Lib.hid (HO2.out.keep k4); have HR4 := Lib.hid (HR2.out.keep k4)
        have kw4 := keep_trans kw3 hk
        obtain ⟨x0, x1, x2, x3, x4, x5, x6, x7, _, _⟩ := HO4.out.all
        obtain ⟨f0, f1, f2, f3, f4, f5, f6, f7, _, _⟩ := HO4.out.fr
        clear hk
        go_wp2
        go_roundw
        case rel =>
          refine ⟨_, b2.drop 64, c2 - 64, u, by rw [List.length_drop], by rw [List.length_drop]; omega, by omega, by rw [List.length_drop]; omega, by rw [List.map_drop]; exact Hb2.out.dropS 64 c2 (by simpa using hlt) (by simpa using hbc2), by rw [← Hu.out]; exact Summed.next HS2.out hlt, HO4.out.set8 u, ?_, ?_⟩
          · refine ⟨?_⟩
            repeat (refine Blk.far ?_ (by simp; omega) _)
            exact HR4.out.b
          · repeat (refine Below.setCell ?_ (by simp; omega) _)
            exact kw4
        case measure => simp; omega
      · have hlt2 : b2.length < 64 := by omega
        have Hd := Lib.hid (HS2.out.done hlt2)
        have hnn : ¬ (64 : Int) ≤ (b2.length : Int) := by omega
        go_upto_region 18 with (at_builtin; refine wpList_app byteW (by rfl) _ _ (by rfl) wr.heap.size _ 0 [] (by rfl) (own_zero _ _ _) _ b2.length c2 (b2.map u8v) (by rfl) (by simp) (Hb2.out.keep (keep_trans kw2 (keep_new _ _))) (one_w8 _) (by omega) (by unfold maxLen; omega) (by simp) ?_; intro v9 w9 own9 hg9 hat9; have own10 := own_eq own9 (n' := b2.length) (xs' := b2.map u8v) (by omega) (by simp); obtain ⟨A9, c9, rfl, hc9, hm9, hr9⟩ := own_form own10; have Hf9 := Lib.hid (own_fresh own10); have k9 := keep_grown (keep_new wr _) (by simp) hg9 (own_zero _ _ 1); have HO9 := Lib.hid (HO2.out.keep k9); have HR9 := Lib.hid (HR2.out.keep k9); obtain ⟨x0, x1, x2, x3, x4, x5, x6, x7, x8, x9⟩ := HO9.out.all; obtain ⟨f0, f1, f2, f3, f4, f5, f6, f7, f8, f9⟩ := HO9.out.fr; obtain ⟨y0, y1, y2, y3, y4, y5, y6, y7, y8, y9⟩ := HR9.out.all; obtain ⟨g0, g1, g2, g3, g4, g5, g6, g7, g8, g9⟩ := HR9.out.fr; have Hr9 := Lib.hid hr9; clear own9 own10 hr9 hg9 hat9)
        go_wp2
        have hws := kw2.size
        have hw1 := HO2.out.b.lt
        have hw2 := HR2.out.b.lt
        refine bodyPost_ret (v := SV v2 A9 b2.length c9 ((N : Int) + (b.length : Int))) (results_cell_row Tryd.results80 _ _ (w.heap.size + 1) _ _ _ _ rfl (StCells.set10 ⟨HR9.out.b.far (p := ⟨w1.heap.size, 8, none⟩) (by simp; omega) _⟩ v2 A9 b2.length c9 _) Tryd.underlying173 rfl (by kernel_rfl)) rfl ?_
        obtain ⟨e1, e2, e3⟩ := Hd.out
        rw [e1, e2, ← List.map_drop, e3]
        refine ⟨A9, ⟨c9, rfl⟩, ?_, ?_⟩
        · rcases Hf9.out with h0 | ⟨g, off, rfl, hg⟩
          · rw [List.eq_nil_of_length_eq_zero h0]; exact .inl rfl
          · iterate 11 (refine Rd.far ?_ (by simp; omega) _)
            exact Hr9.out
        · iterate 11 (refine Below.setCell ?_ (by first | (simp; omega) | simp) _)
          exact keep_trans kw2 k9
end Go.Proofs.YtffpanlpbdnafaaDoor
namespace Go.Proofs.YtffpanlpbdnafaaDoor
open Go.RowKit
attribute [local go_sem ↓] Go.wp_at_zero Go.wp_at_succ
def byE (x : UInt32) (d : Int) : Int := (x.toNat : Int) / d % 256
def outK (V : List UInt32) : Nat → List UInt8
  | 0 => List.replicate 32 0
  | k + 1 => ((((outK V k).set (4 * k) (w8 (byE (V.getD k 0) 16777216))).set (4 * k + 1) (w8 (byE (V.getD k 0) 65536))).set (4 * k + 2) (w8 (byE (V.getD k 0) 256))).set (4 * k + 3) (w8 (byE (V.getD k 0) 1))
theorem outK_len (V : List UInt32) (k : Nat) : (outK V k).length = 32 := by
  induction k with
  | zero => rfl
  | succ k ih => rw [outK, List.length_set, List.length_set, List.length_set, List.length_set, ih]
def outH (V : H8) : List UInt8 := outK V.l 8
theorem outH_len (V : H8) : (outH V).length = 32 := outK_len _ _
def endH (v : H8) (r : List UInt8) (N : Nat) : H8 := blocks v (r ++ padK N 8) ((r ++ padK N 8).length / 64)
def sumL (l : List UInt8) : List UInt8 := outH (endH (blocks h0V l (l.length / 64)) (l.drop (64 * (l.length / 64))) l.length)
def dblL (l : List UInt8) : List UInt8 := sumL (sumL l)
theorem sumL_len (l : List UInt8) : (sumL l).length = 32 := by unfold sumL; exact outH_len _
theorem dblL_len (l : List UInt8) : (dblL l).length = 32 := by unfold dblL; exact sumL_len _
theorem idx8 (V : H8) (k : Nat) (hk : k < 8) (y : UInt32) (hy : V.l[k]? = some y) (w : World) :
    (Instr.index 171 (.agg #[.int .u32 V.a.toNat, .int .u32 V.b.toNat, .int .u32 V.c.toNat, .int .u32 V.d.toNat, .int .u32 V.e.toNat, .int .u32 V.f.toNat, .int .u32 V.g.toNat, .int .u32 V.h.toNat]) (.int .i64 k)).run Tryd.prog w = .ok (u32v y) w := by
  rcases (show k = 0 ∨ k = 1 ∨ k = 2 ∨ k = 3 ∨ k = 4 ∨ k = 5 ∨ k = 6 ∨ k = 7 by omega) with rfl | rfl | rfl | rfl | rfl | rfl | rfl | rfl
  all_goals
    clear hk
    simp only [H8.l, List.getElem?_cons_zero, List.getElem?_cons_succ, Option.some.injEq] at hy
    subst hy
    first | (go_simp; done) | (simp [Instr.index, asIntOf, run_underlying Tryd.underlying171, go_sem]; done)
set_option maxRecDepth 100000 in
set_option maxHeartbeats 3000000 in
theorem end_any (v : H8) (RA : Option Addr) (r : List UInt8) (rc N : Nat) (w : World) (hS : ShaOk w) (hr : Rd w RA (r.map u8v)) (hrl : r.length = N % 64) (hN : N ≤ 100000000000) :
    Calls Tryd.prog 79 #[SV v RA r.length rc N] w fun e w' => e = .returned (hashV (outH (endH v r N))) ∧ Keep w w' := by
  have hpl := padK_len N 8
  have P1 : Hid (∀ w', Keep w w' → Calls Tryd.prog 96 #[.int .u64 N] w' fun e w'' => ∃ A', e = .returned (.slice A' (padK N 8).length (padK N 8).length) ∧ Rd w'' A' ((padK N 8).map u8v) ∧ Keep w' w'') := fun w' hk =>
    (pad_any N w' (by omega)).mono fun e w'' ⟨h1, h2, h3⟩ => ⟨_, by rw [h1, hpl], h2.rd, h3⟩
  have W1 : Hid (∀ w' A', Keep w w' → Rd w' A' ((padK N 8).map u8v) → Calls Tryd.prog 80 #[SV v RA r.length rc N, .slice A' (padK N 8).length (padK N 8).length] w' fun e w'' => ∃ A2 n2 c2 N2, e = .returned (SV (endH v r N) A2 n2 c2 N2) ∧ Keep w' w'') := fun w' A' hk hp =>
    (write_any v RA r rc N A' (padK N 8) _ w' (hS.keep hk) (hr.keep hk) hrl hp (Nat.le_refl _) (by rw [hpl]; unfold padZ maxLen; split <;> omega) (by rw [hpl]; unfold padZ; split <;> omega) hN (by right; rw [hpl, hrl]; unfold padZ; split <;> omega)).mono
      fun e w'' ⟨A', c', h1, h2, h3⟩ => ⟨_, _, _, _, h1, h3⟩
  have Hrl := Lib.hid hrl
  have hrn : r.length < 64 := by omega
  clear hpl hrl hr hS
  generalize endH v r N = V at *
  generalize padK N 8 = pd at *
  go_enter Tryd.func79, Tryd.ntmps79
  go_wp2_with fail
  refine (ssane_any v RA r.length rc N _ hrn (by omega) Hrl.out).mono ?_
  rintro e w1 ⟨rfl, k1⟩
  have HX1 : Hid (StCells w1 w.heap.size v RA r.length rc N) := ⟨((StCells.new w w.heap.size v RA r.length rc N rfl).b.alloc _).keep k1⟩
  have HR1 := Lib.hid ((z32_blk (w.alloc (.cells #[u32v v.a, u32v v.b, u32v v.c, u32v v.d, u32v v.e, u32v v.f, u32v v.g, u32v v.h, .slice RA r.length rc, .int .u64 N] 173)) (w.heap.size + 1) 39 (by simp)).keep k1)
  have hz1 : w.heap.size + 2 ≤ w1.heap.size := by have := k1.size; simpa using this
  have kw := keep_trans (keep_trans (keep_new _ _) (keep_new _ _)) k1
  clear k1
  obtain ⟨x0, x1, x2, x3, x4, x5, x6, x7, x8, x9⟩ := HX1.out.all
  go_wp2_with fail
  refine wp_region_tree (.take [0,1,2] (.force [3,4] .done)) [5] (by kernel_rfl) (by kernel_rfl) (fun w3 k3 => ?_)
  have a0 := aft_cell (keep_cell k3 x0); have a1 := aft_cell (keep_cell k3 x1); have a2 := aft_cell (keep_cell k3 x2); have a3 := aft_cell (keep_cell k3 x3)
  have a4 := aft_cell (keep_cell k3 x4); have a5 := aft_cell (keep_cell k3 x5); have a6 := aft_cell (keep_cell k3 x6); have a7 := aft_cell (keep_cell k3 x7)
  have a8 := aft_cell (keep_cell k3 x8); have a9 := aft_cell (keep_cell k3 x9)
  refine mt_take w3 (Below.refl _ _) ?_
  simp only [pick_cons, pick_nil, nth_zero, nth_succ]
  repeat (go_big_quiet_step (fail))
  refine wpQuiet_nil ?_
  clear a0 a1 a2 a3 a4 a5 a6 a7 a8 a9 x0 x1 x2 x3 x4 x5 x6 x7 x8 x9
  refine mt_force ?_
  simp only [pick_cons, pick_nil, nth_zero, nth_succ]
  refine fc_step rfl (fun K hK => ?_)
  go_simp
  have kw3 := keep_trans kw k3
  (with_reducible refine (P1.out _ kw3).mono ?_)
  rintro e w4 ⟨A4, rfl, hr4, hk⟩
  refine hK _ _ hk ?_
  clear hK K
  have kw4 := keep_trans kw3 hk
  have Hr4 := Lib.hid hr4
  have k4 := keep_trans k3 hk
  clear hk hr4
  refine fc_step rfl (fun K hK => ?_)
  go_simp
  (with_reducible refine (W1.out _ _ kw4 Hr4.out).mono ?_)
  rintro e w5 ⟨A5, n5, c5, N5, rfl, hk⟩
  refine hK _ _ hk ?_
  clear hK K
  have kw5 := keep_trans kw4 hk
  have k5 := keep_trans k4 hk
  have HX5 := Lib.hid (HX1.out.keep k5); have HR5 := Lib.hid (HR1.out.keep k5)
  have hz5 := k5.size
  clear hk
  refine fc_nil (mt_end ?_)
  obtain ⟨x0, x1, x2, x3, x4, x5, x6, x7, x8, x9⟩ := HX5.out.all
  obtain ⟨f0, f1, f2, f3, f4, f5, f6, f7, f8, f9⟩ := HX5.out.fr
  have hzl : w.heap.size < w5.heap.size := by omega
  go_wp2_with fail
  obtain ⟨wq, hwq⟩ : ∃ wq, wq = ((((((((((w5.setCell ⟨w.heap.size, 0, none⟩ (u32v V.a)).setCell ⟨w.heap.size, 1, none⟩ (u32v V.b)).setCell ⟨w.heap.size, 2, none⟩ (u32v V.c)).setCell ⟨w.heap.size, 3, none⟩ (u32v V.d)).setCell ⟨w.heap.size, 4, none⟩ (u32v V.e)).setCell ⟨w.heap.size, 5, none⟩ (u32v V.f)).setCell ⟨w.heap.size, 6, none⟩ (u32v V.g)).setCell ⟨w.heap.size, 7, none⟩ (u32v V.h)).setCell ⟨w.heap.size, 8, none⟩ (.slice A5 n5 c5)).setCell ⟨w.heap.size, 9, none⟩ (.int .u64 N5)) := ⟨_, rfl⟩
  have hzq : wq.heap.size = w5.heap.size := by rw [hwq]; simp
  have kwq : Keep w wq := by
    rw [hwq]
    iterate 10 (refine Below.setCell ?_ (by simp) _)
    exact kw5
  have hrq : Blk wq (w.heap.size + 1) 39 ((List.replicate 32 (0 : UInt8)).map u8v) := by
    rw [hwq]
    iterate 10 (refine Blk.far ?_ (by simp) _)
    exact HR5.out
  rw [← hwq]
  clear hwq x0 x1 x2 x3 x4 x5 x6 x7 x8 x9 f0 f1 f2 f3 f4 f5 f6 f7 f8 f9
  rw [← hzq]
  have hsq : w.heap.size + 1 < wq.heap.size := by omega
  clear hzq
  have ho6 := z32_blk wq wq.heap.size 39 rfl
  have hr6 := hrq.alloc (.cells #[.int .u8 0, .int .u8 0, .int .u8 0, .int .u8 0, .int .u8 0, .int .u8 0, .int .u8 0, .int .u8 0, .int .u8 0, .int .u8 0, .int .u8 0, .int .u8 0, .int .u8 0, .int .u8 0, .int .u8 0, .int .u8 0, .int .u8 0, .int .u8 0, .int .u8 0, .int .u8 0, .int .u8 0, .int .u8 0, .int .u8 0, .int .u8 0, .int .u8 0, .int .u8 0, .int .u8 0, .int .u8 0, .int .u8 0, .int .u8 0, .int .u8 0, .int .u8 0] 39)
  have kw6 := keep_trans kwq (keep_new wq (.cells #[.int .u8 0, .int .u8 0, .int .u8 0, .int .u8 0, .int .u8 0, .int .u8 0, .int .u8 0, .int .u8 0, .int .u8 0, .int .u8 0, .int .u8 0, .int .u8 0, .int .u8 0, .int .u8 0, .int .u8 0, .int .u8 0, .int .u8 0, .int .u8 0, .int .u8 0, .int .u8 0, .int .u8 0, .int .u8 0, .int .u8 0, .int .u8 0, .int .u8 0, .int .u8 0, .int .u8 0, .int .u8 0, .int .u8 0, .int .u8 0, .int .u8 0, .int .u8 0] 39))
  have Ho6 := Lib.hid ho6; have Hr6 := Lib.hid hr6
  generalize wq.alloc (.cells #[.int .u8 0, .int .u8 0, .int .u8 0, .int .u8 0, .int .u8 0, .int .u8 0, .int .u8 0, .int .u8 0, .int .u8 0, .int .u8 0, .int .u8 0, .int .u8 0, .int .u8 0, .int .u8 0, .int .u8 0, .int .u8 0, .int .u8 0, .int .u8 0, .int .u8 0, .int .u8 0, .int .u8 0, .int .u8 0, .int .u8 0, .int .u8 0, .int .u8 0, .int .u8 0, .int .u8 0, .int .u8 0, .int .u8 0, .int .u8 0, .int .u8 0, .int .u8 0] 39) = w6 at Ho6 Hr6 kw6 ⊢
  clear ho6 hr6
  go_loopw [17] (fun i wr => ∃ k : Nat, k ≤ 8 ∧ i = .int .i64 k ∧ Keep w wr ∧ Blk wr (w.heap.size + 1) 39 ((List.replicate 32 (0 : UInt8)).map u8v) ∧ Blk wr wq.heap.size 39 ((outK V.l k).map u8v)) (fun i _ => 8 - (intOf i).toNat)
  case atStart => exact ⟨0, by omega, rfl, kw6, Hr6.out, Ho6.out⟩
  case round =>
    obtain ⟨k, hk, rfl, hkr, hbr, hbo⟩ := hrel
    by_cases hlt : k < 8
    · obtain ⟨y, hy⟩ : ∃ y, V.l[k]? = some y := ⟨_, List.getElem?_eq_getElem (by exact hlt)⟩
      have hix := idx8 V k hlt y hy wr
      have Hou := Lib.hid (show outK V.l (k + 1) = ((((outK V.l k).set (4 * k) (w8 (byE y 16777216))).set (4 * k + 1) (w8 (byE y 65536))).set (4 * k + 2) (w8 (byE y 256))).set (4 * k + 3) (w8 (byE y 1)) by rw [outK, getD_of hy])
      have HL0 := Lib.hid (outK_len V.l k)
      have Hbr := Lib.hid hbr; have Hbo0 := Lib.hid hbo
      clear hbr hbo hy
      have Hkr0 := Lib.hid hkr
      have hwz := hkr.size
      obtain ⟨o0, h0⟩ : ∃ o, (outK V.l k)[4 * k]? = some o := ⟨_, List.getElem?_eq_getElem (by rw [HL0.out]; omega)⟩
      have c0 := Hbo0.out.cell (4 * k); rw [List.getElem?_map, h0, Option.map_some] at c0
      have f0 := Hbo0.out.frozen (4 * k)
      clear h0
      go_upto_region 9 with fail
      obtain ⟨wa, hw0⟩ : ∃ ww, ww = wr.setCell ⟨wq.heap.size, 4 * k, none⟩ (.int .u8 ((y.toNat : Int) / 16777216 % 256)) := ⟨_, rfl⟩
      have Hbo1 : Hid (Blk wa wq.heap.size 39 (((outK V.l k).set (4 * k) (w8 (byE y 16777216))).map u8v)) := by
        rw [set_map8 _ _ (byE y 16777216) (by unfold byE; omega) (by unfold byE; omega), hw0]
        have h := Hbo0.out.set_ (4 * k) (.int .u8 (byE y 16777216))
        exact h
      have HL1 : Hid (((outK V.l k).set (4 * k) (w8 (byE y 16777216))).length = 32) := by
        have h := HL0.out
        show (List.set _ _ _).length = 32
        rw [List.length_set]; exact h
      have Hbr1 : Hid (Blk wa (w.heap.size + 1) 39 ((List.replicate 32 (0 : UInt8)).map u8v)) := by rw [hw0]; exact Hbr.out.far (by simp; omega) _
      have Hkr1 : Hid (Keep w wa) := by rw [hw0]; exact Hkr0.out.setCell (by simp; omega) _
      rw [← hw0]
      clear hw0 c0 f0
      obtain ⟨o1, h1⟩ : ∃ o, ((outK V.l k).set (4 * k) (w8 (byE y 16777216)))[4 * k + 1]? = some o := ⟨_, List.getElem?_eq_getElem (by rw [HL1.out]; omega)⟩
      have c1 := Hbo1.out.cell (4 * k + 1); rw [List.getElem?_map, h1, Option.map_some] at c1
      have f1 := Hbo1.out.frozen (4 * k + 1)
      clear h1
      go_upto_region 10 with fail
      obtain ⟨wb, hw1⟩ : ∃ ww, ww = wa.setCell ⟨wq.heap.size, 4 * k + 1, none⟩ (.int .u8 ((y.toNat : Int) / 65536 % 256)) := ⟨_, rfl⟩
      have Hbo2 : Hid (Blk wb wq.heap.size 39 ((((outK V.l k).set (4 * k) (w8 (byE y 16777216))).set (4 * k + 1) (w8 (byE y 65536))).map u8v)) := by
        rw [set_map8 _ _ (byE y 65536) (by unfold byE; omega) (by unfold byE; omega), hw1]
        have h := Hbo1.out.set_ (4 * k + 1) (.int .u8 (byE y 65536))
        exact h
      have HL2 : Hid ((((outK V.l k).set (4 * k) (w8 (byE y 16777216))).set (4 * k + 1) (w8 (byE y 65536))).length = 32) := by
        have h := HL1.out
        show (List.set _ _ _).length = 32
        rw [List.length_set]; exact h
      have Hbr2 : Hid (Blk wb (w.heap.size + 1) 39 ((List.replicate 32 (0 : UInt8)).map u8v)) := by rw [hw1]; exact Hbr1.out.far (by simp; omega) _
      have Hkr2 : Hid (Keep w wb) := by rw [hw1]; exact Hkr1.out.setCell (by simp; omega) _
      rw [← hw1]
      clear hw1 c1 f1
      obtain ⟨o2, h2⟩ : ∃ o, (((outK V.l k).set (4 * k) (w8 (byE y 16777216))).set (4 * k + 1) (w8 (byE y 65536)))[4 * k + 2]? = some o := ⟨_, List.getElem?_eq_getElem (by rw [HL2.out]; omega)⟩
      have c2 := Hbo2.out.cell (4 * k + 2); rw [List.getElem?_map, h2, Option.map_some] at c2
      have f2 := Hbo2.out.frozen (4 * k + 2)
      clear h2
      go_upto_region 11 with fail
      obtain ⟨wc, hw2⟩ : ∃ ww, ww = wb.setCell ⟨wq.heap.size, 4 * k + 2, none⟩ (.int .u8 ((y.toNat : Int) / 256 % 256)) := ⟨_, rfl⟩
      have Hbo3 : Hid (Blk wc wq.heap.size 39 (((((outK V.l k).set (4 * k) (w8 (byE y 16777216))).set (4 * k + 1) (w8 (byE y 65536))).set (4 * k + 2) (w8 (byE y 256))).map u8v)) := by
        rw [set_map8 _ _ (byE y 256) (by unfold byE; omega) (by unfold byE; omega), hw2]
        have h := Hbo2.out.set_ (4 * k + 2) (.int .u8 (byE y 256))
        exact h
      have HL3 : Hid (((((outK V.l k).set (4 * k) (w8 (byE y 16777216))).set (4 * k + 1) (w8 (byE y 65536))).set (4 * k + 2) (w8 (byE y 256))).length = 32) := by
        have h := HL2.out
        show (List.set _ _ _).length = 32
        rw [List.length_set]; exact h
      have Hbr3 : Hid (Blk wc (w.heap.size + 1) 39 ((List.replicate 32 (0 : UInt8)).map u8v)) := by rw [hw2]; exact Hbr2.out.far (by simp; omega) _
      have Hkr3 : Hid (Keep w wc) := by rw [hw2]; exact Hkr2.out.setCell (by simp; omega) _
      rw [← hw2]
      clear hw2 c2 f2
      obtain ⟨o3, h3⟩ : ∃ o, ((((outK V.l k).set (4 * k) (w8 (byE y 16777216))).set (4 * k + 1) (w8 (byE y 65536))).set (4 * k + 2) (w8 (byE y 256)))[4 * k + 3]? = some o := ⟨_, List.getElem?_eq_getElem (by rw [HL3.out]; omega)⟩
      have c3 := Hbo3.out.cell (4 * k + 3); rw [List.getElem?_map, h3, Option.map_some] at c3
      have f3 := Hbo3.out.frozen (4 * k + 3)
      clear h3
      go_upto_region 12 with fail
      obtain ⟨wd, hw3⟩ : ∃ ww, ww = wc.setCell ⟨wq.heap.size, 4 * k + 3, none⟩ (.int .u8 ((y.toNat : Int) % 256)) := ⟨_, rfl⟩
      have Hbo4 : Hid (Blk wd wq.heap.size 39 ((((((outK V.l k).set (4 * k) (w8 (byE y 16777216))).set (4 * k + 1) (w8 (byE y 65536))).set (4 * k + 2) (w8 (byE y 256))).set (4 * k + 3) (w8 (byE y 1))).map u8v)) := by
        rw [set_map8 _ _ (byE y 1) (by unfold byE; omega) (by unfold byE; omega), hw3]
        have h := Hbo3.out.set_ (4 * k + 3) (.int .u8 (byE y 1))
        unfold byE at h ⊢; rw [Int.ediv_one] at h ⊢; exact h
      have HL4 : Hid ((((((outK V.l k).set (4 * k) (w8 (byE y 16777216))).set (4 * k + 1) (w8 (byE y 65536))).set (4 * k + 2) (w8 (byE y 256))).set (4 * k + 3) (w8 (byE y 1))).length = 32) := by
        have h := HL3.out
        show (List.set _ _ _).length = 32
        rw [List.length_set]; exact h
      have Hbr4 : Hid (Blk wd (w.heap.size + 1) 39 ((List.replicate 32 (0 : UInt8)).map u8v)) := by rw [hw3]; exact Hbr3.out.far (by simp; omega) _
      have Hkr4 : Hid (Keep w wd) := by rw [hw3]; exact Hkr3.out.setCell (by simp; omega) _
      rw [← hw3]
      clear hw3 c3 f3
      go_wp2
      go_roundw
      case rel =>
        refine ⟨k + 1, by omega, by go_num, Hkr4.out, Hbr4.out, ?_⟩
        rw [Hou.out]
        exact Hbo4.out
      case measure => simp [intOf]; omega
    · have Hk := Lib.hid (show k = 8 by omega)
      have hxl := outK_len V.l k
      generalize hx : outK V.l k = x at hbo hxl
      have Hx := Lib.hid hx; clear hx
      obtain ⟨cs, hcs⟩ : ∃ cs : Array Value, cs.toList = x.map u8v := ⟨(x.map u8v).toArray, rfl⟩
      have hcz : cs.size = 32 := by rw [← Array.length_toList, hcs, List.length_map, hxl]
      have hci : (Tryd.prog.info? 39).map (·.size) = some cs.size := by rw [hcz]; kernel_rfl
      have hcn : ¬ cs = #[] := by intro h; rw [h] at hcz; simp at hcz
      rw [← hcs] at hbo
      obtain ⟨w8, hst, hb8, hg8⟩ := run_store_blk (P := Tryd.prog) cs.toList hbr (by simp [hcz]) (by rw [hcs]; exact one_w8 _)
      have Hbo := Lib.hid hbo; have Hb8 := Lib.hid hb8; have Hg8 := Lib.hid hg8; have Hcs := Lib.hid hcs
      clear hbo hb8 hg8 hcs hbr
      go_upto_region 13 with fail
      go_wp2_with ((with_reducible refine load_arr wq.heap.size cs (Eq.trans ?_ rfl) Hbo.out (.array 32 5) (show Tryd.prog.underlying 39 = _ by kernel_rfl) (arr_row _ _) hci ?_); rfl)
      have hb8 := Hb8.out
      refine bodyPost_ret (v := .agg cs) (results_cell_row Tryd.results79 _ _ (w.heap.size + 1) _ _ _ (.array 32 5) rfl hb8 (by kernel_rfl) rfl (by rw [List.size_toArray, Array.length_toList, hcz]; kernel_rfl)) rfl ⟨?_, hkr.grown Hg8.out (by have := hkr.size; omega) (fun q hq => by injection hq with hq; omega)⟩
      rw [show cs = (x.map u8v).toArray from by rw [← Hcs.out, Array.toArray_toList], ← Hx.out, Hk.out]
      rfl
set_option maxRecDepth 100000 in
set_option maxHeartbeats 1000000 in
theorem sum_any (A : Option Addr) (l : List UInt8) (c : Nat) (w : World) (hS : ShaOk w) (hr : Rd w A (l.map u8v)) (hlc : l.length ≤ c) (hcm : c ≤ maxLen) (hl : l.length ≤ 100000000) :
    Calls Tryd.prog 62 #[.slice A l.length c] w fun e w' => e = .returned (hashV (sumL l)) ∧ Keep w w' := by
  obtain ⟨cs, hcs⟩ : ∃ cs, HashA (sumL l) cs := ⟨_, HashA.of (sumL_len l)⟩
  have E1 : Hid (∀ w' A' c', Keep w w' → Rd w' A' ((l.drop (64 * (l.length / 64))).map u8v) → Calls Tryd.prog 79 #[SV (blocks h0V l (l.length / 64)) A' (l.length % 64) c' l.length] w' fun e w'' => e = .returned (.agg cs) ∧ Keep w' w'') := fun w' A' c' hk hr' => by
    have hm : (l.drop (64 * (l.length / 64))).length = l.length % 64 := by rw [List.length_drop]; omega
    have h := end_any (blocks h0V l (l.length / 64)) A' (l.drop (64 * (l.length / 64))) c' l.length w' (hS.keep hk) hr' hm (by omega)
    rw [hm] at h
    refine h.mono fun e w'' ⟨h1, h2⟩ => ⟨?_, h2⟩
    rw [h1, ← hcs.e]; rfl
  have W1 : Hid (∀ w', Keep w w' → Calls Tryd.prog 80 #[SV h0V none 0 0 0, .slice A l.length c] w' fun e w'' => ∃ A' c', e = .returned (SV (blocks h0V l (l.length / 64)) A' (l.length % 64) c' l.length) ∧ Rd w'' A' ((l.drop (64 * (l.length / 64))).map u8v) ∧ Keep w' w'') := fun w' hk => by
    have h := write_any h0V none [] 0 0 A l c w' (hS.keep hk) (.inl rfl) rfl (hr.keep hk) hlc hcm hl (by omega) (.inl rfl)
    simp only [List.nil_append, Nat.zero_add, List.length_nil] at h
    exact h
  have S1 : Hid (∀ w', Keep w w' → Calls Tryd.prog 81 #[] w' fun e w'' => e = .returned (SV h0V none 0 0 0) ∧ Keep w' w'') := fun w' hk => start_any w' (hS.keep hk)
  rw [show (hashV (sumL l)) = .agg cs by rw [← hcs.e]]
  generalize blocks h0V l (l.length / 64) = V at *
  generalize l.drop (64 * (l.length / 64)) = lr at *
  generalize l.length % 64 = nr at *
  obtain ⟨zs, hzs⟩ : ∃ zs, zs = zhash := ⟨_, rfl⟩
  have hz1 : zs.size = 32 := by rw [hzs]; exact zhash_size
  have hz2 : ∀ w, (zeroValue 39).run Tryd.prog w = .ok (.agg zs) w := fun w => by rw [hzs]; exact zhash_zero w
  have hz3 : ¬ zs = #[] := fun h => by rw [h] at hz1; cases hz1
  have hcz := hcs.z; have hcn := hcs.n
  have Hcs := Lib.hid hcs
  clear hzs hcs hr hS
  go_enter Tryd.func62, Tryd.ntmps62
  go_wp2_with fail
  refine (S1.out _ (keep_new _ _)).mono ?_
  rintro e w1 ⟨rfl, k1⟩
  have kw1 := keep_trans (keep_new w _) k1
  have Hb1 := Lib.hid ((show Blk _ w.heap.size 39 zs.toList from Blk.new w 39 zs.toList).keep k1)
  go_wp2_with fail
  refine (W1.out _ kw1).mono ?_
  rintro e w2 ⟨A2, c2, rfl, hr2, k2⟩
  have Hr2 := Lib.hid hr2; clear hr2
  have kw2 := keep_trans kw1 k2
  go_wp2_with fail
  refine (E1.out _ _ _ kw2 Hr2.out).mono ?_
  rintro e w3 ⟨rfl, k3⟩
  have kw3 := keep_trans kw2 k3
  obtain ⟨w8, hst, hb8, hg8⟩ := run_store_blk (P := Tryd.prog) cs.toList (Hb1.out.keep (keep_trans k2 k3)) (by simp [hz1, hcz]) Hcs.out.o
  have Hg8 := Lib.hid hg8; have Hb8 := Lib.hid hb8; clear hg8 hb8
  go_wp2
  have hb8 := Hb8.out
  exact bodyPost_ret (v := .agg cs) (results_cell_row Tryd.results62 _ _ w.heap.size _ _ _ (.array 32 5) rfl hb8 hash_under rfl (by rw [List.size_toArray, Array.length_toList]; exact Hcs.out.i)) rfl ⟨rfl, kw3.grown Hg8.out kw3.size (fun q hq => by injection hq with hq; omega)⟩
set_option maxRecDepth 100000 in
set_option maxHeartbeats 1000000 in
theorem double_any (A : Option Addr) (l : List UInt8) (c : Nat) (w : World) (hS : ShaOk w) (hr : Rd w A (l.map u8v)) (hlc : l.length ≤ c) (hcm : c ≤ maxLen) (hl : l.length ≤ 100000000) :
    Calls Tryd.prog 43 #[.slice A l.length c] w fun e w' => e = .returned (hashV (dblL l)) ∧ Keep w w' := by
  obtain ⟨cs, hcs⟩ : ∃ cs, HashA (sumL l) cs := ⟨_, HashA.of (sumL_len l)⟩
  obtain ⟨ds, hds⟩ : ∃ ds, HashA (dblL l) ds := ⟨_, HashA.of (dblL_len l)⟩
  have E1 : Hid (∀ w', Keep w w' → Calls Tryd.prog 62 #[.slice A l.length c] w' fun e w'' => e = .returned (.agg cs) ∧ Keep w' w'') := fun w' hk =>
    (sum_any A l c w' (hS.keep hk) (hr.keep hk) hlc hcm hl).mono fun e w'' ⟨h1, h2⟩ => ⟨by rw [h1, ← hcs.e], h2⟩
  have E2 : Hid (∀ w' g, Keep w w' → Rd w' (some ⟨g, 0, none⟩) cs.toList → Calls Tryd.prog 62 #[.slice (some ⟨g, 0, none⟩) 32 32] w' fun e w'' => e = .returned (.agg ds) ∧ Keep w' w'') := fun w' g hk hr' => by
    have h := sum_any (some ⟨g, 0, none⟩) (sumL l) 32 w' (hS.keep hk) (by rw [← hcs.l]; exact hr') (by rw [sumL_len]; omega) (by unfold maxLen; omega) (by rw [sumL_len]; omega)
    rw [sumL_len] at h
    exact h.mono fun e w'' ⟨h1, h2⟩ => ⟨by rw [h1, ← hds.e]; rfl, h2⟩
  rw [show (hashV (dblL l)) = .agg ds by rw [← hds.e]]
  obtain ⟨zs, hzs⟩ : ∃ zs, zs = zhash := ⟨_, rfl⟩
  have hz1 : zs.size = 32 := by rw [hzs]; exact zhash_size
  have hz2 : ∀ w, (zeroValue 39).run Tryd.prog w = .ok (.agg zs) w := fun w => by rw [hzs]; exact zhash_zero w
  have hz3 : ¬ zs = #[] := fun h => by rw [h] at hz1; cases hz1
  have hcz := hcs.z; have hcn := hcs.n
  have hdz := hds.z; have hdn := hds.n
  have Hcs := Lib.hid hcs; have Hds := Lib.hid hds
  have hst1 : ∀ ww : World, (storeCells ⟨ww.heap.size, 0, none⟩ cs.toList 0).run Tryd.prog (ww.alloc (.cells zs 39)) = .ok () (ww.alloc (.cells cs 39)) := fun ww => run_storeCells_new (P := Tryd.prog) ww 39 zs cs Hcs.out.i (hz1.trans hcz.symm) (by have := all_oneCell_toArray Hcs.out.o; rwa [Array.toArray_toList] at this)
  clear hzs hcs hds hr hS
  go_enter Tryd.func43, Tryd.ntmps43
  go_wp2_with fail
  refine (E1.out _ (keep_new _ _)).mono ?_
  rintro e w1 ⟨rfl, k1⟩
  have kw1 := keep_trans (keep_new w _) k1
  have Hb1 := Lib.hid ((show Blk _ w.heap.size 39 zs.toList from Blk.new w 39 zs.toList).keep k1)
  go_wp2_with fail
  have hbn : Blk (w1.alloc (.cells cs 39)) w1.heap.size 39 cs.toList := Blk.new w1 39 cs.toList
  refine (E2.out _ _ (keep_trans kw1 (keep_new _ _)) hbn.rd).mono ?_
  rintro e w2 ⟨rfl, k2⟩
  have kw2 := keep_trans (keep_trans kw1 (keep_new w1 (.cells cs 39))) k2
  obtain ⟨w8, hst, hb8, hg8⟩ := run_store_blk (P := Tryd.prog) ds.toList ((Hb1.out.alloc _).keep k2) (by simp [hz1, hdz]) Hds.out.o
  have Hg8 := Lib.hid hg8; have Hb8 := Lib.hid hb8; clear hg8 hb8 hst1
  go_wp2
  have hb8 := Hb8.out
  exact bodyPost_ret (v := .agg ds) (results_cell_row Tryd.results43 _ _ w.heap.size _ _ _ (.array 32 5) rfl hb8 hash_under rfl (by rw [List.size_toArray, Array.length_toList]; exact Hds.out.i)) rfl ⟨rfl, kw2.grown Hg8.out kw2.size (fun q hq => by injection hq with hq; omega)⟩
end Go.Proofs.YtffpanlpbdnafaaDoor

/- bytes.Equal. -/
set_option linter.unusedSimpArgs false
set_option linter.unusedVariables false
namespace Go.Proofs.YtffpanlpbdnafaaDoor
open Go.RowKit
attribute [local go_sem ↓] Go.wp_at_zero Go.wp_at_succ
theorem bytes_str {A : Option Addr} {l : List UInt8} {w : World} (n c : Nat) (hn : n = l.length) (hr : Rd w A (l.map u8v)) : (convert 26 9 (.slice A n c)).run Tryd.prog w = .ok (.string (str l)) w := by
  subst hn
  exact run_bytes_str Tryd.underlying26 Tryd.underlying5 Tryd.underlying9 _ hr
set_option maxHeartbeats 400000 in
theorem equal_any (A : Option Addr) (a : List UInt8) (n c : Nat) (B : Option Addr) (b : List UInt8) (m d : Nat) (w : World) (ha : Rd w A (a.map u8v)) (hb : Rd w B (b.map u8v)) (hn : n = a.length) (hm : m = b.length) :
    Calls Tryd.prog 44 #[.slice A n c, .slice B m d] w fun e w' => e = .returned (.bool (decide (a = b))) ∧ w = w' := by
  have c1 := bytes_str n c hn ha
  have c2 := bytes_str m d hm hb
  have t := str_beq a b
  clear hn hm
  go_enter Tryd.func44, Tryd.ntmps44
  go_wp2
  go_ret
  exact ⟨ret_bool (by by_cases h : a = b <;> simp [h]), rfl⟩
end Go.Proofs.YtffpanlpbdnafaaDoor

/- frame.Get (printed by gen_qk.py) -/
set_option linter.unusedSimpArgs false
set_option linter.unusedVariables false
namespace Go.Proofs.YtffpanlpbdnafaaDoor
open Go.RowKit
attribute [local go_sem ↓] Go.wp_at_zero Go.wp_at_succ
def gcmd (b : List UInt8) : List UInt8 := (b.drop 4).take (trimN ((b.drop 4).take 12) 12)
def gsize (b : List UInt8) : Nat := numN (b.drop 16) 4
def gpl (b : List UInt8) : List UInt8 := (b.drop 24).take (gsize b)
def getF (g : UInt32) (most : Int) (b : List UInt8) : (List UInt8 × List UInt8) × Nat × Int :=
  if ¬ b.take 4 = (le4 g).take b.length then (([], []), 0, 5)
  else if b.length < 24 then (([], []), 0, 1)
  else if cmdB (gcmd b) = false then (([], []), 0, 2)
  else if bndF most < gsize b then (([], []), 0, 3)
  else if b.length < 24 + gsize b then (([], []), 0, 1)
  else if ¬ (dblL (gpl b)).take 4 = (b.drop 20).take 4 then (([], []), 0, 4)
  else ((gcmd b, gpl b), 24 + gsize b, 0)
def Getd (R : (List UInt8 × List UInt8) × Nat × Int) (w : World) (e : Ending) (w' : World) : Prop :=
  ∃ P pc, e = .returned (.tuple #[.agg #[.string (str R.1.1), .slice P R.1.2.length pc], iv R.2.1, iv R.2.2]) ∧ R.1.2.length ≤ pc ∧ pc ≤ maxLen ∧ Rd w' P (R.1.2.map u8v) ∧ FreshA w.heap.size P R.1.2.length ∧ Keep w w'
theorem elem_bytes : Tryd.prog.elem 26 = 5 := by kernel_rfl
theorem slice_tail (gb off N c S : Nat) (h : 24 + S ≤ c) : ∃ AP, (∀ y : World, (Instr.slice 26 (.slice (some ⟨gb, off, none⟩) N c) (some (.int .i64 24)) (some (.int .i64 (24 + (S : Int)))) none).run Tryd.prog y = .ok (.slice AP S (c - 24)) y) ∧ (AP = some ⟨gb, off + 24, none⟩ ∨ c = 24) := by
  have hh : (24 + (S : Int)).toNat = 24 + S := by omega
  refine ⟨if c = 24 then some ⟨gb, off, none⟩ else some ⟨gb, off + 24, none⟩, fun y => ?_, ?_⟩
  · rw [run_slice_lh y 26 (some ⟨gb, off, none⟩) N c (by rw [elem_bytes]; exact Tryd.underlying26) .i64 .i64 24 (24 + (S : Int)) (by omega) (by omega) (by omega), elem_bytes, u8_size, Result.andThen_ok, hh, sliced]
    have e1 : 24 + S - Int.toNat 24 = S := by show 24 + S - 24 = S; omega
    have e2 : c - Int.toNat 24 = c - 24 := rfl
    rw [e1, e2]
    by_cases hc : c = 24
    · rw [if_pos (show c = Int.toNat 24 from hc), if_pos hc]
    · rw [if_neg (show ¬ c = Int.toNat 24 from hc), if_neg hc]
      rfl
  · by_cases hc : c = 24
    · exact Or.inr hc
    · exact Or.inl (if_neg hc)
set_option maxRecDepth 100000 in
set_option maxHeartbeats 8000000 in
theorem fget_any (g : UInt32) (most : Int) (A : Option Addr) (b : List UInt8) (N c : Nat) (w : World) (hN : b.length = N) (hS : ShaOk w) (hc : N ≤ c ∧ c ≤ maxLen) (hbig : N ≤ 1000000000) (hr : Rd w A (b.map u8v)) :
    Calls Tryd.prog 18 #[u32v g, iv most, .slice A N c] w (Getd (getF g most b) w) := by
  have HT : Hid (getF g most b = _) := Lib.hid (getF.eq_1 g most b)
  have HK : Hid (Keep w w) := Lib.hid (Below.refl _ _)
  have HS := Lib.hid hS
  have ROW : Hid (∀ k (h : k < N), ∃ gb off x, A = some ⟨gb, off, none⟩ ∧ gb < w.heap.size ∧ w.cell? ⟨gb, off + k, none⟩ = some (u8v x) ∧ b[k]? = some x) := Lib.hid fun k h => by
    obtain ⟨gb, off, rfl, hb, hcell⟩ := hr.at (k := k) (by simp [hN]; exact h)
    exact ⟨gb, off, b[k], rfl, hb, by have q := hcell k (by simp [hN]; exact h); simpa using q, List.getElem?_eq_getElem (by omega)⟩
  have HR := Lib.hid hr
  have HN := Lib.hid hN
  have HC := Lib.hid hc
  clear hS hr hN hc
  generalize getF g most b = R at *
  go_enter Tryd.func18, Tryd.ntmps18
  go_upto_region 1 with fail
  obtain ⟨w1, hw1⟩ : ∃ w1, w1 = w.alloc (.cells #[.string ⟨#[]⟩, .slice none 0 0] 71) := ⟨_, rfl⟩
  have HB1 : Hid (Blk w1 w.heap.size 71 [.string ⟨#[]⟩, .slice none 0 0]) := by rw [hw1]; exact Lib.hid (Blk.new w _ [.string ⟨#[]⟩, .slice none 0 0])
  have HK1 : Hid (Keep w w1) := by rw [hw1]; exact Lib.hid (keep_new _ _)
  try rw [← hw1]
  clear hw1
  go_cut [18, 19] (fun s18 s19 wx => ∃ M : Nat, s18 = .int .i64 (M : Int) ∧ s19 = .int .i64 0 ∧ Hid (M = min N 4) ∧ wx = w1)
  case first =>
    go_wp2
    all_goals go_meet
    · exact ⟨4, rfl, rfl, Lib.hid (by omega), rfl⟩
    · exact ⟨N, rfl, rfl, Lib.hid (by omega), rfl⟩
  obtain ⟨M, rfl, rfl, HM, rfl⟩ := hcut
  go_wp2_with fail
  go_loopw [19] (fun i wr => ∃ k : Nat, k ≤ M ∧ i = .int .i64 k ∧ Hid (∀ j, j < k → b[j]? = (le4 g)[j]?) ∧ Hid (Blk wr w.heap.size 71 [.string ⟨#[]⟩, .slice none 0 0]) ∧ Hid (Keep w wr)) (fun i _ => M - (intOf i).toNat)
  case atStart => exact ⟨0, Nat.zero_le _, rfl, Lib.hid (fun j h => absurd h (Nat.not_lt_zero _)), HB1, HK1⟩
  case round =>
    obtain ⟨k, hk, rfl, HP, HBr, HKr⟩ := hrel
    clear HB1 HK1 HK
    by_cases hlt : k < M
    · have hm := HM.out
      have hk4 : k < 4 := by omega
      have hkN : k < N := by omega
      obtain ⟨gb, off, x, rfl, hgb, hx, hlx⟩ := ROW.out k hkN
      have HXC := Lib.hid hx
      have HLX := Lib.hid hlx
      have l1 : (k : Int) < M := by omega
      clear hm ROW hx hlx
      rcases (show k = 0 ∨ k = 1 ∨ k = 2 ∨ k = 3 by omega) with rfl | rfl | rfl | rfl
      · obtain ⟨y, hy, hyE⟩ : ∃ y : UInt8, (le4 g)[0]? = some y ∧ (g.toNat : Int) % 256 = (y.toNat : Int) := ⟨w8 (leE g 0), rfl, by
          have h1 : (g.toNat : Int) / 2 ^ (8 * 0) % 256 = ((w8 (leE g 0)).toNat : Int) := w8_of (Int.emod_nonneg _ (by decide)) (by have q := Int.emod_lt_of_pos ((g.toNat : Int) / 2 ^ (8 * 0)) (by decide : (0 : Int) < 256); omega)
          simpa using h1⟩
        have HY := Lib.hid hy
        have HYE := Lib.hid hyE
        clear hyE
        go_upto_region 4 with fail
        refine wp_region_tree (.take [0,1,2,3,4,5,6,7,8,9] .done) [] (by kernel_rfl) (by kernel_rfl) (fun w2 k2 => ?_)
        have rx : ∀ u, (aft w2 u).cell? ⟨gb, off, none⟩ = some (u8v x) := aft_cell (keep_cell k2 (keep_cell HKr.out HXC.out))
        have HBs := Lib.hid (HBr.out.keep k2)
        have HKs := Lib.hid (keep_trans HKr.out k2)
        clear k2 HBr HKr
        refine mt_take w2 (Below.refl _ _) ?_
        simp only [pick_cons, pick_nil, nth_zero, nth_succ]
        repeat (go_big_quiet_step (fail))
        clear rx HXC hy
        by_cases hxy : x = y
        · have e1 : ((x.toNat : Int) != (g.toNat : Int) % 256) = false := by rw [HYE.out, hxy]; simp
          have e2 : ((x.toNat : Int) == (g.toNat : Int) % 256) = true := by rw [HYE.out, hxy]; simp
          have e3 : (x.toNat : Int) = (g.toNat : Int) % 256 := by rw [HYE.out, hxy]
          have HP2 : Hid (∀ j, j < 0 + 1 → b[j]? = (le4 g)[j]?) := Lib.hid fun j hj => by
            by_cases e : j < 0
            · exact HP.out j e
            · obtain rfl : j = 0 := by omega
              rw [HLX.out, HY.out, hxy]
          clear HYE hxy HP HLX HY e3
          rw [e1]
          refine wpQuiet_nil (mt_end ?_)
          go_wp2
          go_roundw
          case rel => exact ⟨0 + 1, by omega, by go_num, HP2, HBs, HKs⟩
          case measure => simp [intOf]; omega
        · have e3 : ¬ (x.toNat : Int) = (g.toNat : Int) % 256 := by rw [HYE.out]; exact fun q => hxy (UInt8.toNat_inj.1 (by omega))
          have e1 : ((x.toNat : Int) != (g.toNat : Int) % 256) = true := by rw [bne_iff_ne]; exact e3
          have hR : R = (([], []), 0, 5) := by
            rw [HT.out, if_pos]
            intro q
            have q2 : (b.take 4)[0]? = ((le4 g).take b.length)[0]? := by rw [q]
            rw [List.getElem?_take_of_lt (by omega), List.getElem?_take_of_lt (by rw [HN.out]; omega), HLX.out, HY.out] at q2
            exact hxy (Option.some.inj q2)
          have HRE := Lib.hid hR
          clear HYE hxy HP HLX HY e3 hR HT HR
          rw [e1]
          refine wpQuiet_nil (mt_end ?_)
          have c0 := HBs.out.cell 0; have c1 := HBs.out.cell 1
          simp only [List.getElem?_cons_succ, List.getElem?_cons_zero] at c0 c1
          have f0 := HBs.out.frozen 0; have f1 := HBs.out.frozen 1
          go_wp2
          exact bodyPost_ret (v := .tuple #[.agg #[.string ⟨#[]⟩, .slice none 0 0], iv 0, iv 5]) (results_cell_tmp_tmp Tryd.results18 _ _ w.heap.size _ _ _ _ rfl ((HBs.out.set_ 0 (.string ⟨#[]⟩)).set_ 1 (.slice none 0 0)) Tryd.underlying71 rfl (by kernel_rfl)) rfl (by
            rw [HRE.out]
            exact ⟨none, 0, rfl, Nat.le_refl _, Nat.zero_le _, Rd.nil _ _, Or.inl rfl, Below.setCell (Below.setCell HKs.out (by simp) _) (by simp) _⟩)
      · obtain ⟨y, hy, hyE⟩ : ∃ y : UInt8, (le4 g)[1]? = some y ∧ (g.toNat : Int) / 256 % 256 = (y.toNat : Int) := ⟨w8 (leE g 1), rfl, by
          have h1 : (g.toNat : Int) / 2 ^ (8 * 1) % 256 = ((w8 (leE g 1)).toNat : Int) := w8_of (Int.emod_nonneg _ (by decide)) (by have q := Int.emod_lt_of_pos ((g.toNat : Int) / 2 ^ (8 * 1)) (by decide : (0 : Int) < 256); omega)
          exact h1⟩
        have HY := Lib.hid hy
        have HYE := Lib.hid hyE
        clear hyE
        go_upto_region 4 with fail
        refine wp_region_tree (.take [0,1,2,3,4,5,6,7,8,9] .done) [] (by kernel_rfl) (by kernel_rfl) (fun w2 k2 => ?_)
        have rx := aft_cell (keep_cell k2 (keep_cell HKr.out HXC.out))
        have HBs := Lib.hid (HBr.out.keep k2)
        have HKs := Lib.hid (keep_trans HKr.out k2)
        clear k2 HBr HKr
        refine mt_take w2 (Below.refl _ _) ?_
        simp only [pick_cons, pick_nil, nth_zero, nth_succ]
        repeat (go_big_quiet_step (fail))
        clear rx HXC hy
        by_cases hxy : x = y
        · have e1 : ((x.toNat : Int) != (g.toNat : Int) / 256 % 256) = false := by rw [HYE.out, hxy]; simp
          have e2 : ((x.toNat : Int) == (g.toNat : Int) / 256 % 256) = true := by rw [HYE.out, hxy]; simp
          have e3 : (x.toNat : Int) = (g.toNat : Int) / 256 % 256 := by rw [HYE.out, hxy]
          have HP2 : Hid (∀ j, j < 1 + 1 → b[j]? = (le4 g)[j]?) := Lib.hid fun j hj => by
            by_cases e : j < 1
            · exact HP.out j e
            · obtain rfl : j = 1 := by omega
              rw [HLX.out, HY.out, hxy]
          clear HYE hxy HP HLX HY e3
          rw [e1]
          refine wpQuiet_nil (mt_end ?_)
          go_wp2
          go_roundw
          case rel => exact ⟨1 + 1, by omega, by go_num, HP2, HBs, HKs⟩
          case measure => simp [intOf]; omega
        · have e3 : ¬ (x.toNat : Int) = (g.toNat : Int) / 256 % 256 := by rw [HYE.out]; exact fun q => hxy (UInt8.toNat_inj.1 (by omega))
          have e1 : ((x.toNat : Int) != (g.toNat : Int) / 256 % 256) = true := by rw [bne_iff_ne]; exact e3
          have hR : R = (([], []), 0, 5) := by
            rw [HT.out, if_pos]
            intro q
            have q2 : (b.take 4)[1]? = ((le4 g).take b.length)[1]? := by rw [q]
            rw [List.getElem?_take_of_lt (by omega), List.getElem?_take_of_lt (by rw [HN.out]; omega), HLX.out, HY.out] at q2
            exact hxy (Option.some.inj q2)
          have HRE := Lib.hid hR
          clear HYE hxy HP HLX HY e3 hR HT HR
          rw [e1]
          refine wpQuiet_nil (mt_end ?_)
          have c0 := HBs.out.cell 0; have c1 := HBs.out.cell 1
          simp only [List.getElem?_cons_succ, List.getElem?_cons_zero] at c0 c1
          have f0 := HBs.out.frozen 0; have f1 := HBs.out.frozen 1
          go_wp2
          exact bodyPost_ret (v := .tuple #[.agg #[.string ⟨#[]⟩, .slice none 0 0], iv 0, iv 5]) (results_cell_tmp_tmp Tryd.results18 _ _ w.heap.size _ _ _ _ rfl ((HBs.out.set_ 0 (.string ⟨#[]⟩)).set_ 1 (.slice none 0 0)) Tryd.underlying71 rfl (by kernel_rfl)) rfl (by
            rw [HRE.out]
            exact ⟨none, 0, rfl, Nat.le_refl _, Nat.zero_le _, Rd.nil _ _, Or.inl rfl, Below.setCell (Below.setCell HKs.out (by simp) _) (by simp) _⟩)
      · obtain ⟨y, hy, hyE⟩ : ∃ y : UInt8, (le4 g)[2]? = some y ∧ (g.toNat : Int) / 65536 % 256 = (y.toNat : Int) := ⟨w8 (leE g 2), rfl, by
          have h1 : (g.toNat : Int) / 2 ^ (8 * 2) % 256 = ((w8 (leE g 2)).toNat : Int) := w8_of (Int.emod_nonneg _ (by decide)) (by have q := Int.emod_lt_of_pos ((g.toNat : Int) / 2 ^ (8 * 2)) (by decide : (0 : Int) < 256); omega)
          exact h1⟩
        have HY := Lib.hid hy
        have HYE := Lib.hid hyE
        clear hyE
        go_upto_region 4 with fail
        refine wp_region_tree (.take [0,1,2,3,4,5,6,7,8,9] .done) [] (by kernel_rfl) (by kernel_rfl) (fun w2 k2 => ?_)
        have rx := aft_cell (keep_cell k2 (keep_cell HKr.out HXC.out))
        have HBs := Lib.hid (HBr.out.keep k2)
        have HKs := Lib.hid (keep_trans HKr.out k2)
        clear k2 HBr HKr
        refine mt_take w2 (Below.refl _ _) ?_
        simp only [pick_cons, pick_nil, nth_zero, nth_succ]
        repeat (go_big_quiet_step (fail))
        clear rx HXC hy
        by_cases hxy : x = y
        · have e1 : ((x.toNat : Int) != (g.toNat : Int) / 65536 % 256) = false := by rw [HYE.out, hxy]; simp
          have e2 : ((x.toNat : Int) == (g.toNat : Int) / 65536 % 256) = true := by rw [HYE.out, hxy]; simp
          have e3 : (x.toNat : Int) = (g.toNat : Int) / 65536 % 256 := by rw [HYE.out, hxy]
          have HP2 : Hid (∀ j, j < 2 + 1 → b[j]? = (le4 g)[j]?) := Lib.hid fun j hj => by
            by_cases e : j < 2
            · exact HP.out j e
            · obtain rfl : j = 2 := by omega
              rw [HLX.out, HY.out, hxy]
          clear HYE hxy HP HLX HY e3
          rw [e1]
          refine wpQuiet_nil (mt_end ?_)
          go_wp2
          go_roundw
          case rel => exact ⟨2 + 1, by omega, by go_num, HP2, HBs, HKs⟩
          case measure => simp [intOf]; omega
        · have e3 : ¬ (x.toNat : Int) = (g.toNat : Int) / 65536 % 256 := by rw [HYE.out]; exact fun q => hxy (UInt8.toNat_inj.1 (by omega))
          have e1 : ((x.toNat : Int) != (g.toNat : Int) / 65536 % 256) = true := by rw [bne_iff_ne]; exact e3
          have hR : R = (([], []), 0, 5) := by
            rw [HT.out, if_pos]
            intro q
            have q2 : (b.take 4)[2]? = ((le4 g).take b.length)[2]? := by rw [q]
            rw [List.getElem?_take_of_lt (by omega), List.getElem?_take_of_lt (by rw [HN.out]; omega), HLX.out, HY.out] at q2
            exact hxy (Option.some.inj q2)
          have HRE := Lib.hid hR
          clear HYE hxy HP HLX HY e3 hR HT HR
          rw [e1]
          refine wpQuiet_nil (mt_end ?_)
          have c0 := HBs.out.cell 0; have c1 := HBs.out.cell 1
          simp only [List.getElem?_cons_succ, List.getElem?_cons_zero] at c0 c1
          have f0 := HBs.out.frozen 0; have f1 := HBs.out.frozen 1
          go_wp2
          exact bodyPost_ret (v := .tuple #[.agg #[.string ⟨#[]⟩, .slice none 0 0], iv 0, iv 5]) (results_cell_tmp_tmp Tryd.results18 _ _ w.heap.size _ _ _ _ rfl ((HBs.out.set_ 0 (.string ⟨#[]⟩)).set_ 1 (.slice none 0 0)) Tryd.underlying71 rfl (by kernel_rfl)) rfl (by
            rw [HRE.out]
            exact ⟨none, 0, rfl, Nat.le_refl _, Nat.zero_le _, Rd.nil _ _, Or.inl rfl, Below.setCell (Below.setCell HKs.out (by simp) _) (by simp) _⟩)
      · obtain ⟨y, hy, hyE⟩ : ∃ y : UInt8, (le4 g)[3]? = some y ∧ (g.toNat : Int) / 16777216 % 256 = (y.toNat : Int) := ⟨w8 (leE g 3), rfl, by
          have h1 : (g.toNat : Int) / 2 ^ (8 * 3) % 256 = ((w8 (leE g 3)).toNat : Int) := w8_of (Int.emod_nonneg _ (by decide)) (by have q := Int.emod_lt_of_pos ((g.toNat : Int) / 2 ^ (8 * 3)) (by decide : (0 : Int) < 256); omega)
          exact h1⟩
        have HY := Lib.hid hy
        have HYE := Lib.hid hyE
        clear hyE
        go_upto_region 4 with fail
        refine wp_region_tree (.take [0,1,2,3,4,5,6,7,8,9] .done) [] (by kernel_rfl) (by kernel_rfl) (fun w2 k2 => ?_)
        have rx := aft_cell (keep_cell k2 (keep_cell HKr.out HXC.out))
        have HBs := Lib.hid (HBr.out.keep k2)
        have HKs := Lib.hid (keep_trans HKr.out k2)
        clear k2 HBr HKr
        refine mt_take w2 (Below.refl _ _) ?_
        simp only [pick_cons, pick_nil, nth_zero, nth_succ]
        repeat (go_big_quiet_step (fail))
        clear rx HXC hy
        by_cases hxy : x = y
        · have e1 : ((x.toNat : Int) != (g.toNat : Int) / 16777216 % 256) = false := by rw [HYE.out, hxy]; simp
          have e2 : ((x.toNat : Int) == (g.toNat : Int) / 16777216 % 256) = true := by rw [HYE.out, hxy]; simp
          have e3 : (x.toNat : Int) = (g.toNat : Int) / 16777216 % 256 := by rw [HYE.out, hxy]
          have HP2 : Hid (∀ j, j < 3 + 1 → b[j]? = (le4 g)[j]?) := Lib.hid fun j hj => by
            by_cases e : j < 3
            · exact HP.out j e
            · obtain rfl : j = 3 := by omega
              rw [HLX.out, HY.out, hxy]
          clear HYE hxy HP HLX HY e3
          rw [e1]
          refine wpQuiet_nil (mt_end ?_)
          go_wp2
          go_roundw
          case rel => exact ⟨3 + 1, by omega, by go_num, HP2, HBs, HKs⟩
          case measure => simp [intOf]; omega
        · have e3 : ¬ (x.toNat : Int) = (g.toNat : Int) / 16777216 % 256 := by rw [HYE.out]; exact fun q => hxy (UInt8.toNat_inj.1 (by omega))
          have e1 : ((x.toNat : Int) != (g.toNat : Int) / 16777216 % 256) = true := by rw [bne_iff_ne]; exact e3
          have hR : R = (([], []), 0, 5) := by
            rw [HT.out, if_pos]
            intro q
            have q2 : (b.take 4)[3]? = ((le4 g).take b.length)[3]? := by rw [q]
            rw [List.getElem?_take_of_lt (by omega), List.getElem?_take_of_lt (by rw [HN.out]; omega), HLX.out, HY.out] at q2
            exact hxy (Option.some.inj q2)
          have HRE := Lib.hid hR
          clear HYE hxy HP HLX HY e3 hR HT HR
          rw [e1]
          refine wpQuiet_nil (mt_end ?_)
          have c0 := HBs.out.cell 0; have c1 := HBs.out.cell 1
          simp only [List.getElem?_cons_succ, List.getElem?_cons_zero] at c0 c1
          have f0 := HBs.out.frozen 0; have f1 := HBs.out.frozen 1
          go_wp2
          exact bodyPost_ret (v := .tuple #[.agg #[.string ⟨#[]⟩, .slice none 0 0], iv 0, iv 5]) (results_cell_tmp_tmp Tryd.results18 _ _ w.heap.size _ _ _ _ rfl ((HBs.out.set_ 0 (.string ⟨#[]⟩)).set_ 1 (.slice none 0 0)) Tryd.underlying71 rfl (by kernel_rfl)) rfl (by
            rw [HRE.out]
            exact ⟨none, 0, rfl, Nat.le_refl _, Nat.zero_le _, Rd.nil _ _, Or.inl rfl, Below.setCell (Below.setCell HKs.out (by simp) _) (by simp) _⟩)
    · have l1 : ¬ (k : Int) < M := by omega
      have HPRE : Hid (b.take 4 = (le4 g).take b.length) := Lib.hid (by
        have hm := HM.out
        have hb := HN.out
        refine List.ext_getElem? fun j => ?_
        by_cases hj : j < M
        · rw [List.getElem?_take_of_lt (by omega), List.getElem?_take_of_lt (by omega)]
          exact HP.out j (by omega)
        · rw [List.getElem?_eq_none (by simp; omega), List.getElem?_eq_none (by simp [le4]; omega)])
      clear HP HM
      have HT1 := Lib.hid (HT.out.trans (if_neg (fun q => q HPRE.out)))
      clear HT HPRE
      by_cases h24 : N < 24
      · have d0 : (N : Int) < 24 := by omega
        have hR : R = (([], []), 0, 1) := by rw [HT1.out, if_pos (by rw [HN.out]; exact h24)]
        have HRE := Lib.hid hR
        clear HT1 hR ROW HR h24
        have c0 := HBr.out.cell 0; have c1 := HBr.out.cell 1
        simp only [List.getElem?_cons_succ, List.getElem?_cons_zero] at c0 c1
        have f0 := HBr.out.frozen 0; have f1 := HBr.out.frozen 1
        go_wp2
        exact bodyPost_ret (v := .tuple #[.agg #[.string ⟨#[]⟩, .slice none 0 0], iv 0, iv 1]) (results_cell_tmp_tmp Tryd.results18 _ _ w.heap.size _ _ _ _ rfl ((HBr.out.set_ 0 (.string ⟨#[]⟩)).set_ 1 (.slice none 0 0)) Tryd.underlying71 rfl (by kernel_rfl)) rfl (by
          rw [HRE.out]
          exact ⟨none, 0, rfl, Nat.le_refl _, Nat.zero_le _, Rd.nil _ _, Or.inl rfl, Below.setCell (Below.setCell HKr.out (by simp) _) (by simp) _⟩)
      have d0 : ¬ (N : Int) < 24 := by omega
      have HT2 := Lib.hid (HT1.out.trans (if_neg (by rw [HN.out]; exact h24)))
      clear HT1
      obtain ⟨gb, off, x0, rfl, hgb, _, _⟩ := ROW.out 0 (by omega)
      have HRb : Hid (Rd w (some ⟨gb, off, none⟩) (b.map u8v)) := HR
      clear HR
      have h24' : 24 ≤ N := by omega
      have hc1 : N ≤ c := HC.out.1
      have hc2 : c ≤ 9223372036854775807 := HC.out.2
      have R12 : Hid (∀ y, Keep w y → Rd y (some ⟨gb, off + 4, none⟩) (((b.drop 4).take 12).map u8v)) := Lib.hid fun y hy => by
        have q := (HRb.out.keep hy).sub 4 12 (by rw [List.length_map, HN.out]; omega)
        simpa [List.map_take, List.map_drop] using q
      have TR : Hid (∀ y, Keep w y → Calls Tryd.prog 40 #[.slice (some ⟨gb, off + 4, none⟩) 12 (c - 4), .string ⟨#[0]⟩] y fun e w' => e = .returned (.slice (some ⟨gb, off + 4, none⟩) (trimN ((b.drop 4).take 12) 12) (c - 4)) ∧ Keep y w') := Lib.hid fun y hy => trim_any _ _ 12 (c - 4) y (by simp [HN.out]; omega) (by omega) ⟨by omega, by omega⟩ (R12.out y hy)
      have CV : Hid (∀ y, Keep w y → (convert 26 9 (.slice (some ⟨gb, off + 4, none⟩) (trimN ((b.drop 4).take 12) 12) (c - 4))).run Tryd.prog y = .ok (.string (str (gcmd b))) y) := Lib.hid fun y hy => by
        have hl := trimN_le ((b.drop 4).take 12) 12
        refine bytes_str _ _ (by unfold gcmd; simp [HN.out]; omega) ?_
        have q := (R12.out y hy).take (trimN ((b.drop 4).take 12) 12)
        have e : (((b.drop 4).take 12).map u8v).take (trimN ((b.drop 4).take 12) 12) = (gcmd b).map u8v := by
          rw [← List.map_take, List.take_take, Nat.min_eq_left hl]; rfl
        rwa [e] at q
      have CM : Hid (∀ y, Calls Tryd.prog 41 #[.string (str (gcmd b))] y fun e w' => e = .returned (.bool (cmdB (gcmd b))) ∧ Keep y w') := Lib.hid fun y => command_any (gcmd b) y
      generalize trimN ((b.drop 4).take 12) 12 = K at *
      generalize gcmd b = cmd at *
      generalize cmdB cmd = cb at *
      go_upto_region 10 with (first | (go_at_call 40; refine (TR.out _ HKr.out).mono ?_; rintro e w2 ⟨rfl, k2⟩; have HB2 := Lib.hid (HBr.out.keep k2); have HK2 := Lib.hid (keep_trans HKr.out k2); have cv := CV.out w2 HK2.out; clear k2 TR CV))
      go_wp2_with fail
      refine (CM.out _).mono ?_
      clear CM
      rintro e w3 ⟨rfl, k3⟩
      have HB3 := Lib.hid (HB2.out.keep k3)
      have HK3 := Lib.hid (keep_trans HK2.out k3)
      clear k3 HB2 HK2 cv HBr HKr ROW
      cases cb
      · have hR : R = (([], []), 0, 2) := by rw [HT2.out, if_pos rfl]
        have HRE := Lib.hid hR
        clear HT2 hR
        have c0 := HB3.out.cell 0; have c1 := HB3.out.cell 1
        simp only [List.getElem?_cons_succ, List.getElem?_cons_zero] at c0 c1
        have f0 := HB3.out.frozen 0; have f1 := HB3.out.frozen 1
        go_wp2
        exact bodyPost_ret (v := .tuple #[.agg #[.string ⟨#[]⟩, .slice none 0 0], iv 0, iv 2]) (results_cell_tmp_tmp Tryd.results18 _ _ w.heap.size _ _ _ _ rfl ((HB3.out.set_ 0 (.string ⟨#[]⟩)).set_ 1 (.slice none 0 0)) Tryd.underlying71 rfl (by kernel_rfl)) rfl (by
          rw [HRE.out]
          exact ⟨none, 0, rfl, Nat.le_refl _, Nat.zero_le _, Rd.nil _ _, Or.inl rfl, Below.setCell (Below.setCell HK3.out (by simp) _) (by simp) _⟩)
      have HT3 := Lib.hid (HT2.out.trans (if_neg (by decide)))
      clear HT2
      have HCB : Hid (∀ k, k < 4 → w.cell? ⟨gb, off + (16 + k), none⟩ = some (u8v ((b.drop 16).getD k 0))) := Lib.hid fun k hk => by
        have q := HRb.out.at (k := 16 + k) (by rw [List.length_map, HN.out]; omega)
        obtain ⟨b', o', e, _, hcell⟩ := q
        cases e
        have q2 := hcell (16 + k) (by rw [List.length_map, HN.out]; omega)
        rw [q2, List.getElem_map, List.getD_eq_getElem?_getD, List.getElem?_drop, List.getElem?_eq_getElem (by rw [HN.out]; omega)]
        rfl
      have HNM : Hid (∀ k, numN (b.drop 16) k < 2 ^ (8 * k) ∧ numN (b.drop 16) (k + 1) = numN (b.drop 16) k + ((b.drop 16).getD k 0).toNat * 2 ^ (8 * k)) := Lib.hid fun k => ⟨numN_lt _ k, rfl⟩
      have HN0 : Hid (numN (b.drop 16) 0 = 0) := Lib.hid rfl
      have HSZ : Hid (gsize b = numN (b.drop 16) 4) := Lib.hid rfl
      obtain ⟨nt, hnt⟩ : ∃ f, numN (b.drop 16) = f := ⟨_, rfl⟩
      obtain ⟨tt, htt⟩ : ∃ f : Nat → UInt8, (fun k => (b.drop 16).getD k 0) = f := ⟨_, rfl⟩
      have htt' : ∀ k, (b.drop 16).getD k 0 = tt k := fun k => congrFun htt k
      rw [hnt] at HNM HN0 HSZ
      simp only [htt'] at HCB HNM
      clear hnt htt htt'
      go_upto_region 12 with fail
      go_wp2_with fail
      go_loopw [11, 46] (fun v i wx => ∃ k : Nat, k ≤ 4 ∧ i = .int .i64 k ∧ v = .int .u64 (nt k : Nat) ∧ w3 = wx) (fun _ i _ => 4 - (intOf i).toNat)
      case atStart => exact ⟨0, Nat.zero_le _, rfl, by rw [HN0.out]; rfl, rfl⟩
      case round =>
        obtain ⟨k, hk, rfl, rfl, rfl⟩ := hrel
        by_cases hlt : k < 4
        · have c0 := keep_cell HK3.out (HCB.out k hlt)
          obtain ⟨h1, h2⟩ := HNM.out k
          have hy := (tt k).toNat_lt
          have hor := u64_or (nt k) (tt k).toNat k (by omega) h1 (by omega)
          rw [← h2] at hor
          have l2 : (k : Int) < 4 := by omega
          have l3 : 16 + k < N := by omega
          clear h1 h2
          obtain ⟨n1, hn1⟩ : ∃ n1, nt (k + 1) = n1 := ⟨_, rfl⟩
          rw [hn1] at hor
          have HNX : Hid (n1 = nt (k + 1)) := Lib.hid hn1.symm
          have hw8 : IntKind.u64.wrap ((tt k).toNat : Int) = (tt k).toNat := by rw [IntKind.wrap_u64]; omega
          clear hn1
          generalize nt k = n0 at *
          generalize tt k = y at *
          go_wp2
          go_roundw
          case rel => exact ⟨k + 1, by omega, by go_num, by rw [← HNX.out], by first | rfl | trivial⟩
          case measure => simp [intOf]; omega
        · obtain rfl : k = 4 := by omega
          rw [← HSZ.out]
          have hlt4 : gsize b < 4294967296 := by
            rw [HSZ.out]
            have q := (HNM.out 4).1
            rw [show (2 : Nat) ^ (8 * 4) = 4294967296 from rfl] at q
            exact q
          clear HCB HNM HN0 HSZ
          have HPL : Hid (gpl b = (b.drop 24).take (gsize b)) := Lib.hid rfl
          have BN : Hid (∀ y, Calls Tryd.prog 42 #[iv most] y fun e w' => e = .returned (iv (bndF most)) ∧ Keep y w') := Lib.hid fun y => bounded_any most y
          have hbd : 0 ≤ bndF most ∧ bndF most ≤ 4000000 := by unfold bndF; omega
          generalize gsize b = S at *
          generalize bndF most = BD at *
          have l4 : ¬ ((4 : Nat) : Int) < 4 := by decide
          have HBD := Lib.hid hbd
          have HWB : Hid (IntKind.u64.wrap BD = BD) := Lib.hid (by rw [IntKind.wrap_u64]; omega)
          have HWS : Hid (IntKind.i64.wrap (S : Int) = S) := Lib.hid (IntWalk.i64_in _ (by omega))
          have HW2 : Hid (wrap64 (S : Int) = S) := Lib.hid (IntWalk.wrap64_in _ (by omega))
          have HW3 : Hid (wrap64 (24 + (S : Int)) = 24 + (S : Int)) := Lib.hid (IntWalk.wrap64_in _ (by omega))
          clear hbd hlt4
          go_wp2_with fail
          refine (BN.out _).mono ?_
          clear BN
          rintro e w4 ⟨rfl, k4⟩
          have HB4 := Lib.hid (HB3.out.keep k4)
          have HK4 := Lib.hid (keep_trans HK3.out k4)
          clear k4 HB3 HK3
          by_cases hbig2 : BD < (S : Int)
          · have e2 : decide (BD < (S : Int)) = true := decide_eq_true hbig2
            have hR : R = (([], []), 0, 3) := by rw [HT3.out, if_pos hbig2]
            have HRE := Lib.hid hR
            clear HT3 hR hbig2
            have hwb := HWB.out
            have c0 := HB4.out.cell 0; have c1 := HB4.out.cell 1
            simp only [List.getElem?_cons_succ, List.getElem?_cons_zero] at c0 c1
            have f0 := HB4.out.frozen 0; have f1 := HB4.out.frozen 1
            go_wp2
            exact bodyPost_ret (v := .tuple #[.agg #[.string ⟨#[]⟩, .slice none 0 0], iv 0, iv 3]) (results_cell_tmp_tmp Tryd.results18 _ _ w.heap.size _ _ _ _ rfl ((HB4.out.set_ 0 (.string ⟨#[]⟩)).set_ 1 (.slice none 0 0)) Tryd.underlying71 rfl (by kernel_rfl)) rfl (by
              rw [HRE.out]
              exact ⟨none, 0, rfl, Nat.le_refl _, Nat.zero_le _, Rd.nil _ _, Or.inl rfl, Below.setCell (Below.setCell HK4.out (by simp) _) (by simp) _⟩)
          have HT4 := Lib.hid (HT3.out.trans (if_neg hbig2))
          have e2 : decide (BD < (S : Int)) = false := decide_eq_false hbig2
          have HS4 : Hid (S ≤ 4000000) := Lib.hid (by have := HBD.out; omega)
          clear HT3 hbig2
          by_cases hsh : N < 24 + S
          · have d5 : (N : Int) < 24 + (S : Int) := by omega
            have hR : R = (([], []), 0, 1) := by rw [HT4.out, if_pos (by rw [HN.out]; exact hsh)]
            have HRE := Lib.hid hR
            clear HT4 hR
            have hwb := HWB.out; have hws := HWS.out; have hw2 := HW2.out; have hw3 := HW3.out
            have c0 := HB4.out.cell 0; have c1 := HB4.out.cell 1
            simp only [List.getElem?_cons_succ, List.getElem?_cons_zero] at c0 c1
            have f0 := HB4.out.frozen 0; have f1 := HB4.out.frozen 1
            go_wp2
            exact bodyPost_ret (v := .tuple #[.agg #[.string ⟨#[]⟩, .slice none 0 0], iv 0, iv 1]) (results_cell_tmp_tmp Tryd.results18 _ _ w.heap.size _ _ _ _ rfl ((HB4.out.set_ 0 (.string ⟨#[]⟩)).set_ 1 (.slice none 0 0)) Tryd.underlying71 rfl (by kernel_rfl)) rfl (by
              rw [HRE.out]
              exact ⟨none, 0, rfl, Nat.le_refl _, Nat.zero_le _, Rd.nil _ _, Or.inl rfl, Below.setCell (Below.setCell HK4.out (by simp) _) (by simp) _⟩)
          have HT5 := Lib.hid (HT4.out.trans (if_neg (by rw [HN.out]; exact hsh)))
          clear HT4
          have d5 : decide ((N : Int) < 24 + (S : Int)) = false := decide_eq_false (by omega)
          have D6 : Hid (24 + S ≤ N) := Lib.hid (by omega)
          clear hsh
          have hwb := HWB.out; have hws := HWS.out; have hw2 := HW2.out; have hw3 := HW3.out
          go_upto_region 23 with fail
          clear hwb hws hw2 hw3 d5
          rw [HW3.out]
          have d6 := D6.out
          have d7 : 24 + S ≤ c := by omega
          obtain ⟨AP, hsl, hap⟩ := slice_tail gb off N c S d7
          have HRP : Hid (∀ y, Keep w y → Rd y AP ((gpl b).map u8v)) := Lib.hid fun y hy => by
            rcases hap with rfl | hc24
            · have q := (HRb.out.keep hy).sub 24 S (by rw [List.length_map, HN.out]; exact d6)
              rw [HPL.out, List.map_take, List.map_drop]
              exact q
            · have e0 : gpl b = [] := by
                rw [HPL.out]
                refine List.eq_nil_of_length_eq_zero ?_
                rw [List.length_take]
                omega
              rw [e0]
              exact Rd.nil _ _
          have HPZ : Hid ((gpl b).length = S) := Lib.hid (by
            have hb := HN.out
            rw [HPL.out, List.length_take, List.length_drop]; omega)
          clear d6 d7 hap HPL
          go_upto_region 24 with fail
          have HDL : Hid ((dblL (gpl b)).length = 32) := Lib.hid (dblL_len _)
          obtain ⟨ds, hds⟩ : ∃ ds, HashA (dblL (gpl b)) ds := ⟨_, HashA.of (dblL_len _)⟩
          have hdn := hds.n; have hdz := hds.z; have hdi := hds.i
          have HDS := Lib.hid hds
          have DB : Hid (∀ y, Keep w y → Calls Tryd.prog 43 #[.slice AP S (c - 24)] y fun e w' => e = .returned (.agg ds) ∧ Keep y w') := Lib.hid fun y hy => by
            have q := double_any AP (gpl b) (c - 24) y (HS.out.keep hy) (HRP.out y hy) (by have := HPZ.out; have := D6.out; omega) (by show c - 24 ≤ 9223372036854775807; omega) (by have := HPZ.out; have := HS4.out; omega)
            rw [HPZ.out, show hashV (dblL (gpl b)) = .agg ds from congrArg Value.agg hds.e] at q
            exact q
          have CL : Hid (∀ y, Keep w y → Calls Tryd.prog 45 #[.slice AP S (c - 24)] y fun e w' => ∃ P pc, e = .returned (.slice P S pc) ∧ S ≤ pc ∧ pc ≤ maxLen ∧ (Rd w' P ((gpl b).map u8v) ∧ FreshA y.heap.size P S) ∧ Keep y w') := Lib.hid fun y hy => by
            have q := clone_any AP (gpl b) (c - 24) y (by have := HPZ.out; have := HS4.out; omega) (HRP.out y hy)
            rw [HPZ.out] at q
            refine q.mono ?_
            rintro e w' ⟨v, h1, h2, h3⟩
            obtain ⟨P, pc, rfl, h4, h5, h6⟩ := own_form h2
            exact ⟨P, pc, h1, h4, h5, ⟨h6, own_fresh h2⟩, h3⟩
          clear hds
          generalize dblL (gpl b) = D at *
          obtain ⟨hz, hhz1, hhz2, hhz3, hhz4⟩ := zhash_letter
          have HDI := Lib.hid hdi
          have HDC := Lib.hid hdz
          have HC20 := Lib.hid hc2
          clear hc2 hhz4 l4
          go_wp2_with fail
          refine (DB.out _ HK4.out).mono ?_
          clear DB hsl
          rintro e w5 ⟨rfl, k5⟩
          have HB5 := Lib.hid (HB4.out.keep k5)
          have HK5 := Lib.hid (keep_trans HK4.out k5)
          have hst : (storeCells ⟨w5.heap.size, 0, none⟩ ds.toList 0).run Tryd.prog (w5.alloc (.cells hz 39)) = .ok () (w5.alloc (.cells ds 39)) := run_storeCells_new (P := Tryd.prog) w5 39 hz ds HDI.out (hhz1.trans HDC.out.symm) (by have := all_oneCell_toArray HDS.out.o; simpa using this)
          clear k5 HB4 HK4
          go_upto_region 25 with fail
          obtain ⟨w6, hw⟩ : ∃ y, y = w5.alloc (.cells ds 39) := ⟨_, rfl⟩
          have HH6 : Hid (Blk w6 w5.heap.size 39 (D.map u8v)) := by rw [hw, ← HDS.out.l]; exact Lib.hid (Blk.new w5 _ ds.toList)
          have HB6 : Hid (Blk w6 w.heap.size 71 [.string ⟨#[]⟩, .slice none 0 0]) := by rw [hw]; exact Lib.hid (HB5.out.alloc _)
          have HK6 : Hid (Keep w w6) := by rw [hw]; exact Lib.hid (keep_trans HK5.out (keep_new _ _))
          rw [← hw]
          clear hst hw HB5 HK5
          generalize w5.heap.size = gh at *
          have E1 : Hid (∀ y, Keep w6 y → Rd y (some ⟨gh, 0, none⟩) ((D.take 4).map u8v)) := Lib.hid fun y hy => by
            have q := ((HH6.out.keep hy).rd).take 4
            rwa [← List.map_take] at q
          have E2 : Hid (∀ y, Keep w y → Rd y (some ⟨gb, off + 20, none⟩) (((b.drop 20).take 4).map u8v)) := Lib.hid fun y hy => by
            have q := (HRb.out.keep hy).sub 20 4 (by rw [List.length_map, HN.out]; omega)
            rw [List.map_take, List.map_drop]
            exact q
          have L1 : Hid (4 = (D.take 4).length) := Lib.hid (by rw [List.length_take, HDL.out]; rfl)
          have L2 : Hid (4 = ((b.drop 20).take 4).length) := Lib.hid (by have hb := HN.out; rw [List.length_take, List.length_drop]; omega)
          have d20 : ¬ c = 20 := by omega
          have d21 : 24 ≤ c := by omega
          refine wp_region_tree (.take [0,1,2] (.force [3] (.take [4] .done))) [] (by kernel_rfl) (by kernel_rfl) (fun w7 k7 => ?_)
          have F1 := Lib.hid (E1.out w7 k7)
          have HB7 := Lib.hid (HB6.out.keep k7)
          have HK7 := Lib.hid (keep_trans HK6.out k7)
          have F2 := Lib.hid (E2.out w7 HK7.out)
          clear k7 HB6 HK6 HH6 E1 E2
          refine mt_take w7 (Below.refl _ _) ?_
          simp only [pick_cons, pick_nil, nth_zero, nth_succ]
          repeat (go_big_quiet_step (fail))
          refine wpQuiet_nil (mt_force ?_)
          simp only [pick_cons, pick_nil, nth_zero, nth_succ]
          refine fc_step rfl (fun KK hKK => ?_)
          go_simp
          (with_reducible refine (equal_any _ (D.take 4) 4 _ _ ((b.drop 20).take 4) 4 _ w7 F1.out F2.out L1.out L2.out).mono ?_)
          rintro e w8 ⟨rfl, rfl⟩
          refine hKK _ _ (Below.refl _ _) ?_
          clear hKK KK
          by_cases hq : D.take 4 = (b.drop 20).take 4
          · have dq : decide (D.take 4 = (b.drop 20).take 4) = true := decide_eq_true hq
            have hR : R = ((cmd, gpl b), 24 + S, 0) := by rw [HT5.out, if_neg (fun q => q hq)]
            have HRE := Lib.hid hR
            rw [dq]
            clear dq hR HT5 hq F1 F2 L1 L2
            refine fc_nil (mt_take w7 (Below.refl _ _) ?_)
            simp only [pick_cons, pick_nil, nth_zero, nth_succ]
            repeat (go_big_quiet_step (fail))
            refine wpQuiet_nil (mt_end ?_)
            go_wp2_with fail
            refine (CL.out _ HK7.out).mono ?_
            have HL7 := Lib.hid HB7.out.lt
            clear CL
            rintro e w8 ⟨P, pc, rfl, hp1, hp2, hp3, k8⟩
            have HB8 := Lib.hid (HB7.out.keep k8)
            have HK8 := Lib.hid (keep_trans HK7.out k8)
            have HP1 := Lib.hid hp1; have HP2 := Lib.hid hp2; have HP3 := Lib.hid hp3
            clear k8 HB7 HK7 hp1 hp2 hp3
            have c0 := HB8.out.cell 0; have c1 := HB8.out.cell 1
            simp only [List.getElem?_cons_succ, List.getElem?_cons_zero] at c0 c1
            have f0 := HB8.out.frozen 0; have f1 := HB8.out.frozen 1
            go_wp2
            have HBZ := ((HB8.out.set_ 0 (.string (str cmd))).set_ 1 (.slice P S pc))
            exact bodyPost_ret (v := .tuple #[.agg #[.string (str cmd), .slice P S pc], iv ((24 + S : Nat) : Int), iv 0]) (results_cell_tmp_tmp Tryd.results18 _ _ w.heap.size _ _ _ _ rfl HBZ Tryd.underlying71 rfl (by kernel_rfl)) rfl (by
              rw [HRE.out]
              refine ⟨P, pc, ?_, ?_, HP2.out, ?_, ?_, Below.setCell (Below.setCell HK8.out (by simp) _) (by simp) _⟩
              · show _ = Ending.returned (.tuple #[.agg #[.string (str cmd), .slice P (gpl b).length pc], iv ((24 + S : Nat) : Int), iv 0])
                rw [HPZ.out]
              · show (gpl b).length ≤ pc
                rw [HPZ.out]; exact HP1.out
              · have hlt := HL7.out
                rcases HP3.out.2 with h0 | ⟨bp, op, rfl, hbp⟩
                · have e0 : gpl b = [] := List.eq_nil_of_length_eq_zero (by rw [HPZ.out]; exact h0)
                  show Rd _ P ((gpl b).map u8v)
                  rw [e0]; exact Rd.nil _ _
                · have hne : (w.heap.size : Nat) ≠ bp := by omega
                  exact (HP3.out.1.far (p := ⟨w.heap.size, 0, none⟩) hne _).far (p := ⟨w.heap.size, 0 + 1, none⟩) hne _
              · show FreshA w.heap.size P (gpl b).length
                rw [HPZ.out]
                exact HP3.out.2.mono (Nat.le_of_lt HL7.out))
          · have dq : decide (D.take 4 = (b.drop 20).take 4) = false := decide_eq_false hq
            have hR : R = (([], []), 0, 4) := by rw [HT5.out, if_pos hq]
            have HRE := Lib.hid hR
            rw [dq]
            clear dq hR HT5 hq F1 F2 L1 L2 CL
            refine fc_nil (mt_take w7 (Below.refl _ _) ?_)
            simp only [pick_cons, pick_nil, nth_zero, nth_succ]
            repeat (go_big_quiet_step (fail))
            refine wpQuiet_nil (mt_end ?_)
            have c0 := HB7.out.cell 0; have c1 := HB7.out.cell 1
            simp only [List.getElem?_cons_succ, List.getElem?_cons_zero] at c0 c1
            have f0 := HB7.out.frozen 0; have f1 := HB7.out.frozen 1
            go_wp2
            exact bodyPost_ret (v := .tuple #[.agg #[.string ⟨#[]⟩, .slice none 0 0], iv 0, iv 4]) (results_cell_tmp_tmp Tryd.results18 _ _ w.heap.size _ _ _ _ rfl ((HB7.out.set_ 0 (.string ⟨#[]⟩)).set_ 1 (.slice none 0 0)) Tryd.underlying71 rfl (by kernel_rfl)) rfl (by
              rw [HRE.out]
              exact ⟨none, 0, rfl, Nat.le_refl _, Nat.zero_le _, Rd.nil _ _, Or.inl rfl, Below.setCell (Below.setCell HK7.out (by simp) _) (by simp) _⟩)
end Go.Proofs.YtffpanlpbdnafaaDoor

/- A range over a function whose rounds are told of what they are handed; at the wide fence. General: no function of a seat. -/
set_option linter.unusedSimpArgs false
set_option linter.unusedVariables false
namespace Go.Proofs.YtffpanlpbdnafaaDoor
open Go.RowKit
section
variable {P : Program}
structure KX (B : Nat) (X : Nat → Prop) (W W' : World) : Prop where
  os : W'.os = W.os
  tape : W'.tape = W.tape
  output : W'.output = W.output
  size : W.heap.size ≤ W'.heap.size
  block : ∀ k, k < B → k < W.heap.size → ¬ X k → W'.heap[k]? = W.heap[k]?
theorem KX.refl (B : Nat) (X : Nat → Prop) (W : World) : KX B X W W := ⟨rfl, rfl, rfl, Nat.le_refl _, fun _ _ _ _ => rfl⟩
theorem KX.trans {B : Nat} {X : Nat → Prop} {A C D : World} (h : KX B X A C) (k : KX B X C D) : KX B X A D :=
  ⟨k.os.trans h.os, k.tape.trans h.tape, k.output.trans h.output, Nat.le_trans h.size k.size, fun j h1 h2 h3 => (k.block j h1 (Nat.lt_of_lt_of_le h2 h.size) h3).trans (h.block j h1 h2 h3)⟩
theorem KX.putObj {B : Nat} {X : Nat → Prop} (W : World) {l : Nat} (o : Obj) (hl : B ≤ l) : KX B X W (W.putObj l o) :=
  ⟨rfl, rfl, rfl, by simp, fun k h1 _ _ => World.putObj_heap_other (by omega)⟩
def Gi (bb : Nat) (A C : World) : Prop := A.grownBy C (some bb) ∧ ∀ (k : Nat) (o : Obj), A.heap[k]? = some o → o.isCells = false → C.heap[k]? = some o
theorem wp_rangeFuncM {α : Type} {g : Operand} {ps : Array Tmp} {assign body : Code} {Q : Exit → Act → World → Prop} {a : Act} {w : World} {gf : Nat} {lb : Array Value}
    (hg : a.eval g = .func (.func gf) #[] lb) (eg : ∀ args w, (callFunc gf args).run P w = .ok (.enter gf args) w)
    (encs : α → Array Value) (hps : ∀ x, (encs x).size = ps.size) (Φ : List α → α → World → World → Prop) (S : List α → Prop) (bb : Nat) (X : Nat → Prop)
    (I : List α → World → Prop)
    (hseq : ∀ (l : Nat) (J : List α → World → Prop) (W1 : World), Keep w W1 → J [] W1 → (∀ pre A C, J pre A → Gi bb A C → J pre C) →
      (∀ pre x wr W, J pre wr → Keep wr W → Φ pre x wr W → YieldAt Fence.wide 0 P l (encs x) W (fun e W' => e = .returned (.bool true) ∧ J (pre ++ [x]) W' ∧ KX w.heap.size X W W')) →
      Calls P gf (#[.func (.yield l) #[] #[]] ++ lb) W1 (fun e W' => (∃ v, e = .returned v) ∧ ∃ xs, S xs ∧ J xs W'))
    (hGi : ∀ pre A C, I pre A → Gi bb A C → I pre C) (hI : OwnFrom w.heap.size I) (h0 : I [] w)
    (hround : ∀ l pre x wr W, w.heap.size ≤ l → I pre wr → Keep wr W → Φ pre x wr W →
      assign.wpIn (Fence.wide.inRound l) 0 P (Exit.then (fun a₁ w₁ => KeepsFrom w.heap.size W w₁ ∧ KX w.heap.size X W w₁ ∧ ∀ st, (∃ r, w₁.heap[l]? = some (.loop r)) → body.wpIn (Fence.wide.inRound l) 0 P (fun e a' W' => e = .normal ∧ KeepsFrom w.heap.size (w₁.putObj l (.loop st)) W' ∧ KX w.heap.size X (w₁.putObj l (.loop st)) W' ∧ I (pre ++ [x]) W') a₁ (w₁.putObj l (.loop st))) (fun _ _ _ => False))
        { tmps := (ps.zip (encs x)).foldl (fun t (p, v) => t.setIfInBounds p v) a.tmps, defers := [] } W)
    (hdone : ∀ (D : Nat) (xs : List α) (W : World), w.heap.size ≤ D → S xs → I xs W → W.heap[D]? = some (.deferred (some [])) → Q .normal { a with defers := { target := .collected D, args := #[] } :: a.defers } W) :
    (Code.rangeFunc g ps assign body).wp P Q a w := by
  refine (wpIn_wide (n := 1)).1 (wpIn_rangeFunc ?_)
  intro fn hfn
  obtain ⟨rec, hrec⟩ : ∃ rec : LoopState → Option Code → Loop, rec = fun st pe => { state := st, pending := pe, fn, tmps := a.tmps, params := ps, assign, body, defers := w.heap.size } := ⟨_, rfl⟩
  obtain ⟨W1, hW1⟩ : ∃ W1, (w.alloc (.deferred (some []))).alloc (.loop (rec .ready none)) = W1 := ⟨_, rfl⟩
  have hL1 : W1.heap[w.heap.size + 1]? = some (.loop (rec .ready none)) := by
    rw [← hW1]; have := World.alloc_heap_new (w.alloc (.deferred (some []))) (.loop (rec .ready none)); rwa [World.size_alloc] at this
  have hK1 : W1.heap[w.heap.size]? = some (.deferred (some [])) := by
    rw [← hW1]; exact (Below.heap_alloc _ _ _ (by simp)).trans (World.alloc_heap_new w _)
  have hI1 : I [] W1 := by
    rw [← hW1]
    refine hI _ _ _ none (hI _ _ _ none h0 (World.grownBy_alloc w _ none) (fun r e => by cases e)) (World.grownBy_alloc _ _ none) (fun r e => by cases e)
  have hb1 : Keep w W1 := by rw [← hW1]; exact keep_trans ((Below.refl _ _).alloc (Nat.le_refl _) _) ((Below.refl _ _).alloc (Nat.le_refl _) _)
  refine ⟨w.heap.size + 1, [{ target := .collected w.heap.size, args := #[] }], W1, { target := .fn (.func gf) lb, args := #[.func (.yield (w.heap.size + 1)) #[] #[]] }, W1, gf,
    #[.func (.yield (w.heap.size + 1)) #[] #[]] ++ lb, W1, ?_, ?_, ?_, ?_, fun _ => Nat.le_refl 1, ?_⟩
  · rw [← hW1, hrec]; exact run_enterLoop_outer _ _ _ _ _
  · simp only [resolve, hg]
    simp [go_sem]
  · intro f' _; trivial
  · simp [invoke, go_sem, eg]
  · refine callsIn_wide.2 ((hseq (w.heap.size + 1) (fun pre W => I pre W ∧ W.heap[w.heap.size + 1]? = some (.loop (rec .ready none)) ∧ W.heap[w.heap.size]? = some (.deferred (some []))) W1 hb1 ⟨hI1, hL1, hK1⟩
      (fun pre A C h hg' => ⟨hGi pre A C h.1 hg', hg'.2 _ _ h.2.1 rfl, hg'.2 _ _ h.2.2 rfl⟩) ?_).mono ?_)
    · rintro pre x wr W ⟨hi, hl0, hk0⟩ hkw hφ
      have hl : W.heap[w.heap.size + 1]? = some (.loop (rec .ready none)) := (hkw.block _ (Array.getElem?_eq_some_iff.1 hl0).1).trans hl0
      have hk : W.heap[w.heap.size]? = some (.deferred (some [])) := (hkw.block _ (Array.getElem?_eq_some_iff.1 hk0).1).trans hk0
      have hlt : w.heap.size + 1 < W.heap.size := (Array.getElem?_eq_some_iff.1 hl).1
      have hy := run_yield (P := P) (args := encs x) hl (by rw [hrec]; exact hps x)
      rw [hrec] at hy
      refine ⟨fn, _, assign, body, hy, roundIn_of_wpIn hfn (wpIn_mono (hround _ pre x wr W (by omega) hi hkw hφ) ?_)⟩
      rintro e a' Wa hp
      cases e with
      | normal =>
        obtain ⟨hkfa, hkxa, hbody⟩ := hp
        replace hl := hkfa.same _ _ (by omega) hl rfl
        replace hk := hkfa.same _ _ (Nat.le_refl _) hk rfl
        have hlt : w.heap.size + 1 < Wa.heap.size := (Array.getElem?_eq_some_iff.1 hl).1
        refine ⟨_, run_beginRound hl (by rw [hrec]), ?_⟩
        have hl2 : (Wa.putObj (w.heap.size + 1) (.loop { rec .ready none with state := .busy })).heap[w.heap.size + 1]? = some (.loop { rec .ready none with state := .busy }) := World.putObj_heap_same hlt
        have hk2 : (Wa.putObj (w.heap.size + 1) (.loop { rec .ready none with state := .busy })).heap[w.heap.size]? = some (.deferred (some [])) := (World.putObj_heap_other (by omega)).trans hk
        refine wpIn_mono (hbody _ ⟨_, hl⟩) ?_
        rintro e a3 W3 ⟨rfl, hk3, hx3, hi3⟩
        have hl3 := hk3.same _ _ (by omega) hl2 rfl
        have hend := run_endRound (P := P) none hl3
        refine ⟨_, _, hend, rfl, ⟨?_, ?_, ?_⟩, ?_⟩
        · exact hI.putObj _ hi3 (by omega) hl3 rfl
        · rw [World.putObj_heap_same (Array.getElem?_eq_some_iff.1 hl3).1, hrec]; rfl
        · exact (World.putObj_heap_other (by omega)).trans (hk3.same _ _ (Nat.le_refl _) hk2 rfl)
        · exact hkxa.trans ((KX.putObj _ _ (by omega)).trans (hx3.trans (KX.putObj _ _ (by omega))))
      | ret => exact hp.elim
      | exit id => exact hp.elim
      | goto t => exact hp.elim
      | panic c => exact hp.elim
      | outgrown => exact hp.elim
    · rintro e W3 ⟨⟨v, rfl⟩, xs, hs, hi, hl, hk⟩
      have hq := run_endLoop (P := P) hl (by rw [hrec]; exact fun h => by cases h)
      rw [show (rec .ready none).pending = none from by rw [hrec]] at hq
      refine ⟨none, _, hq, ?_⟩
      exact hdone _ xs _ (Nat.le_refl _) hs (hI.putObj _ hi (by omega) hl rfl) ((World.putObj_heap_other (by omega)).trans hk)
end
end Go.Proofs.YtffpanlpbdnafaaDoor

/- frame.messages: what the iterator tells (printed by gen_ro.py) -/
set_option linter.unusedSimpArgs false
set_option linter.unusedVariables false
namespace Go.Proofs.YtffpanlpbdnafaaDoor
open Go.RowKit
attribute [local go_sem] Oper.semAt_some
attribute [local go_sem ↓] Go.wp_at_zero Go.wp_at_succ
abbrev Ev := (List UInt8 × List UInt8) × Int
def evL (g : UInt32) (most : Int) : Nat → List UInt8 → List Ev
  | 0, _ => []
  | f + 1, b => ((getF g most b).1, (getF g most b).2.2) :: if (getF g most b).2.2 = 0 then evL g most f (b.drop (getF g most b).2.1) else []
def evs (g : UInt32) (most : Int) (b : List UInt8) : List Ev := evL g most (b.length + 1) b
structure EvR where
  c : List UInt8
  p : List UInt8
  P : Option Addr
  pc : Nat
  e : Int
def EvR.ev (x : EvR) : Ev := ((x.c, x.p), x.e)
def EvR.vals (x : EvR) : Array Value := #[.agg #[.string (str x.c), .slice x.P x.p.length x.pc], iv x.e]
def EvR.at_ (x : EvR) (W : World) : Prop := x.p.length ≤ x.pc ∧ x.pc ≤ maxLen ∧ Rd W x.P (x.p.map u8v)
theorem getF_ok {g : UInt32} {most : Int} {b : List UInt8} (h : (getF g most b).2.2 = 0) : 24 ≤ (getF g most b).2.1 ∧ (getF g most b).2.1 ≤ b.length ∧ getF g most b = ((gcmd b, gpl b), 24 + gsize b, 0) := by
  unfold getF at h ⊢
  by_cases h1 : ¬ b.take 4 = (le4 g).take b.length
  · rw [if_pos h1] at h; cases h
  rw [if_neg h1] at h ⊢
  by_cases h2 : b.length < 24
  · rw [if_pos h2] at h; cases h
  rw [if_neg h2] at h ⊢
  by_cases h3 : cmdB (gcmd b) = false
  · rw [if_pos h3] at h; cases h
  rw [if_neg h3] at h ⊢
  by_cases h4 : bndF most < gsize b
  · rw [if_pos h4] at h; cases h
  rw [if_neg h4] at h ⊢
  by_cases h5 : b.length < 24 + gsize b
  · rw [if_pos h5] at h; cases h
  rw [if_neg h5] at h ⊢
  by_cases h6 : ¬ (dblL (gpl b)).take 4 = (b.drop 20).take 4
  · rw [if_pos h6] at h; cases h
  rw [if_neg h6] at h ⊢
  exact ⟨Nat.le_add_right _ _, by show 24 + gsize b ≤ b.length; omega, rfl⟩
def lenAt (w : World) (bb : Nat) : Nat := match w.cell? ⟨bb, 0, none⟩ with | some (.slice _ n _) => n | _ => 0
theorem elem_b2 : Tryd.prog.elem 26 = 5 := by kernel_rfl
theorem slice_rest (A : Option Addr) (N c k : Nat) (h : k ≤ N) (hc : N ≤ c) (y : World) : (Instr.slice 26 (.slice A N c) (some (.int .i64 (k : Int))) none none).run Tryd.prog y = .ok (.slice (if c = k then A else A.map (·.add (k * 1))) (N - k) (c - k)) y := by
  rw [run_slice_l y 26 A N c (by rw [elem_b2]; exact Tryd.underlying26) .i64 (k : Int) (by omega) (by omega), elem_b2, u8_size, Result.andThen_ok, sliced]
  rfl
set_option maxRecDepth 100000 in
set_option maxHeartbeats 8000000 in
theorem msgs_any (g : UInt32) (most : Int) (b : List UInt8) (l B gb mb bb : Nat) (X : Nat → Prop) (w0 : World) (J : List EvR → World → Prop) (W : World)
    (hJ : ∀ pre A C, J pre A → Gi bb A C → J pre C)
    (hY : ∀ pre x wr W, J pre wr → Keep wr W → (EvR.at_ x W ∧ FreshA wr.heap.size x.P x.p.length ∧ ∃ post, pre.map EvR.ev ++ x.ev :: post = evs g most b) → YieldAt Fence.wide 0 Tryd.prog l x.vals W (fun e W' => e = .returned (.bool true) ∧ J (pre ++ [x]) W' ∧ KX B X W W'))
    (A : Option Addr) (c : Nat) (hb : b.length ≤ 1000000000) (hc : b.length ≤ c ∧ c ≤ maxLen)
    (hR : ∀ y, KX B (fun k => X k ∨ k = bb) w0 y → Rd y A (b.map u8v)) (hS : ∀ y, KX B (fun k => X k ∨ k = bb) w0 y → ShaOk y)
    (hB : gb < B ∧ mb < B ∧ bb < B) (hX : ¬ X gb ∧ ¬ X mb ∧ ¬ X bb) (hd : gb ≠ bb ∧ mb ≠ bb)
    (hW : KX B (fun k => X k ∨ k = bb) w0 W) (cg : Blk W gb 22 [u32v g]) (cm : Blk W mb 3 [iv most]) (cb : Blk W bb 26 [.slice A b.length c]) (h0 : J [] W) :
    Calls Tryd.prog 68 #[.func (.yield l) #[] #[], .pointer (some ⟨gb, 0, none⟩), .pointer (some ⟨mb, 0, none⟩), .pointer (some ⟨bb, 0, none⟩)] W fun e W' => (∃ v, e = .returned v) ∧ ∃ xs : List EvR, xs.map EvR.ev = evs g most b ∧ J xs W' := by
  refine (callsIn_wide (n := 1)).1 ?_
  have HJ := Lib.hid hJ; have HY := Lib.hid hY; have HB := Lib.hid hB; have HX := Lib.hid hX; have HD := Lib.hid hd; have HS := Lib.hid hS
  have HW := Lib.hid hW; have HCG := Lib.hid cg; have HCM := Lib.hid cm; have HCB := Lib.hid cb; have H0 := Lib.hid h0; have HRR := Lib.hid hR
  have HBL := Lib.hid hb; have HCC := Lib.hid hc
  clear hJ hY hB hX hd hS hW cg cm cb h0 hR hb hc
  refine callsIn_of_wp Tryd.func68 rfl trivial ?_
  simp only [Tryd.ntmps68, List.size_toArray, List.length_cons, List.length_nil, Nat.reduceAdd, Nat.reduceSub, Array.replicate_succ, Array.replicate_zero, List.push_toArray, List.append_toArray, List.nil_append, List.cons_append]
  apply wpIn_block
  gi_loopw [6] (fun _ wr => ∃ (pre : List EvR) (f : Nat) (r : List UInt8) (A' : Option Addr) (c' : Nat), Hid (pre.map EvR.ev ++ evL g most f r = evs g most b) ∧ Hid (r.length < f) ∧ Hid (r.length ≤ 1000000000) ∧ Hid (r.length ≤ c' ∧ c' ≤ maxLen) ∧ Hid (∀ y, KX B (fun k => X k ∨ k = bb) w0 y → Rd y A' (r.map u8v)) ∧ Hid (KX B (fun k => X k ∨ k = bb) w0 wr) ∧ Hid (Blk wr gb 22 [u32v g]) ∧ Hid (Blk wr mb 3 [iv most]) ∧ Hid (Blk wr bb 26 [.slice A' r.length c']) ∧ Hid (J pre wr)) (fun _ wr => lenAt wr bb)
  case atStart => exact ⟨[], b.length + 1, b, A, c, Lib.hid rfl, Lib.hid (Nat.lt_succ_self _), HBL, HCC, HRR, HW, HCG, HCM, HCB, H0⟩
  case round =>
    obtain ⟨pre, f, r, A', c', HE, HF, HL, HC, HR', HWr, HGr, HMr, HBr, HJr⟩ := hrel
    have hB := HB.out
    have hX := HX.out
    have hd := HD.out
    cases f with
    | zero => exact absurd HF.out (Nat.not_lt_zero _)
    | succ f =>
      have GT : Hid (Calls Tryd.prog 18 #[u32v g, iv most, .slice A' r.length c'] wr (Getd (getF g most r) wr)) := Lib.hid (fget_any g most A' r r.length c' wr rfl (HS.out wr HWr.out) HC.out HL.out (HR'.out wr HWr.out))
      have HEV : Hid (evL g most (f + 1) r = ((getF g most r).1, (getF g most r).2.2) :: if (getF g most r).2.2 = 0 then evL g most f (r.drop (getF g most r).2.1) else []) := Lib.hid rfl
      have HOK : Hid ((getF g most r).2.2 = 0 → 24 ≤ (getF g most r).2.1 ∧ (getF g most r).2.1 ≤ r.length) := Lib.hid fun h => ⟨(getF_ok h).1, (getF_ok h).2.1⟩
      rw [HEV.out] at HE
      generalize getF g most r = RES at *
      obtain ⟨⟨cmd, pl⟩, N, code⟩ := RES
      clear HEV
      have g0 : wr.cell? ⟨gb, 0, none⟩ = some (u32v g) := (HGr.out.cell 0).trans rfl
      have m0 : wr.cell? ⟨mb, 0, none⟩ = some (iv most) := (HMr.out.cell 0).trans rfl
      have b0 : wr.cell? ⟨bb, 0, none⟩ = some (.slice A' r.length c') := (HBr.out.cell 0).trans rfl
      gi_wp2_with (refine ⟨trivial, ?_⟩; gi_at_call 18; refine (callsIn_wide.2 GT.out).mono ?_; rintro e w1 ⟨P, pc, rfl, hp1, hp2, hp3, hpf, k1⟩)
      clear GT g0 m0 b0
      obtain ⟨W2, hw2⟩ : ∃ W2, W2 = w1.alloc (.cells #[.string (str cmd), .slice P pl.length pc] 71) := ⟨_, rfl⟩
      have hk2 : Keep wr W2 := by rw [hw2]; exact keep_trans k1 ((Below.refl _ _).alloc (Nat.le_refl _) _)
      have hm2 : W2.cell? ⟨w1.heap.size, 0, none⟩ = some (.string (str cmd)) := by rw [hw2]; exact (Blk.new w1 _ [.string (str cmd), .slice P pl.length pc]).cell 0
      have hp4 : Rd W2 P (pl.map u8v) := by rw [hw2]; exact hp3.alloc _
      rw [← hw2]
      clear hw2 k1 hp3
      have hgi : Gi bb wr W2 := ⟨G.grown_of_keep hk2 _, fun k o h1 _ => (hk2.block k (Array.getElem?_eq_some_iff.1 h1).1).trans h1⟩
      have hkx2 : KX B (fun k => X k ∨ k = bb) wr W2 := ⟨hk2.os, hk2.tape, hk2.output, hk2.size, fun k _ h2 _ => hk2.block k h2⟩
      obtain ⟨fn, tmps, assign, body, hy, hRd⟩ := HY.out pre ⟨cmd, pl, P, pc, code⟩ wr W2 HJr.out hk2 ⟨⟨hp1, hp2, hp4⟩, hpf, _, HE.out⟩
      have HK2 := Lib.hid hkx2
      have HG2 : Hid (Blk W2 gb 22 [u32v g]) := Lib.hid (HGr.out.keep hk2)
      have HM2 : Hid (Blk W2 mb 3 [iv most]) := Lib.hid (HMr.out.keep hk2)
      have HB2 : Hid (Blk W2 bb 26 [.slice A' r.length c']) := Lib.hid (HBr.out.keep hk2)
      have HLT2 := Lib.hid (show bb < W2.heap.size from HB2.out.lt)
      clear hgi hkx2 hk2 hm2 hp1 hp2 hp4 hpf HY
      have hy2 : (Instr.yield l #[.agg #[.string (str cmd), .slice P pl.length pc], iv code]).run Tryd.prog W2 = .ok (.round l fn tmps assign body) W2 := hy
      clear hy
      rw [hy2, Oper.uponIn_round]
      refine ⟨fun h => (by cases h), hRd.mono ?_⟩
      clear hy2 hRd
      rintro e W3 ⟨rfl, hJ3, hkx3⟩
      have HJ3 := Lib.hid hJ3
      have hbk : W3.heap[bb]? = W2.heap[bb]? := hkx3.block bb hB.2.2 HLT2.out hX.2.2
      have HB3 : Hid (Blk W3 bb 26 [.slice A' r.length c']) := Lib.hid (hbk.trans HB2.out)
      have HG3 : Hid (Blk W3 gb 22 [u32v g]) := Lib.hid ((hkx3.block gb hB.1 HG2.out.lt hX.1).trans HG2.out)
      have HM3 : Hid (Blk W3 mb 3 [iv most]) := Lib.hid ((hkx3.block mb hB.2.1 HM2.out.lt hX.2.1).trans HM2.out)
      have HK3 : Hid (KX B (fun k => X k ∨ k = bb) w0 W3) := Lib.hid (HWr.out.trans (HK2.out.trans ⟨hkx3.os, hkx3.tape, hkx3.output, hkx3.size, fun k h1 h2 h3 => hkx3.block k h1 h2 (fun q => h3 (Or.inl q))⟩))
      clear hJ3 hkx3 hbk HB2 HG2 HM2 HK2 HLT2
      by_cases hcode : code = 0
      · have e1 : (code != 0) = false := by rw [hcode]; rfl
        obtain ⟨hN1, hN2⟩ := HOK.out hcode
        have HN1 := Lib.hid hN1; have HN2 := Lib.hid hN2
        have hsl : ∀ y, (Instr.slice 26 (.slice A' r.length c') (some (.int .i64 (N : Int))) none none).run Tryd.prog y = .ok (.slice (if c' = N then A' else A'.map (·.add (N * 1))) (r.length - N) (c' - N)) y := fun y => slice_rest A' r.length c' N hN2 HC.out.1 y
        obtain ⟨A2, hA2⟩ : ∃ A2, A2 = (if c' = N then A' else A'.map (·.add (N * 1))) := ⟨_, rfl⟩
        rw [← hA2] at hsl
        have HA2 := Lib.hid hA2
        have b3 : W3.cell? ⟨bb, 0, none⟩ = some (.slice A' r.length c') := (HB3.out.cell 0).trans rfl
        have f3 := HB3.out.frozen 0
        have HE2 : Hid ((pre ++ [(⟨cmd, pl, P, pc, code⟩ : EvR)]).map EvR.ev ++ evL g most f (r.drop N) = evs g most b) := Lib.hid (by
          have q := HE.out
          rw [if_pos hcode] at q
          rw [List.map_append, List.append_assoc]
          exact q)
        clear hcode hN1 hN2 hA2 hB hX hd
        gi_wp2
        have hset : Blk (W3.setCell ⟨bb, 0, none⟩ (.slice A2 (r.length - N) (c' - N))) bb 26 [.slice A2 (r.length - N) (c' - N)] := HB3.out.set_ 0 _
        have hle : lenAt (W3.setCell ⟨bb, 0, none⟩ (.slice A2 (r.length - N) (c' - N))) bb = r.length - N := by
          unfold lenAt
          rw [hset.cell 0]
          rfl
        have hlw : lenAt wr bb = r.length := by
          unfold lenAt
          rw [HBr.out.cell 0]
          rfl
        have hN1 := HN1.out; have hN2 := HN2.out; have hF := HF.out; have hL := HL.out; have hC := HC.out
        have hdl : (r.drop N).length = r.length - N := List.length_drop ..
        go_roundw
        case rel =>
          refine ⟨pre ++ [(⟨cmd, pl, P, pc, code⟩ : EvR)], f, r.drop N, A2, c' - N, ?_, Lib.hid (by omega), Lib.hid (by omega), Lib.hid ⟨by omega, by omega⟩, Lib.hid (fun y hy => ?_), Lib.hid ?_, Lib.hid (HG3.out.far HD.out.1 _), Lib.hid (HM3.out.far HD.out.2 _), ?_, Lib.hid (HJ.out _ _ _ HJ3.out ⟨grown_set (grown_refl _ _), fun k o h1 h2 => ?_⟩)⟩
          · exact HE2
          · have q := (HR'.out y hy).drop (k := N) (cap := c') (by rw [List.length_map]; exact hN2) (by rw [List.length_map]; exact hC.1)
            rw [← HA2.out, ← List.map_drop] at q
            exact q
          · exact HK3.out.trans ⟨rfl, rfl, rfl, by rw [World.size_setCell]; exact Nat.le_refl _, fun k h1 h2 h3 => Below.heap_setCell _ _ _ k (fun q => h3 (Or.inr q))⟩
          · rw [hdl]; exact Lib.hid hset
          · by_cases hkb : k = bb
            · subst hkb
              rw [HB3.out] at h1
              obtain rfl := Option.some.inj h1
              cases h2
            · exact (Below.heap_setCell _ _ _ k hkb).trans h1
        case measure => rw [hle, hlw]; omega
      · have e1 : (code != 0) = true := by rw [bne_iff_ne]; exact hcode
        have HE2 : Hid ((pre ++ [(⟨cmd, pl, P, pc, code⟩ : EvR)]).map EvR.ev = evs g most b) := Lib.hid (by
          have q := HE.out
          rw [if_neg hcode] at q
          rw [List.map_append]
          exact q)
        clear hcode hB hX hd
        gi_wp2
        exact bodyPost_ret (results_none (by rfl) _ _ _) rfl ⟨⟨_, rfl⟩, _, HE2.out, HJ3.out⟩
end Go.Proofs.YtffpanlpbdnafaaDoor

/- frame.messages: the maker of the iterator (printed by gen_rp2.py) -/
set_option linter.unusedSimpArgs false
set_option linter.unusedVariables false
namespace Go.Proofs.YtffpanlpbdnafaaDoor
open Go.RowKit
attribute [local go_sem ↓] Go.wp_at_zero Go.wp_at_succ
theorem maker_any (g : UInt32) (most : Int) (A : Option Addr) (n c : Nat) (w : World) :
    Calls Tryd.prog 55 #[u32v g, iv most, .slice A n c] w fun e w' => e = .returned (.func (.func 68) #[] #[.pointer (some ⟨w.heap.size, 0, none⟩), .pointer (some ⟨w.heap.size + 1, 0, none⟩), .pointer (some ⟨w.heap.size + 2, 0, none⟩)]) ∧
      (Blk w' w.heap.size 22 [u32v g] ∧ Blk w' (w.heap.size + 1) 3 [iv most] ∧ Blk w' (w.heap.size + 2) 26 [.slice A n c]) ∧ w'.heap.size = w.heap.size + 3 ∧ Keep w w' := by
  go_enter Tryd.func55, Tryd.ntmps55
  go_wp2
  refine bodyPost_ret (v := .func (.func 68) #[] #[.pointer (some ⟨w.heap.size, 0, none⟩), .pointer (some ⟨w.heap.size + 1, 0, none⟩), .pointer (some ⟨w.heap.size + 2, 0, none⟩)]) (by simp [results, Tryd.results55]) rfl ⟨rfl, ⟨?_, ?_, ?_⟩, by simp, keep_trans (keep_new _ _) (keep_trans (keep_new _ _) (keep_new _ _))⟩
  · exact (((Blk.new w 22 [u32v g]).alloc _).alloc _)
  · have h2 := Blk.new (w.alloc (.cells #[u32v g] 22)) 3 [iv most]
    simp only [World.size_alloc] at h2
    exact h2.alloc _
  · have h2 := Blk.new ((w.alloc (.cells #[u32v g] 22)).alloc (.cells #[iv most] 3)) 26 [.slice A n c]
    simp only [World.size_alloc] at h2
    exact h2
end Go.Proofs.YtffpanlpbdnafaaDoor

/- What stands in a stream, plainly. -/
set_option linter.unusedSimpArgs false
set_option linter.unusedVariables false
namespace Go.Proofs.YtffpanlpbdnafaaDoor
open Go.RowKit
def cnsE (l : List Ev) : Nat := (l.map fun y => 24 + y.1.2.length).sum
theorem cnsE_cons (y : Ev) (l : List Ev) : cnsE (y :: l) = 24 + y.1.2.length + cnsE l := by simp [cnsE]
theorem cnsE_app (l m : List Ev) : cnsE (l ++ m) = cnsE l + cnsE m := by simp [cnsE]
theorem getF_len {g : UInt32} {most : Int} {b : List UInt8} (h : (getF g most b).2.2 = 0) : (getF g most b).2.1 = 24 + (getF g most b).1.2.length := by
  have e := (getF_ok h).2.2
  have h2 := (getF_ok h).2.1
  rw [e] at h2 ⊢
  show 24 + gsize b = 24 + (gpl b).length
  have h3 : 24 + gsize b ≤ b.length := h2
  unfold gpl
  rw [List.length_take, List.length_drop]
  omega
theorem evL_at (g : UInt32) (most : Int) : ∀ (f : Nat) (b : List UInt8) (pre : List Ev) (x : Ev) (post : List Ev), pre ++ x :: post = evL g most f b →
    (∀ y ∈ pre, y.2 = 0) ∧ cnsE pre ≤ b.length ∧ x = ((getF g most (b.drop (cnsE pre))).1, (getF g most (b.drop (cnsE pre))).2.2) ∧ (x.2 = 0 → 24 + x.1.2.length ≤ (b.drop (cnsE pre)).length) ∧ (x.2 ≠ 0 → post = [])
  | 0, b, pre, x, post, h => by
    have : pre ++ x :: post = [] := h
    simp at this
  | f + 1, b, pre, x, post, h => by
    unfold evL at h
    cases pre with
    | nil =>
      simp only [List.nil_append, List.cons.injEq] at h
      obtain ⟨rfl, hp⟩ := h
      refine ⟨fun y hy => (by cases hy), Nat.zero_le _, rfl, fun h0 => ?_, fun h0 => ?_⟩
      · have e1 := getF_len h0
        have e2 := (getF_ok h0).2.1
        show 24 + (getF g most (b.drop 0)).1.2.length ≤ (b.drop 0).length
        rw [List.drop_zero]
        omega
      · rw [if_neg h0] at hp; exact hp
    | cons y pre =>
      simp only [List.cons_append, List.cons.injEq] at h
      obtain ⟨rfl, hp⟩ := h
      by_cases h0 : (getF g most b).2.2 = 0
      · rw [if_pos h0] at hp
        obtain ⟨i1, i2, i3, i4, i5⟩ := evL_at g most f _ pre x post hp
        have e1 := getF_len h0
        have e2 := (getF_ok h0).2.1
        have ed : (b.drop (getF g most b).2.1).drop (cnsE pre) = b.drop (cnsE (((getF g most b).1, (getF g most b).2.2) :: pre)) := by
          rw [List.drop_drop, cnsE_cons]
          show b.drop ((getF g most b).2.1 + cnsE pre) = b.drop (24 + (getF g most b).1.2.length + cnsE pre)
          rw [e1]
        rw [ed] at i3 i4
        rw [List.length_drop] at i2
        refine ⟨fun z hz => ?_, ?_, i3, i4, i5⟩
        · rcases List.mem_cons.1 hz with rfl | hz
          · exact h0
          · exact i1 z hz
        · rw [cnsE_cons]
          show 24 + (getF g most b).1.2.length + cnsE pre ≤ b.length
          omega
      · rw [if_neg h0] at hp
        simp at hp
def okE (l : List Ev) : List Ev := l.filter fun y => y.2 == 0
theorem okE_all {l : List Ev} (h : ∀ y ∈ l, y.2 = 0) : okE l = l := by
  unfold okE
  exact List.filter_eq_self.2 fun y hy => by rw [h y hy]; rfl
end Go.Proofs.YtffpanlpbdnafaaDoor

/- frame.four (printed by gen_rq.py) -/
set_option linter.unusedSimpArgs false
set_option linter.unusedVariables false
namespace Go.Proofs.YtffpanlpbdnafaaDoor
open Go.RowKit
attribute [local go_sem ↓] Go.wp_at_zero Go.wp_at_succ
set_option maxRecDepth 100000 in
set_option maxHeartbeats 4000000 in
theorem four_any (B : Nat) (v : Value) (N : Nat) (xs : List Value) (w : World) (own : w.ownsRow B 5 1 v N xs) (hB : B ≤ w.heap.size) (hN : N ≤ 900000000) (x : UInt32) :
    Calls Tryd.prog 54 #[v, u32v x] w (Apd B v (N + 4) (xs ++ (le4 x).map u8v) w) := by
  have HO := Lib.hid own; have HB := Lib.hid hB
  obtain ⟨a0, a1, a2, a3, hl, h0, h1, h2, h3⟩ : ∃ a0 a1 a2 a3 : UInt8, le4 x = [a0, a1, a2, a3] ∧ (x.toNat : Int) % 256 = (a0.toNat : Int) ∧ (x.toNat : Int) / 256 % 256 = (a1.toNat : Int) ∧ (x.toNat : Int) / 65536 % 256 = (a2.toNat : Int) ∧ (x.toNat : Int) / 16777216 % 256 = (a3.toNat : Int) := by
    have key : ∀ k, leE x k = ((w8 (leE x k)).toNat : Int) := fun k => w8_of (Int.emod_nonneg _ (by decide)) (by have q := Int.emod_lt_of_pos ((x.toNat : Int) / 2 ^ (8 * k)) (by decide : (0 : Int) < 256); unfold leE; omega)
    have k0 : (x.toNat : Int) / 1 % 256 = ((w8 (leE x 0)).toNat : Int) := key 0
    rw [Int.ediv_one] at k0
    exact ⟨_, _, _, _, rfl, k0, key 1, key 2, key 3⟩
  rw [hl]
  clear own hl hB
  unfold Apd
  go_enter Tryd.func54, Tryd.ntmps54
  go_wp2_with (at_builtin; refine wpList_app byteT (by rfl) _ _ (by rfl) B _ N xs (by rfl) (HO.out.alloc _) _ 4 4 [u8v a0, u8v a1, u8v a2, u8v a3] (by rfl) (by rfl) (Rd.new _ _ _) (by simp [Value.oneCell']) (by omega) (by unfold maxLen; omega) (by have := HB.out; simp; omega) ?_; intro v2 w2 own2 hg2 hat2; have Own2 := Lib.hid own2; have Gr2 := Lib.hid (Gr.app (Gr.of_keep (keep_new w _) v) hg2 hat2); clear own2 hg2 hat2)
  exact bodyPost_ret (v := v2) (by simp [results, Tryd.results54]) rfl ⟨_, rfl, Own2.out, Gr2.out⟩
end Go.Proofs.YtffpanlpbdnafaaDoor
