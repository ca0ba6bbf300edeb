/- SHA-256: its words. -/
import Derived.Test.YtielojlhdnimgaaDoorRows
import Derived.Test.YtielojlhdnimgaaDoorBase
import Derived.Test.YtielojlhdnimgaaDoorRgn
import Derived.Test.YtielojlhdnimgaaDoorMov
import Derived.Deep.RegionHeld3
import Derived.Deep.DrawnRows
import Derived.Deep.DeepCutAuto
import Derived.Deep.RegionLaw
import Derived.Deep.MidRow
set_option linter.unusedSimpArgs false
set_option linter.unusedVariables false
namespace Go.Proofs.YtielojlhdnimgaaDoor
open Go.RowKit
attribute [local go_sem ↓] Go.wp_at_zero Go.wp_at_succ

section
variable {P : Program} {w : World} {ops : Array Oper} {rest : List Oper} {a : Act} {Q : Exit → Act → World → Prop} {x y : Operand} {dst : Option Tmp} {ty ty' t : TypeId} {pos : String} {af : Array Edge}
theorem arr_row (n : Nat) (e : TypeId) : (TypeDesc.array n e).isRow = true := rfl
/-- A whole variable is loaded. -/
theorem load_blk (g : Nat) (cs : List Value) (hx : a.eval x = .pointer (some ⟨g, 0, none⟩)) (hb : Blk w g t cs) (d : TypeDesc) (hu : P.underlying ty = some d) (hd : d.isRow = true) (hi : (P.info? ty).map (·.size) = some cs.length)
    (h : wpList P ops Q rest (a.put dst (.agg cs.toArray)) w) : wpList P ops Q ({ dst := dst, op := .load ty x, type := ty', pos := pos, after := af, guard := none } :: rest) a w :=
  wpList_load_mid rfl ty x rfl g 0 hx cs d (fun j v hv => by rw [Nat.zero_add, hb.cell]; exact hv) hu hd hi h
theorem load_arr (g : Nat) (cs : Array Value) (hx : a.eval x = .pointer (some ⟨g, 0, none⟩)) (hb : Blk w g t cs.toList) (d : TypeDesc) (hu : P.underlying ty = some d) (hd : d.isRow = true) (hi : (P.info? ty).map (·.size) = some cs.size)
    (h : wpList P ops Q rest (a.put dst (.agg cs)) w) : wpList P ops Q ({ dst := dst, op := .load ty x, type := ty', pos := pos, after := af, guard := none } :: rest) a w :=
  load_blk g cs.toList hx hb d hu hd (by simpa using hi) h
end

abbrev u32v (x : UInt32) : Value := .int .u32 x.toNat
/-- A number as a word. -/
def w32 (n : Int) : UInt32 := UInt32.ofNat n.toNat
theorem w32_of {n : Int} (h0 : 0 ≤ n) (h1 : n ≤ 4294967295) : n = ((w32 n).toNat : Int) := by
  unfold w32; rw [UInt32.toNat_ofNat']; omega
theorem w32_hi (x : UInt32) : (x.toNat : Int) ≤ 4294967295 := by have := x.toNat_lt; omega
theorem one_w32 (l : List UInt32) : ∀ u ∈ l.map u32v, u.oneCell' = true := by
  intro u hu; obtain ⟨x, _, rfl⟩ := List.mem_map.1 hu; rfl

/-- x turned to the left by s. -/
def rotL (x : UInt32) (s : Nat) : UInt32 := w32 (bits .or .u32 ((x.toNat : Int) * 2 ^ s % 4294967296) ((x.toNat : Int) / 2 ^ (32 - s)))

set_option maxHeartbeats 400000 in
theorem rotl_any (x : UInt32) (k : Int) (s : Nat) (w : World) (hs : bits BinOp.and IntKind.u64 (IntKind.u64.wrap k) 31 = s) (hs1 : 1 ≤ s) (hs2 : s ≤ 31) :
    Calls Tryd.prog 58 #[u32v x, .int .i64 k] w fun e w' => e = .returned (u32v (rotL x s)) ∧ w = w' := by
  have hx := w32_hi x
  go_enter Tryd.func58, Tryd.ntmps58
  go_wp2
  go_ret
  exact ⟨ret_int (w32_of (bits_lo_u32 _ _ _) (bits_hi_u32 _ _ _)), rfl⟩

/-- x turned to the right by n. -/
def rotR (x : UInt32) (n : Nat) : UInt32 := rotL x (32 - n)
set_option maxHeartbeats 400000 in
theorem turned_any (x : UInt32) (k : Int) (w : World) (hs : bits BinOp.and IntKind.u64 (IntKind.u64.wrap (-k)) 31 = (32 - k.toNat : Nat)) (hs1 : 1 ≤ k.toNat) (hs2 : k.toNat ≤ 31) :
    Calls Tryd.prog 56 #[u32v x, .int .i64 k] w fun e w' => e = .returned (u32v (rotR x k.toNat)) ∧ w = w' := by
  go_enter Tryd.func56, Tryd.ntmps56
  go_wp2_with fail
  refine (rotl_any x (-k) (32 - k.toNat) w hs (by omega) (by omega)).mono ?_
  rintro e w1 ⟨rfl, rfl⟩
  go_wp2
  go_ret
  exact ⟨rfl, rfl⟩

def z64 : List UInt32 := List.replicate 64 0
/-- Four bytes as a word. -/
def beE (y0 y1 y2 y3 : UInt8) : Int := bits .or .u32 (bits .or .u32 (bits .or .u32 ((y0.toNat : Int) % 4294967296 * 16777216 % 4294967296) ((y1.toNat : Int) % 4294967296 * 65536 % 4294967296)) ((y2.toNat : Int) % 4294967296 * 256 % 4294967296)) ((y3.toNat : Int) % 4294967296)
def be32 (b : List UInt8) (k : Nat) : UInt32 := w32 (beE (b.getD (4 * k) 0) (b.getD (4 * k + 1) 0) (b.getD (4 * k + 2) 0) (b.getD (4 * k + 3) 0))
/-- A word of the later ones. -/
def wdE (x y a c : UInt32) : Int := (bits .xor .u32 (bits .xor .u32 ((rotR y 17).toNat : Int) ((rotR y 19).toNat : Int)) ((y.toNat : Int) / 1024) + (a.toNat : Int) + bits .xor .u32 (bits .xor .u32 ((rotR x 7).toNat : Int) ((rotR x 18).toNat : Int)) ((x.toNat : Int) / 8) + (c.toNat : Int)) % 4294967296
def wd2 (l : List UInt32) : Nat → List UInt32
  | 0 => l
  | j + 1 => (wd2 l j).set (j + 16) (w32 (wdE ((wd2 l j).getD (j + 1) 0) ((wd2 l j).getD (j + 14) 0) ((wd2 l j).getD (j + 9) 0) ((wd2 l j).getD j 0)))
theorem wd2_len (l : List UInt32) (j : Nat) : (wd2 l j).length = l.length := by
  induction j with
  | zero => rfl
  | succ j ih => rw [wd2, List.length_set, ih]
def wd1 (b : List UInt8) : Nat → List UInt32
  | 0 => z64
  | k + 1 => (wd1 b k).set k (be32 b k)
theorem wd1_len (b : List UInt8) (k : Nat) : (wd1 b k).length = 64 := by
  induction k with
  | zero => rfl
  | succ k ih => rw [wd1, List.length_set, ih]

def wordsL (b : List UInt8) : List UInt32 := wd2 (wd1 b 16) 48
theorem set_map (l : List UInt32) (k : Nat) (E : Int) (h0 : 0 ≤ E) (h1 : E ≤ 4294967295) : (l.set k (w32 E)).map u32v = (l.map u32v).set k (.int .u32 E) := by
  rw [List.map_set]; unfold u32v; rw [← w32_of h0 h1]
theorem getD_of {α : Type} {l : List α} {k : Nat} {d y : α} (h : l[k]? = some y) : l.getD k d = y := by simp [h]
theorem z64_blk (w : World) (n : Nat) (hn : n = w.heap.size) : Blk (w.alloc (.cells #[.int .u32 0, .int .u32 0, .int .u32 0, .int .u32 0, .int .u32 0, .int .u32 0, .int .u32 0, .int .u32 0, .int .u32 0, .int .u32 0, .int .u32 0, .int .u32 0, .int .u32 0, .int .u32 0, .int .u32 0, .int .u32 0, .int .u32 0, .int .u32 0, .int .u32 0, .int .u32 0, .int .u32 0, .int .u32 0, .int .u32 0, .int .u32 0, .int .u32 0, .int .u32 0, .int .u32 0, .int .u32 0, .int .u32 0, .int .u32 0, .int .u32 0, .int .u32 0, .int .u32 0, .int .u32 0, .int .u32 0, .int .u32 0, .int .u32 0, .int .u32 0, .int .u32 0, .int .u32 0, .int .u32 0, .int .u32 0, .int .u32 0, .int .u32 0, .int .u32 0, .int .u32 0, .int .u32 0, .int .u32 0, .int .u32 0, .int .u32 0, .int .u32 0, .int .u32 0, .int .u32 0, .int .u32 0, .int .u32 0, .int .u32 0, .int .u32 0, .int .u32 0, .int .u32 0, .int .u32 0, .int .u32 0, .int .u32 0, .int .u32 0, .int .u32 0] 103)) n 103 (z64.map u32v) := hn ▸ Blk.new w _ (z64.map u32v)
theorem run_store_blk {P : Program} {w : World} {g : Nat} {t : TypeId} {old : List Value} (cs : List Value) (hb : Blk w g t old) (ho : old.length = cs.length) (h1 : ∀ v ∈ cs, v.oneCell' = true) :
    ∃ w', (storeCells ⟨g, 0, none⟩ cs 0).run P w = .ok () w' ∧ Blk w' g t cs ∧ w.grownBy w' (some g) := by
  refine ⟨_, run_storeCells_from g t cs 0 old.toArray w hb (by simp [ho]) h1, ?_, rfl, rfl, rfl, by simp [World.setRow], fun k _ hne => setRow_other w g k _ (fun e => hne (by rw [e]))⟩
  have := setRow_heap w g old.toArray cs.toArray t (0, 0) hb
  simpa [Blk] using this
set_option maxRecDepth 100000 in
set_option maxHeartbeats 3000000 in
theorem words_any (A : Option Addr) (b : List UInt8) (c : Nat) (w : World) (hb : b.length = 64) (hr : Rd w A (b.map u8v)) :
    Calls Tryd.prog 55 #[.slice A 64 c] w fun e w' => e = .returned (.agg ((wordsL b).map u32v).toArray) ∧ Keep w w' := by
  go_enter Tryd.func55, Tryd.ntmps55
  go_wp2_with fail
  go_loopw [10] (fun i wr => ∃ k : Nat, k ≤ 16 ∧ i = .int .i64 k ∧ Keep w wr ∧ Blk wr w.heap.size 103 (z64.map u32v) ∧ Blk wr (w.heap.size + 1) 103 ((wd1 b k).map u32v)) (fun i _ => 16 - (intOf i).toNat)
  case atStart => exact ⟨0, by omega, rfl, keep_trans (keep_new _ _) (keep_new _ _), (z64_blk _ _ rfl).alloc _, z64_blk _ _ (by simp)⟩
  case round =>
    obtain ⟨k, hk, rfl, hkr, hb0, hb1⟩ := hrel
    by_cases hlt : k < 16
    · obtain ⟨g, off, rfl, hg, hc⟩ := (hr.keep hkr).at (k := 0) (by simp; omega)
      have rd : ∀ j y, b[j]? = some y → wr.cell? ⟨g, off + j, none⟩ = some (u8v y) := fun j y h => by
        obtain ⟨hj, rfl⟩ := List.getElem?_eq_some_iff.1 h
        rw [hc j (by simpa using hj)]; simp
      obtain ⟨y0, h0⟩ : ∃ y, b[4 * k]? = some y := ⟨_, List.getElem?_eq_getElem (by omega)⟩
      obtain ⟨y1, h1⟩ : ∃ y, b[4 * k + 1]? = some y := ⟨_, List.getElem?_eq_getElem (by omega)⟩
      obtain ⟨y2, h2⟩ : ∃ y, b[4 * k + 2]? = some y := ⟨_, List.getElem?_eq_getElem (by omega)⟩
      obtain ⟨y3, h3⟩ : ∃ y, b[4 * k + 3]? = some y := ⟨_, List.getElem?_eq_getElem (by omega)⟩
      have e0 := rd _ _ h0; have e1 := rd _ _ h1; have e2 := rd _ _ h2; have e3 := rd _ _ h3
      have Hbe := Lib.hid (show be32 b k = w32 (beE y0 y1 y2 y3) by unfold be32; rw [getD_of h0, getD_of h1, getD_of h2, getD_of h3])
      clear h0 h1 h2 h3
      have Hb0 := Lib.hid hb0; have Hb1 := Lib.hid hb1; clear hb0 hb1
      clear hc rd
      go_wp2
      refine wp_region_tree (.take [0,1,2,3,4,5,6,7,8,9,10,11,12,13,14,15,16,17,18,19,20,21,22,23,24,25,26,27,28,29,30,31,32,33,34] .done) [35] (by kernel_rfl) (by kernel_rfl) (fun w1 k1 => ?_)
      have a0 := aft_cell (keep_cell k1 e0); have a1 := aft_cell (keep_cell k1 e1); have a2 := aft_cell (keep_cell k1 e2); have a3 := aft_cell (keep_cell k1 e3)
      refine mt_take w1 (Below.refl _ _) ?_
      simp only [pick_cons, pick_nil, nth_zero, nth_succ]
      repeat (go_big_quiet_step (fail))
      refine wpQuiet_nil (mt_end ?_)
      have hb1 : Blk w1 (w.heap.size + 1) 103 ((wd1 b k).map u32v) := Hb1.out.keep k1
      have Hb1' := Lib.hid hb1
      have x0 := hb1.cell k; rw [List.getElem?_map, List.getElem?_eq_getElem (by rw [wd1_len]; omega)] at x0
      have x1 := hb1.frozen k
      have Hb0' := Lib.hid (Hb0.out.keep k1)
      have k9 := keep_trans hkr k1
      clear a0 a1 a2 a3 e0 e1 e2 e3 hb1
      go_wp2
      go_roundw
      case rel =>
        refine ⟨k + 1, by omega, by go_num, k9.setCell (by simp) _, Hb0'.out.far (by simp) _, ?_⟩
        rw [wd1, Hbe.out, set_map _ _ (beE y0 y1 y2 y3) (bits_lo_u32 _ _ _) (bits_hi_u32 _ _ _)]
        exact Hb1'.out.set_ _ _
      case measure => simp [intOf]; omega
    · have Hk := Lib.hid (show k = 16 by omega)
      have Hb0 := Lib.hid hb0; have Hb1 := Lib.hid hb1; clear hb0 hb1
      go_wp2_with fail
      have hll : (wd1 b k).length = 64 := wd1_len b k
      generalize hl : wd1 b k = l at Hb1 hll
      have Hl := Lib.hid hl; clear hl
      have hkw := hkr
      go_loopw [5] (fun i wr => ∃ j : Nat, j ≤ 48 ∧ i = .int .i64 ((j + 16 : Nat) : Int) ∧ Keep w wr ∧ Blk wr w.heap.size 103 (z64.map u32v) ∧ Blk wr (w.heap.size + 1) 103 ((wd2 l j).map u32v)) (fun i _ => 64 - (intOf i).toNat)
      case atStart => exact ⟨0, by omega, rfl, hkw, Hb0.out, Hb1.out⟩
      case round =>
        obtain ⟨j, hj, rfl, hkr, hb0, hb1⟩ := hrel
        by_cases hlt : j < 48
        · have hl' : (wd2 l j).length = 64 := by rw [wd2_len, hll]
          obtain ⟨x, h0⟩ : ∃ y, (wd2 l j)[j + 1]? = some y := ⟨_, List.getElem?_eq_getElem (by omega)⟩
          obtain ⟨y, h1⟩ : ∃ y, (wd2 l j)[j + 14]? = some y := ⟨_, List.getElem?_eq_getElem (by omega)⟩
          obtain ⟨a, h2⟩ : ∃ y, (wd2 l j)[j + 9]? = some y := ⟨_, List.getElem?_eq_getElem (by omega)⟩
          obtain ⟨d, h3⟩ : ∃ y, (wd2 l j)[j]? = some y := ⟨_, List.getElem?_eq_getElem (by omega)⟩
          obtain ⟨o, h4⟩ : ∃ y, (wd2 l j)[j + 16]? = some y := ⟨_, List.getElem?_eq_getElem (by omega)⟩
          have Hwd := Lib.hid (show wd2 l (j + 1) = (wd2 l j).set (j + 16) (w32 (wdE x y a d)) by rw [wd2, getD_of h0, getD_of h1, getD_of h2, getD_of h3])
          have c0 := hb1.cell (j + 1); rw [List.getElem?_map, h0] at c0
          have c1 := hb1.cell (j + 14); rw [List.getElem?_map, h1] at c1
          have c2 := hb1.cell (j + 9); rw [List.getElem?_map, h2] at c2
          have c3 := hb1.cell j; rw [List.getElem?_map, h3] at c3
          have c4 := hb1.cell (j + 16); rw [List.getElem?_map, h4] at c4
          have f4 := hb1.frozen (j + 16)
          simp only [Option.map_some] at c0 c1 c2 c3 c4
          have Hb0 := Lib.hid hb0; have Hb1 := Lib.hid hb1
          clear hb0 hb1 h0 h1 h2 h3 h4
          go_wp2
          have a0 := aft_cell c0; have a1 := aft_cell c1
          refine wp_region_aft (by kernel_rfl) (by kernel_rfl) wr (Below.refl _ _) ?_
          repeat (go_big_quiet_step (fail))
          refine wpQuiet_nil ?_
          rintro _ ⟨z, rfl⟩
          have k2 := aft_keep wr z
          generalize aft wr z = w2 at k2 ⊢
          clear a0 a1 c0 c1
          replace c2 := keep_cell k2 c2; replace c3 := keep_cell k2 c3
          have k3 := keep_trans hkr k2
          replace f4 := keep_frozen k2 (cell_lt c4) f4; replace c4 := keep_cell k2 c4
          go_wp2_with (go_at_call 56; refine (turned_any _ _ _ (by rfl) (by decide) (by decide)).mono ?_; rintro e w9 ⟨rfl, rfl⟩)
          refine wp_region_tree (.take [0,1,2,3,4,5,6,7,8,9,10,11,12,13,14] .done) [15] (by kernel_rfl) (by kernel_rfl) (fun w1 k1 => ?_)
          have a2 := aft_cell (keep_cell k1 c2); have a3 := aft_cell (keep_cell k1 c3)
          refine mt_take w1 (Below.refl _ _) ?_
          simp only [pick_cons, pick_nil, nth_zero, nth_succ]
          repeat (go_big_quiet_step (fail))
          refine wpQuiet_nil (mt_end ?_)
          have k4 := keep_trans k3 k1
          have k5 := keep_trans k2 k1
          replace f4 := keep_frozen k1 (cell_lt c4) f4; replace c4 := keep_cell k1 c4
          clear a2 a3 c2 c3
          go_wp2
          go_roundw
          case rel =>
            refine ⟨j + 1, by omega, by go_num, k4.setCell (by simp) _, (Hb0.out.keep k5).far (by simp) _, ?_⟩
            rw [Hwd.out, set_map _ _ (wdE x y a d) (by unfold wdE; omega) (by unfold wdE; omega)]
            exact (Hb1.out.keep k5).set_ _ _
          case measure => simp [intOf]; omega
        · have Hj := Lib.hid (show j = 48 by omega)
          have hl' : (wd2 l j).length = 64 := by rw [wd2_len, hll]
          generalize hl2 : wd2 l j = l' at hb1 hl'
          have Hl2 := Lib.hid hl2; clear hl2
          obtain ⟨cs, hcs⟩ : ∃ cs : Array Value, cs.toList = l'.map u32v := ⟨(l'.map u32v).toArray, rfl⟩
          have hcz : cs.size = 64 := by rw [← Array.length_toList, hcs, List.length_map, hl']
          have hci : (Tryd.prog.info? 103).map (·.size) = some cs.size := by rw [hcz]; kernel_rfl
          have hcn : ¬ cs = #[] := by intro h; rw [h] at hcz; simp at hcz
          rw [← hcs] at hb1
          obtain ⟨w8, hst, hb8, hg8⟩ := run_store_blk (P := Tryd.prog) cs.toList hb0 (by simp [hcz]; rfl) (by rw [hcs]; exact one_w32 _)
          have Hb1' := Lib.hid hb1; have Hb8 := Lib.hid hb8; have Hg8 := Lib.hid hg8; have Hcs := Lib.hid hcs; clear hb0 hb1 hb8 hg8 hcs
          go_upto_region 14 with fail
          go_wp2_with ((with_reducible refine load_arr (w.heap.size + 1) cs (Eq.trans ?_ rfl) Hb1'.out (.array 64 42) Tryd.underlying103 (arr_row _ _) hci ?_); rfl)
          have hb8 := Hb8.out
          refine bodyPost_ret (v := .agg cs) (results_cell_row Tryd.results55 _ _ w.heap.size _ _ _ _ rfl hb8 Tryd.underlying103 rfl (by rw [List.size_toArray, Array.length_toList, hcz]; kernel_rfl)) rfl ⟨?_, hkr.grown Hg8.out (by have := hkr.size; omega) (fun q hq => by injection hq with hq; omega)⟩
          rw [show cs = (l'.map u32v).toArray from by rw [← Hcs.out, Array.toArray_toList], ← Hl2.out, ← Hl.out, Hj.out, Hk.out]
          rfl
end Go.Proofs.YtielojlhdnimgaaDoor
