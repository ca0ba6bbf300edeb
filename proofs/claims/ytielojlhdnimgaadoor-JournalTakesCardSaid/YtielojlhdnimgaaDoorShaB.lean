/- SHA-256: a block. -/
import Derived.Test.YtielojlhdnimgaaDoorShaA
import Derived.Deep.WholeRow
set_option linter.unusedSimpArgs false
set_option linter.unusedVariables false
namespace Go.Proofs.YtielojlhdnimgaaDoor
open Go.RowKit
attribute [local go_sem ↓] Go.wp_at_zero Go.wp_at_succ

def kTab : List UInt32 := [1116352408, 1899447441, 3049323471, 3921009573, 961987163, 1508970993, 2453635748, 2870763221, 3624381080, 310598401, 607225278, 1426881987, 1925078388, 2162078206, 2614888103, 3248222580, 3835390401, 4022224774, 264347078, 604807628, 770255983, 1249150122, 1555081692, 1996064986, 2554220882, 2821834349, 2952996808, 3210313671, 3336571891, 3584528711, 113926993, 338241895, 666307205, 773529912, 1294757372, 1396182291, 1695183700, 1986661051, 2177026350, 2456956037, 2730485921, 2820302411, 3259730800, 3345764771, 3516065817, 3600352804, 4094571909, 275423344, 430227734, 506948616, 659060556, 883997877, 958139571, 1322822218, 1537002063, 1747873779, 1955562222, 2024104815, 2227730452, 2361852424, 2428436474, 2756734187, 3204031479, 3329325298]
def hTab : List UInt32 := [1779033703, 3144134277, 1013904242, 2773480762, 1359893119, 2600822924, 528734635, 1541459225]
/-- The two tables lie where the program's variables lie. -/
structure ShaOk (w : World) : Prop where
  k : ∀ (i : Nat) (y : UInt32), kTab[i]? = some y → w.cell? ⟨1, i, none⟩ = some (u32v y)
  h : ∀ (i : Nat) (y : UInt32), hTab[i]? = some y → w.cell? ⟨0, i, none⟩ = some (u32v y)
theorem ShaOk.keep {w w' : World} (h : ShaOk w) (hk : Keep w w') : ShaOk w' := ⟨fun i y e => keep_cell hk (h.k i y e), fun i y e => keep_cell hk (h.h i y e)⟩

set_option maxRecDepth 100000 in
set_option maxHeartbeats 400000 in
theorem constant_any (i : Nat) (w : World) (hS : ShaOk w) (hi : i < 64) :
    Calls Tryd.prog 57 #[.int .i64 i] w fun e w' => e = .returned (u32v (kTab.getD i 0)) ∧ w = w' := by
  obtain ⟨y, hy⟩ : ∃ y, kTab[i]? = some y := ⟨_, List.getElem?_eq_getElem (by exact hi)⟩
  rw [getD_of hy]
  have c0 := hS.k i y hy
  clear hy hS
  go_enter Tryd.func57, Tryd.ntmps57
  go_wp2
  go_ret
  exact ⟨rfl, rfl⟩
set_option maxRecDepth 100000 in
set_option maxHeartbeats 400000 in
theorem initial_any (i : Nat) (w : World) (hS : ShaOk w) (hi : i < 8) :
    Calls Tryd.prog 54 #[.int .i64 i] w fun e w' => e = .returned (u32v (hTab.getD i 0)) ∧ w = w' := by
  obtain ⟨y, hy⟩ : ∃ y, hTab[i]? = some y := ⟨_, List.getElem?_eq_getElem (by exact hi)⟩
  rw [getD_of hy]
  have c0 := hS.h i y hy
  clear hy hS
  go_enter Tryd.func54, Tryd.ntmps54
  go_wp2
  go_ret
  exact ⟨rfl, rfl⟩

structure H8 where
  a : UInt32
  b : UInt32
  c : UInt32
  d : UInt32
  e : UInt32
  f : UInt32
  g : UInt32
  h : UInt32
def H8.l (v : H8) : List UInt32 := [v.a, v.b, v.c, v.d, v.e, v.f, v.g, v.h]
def H8.cells (v : H8) : List Value := [u32v v.a, u32v v.b, u32v v.c, u32v v.d, u32v v.e, u32v v.f, u32v v.g, u32v v.h]
abbrev H8.agg (v : H8) : Value := .agg #[u32v v.a, u32v v.b, u32v v.c, u32v v.d, u32v v.e, u32v v.f, u32v v.g, u32v v.h]

theorem H8.cells_eq (v : H8) : v.cells = v.l.map u32v := rfl
theorem h8 {w : World} {g : Nat} {t : TypeId} {v : H8} (h : Blk w g t v.cells) : w.cell? ⟨g, 0, none⟩ = some (u32v v.a) ∧ w.cell? ⟨g, 1, none⟩ = some (u32v v.b) ∧ w.cell? ⟨g, 2, none⟩ = some (u32v v.c) ∧ w.cell? ⟨g, 3, none⟩ = some (u32v v.d) ∧ w.cell? ⟨g, 4, none⟩ = some (u32v v.e) ∧ w.cell? ⟨g, 5, none⟩ = some (u32v v.f) ∧ w.cell? ⟨g, 6, none⟩ = some (u32v v.g) ∧ w.cell? ⟨g, 7, none⟩ = some (u32v v.h) :=
  ⟨h.cell 0, h.cell 1, h.cell 2, h.cell 3, h.cell 4, h.cell 5, h.cell 6, h.cell 7⟩
def h80 : H8 := ⟨0, 0, 0, 0, 0, 0, 0, 0⟩
theorem h80_blk (w : World) (n : Nat) (t : TypeId) (hn : n = w.heap.size) : Blk (w.alloc (.cells #[.int .u32 0, .int .u32 0, .int .u32 0, .int .u32 0, .int .u32 0, .int .u32 0, .int .u32 0, .int .u32 0] t)) n t h80.cells := hn ▸ Blk.new w t h80.cells
theorem h8_blk (w : World) (n : Nat) (t : TypeId) (v : H8) (hn : n = w.heap.size) : Blk (w.alloc (.cells #[u32v v.a, u32v v.b, u32v v.c, u32v v.d, u32v v.e, u32v v.f, u32v v.g, u32v v.h] t)) n t v.cells := hn ▸ Blk.new w t v.cells
/-- A round's first sum. -/
def rndT (v : H8) (k w : UInt32) : Int := (v.h.toNat : Int) + bits .xor .u32 (bits .xor .u32 ((rotR v.e 6).toNat : Int) ((rotR v.e 11).toNat : Int)) ((rotR v.e 25).toNat : Int) + bits .xor .u32 (bits .and .u32 (v.e.toNat : Int) (v.f.toNat : Int)) (bits .and .u32 (bits .xor .u32 IntKind.u32.max (v.e.toNat : Int)) (v.g.toNat : Int)) + (k.toNat : Int) + (w.toNat : Int)
def rndA (v : H8) (k w : UInt32) : Int := (rndT v k w + (bits .xor .u32 (bits .xor .u32 ((rotR v.a 2).toNat : Int) ((rotR v.a 13).toNat : Int)) ((rotR v.a 22).toNat : Int) + bits .xor .u32 (bits .xor .u32 (bits .and .u32 (v.a.toNat : Int) (v.b.toNat : Int)) (bits .and .u32 (v.a.toNat : Int) (v.c.toNat : Int))) (bits .and .u32 (v.b.toNat : Int) (v.c.toNat : Int)))) % 4294967296
def rndE (v : H8) (k w : UInt32) : Int := ((v.d.toNat : Int) + rndT v k w) % 4294967296
def rnd (v : H8) (k w : UInt32) : H8 := ⟨w32 (rndA v k w), v.a, v.b, v.c, w32 (rndE v k w), v.e, v.f, v.g⟩
def addL (v h : List UInt32) : Nat → List UInt32
  | 0 => v
  | k + 1 => (addL v h k).set k (w32 (((v.getD k 0).toNat + (h.getD k 0).toNat : Int) % 4294967296))
theorem addL_len (v h : List UInt32) (k : Nat) : (addL v h k).length = v.length := by
  induction k with
  | zero => rfl
  | succ k ih => rw [addL, List.length_set, ih]
theorem addL_get (v h : List UInt32) : ∀ (k j : Nat), k ≤ j → (addL v h k)[j]? = v[j]?
  | 0, _, _ => rfl
  | k + 1, j, hj => by rw [addL, List.getElem?_set_ne (by omega)]; exact addL_get v h k j (by omega)
def add32 (x y : UInt32) : UInt32 := w32 ((x.toNat + y.toNat : Int) % 4294967296)
def H8.add (v h : H8) : H8 := ⟨add32 v.a h.a, add32 v.b h.b, add32 v.c h.c, add32 v.d h.d, add32 v.e h.e, add32 v.f h.f, add32 v.g h.g, add32 v.h h.h⟩
theorem addL_h8 (v h : H8) : addL v.l h.l 8 = (v.add h).l := rfl
def rnds (ws : List UInt32) (v : H8) : Nat → H8
  | 0 => v
  | k + 1 => rnd (rnds ws v k) (kTab.getD k 0) (ws.getD k 0)

/-- What a block makes of eight words. -/
def blockH (v : H8) (b : List UInt8) : H8 := (rnds (wordsL b) v 64).add v

noncomputable def zw64 : Array Value := match (Tryd.prog.info? 103).bind (·.zero) with | some (.agg c) => c | _ => #[]
theorem zw64_size : zw64.size = 64 := by kernel_rfl
theorem zw64_zero (w : World) : (zeroValue 103).run Tryd.prog w = .ok (.agg zw64) w := by kernel_rfl
theorem u32v_w {E : Int} (h0 : 0 ≤ E) (h1 : E ≤ 4294967295) : Value.int .u32 E = u32v (w32 E) := by unfold u32v; rw [← w32_of h0 h1]
theorem h8_set {w : World} {g : Nat} {t : TypeId} {u : H8} (h : Blk w g t u.cells) (v0 v1 v2 v3 v4 v5 v6 v7 : Value) :
    Blk ((((((((w.setCell ⟨g, 0, none⟩ v0).setCell ⟨g, 1, none⟩ v1).setCell ⟨g, 2, none⟩ v2).setCell ⟨g, 3, none⟩ v3).setCell ⟨g, 4, none⟩ v4).setCell ⟨g, 5, none⟩ v5).setCell ⟨g, 6, none⟩ v6).setCell ⟨g, 7, none⟩ v7) g t [v0, v1, v2, v3, v4, v5, v6, v7] :=
  (((((((h.set_ 0 v0).set_ 1 v1).set_ 2 v2).set_ 3 v3).set_ 4 v4).set_ 5 v5).set_ 6 v6).set_ 7 v7
theorem rnd_cells (u : H8) (k y : UInt32) : (rnd u k y).cells = [.int .u32 (rndA u k y), u32v u.a, u32v u.b, u32v u.c, .int .u32 (rndE u k y), u32v u.e, u32v u.f, u32v u.g] := by
  have h1 := u32v_w (E := rndA u k y) (by unfold rndA; omega) (by unfold rndA; omega)
  have h2 := u32v_w (E := rndE u k y) (by unfold rndE; omega) (by unfold rndE; omega)
  rw [h1, h2]; rfl

set_option maxRecDepth 100000 in
set_option maxHeartbeats 3000000 in
theorem block_any (v : H8) (A : Option Addr) (b : List UInt8) (c : Nat) (w : World) (hb : b.length = 64) (hr : Rd w A (b.map u8v)) (hS : ShaOk w) :
    Calls Tryd.prog 53 #[v.agg, .slice A 64 c] w fun e w' => e = .returned (blockH v b).agg ∧ Keep w w' := by
  obtain ⟨R, hR⟩ : ∃ R, blockH v b = R := ⟨_, rfl⟩
  rw [hR]
  have HR : Hid ((rnds (wordsL b) v 64).add v = R) := hR
  clear hR
  have hwl : (wordsL b).length = 64 := by unfold wordsL; rw [wd2_len, wd1_len]
  have W1 : ∀ w', Keep w w' → Calls Tryd.prog 55 #[.slice A 64 c] w' fun e w'' => e = .returned (.agg ((wordsL b).map u32v).toArray) ∧ Keep w' w'' := fun w' hk => words_any A b c w' hb (hr.keep hk)
  generalize wordsL b = ws at *
  obtain ⟨cs, hcs⟩ : ∃ cs : Array Value, cs.toList = ws.map u32v := ⟨(ws.map u32v).toArray, rfl⟩
  have hcz : cs.size = 64 := by rw [← Array.length_toList, hcs, List.length_map, hwl]
  have hci : (Tryd.prog.info? 103).map (·.size) = some cs.size := by rw [hcz]; kernel_rfl
  have hcn : ¬ cs = #[] := by intro h; rw [h] at hcz; simp at hcz
  have hc1 : cs.all (·.oneCell') = true := by
    rw [show cs = (ws.map u32v).toArray from by rw [← hcs, Array.toArray_toList]]; exact all_oneCell_toArray (one_w32 _)
  rw [show (ws.map u32v).toArray = cs from by rw [← hcs, Array.toArray_toList]] at W1
  have HW1 := Lib.hid W1; have Hcs := Lib.hid hcs; clear W1 hcs hr
  obtain ⟨zs, hzs⟩ : ∃ zs, zs = zw64 := ⟨_, rfl⟩
  have hz1 : zs.size = 64 := by rw [hzs]; exact zw64_size
  have hz2 : ∀ w, (zeroValue 103).run Tryd.prog w = .ok (.agg zs) w := fun w => by rw [hzs]; exact zw64_zero w
  have hz3 : ¬ zs = #[] := fun h => by rw [h] at hz1; cases hz1
  have hst : ∀ ww : World, (storeCells ⟨ww.heap.size, 0, none⟩ cs.toList 0).run Tryd.prog (ww.alloc (.cells zs 103)) = .ok () (ww.alloc (.cells cs 103)) := fun ww => run_storeCells_new (P := Tryd.prog) ww 103 zs cs hci (hz1.trans hcz.symm) hc1
  clear hzs hci hc1
  go_enter Tryd.func53, Tryd.ntmps53
  go_wp2_with fail
  refine (HW1.out _ (keep_trans (keep_new _ _) (keep_new _ _))).mono ?_
  rintro e w1 ⟨rfl, k1⟩
  have Hbx := Lib.hid (((h8_blk w w.heap.size 93 v rfl).alloc _).keep k1)
  have Hbr := Lib.hid ((h80_blk _ (w.heap.size + 1) 93 (by simp)).keep k1)
  obtain ⟨x0, x1, x2, x3, x4, x5, x6, x7⟩ := h8 Hbx.out
  have hz1 : w.heap.size + 2 ≤ w1.heap.size := by have := k1.size; simpa using this
  have hzl : w.heap.size < w1.heap.size := by omega
  have kw := keep_trans (keep_trans (keep_new _ _) (keep_new _ _)) k1
  go_wp2_with fail
  have Hb5 := Lib.hid ((Blk.new w1 103 cs.toList).alloc (.cells #[u32v v.a, u32v v.b, u32v v.c, u32v v.d, u32v v.e, u32v v.f, u32v v.g, u32v v.h] 93))
  have Hb6 := Lib.hid (h8_blk (w1.alloc (.cells cs 103)) (w1.heap.size + 1) 93 v (by simp))
  have k2 := keep_trans (keep_new w1 (.cells cs 103)) (keep_new (w1.alloc (.cells cs 103)) (.cells #[u32v v.a, u32v v.b, u32v v.c, u32v v.d, u32v v.e, u32v v.f, u32v v.g, u32v v.h] 93))
  have Hbx2 := Lib.hid (Hbx.out.keep k2); have Hbr2 := Lib.hid (Hbr.out.keep k2)
  clear x0 x1 x2 x3 x4 x5 x6 x7 Hbx Hbr hst
  have kv := keep_trans kw k2
  generalize (w1.alloc (.cells cs 103)).alloc (.cells #[u32v v.a, u32v v.b, u32v v.c, u32v v.d, u32v v.e, u32v v.f, u32v v.g, u32v v.h] 93) = w2 at k2 kv Hb5 Hb6 Hbx2 Hbr2 ⊢
  go_loopw [22] (fun i wr => ∃ k : Nat, k ≤ 64 ∧ i = .int .i64 k ∧ Keep w wr ∧ Blk wr w.heap.size 93 v.cells ∧ Blk wr (w.heap.size + 1) 93 h80.cells ∧ Blk wr w1.heap.size 103 cs.toList ∧ Blk wr (w1.heap.size + 1) 93 (rnds ws v k).cells) (fun i _ => 64 - (intOf i).toNat)
  case atStart => exact ⟨0, by omega, rfl, kv, Hbx2.out, Hbr2.out, Hb5.out, Hb6.out⟩
  case round =>
    obtain ⟨k, hk, rfl, hkr, hbx, hbr, hbw, hbv⟩ := hrel
    by_cases hlt : k < 64
    · obtain ⟨y, hy⟩ : ∃ y, ws[k]? = some y := ⟨_, List.getElem?_eq_getElem (by omega)⟩
      have Hrn := Lib.hid (show rnds ws v (k + 1) = rnd (rnds ws v k) (kTab.getD k 0) y by rw [rnds, getD_of hy])
      have cw := hbw.cell k; rw [Hcs.out, List.getElem?_map, hy, Option.map_some] at cw
      generalize rnds ws v k = u at hbv Hrn
      have hkk : ∀ w', Keep w w' → Calls Tryd.prog 57 #[.int .i64 k] w' fun e w'' => e = .returned (u32v (kTab.getD k 0)) ∧ w' = w'' := fun w' h => constant_any k w' (hS.keep h) hlt
      generalize kTab.getD k 0 = kk at Hrn hkk
      have Hkk := Lib.hid hkk; clear hkk
      obtain ⟨x0, x1, x2, x3, x4, x5, x6, x7⟩ := h8 hbv
      clear hy
      have Hx := Lib.hid hbx; have Hr := Lib.hid hbr; have Hw := Lib.hid hbw; have Hv := Lib.hid hbv
      clear hbx hbr hbw hbv
      have a4 := aft_cell x4
      go_wp2
      refine wp_region_aft (by kernel_rfl) (by kernel_rfl) wr (Below.refl _ _) ?_
      repeat (go_big_quiet_step ((go_at_call 56; exact quiet_aft_same (turned_any _ _ _ (by rfl) (by decide) (by decide)))))
      refine wpQuiet_nil ?_
      rintro _ ⟨z, rfl⟩
      have j3 := aft_keep wr z
      generalize aft wr z = w3 at j3 ⊢
      clear a4 x0 x1 x2 x3 x4 x5 x6 x7
      have hbv := Hv.out.keep j3
      obtain ⟨x0, x1, x2, x3, x4, x5, x6, x7⟩ := h8 hbv
      have k3 := keep_trans hkr j3
      replace cw := keep_cell j3 cw
      clear hbv
      go_wp2
      have a7 := aft_cell x7; have aw := aft_cell cw
      refine wp_region_aft (by kernel_rfl) (by kernel_rfl) w3 (Below.refl _ _) ?_
      repeat (go_big_quiet_step ((go_at_call 57; exact quiet_aft_same (Hkk.out _ (keep_trans k3 (aft_keep _ _))))))
      refine wpQuiet_nil ?_
      rintro _ ⟨z4, rfl⟩
      have j4 := aft_keep w3 z4
      generalize aft w3 z4 = w4 at j4 ⊢
      clear a7 aw cw x0 x1 x2 x3 x4 x5 x6 x7
      have k4 := keep_trans k3 j4
      obtain ⟨x0, x1, x2, x3, x4, x5, x6, x7⟩ := h8 (Hv.out.keep (keep_trans j3 j4))
      have a0 := aft_cell x0
      go_wp2
      refine wp_region_aft (by kernel_rfl) (by kernel_rfl) w4 (Below.refl _ _) ?_
      repeat (go_big_quiet_step ((go_at_call 56; exact quiet_aft_same (turned_any _ _ _ (by rfl) (by decide) (by decide)))))
      refine wpQuiet_nil ?_
      rintro _ ⟨z5, rfl⟩
      have j5 := aft_keep w4 z5
      generalize aft w4 z5 = w5 at j5 ⊢
      clear a0 x0 x1 x2 x3 x4 x5 x6 x7
      have k5 := keep_trans k4 j5
      have j2 := keep_trans (keep_trans j3 j4) j5
      have Hv5 := Lib.hid (Hv.out.keep j2)
      obtain ⟨x0, x1, x2, x3, x4, x5, x6, x7⟩ := h8 Hv5.out
      have f0 := Hv5.out.frozen 0; have f1 := Hv5.out.frozen 1; have f2 := Hv5.out.frozen 2; have f3 := Hv5.out.frozen 3; have f4 := Hv5.out.frozen 4; have f5 := Hv5.out.frozen 5; have f6 := Hv5.out.frozen 6; have f7 := Hv5.out.frozen 7
      go_wp2
      go_roundw
      case rel =>
        refine ⟨k + 1, by omega, by go_num, ?_, ?_, ?_, ?_, ?_⟩
        · repeat (refine Below.setCell ?_ (by simp; omega) _)
          exact k5
        · repeat (refine Blk.far ?_ (by simp; omega) _)
          exact Hx.out.keep j2
        · repeat (refine Blk.far ?_ (by simp; omega) _)
          exact Hr.out.keep j2
        · repeat (refine Blk.far ?_ (by simp) _)
          exact Hw.out.keep j2
        · rw [Hrn.out, rnd_cells]
          exact h8_set Hv5.out _ _ _ _ _ _ _ _
      case measure => simp [intOf]; omega
    · have Hk := Lib.hid (show k = 64 by omega)
      generalize hu : rnds ws v k = u at hbv
      have Hu := Lib.hid hu
      have Hx := Lib.hid hbx; have Hr := Lib.hid hbr; have Hw := Lib.hid hbw; have Hv := Lib.hid hbv
      clear hbx hbr hbw hbv hu
      go_wp2_with fail
      go_loopw [113] (fun i w9 => ∃ j : Nat, j ≤ 8 ∧ i = .int .i64 j ∧ Keep w w9 ∧ Blk w9 w.heap.size 93 (v.l.map u32v) ∧ Blk w9 (w.heap.size + 1) 93 h80.cells ∧ Blk w9 (w1.heap.size + 1) 93 ((addL u.l v.l j).map u32v)) (fun i _ => 8 - (intOf i).toNat)
      case atStart => exact ⟨0, by omega, rfl, hkr, Hx.out, Hr.out, Hv.out⟩
      case round =>
        obtain ⟨j, hj, rfl, hkr, hbx, hbr, hbv⟩ := hrel
        by_cases hlt : j < 8
        · obtain ⟨y, hy⟩ : ∃ y, v.l[j]? = some y := ⟨_, List.getElem?_eq_getElem (by exact hlt)⟩
          obtain ⟨x, hx⟩ : ∃ x, u.l[j]? = some x := ⟨_, List.getElem?_eq_getElem (by exact hlt)⟩
          have Had := Lib.hid (show addL u.l v.l (j + 1) = (addL u.l v.l j).set j (w32 ((x.toNat + y.toNat : Int) % 4294967296)) by rw [addL, getD_of hy, getD_of hx])
          have c0 := hbv.cell j; rw [List.getElem?_map, addL_get _ _ _ _ (Nat.le_refl _), hx, Option.map_some] at c0
          have c1 := hbx.cell j; rw [List.getElem?_map, hy, Option.map_some] at c1
          have Hx := Lib.hid hbx; have Hr := Lib.hid hbr; have Hv := Lib.hid hbv
          clear hbx hbr hbv hy hx
          go_wp2
          refine wp_region_tree (.take [0,1,2,3,4,5,6,7] .done) [8] (by kernel_rfl) (by kernel_rfl) (fun w3 k3 => ?_)
          have a0 := aft_cell (keep_cell k3 c0); have a1 := aft_cell (keep_cell k3 c1)
          refine mt_take w3 (Below.refl _ _) ?_
          simp only [pick_cons, pick_nil, nth_zero, nth_succ]
          repeat (go_big_quiet_step (fail))
          refine wpQuiet_nil (mt_end ?_)
          have k4 := keep_trans hkr k3
          replace c0 := keep_cell k3 c0
          have f0 := (Hv.out.keep k3).frozen j
          clear a0 a1 c1
          go_wp2
          go_roundw
          case rel =>
            refine ⟨j + 1, by omega, by go_num, k4.setCell (by simp; omega) _, (Hx.out.keep k3).far (by simp; omega) _, (Hr.out.keep k3).far (by simp; omega) _, ?_⟩
            rw [Had.out, set_map _ _ _ (by omega) (by omega)]
            exact (Hv.out.keep k3).set_ _ _
          case measure => simp [intOf]; omega
        · have Hj := Lib.hid (show j = 8 by omega)
          have e8 : addL u.l v.l j = (u.add v).l := by rw [Hj.out]; exact addL_h8 u v
          rw [e8, ← H8.cells_eq] at hbv
          clear e8
          have HR2 : Hid (u.add v = R) := by
            have h := HR.out
            rw [← Hk.out, Hu.out] at h
            exact h
          generalize u.add v = r at hbv HR2
          obtain ⟨x0, x1, x2, x3, x4, x5, x6, x7⟩ := h8 hbv
          have Hr := Lib.hid hbr
          have c0 := Hr.out.cell 0; have c1 := Hr.out.cell 1; have c2 := Hr.out.cell 2; have c3 := Hr.out.cell 3; have c4 := Hr.out.cell 4; have c5 := Hr.out.cell 5; have c6 := Hr.out.cell 6; have c7 := Hr.out.cell 7
          have f0 := Hr.out.frozen 0; have f1 := Hr.out.frozen 1; have f2 := Hr.out.frozen 2; have f3 := Hr.out.frozen 3; have f4 := Hr.out.frozen 4; have f5 := Hr.out.frozen 5; have f6 := Hr.out.frozen 6; have f7 := Hr.out.frozen 7
          simp only [H8.cells, List.getElem?_cons_zero, List.getElem?_cons_succ] at c0 c1 c2 c3 c4 c5 c6 c7
          clear hbr hbx hbv
          go_wp2
          refine bodyPost_ret (v := r.agg) (results_cell_row Tryd.results53 _ _ (w.heap.size + 1) _ _ _ _ rfl (h8_set Hr.out _ _ _ _ _ _ _ _) Tryd.underlying93 rfl (by kernel_rfl)) rfl ⟨by rw [← HR2.out], ?_⟩
          repeat (refine Below.setCell ?_ (by simp) _)
          exact hkr
end Go.Proofs.YtielojlhdnimgaaDoor
