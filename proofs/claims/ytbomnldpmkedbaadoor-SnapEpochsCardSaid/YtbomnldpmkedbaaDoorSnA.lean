/- Room, Super: a slot's bytes. -/
import Derived.Test.YtbomnldpmkedbaaDoorJoC
set_option linter.unusedSimpArgs false
set_option linter.unusedVariables false
namespace Go.Proofs.YtbomnldpmkedbaaDoor
open Go.RowKit
attribute [local go_sem ↓] Go.wp_at_zero Go.wp_at_succ

/-- How many records a region of a disk of n sectors has. -/
def roomS (n : Int) : Nat := if n < 4 then 0 else (min ((n - 4) / 8) 1024).toNat
set_option maxHeartbeats 400000 in
theorem room_any (n : Int) (w : World) (hn : -9223372036854775808 ≤ n ∧ n ≤ 9223372036854775807) : Calls Tryd.prog 9 #[.int .i64 n] w fun e w' => e = .returned (.int .i64 (roomS n)) ∧ w = w' := by
  by_cases h : n < 4
  · have e : (roomS n : Int) = 0 := by unfold roomS; rw [if_pos h]; rfl
    rw [e]
    clear e
    go_enter Tryd.func9, Tryd.ntmps9
    go_wp2
    go_ret
    exact ⟨rfl, rfl⟩
  · have e : (roomS n : Int) = min ((n - 4) / 8) 1024 := by unfold roomS; rw [if_neg h]; omega
    have He := Lib.hid e; clear e
    obtain ⟨h1, h2⟩ := hn
    have hq : Int.tdiv (n - 4) 8 = (n - 4) / 8 := Int.tdiv_eq_ediv_of_nonneg (by omega)
    have h3 : 4 ≤ n := by omega
    clear h
    go_enter Tryd.func9, Tryd.ntmps9
    go_wp2
    all_goals go_ret
    all_goals exact ⟨ret_int (by have h := He.out; omega), rfl⟩

set_option maxHeartbeats 400000 in
theorem begin_any (r m : Int) (w : World) (hr : 0 ≤ r ∧ r ≤ 1) (hm : 0 ≤ m ∧ m ≤ 1000000) : Calls Tryd.prog 32 #[.int .i64 r, .int .i64 m] w fun e w' => e = .returned (.int .i64 (4 + r * 4 * m)) ∧ w = w' := by
  obtain ⟨h1, h2⟩ := hr
  obtain ⟨h3, h4⟩ := hm
  have hb : 0 ≤ r * 4 * m ∧ r * 4 * m ≤ 4000000 := by
    rcases (show r = 0 ∨ r = 1 by omega) with rfl | rfl
    · simp
    · omega
  obtain ⟨h5, h6⟩ := hb
  go_enter Tryd.func32, Tryd.ntmps32
  go_wp2
  go_ret
  exact ⟨rfl, rfl⟩

set_option maxHeartbeats 400000 in
theorem ssectors_any (A : Option Addr) (n c : Nat) (x : Value) (w : World) (hl : n ≤ 9223372036854775807) :
    Calls Tryd.prog 30 #[.agg #[.slice A n c, x]] w fun e w' => e = .returned (.int .i64 (n / 32 : Nat)) ∧ Keep w w' := by
  go_enter Tryd.func30, Tryd.ntmps30
  go_wp2
  go_ret
  exact ⟨ret_int rfl, (Below.refl _ _).alloc (Nat.le_refl _) _⟩

/-- A slot's bytes ahead of its sum. -/
def epN (e : Int) : UInt32 := w32 (e % 4294967296)
def supHead (e r : Int) : List UInt8 := le4 (epN e) ++ (w8 (r % 2) :: List.replicate 27 0)
def supB (e r : Int) : List UInt8 := supHead e r ++ dblL (supHead e r)
theorem supHead_len (e r : Int) : (supHead e r).length = 32 := by simp [supHead, le4]
theorem supB_len (e r : Int) : (supB e r).length = 64 := by rw [supB, List.length_append, supHead_len, dblL_len]
theorem sup_set (x : UInt32) (y : UInt8) : ((((((List.replicate 64 (0 : UInt8)).map u8v).set 0 (u8v (w8 (leE x 0)))).set 1 (u8v (w8 (leE x 1)))).set 2 (u8v (w8 (leE x 2)))).set 3 (u8v (w8 (leE x 3)))).set 4 (u8v y) = (le4 x ++ (y :: (List.replicate 27 0 ++ List.replicate 32 0))).map u8v := by rfl

theorem i64_and1 (n : Int) : bits BinOp.and IntKind.i64 n 1 = n % 2 := by
  have h127 : (BitVec.ofInt 64 1).toNat = 2 ^ 1 - 1 := by decide
  have key : (BitVec.ofInt 64 n &&& BitVec.ofInt 64 1).toNat = (n % ((2 ^ 64 : Nat) : Int)).toNat % 2 ^ 1 := by
    rw [BitVec.toNat_and, BitVec.toNat_ofInt, h127, Nat.and_two_pow_sub_one_eq_mod]
  show IntKind.i64.wrap ((BitVec.ofInt 64 n &&& BitVec.ofInt 64 1).toNat : Nat) = n % 2
  rw [key, IntKind.wrap_i64]
  omega
theorem bvr (r : Int) : Value.int .u8 (r % 2) = u8v (w8 (r % 2)) := by
  unfold u8v; rw [← w8_of (by omega) (by omega)]

set_option maxRecDepth 100000 in
set_option maxHeartbeats 3000000 in
theorem super_any (ep r : Int) (w : World) (hS : ShaOk w) :
    Calls Tryd.prog 10 #[.int .i64 ep, .int .i64 r] w fun e w' => ∃ A c, e = .returned (.slice A 64 c) ∧ w'.ownsRow w.heap.size 5 1 (.slice A 64 c) 64 ((supB ep r).map u8v) ∧ Keep w w' := by
  have hHd : Hid (supHead ep r = le4 (epN ep) ++ (w8 (r % 2) :: List.replicate 27 0)) := rfl
  have hB : Hid (supB ep r = supHead ep r ++ dblL (supHead ep r)) := rfl
  have hl : (supHead ep r).length = 32 := supHead_len ep r
  have Hl := Lib.hid hl
  have HS := Lib.hid hS
  clear hl hS
  generalize supB ep r = SB at hB ⊢
  generalize supHead ep r = SH at *
  obtain ⟨zs, hz1, hz2, hz3, hz4⟩ := zhash_letter
  clear hz4
  have hcv : IntKind.u32.wrap ep = ((epN ep).toNat : Int) := by
    have h := w32_of (n := ep % 4294967296) (by omega) (by omega)
    show ep % 4294967296 = _
    exact h
  have hband : bits BinOp.and IntKind.i64 r 1 = r % 2 := i64_and1 r
  go_enter Tryd.func10, Tryd.ntmps10
  go_upto_region 2 with fail
  generalize epN ep = n at *
  have hn32 := w32_hi n
  obtain ⟨wm, hmk, hbm, km, hsz⟩ := make_blk 32 64 32 64 rfl rfl (by omega) (by omega) w
  have c0 := hbm.cell 0; have c1 := hbm.cell 1; have c2 := hbm.cell 2; have c3 := hbm.cell 3; have c4 := hbm.cell 4
  simp only [List.getElem?_map, List.getElem?_replicate] at c0 c1 c2 c3 c4
  have f0 := hbm.frozen 0; have f1 := hbm.frozen 1; have f2 := hbm.frozen 2; have f3 := hbm.frozen 3; have f4 := hbm.frozen 4
  have Hbm := Lib.hid hbm; have Hkm := Lib.hid km
  clear hbm hsz
  go_upto_region 5 with fail
  obtain ⟨w2, hw2⟩ : ∃ w2, w2 = ((((wm.setCell ⟨w.heap.size, 0, none⟩ (.int .u8 ((n.toNat : Int) % 256))).setCell ⟨w.heap.size, 1, none⟩ (.int .u8 ((n.toNat : Int) / 256 % 256))).setCell ⟨w.heap.size, 2, none⟩ (.int .u8 ((n.toNat : Int) / 65536 % 256))).setCell ⟨w.heap.size, 3, none⟩ (.int .u8 ((n.toNat : Int) / 16777216))).setCell ⟨w.heap.size, 4, none⟩ (.int .u8 (r % 2)) := ⟨_, rfl⟩
  have HM2 : Hid (Blk w2 w.heap.size 5 ((SH ++ List.replicate 32 0).map u8v)) := by
    have e : SH ++ List.replicate 32 (0 : UInt8) = le4 n ++ (w8 (r % 2) :: (List.replicate 27 0 ++ List.replicate 32 0)) := by rw [hHd.out]; simp [List.append_assoc]
    rw [e, hw2, bv0, bv1, bv2, bv3, bvr, ← sup_set]
    exact ((((Hbm.out.set_ 0 _).set_ 1 _).set_ 2 _).set_ 3 _).set_ 4 _
  have HK2 : Hid (Keep w w2) := by
    rw [hw2]
    iterate 5 (refine Below.setCell ?_ (by simp) _)
    exact km
  rw [← hw2]
  have hz2' := HK2.out.size
  have hlt2 : w.heap.size < w2.heap.size := HM2.out.lt
  clear hw2 hmk c0 c1 c2 c3 c4 f0 f1 f2 f3 f4 km Hbm Hkm hHd hcv hband
  have HRd : Hid (Rd w2 (some ⟨w.heap.size, 0, none⟩) (SH.map u8v)) := by
    have h := HM2.out.rd.take 32
    rw [← List.map_take, List.take_left' Hl.out] at h
    exact h
  obtain ⟨ds, hds⟩ : ∃ ds, HashA (dblL SH) ds := ⟨_, HashA.of (dblL_len _)⟩
  have D1 : Calls Tryd.prog 28 #[.slice (some ⟨w.heap.size, 0, none⟩) 32 64] w2 fun e w' => e = .returned (.agg ds) ∧ Keep w2 w' := by
    have h := double_any (some ⟨w.heap.size, 0, none⟩) SH 64 w2 (HS.out.keep HK2.out) HRd.out (by have := Hl.out; omega) (by unfold maxLen; omega) (by have := Hl.out; omega)
    rw [Hl.out] at h
    exact h.mono fun e w'' ⟨h1, h2⟩ => ⟨by rw [h1, ← hds.e], h2⟩
  have hsz := hds.z; have hsn := hds.n
  have Hds := Lib.hid hds
  have hst1 : ∀ ww : World, (storeCells ⟨ww.heap.size, 0, none⟩ ds.toList 0).run Tryd.prog (ww.alloc (.cells zs 34)) = .ok () (ww.alloc (.cells ds 34)) := fun ww => run_storeCells_new (P := Tryd.prog) ww 34 zs ds Hds.out.i (hz1.trans hsz.symm) (by have := all_oneCell_toArray Hds.out.o; rwa [Array.toArray_toList] at this)
  clear hds
  generalize hg : w.heap.size = g at *
  go_wp2_with fail
  refine D1.mono ?_
  clear D1
  rintro e w3 ⟨rfl, k3⟩
  have HM3 : Hid (Blk (w3.alloc (.cells ds 34)) g 5 ((SH ++ List.replicate 32 0).map u8v)) := (HM2.out.keep k3).alloc _
  have HD3 : Hid (Blk (w3.alloc (.cells ds 34)) w3.heap.size 34 ds.toList) := Blk.new w3 _ ds.toList
  have hg3 : g < w3.heap.size := by have := k3.size; omega
  have own3 : (w3.alloc (.cells ds 34)).ownsRow g 5 1 (.slice (some ⟨g, 0, none⟩) 32 64) 32 (SH.map u8v) := by
    have h : (w3.alloc (.cells ds 34)).heap[g]? = some (.cells (splice ((SH ++ List.replicate 32 0).map u8v) 0 (SH.map u8v)).toArray 5 (0, 0)) := by
      have e : splice ((SH ++ List.replicate 32 (0 : UInt8)).map u8v) 0 (SH.map u8v) = (SH ++ List.replicate 32 0).map u8v := by
        rw [splice_mapH]; congr 1; simp [splice]
      rw [e]; exact HM3.out
    exact own_fill (n := 32) (c := 64) h (Nat.le_refl _) (by rw [List.length_map]; exact Hl.out) (by have : SH.length = 32 := Hl.out; simp [this]) (by omega) (by unfold maxLen; omega)
  have Own3 := Lib.hid own3
  have HK3 := Lib.hid (keep_trans HK2.out k3)
  clear own3
  have hge : w.heap.size ≤ (w3.alloc (.cells ds 34)).heap.size := by simp; omega
  go_wp2_with (at_builtin; refine wpList_app byteT (by rfl) (.tmp 37) (.tmp 38) (by rfl) g _ 32 _ (by rfl) Own3.out _ 32 32 ds.toList (by rfl) (by rw [Array.length_toList, hsz]) HD3.out.rd Hds.out.o (by omega) (by unfold maxLen; omega) (by simp; omega) ?_; intro v4 w4 own4 hg4 hat4)
  have own5 := own_eq own4 (n' := 64) (xs' := SB.map u8v) (by omega) (by rw [hB.out, List.map_append, Hds.out.l])
  have k4 : Keep w w4 := (keep_trans HK3.out (keep_new _ _)).grown hg4 (by simp; omega) (fun q hq => by have := (Own3.out.lt q hq).1; omega)
  obtain ⟨A5, c5, rfl, _⟩ := own_form own5
  have Own5 := Lib.hid own5; have HK4 := Lib.hid k4
  clear own4 own5 hg4 hat4 k4
  go_ret
  exact ⟨A5, c5, rfl, by rw [hg]; exact Own5.out, HK4.out⟩
end Go.Proofs.YtbomnldpmkedbaaDoor
