/- header.Mine, where a nonce is found. -/
import Derived.Test.YteoilddiilegmaaDoorHi
import Derived.Test.YteoilddiilegmaaDoorUH
set_option linter.unusedSimpArgs false
set_option linter.unusedVariables false
namespace Go.Proofs.YteoilddiilegmaaDoor
open Go.RowKit
attribute [local go_sem ↓] Go.wp_at_zero Go.wp_at_succ

/-- A header with a later nonce. -/
def Hd.bump (h : Hd) (k : Nat) : Hd := ⟨h.ver, h.prev, h.root, h.time, h.bits, h.nonce + UInt32.ofNat k⟩
theorem bump_ok {h : Hd} (hk : h.ok) (k : Nat) : (h.bump k).ok := hk
theorem bump_zero (h : Hd) : h.bump 0 = h := by cases h; simp [Hd.bump]
theorem bump_succ (h : Hd) (k : Nat) : (h.bump (k + 1)).nonce = w32 (((h.bump k).nonce.toNat + 1 : Int) % 4294967296) := by
  apply UInt32.toNat.inj
  have e : (w32 (((h.bump k).nonce.toNat + 1 : Int) % 4294967296)).toNat = ((h.bump k).nonce.toNat + 1) % 4294967296 := by
    unfold w32; rw [UInt32.toNat_ofNat']; omega
  rw [e]
  simp only [Hd.bump, UInt32.toNat_add, UInt32.toNat_ofNat']
  omega
theorem bump_cells {h : Hd} (hk : h.ok) (k : Nat) : (h.bump k).cells.set 67 (u32v (h.bump (k + 1)).nonce) = (h.bump (k + 1)).cells := by
  have e1 : (h.bump k).cells = (u32v h.ver :: (h.prev.map u8v ++ (h.root.map u8v ++ [u32v h.time, u32v h.bits]))) ++ [u32v (h.bump k).nonce] := by simp [Hd.cells, Hd.bump]
  have e2 : (h.bump (k + 1)).cells = (u32v h.ver :: (h.prev.map u8v ++ (h.root.map u8v ++ [u32v h.time, u32v h.bits]))) ++ [u32v (h.bump (k + 1)).nonce] := by simp [Hd.cells, Hd.bump]
  have hl : (u32v h.ver :: (h.prev.map u8v ++ (h.root.map u8v ++ [u32v h.time, u32v h.bits]))).length = 67 := by simp [hk.1, hk.2]
  rw [e1, e2, List.set_append_right _ _ (by rw [hl]; omega), hl]
  rfl

set_option maxRecDepth 100000 in
set_option maxHeartbeats 4000000 in
theorem mine_any (h : Hd) (cs : Array Value) (limit : UInt32) (tries : Int) (k : Nat) (w : World) (hS : ShaOk w) (hk : h.ok) (hcs : HdA h cs) (ht : (k : Int) < tries) (ht2 : tries ≤ 4096)
    (m1 : ∀ j, j < k → meetN (leN (idL (h.bump j))) h.bits limit ≠ 0) (m2 : meetN (leN (idL (h.bump k))) h.bits limit = 0) :
    Calls Tryd.prog 23 #[.agg cs, u32v limit, .int .i64 tries] w fun e w' => ∃ ds, e = .returned (.tuple #[.agg ds, .bool true]) ∧ HdA (h.bump k) ds ∧ Keep w w' := by
  have I1 : Hid (∀ j cs y, Keep w y → HdA (h.bump j) cs → Calls Tryd.prog 11 #[.agg cs] y fun e w' => ∃ ds, e = .returned (.agg ds) ∧ HashA (idL (h.bump j)) ds ∧ Keep y w') := Lib.hid fun j cs y hy hc => id_any (h.bump j) cs y (hS.keep hy) (bump_ok hk j) hc
  have M1 : Hid (∀ j, ∃ m : Int, (j < k → m ≠ 0) ∧ (j = k → m = 0) ∧ ∀ ds y, HashA (idL (h.bump j)) ds → Calls Tryd.prog 14 #[.agg ds, u32v h.bits, u32v limit] y fun e w' => e = .returned (.int .i64 m) ∧ Keep y w') := Lib.hid fun j =>
    ⟨_, m1 j, fun e => by rw [e]; exact m2, fun ds y hd => meets_any (idL (h.bump j)) ds h.bits limit y (idL_len _) hd⟩
  clear m1 m2
  obtain ⟨zs, hz1, hz2, hz3, hz4⟩ := zhead_letter
  have hcz := hcs.z; have hcn := hcs.n; have hci := hcs.i
  have Hcs := Lib.hid hcs; have Hk := Lib.hid hk
  have hmx : max tries 0 = tries := by omega
  have hmn : min tries 4096 = tries := by omega
  clear hcs hk hS hz4
  have hst : ∀ ww : World, (storeCells ⟨ww.heap.size, 0, none⟩ cs.toList 0).run Tryd.prog (ww.alloc (.cells zs 30)) = .ok () (ww.alloc (.cells cs 30)) := fun ww => run_storeCells_new (P := Tryd.prog) ww 30 zs cs Hcs.out.i (hz1.trans hcz.symm) (by have := all_oneCell_toArray Hcs.out.o; rwa [Array.toArray_toList] at this)
  go_enter Tryd.func23, Tryd.ntmps23
  go_upto_region 1 with fail
  obtain ⟨w1, hw1⟩ : ∃ w1, w1 = (w.alloc (.cells cs 30)).alloc (.cells zs 30) := ⟨_, rfl⟩
  have Hbx : Hid (Blk w1 w.heap.size 30 cs.toList) := by rw [hw1]; exact (Blk.new w _ cs.toList).alloc _
  have HR1 : Hid (Blk w1 (w.heap.size + 1) 30 zs.toList) := by
    rw [hw1]
    have h2 := Blk.new (w.alloc (.cells cs 30)) 30 zs.toList
    rw [World.size_alloc] at h2
    exact h2
  have HK1 : Hid (Keep w w1) := by rw [hw1]; exact keep_trans (keep_new _ _) (keep_new _ _)
  rw [← hw1]
  clear hw1
  have hz1w : w.heap.size + 1 < w1.heap.size := HR1.out.lt
  go_upto_region 2 with ((with_reducible refine load_arr w.heap.size cs (Eq.trans ?_ rfl) Hbx.out _ Tryd.underlying30 rfl hci ?_); rfl)
  obtain ⟨w3, hw3⟩ : ∃ w3, w3 = w1.alloc (.cells cs 30) := ⟨_, rfl⟩
  have HM3 : Hid (Blk w3 w1.heap.size 30 (h.bump 0).cells) := by rw [hw3, bump_zero, ← Hcs.out.l]; exact Blk.new w1 _ cs.toList
  have HR3 : Hid (Blk w3 (w.heap.size + 1) 30 zs.toList) := by rw [hw3]; exact HR1.out.alloc _
  have HK3 : Hid (Keep w w3) := by rw [hw3]; exact keep_trans HK1.out (keep_new _ _)
  rw [← hw3]
  clear hw3 HR1 HK1 Hbx hst
  generalize w1.heap.size = M at *
  go_wp2_with fail
  go_loopw [13] (fun i wr => ∃ j : Nat, j ≤ k ∧ i = .int .i64 (j : Int) ∧ Hid (Blk wr M 30 (h.bump j).cells) ∧ Hid (Blk wr (w.heap.size + 1) 30 zs.toList) ∧ Hid (Keep w wr)) (fun i _ => (4096 - intOf i).toNat)
  case atStart => exact ⟨0, by omega, rfl, HM3, HR3, HK3⟩
  case round =>
    obtain ⟨j, hj, rfl, HM, HR, HK⟩ := hrel
    have i1 : (j : Int) < tries := by omega
    obtain ⟨hv, hhv⟩ : ∃ hv, HdA (h.bump j) hv := ⟨_, HdA.of (bump_ok Hk.out j)⟩
    have hvz := hhv.z; have hvn := hhv.n; have hvi := hhv.i
    have Hhv := Lib.hid hhv
    obtain ⟨m, mm1, mm2, mm3⟩ := M1.out j
    have Mm1 := Lib.hid mm1; have Mm2 := Lib.hid mm2; have Mm3 := Lib.hid mm3
    clear hhv mm1 mm2 mm3
    go_upto_region 4 with fail
    refine wp_region_tree (.take [0,2,3,4] (.force [1,5] (.take [6] .done))) [] (by kernel_rfl) (by kernel_rfl) (fun w9 k9 => ?_)
    have HM9 := Lib.hid (HM.out.keep k9); have HR9 := Lib.hid (HR.out.keep k9); have HK9 := Lib.hid (keep_trans HK.out k9)
    have c66 := aft_cell (show w9.cell? ⟨M, 66, none⟩ = some (u32v h.bits) from hd_cell66 (h := h.bump j) HM9.out (bump_ok Hk.out j))
    have Hrg : Hid (w9.rangeAt M 0 hv.toList) := Lib.hid (range_of HM9.out 0 hv.toList (by rw [Hhv.out.l, List.drop_zero, List.take_of_length_le (Nat.le_refl _)]))
    clear k9 HM HR HK
    refine mt_take w9 (Below.refl _ _) ?_
    simp only [pick_cons, pick_nil, nth_zero, nth_succ]
    (with_reducible refine wpQuiet_load_partg M 0 hv (Eq.trans ?_ rfl) Hrg.out _ Tryd.underlying30 rfl hvi (Eq.trans ?_ rfl) ?_)
    rfl
    rfl
    simp only [Act.put, Array.set!_eq_setIfInBounds, List.setIfInBounds_toArray, List.set_cons_succ, List.set_cons_zero]
    repeat (go_big_quiet_step (fail))
    refine wpQuiet_nil (mt_force ?_)
    simp only [pick_cons, pick_nil, nth_zero, nth_succ]
    refine fc_step rfl (fun K hK => ?_)
    go_simp
    (with_reducible refine (I1.out j hv w9 HK9.out Hhv.out).mono ?_)
    rintro e wa ⟨ds, rfl, hds, ka⟩
    refine hK _ _ ka ?_
    have HMa := Lib.hid (HM9.out.keep ka); have HRa := Lib.hid (HR9.out.keep ka); have HKa := Lib.hid (keep_trans HK9.out ka)
    have Hds := Lib.hid hds
    clear hK K c66 ka hds Hrg HM9 HR9 HK9
    refine fc_step rfl (fun K hK => ?_)
    go_simp
    (with_reducible refine (Mm3.out ds wa Hds.out).mono ?_)
    rintro e wb ⟨rfl, kb⟩
    refine hK _ _ kb ?_
    have HMb := Lib.hid (HMa.out.keep kb); have HRb := Lib.hid (HRa.out.keep kb); have HKb := Lib.hid (keep_trans HKa.out kb)
    clear hK K kb HMa HRa HKa Hds Mm3
    refine fc_nil (mt_take wb (Below.refl _ _) ?_)
    simp only [pick_cons, pick_nil, nth_zero, nth_succ]
    repeat (go_big_quiet_step (fail))
    refine wpQuiet_nil (mt_end ?_)
    by_cases hjk : j = k
    · obtain rfl : m = 0 := Mm2.out hjk
      obtain ⟨w8, hst8, hb8, hg8⟩ := run_store_blk (P := Tryd.prog) hv.toList HRb.out (by simp [hz1, hvz]) Hhv.out.o
      have Hb8 := Lib.hid hb8; have Hg8 := Lib.hid hg8
      have HMb' : Hid (Blk wb M 30 hv.toList) := by rw [Hhv.out.l]; exact HMb.out
      subst hjk
      clear hb8 hg8 Mm1 Mm2
      go_wp2_with ((with_reducible refine load_arr M hv (Eq.trans ?_ rfl) HMb'.out _ Tryd.underlying30 rfl hvi ?_); rfl)
      have hb8 := Hb8.out
      exact bodyPost_ret (v := .tuple #[.agg hv, .bool true]) (results_cell_tmp_row Tryd.results23 _ _ (w.heap.size + 1) _ _ _ _ rfl hb8 Tryd.underlying30 rfl (by rw [List.size_toArray, Array.length_toList]; exact hvi)) rfl ⟨hv, rfl, Hhv.out, HKb.out.grown Hg8.out HKb.out.size (fun q hq => by injection hq with hq; omega)⟩
    · have hm0 := Mm1.out (by omega)
      have d1 : (m == 0) = false := by simp [hm0]
      have c67 := hd_cell67 HMb.out (bump_ok Hk.out j)
      have f67 := HMb.out.frozen 67
      have hn32 := (h.bump j).nonce.toNat_lt
      have HB := Lib.hid (bump_succ h j); have HC := Lib.hid (bump_cells Hk.out j)
      generalize (h.bump j).nonce = nn at *
      clear Mm1 Mm2 hm0
      go_wp2
      go_roundw
      case rel =>
        have e : Value.int .u32 (((nn.toNat : Int) + 1) % 4294967296) = u32v (h.bump (j + 1)).nonce := by
          rw [HB.out]
          unfold u32v
          rw [← w32_of (by omega) (by omega)]
        rw [e]
        refine ⟨j + 1, by omega, by go_num, Lib.hid ?_, Lib.hid (HRb.out.far (by simp; omega) _), Lib.hid (Below.setCell HKb.out (by simp; omega) _)⟩
        have h1 := HMb.out.set_ 67 (u32v (h.bump (j + 1)).nonce)
        rw [HC.out] at h1
        exact h1
      case measure => simp [intOf]; omega
end Go.Proofs.YteoilddiilegmaaDoor
