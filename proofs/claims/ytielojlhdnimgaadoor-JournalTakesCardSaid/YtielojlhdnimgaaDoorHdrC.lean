/- A header taken out of its bytes. -/
import Derived.Test.YtielojlhdnimgaaDoorHdrB
import Derived.Laws.ResultCell
set_option linter.unusedSimpArgs false
set_option linter.unusedVariables false
namespace Go.Proofs.YtielojlhdnimgaaDoor
open Go.RowKit
attribute [local go_sem ↓] Go.wp_at_zero Go.wp_at_succ

theorem results_cell_tmp_row {P : Program} {fn : Func} {p u : Tmp} {ty : TypeId} (h : fn.results = #[.cell p ty, .tmp u]) (tmps : Array Value) (w : World) (g : Nat) (t : TypeId) (cs : Array Value) (fr : Nat × Nat) (d : TypeDesc)
    (hp : tmps.getD p undef = .pointer (some ⟨g, 0, none⟩)) (hg : w.heap[g]? = some (.cells cs t fr))
    (hu : P.underlying ty = some d) (hd : (match d with | .struct _ | .array _ _ => true | _ => false) = true) (hi : (P.info? ty).map (·.size) = some cs.size) :
    (results fn tmps).run P w = .ok (.tuple #[.agg cs, tmps.getD u undef]) w := by
  rw [results_cell_tmp h, hp]
  simp [asAddr, run_loadVar_row w g t ty cs fr d hg hu hd hi]

noncomputable def zhead : Array Value := match (Tryd.prog.info? 44).bind (·.zero) with | some (.agg c) => c | _ => #[]
theorem zhead_size : zhead.size = 68 := by kernel_rfl
theorem zhead_zero (w : World) : (zeroValue 44).run Tryd.prog w = .ok (.agg zhead) w := by kernel_rfl
def z32 : List UInt8 := List.replicate 32 0
theorem zhead_list : zhead.toList = Hd.cells ⟨0, z32, z32, 0, 0, 0⟩ := by kernel_rfl
theorem zhead_letter : ∃ zs : Array Value, zs.size = 68 ∧ (∀ w, (zeroValue 44).run Tryd.prog w = .ok (.agg zs) w) ∧ ¬ zs = #[] ∧ zs.toList = Hd.cells ⟨0, z32, z32, 0, 0, 0⟩ :=
  ⟨zhead, zhead_size, zhead_zero, (fun h => by have := zhead_size; rw [h] at this; cases this), zhead_list⟩

/-- A header out of 80 bytes. -/
def hgetL (b : List UInt8) : Hd := ⟨num32 b, (b.drop 4).take 32, (b.drop 36).take 32, num32 (b.drop 68), num32 (b.drop 72), num32 (b.drop 76)⟩
theorem hgetL_ok {b : List UInt8} (hb : b.length = 80) : (hgetL b).ok := by
  unfold hgetL Hd.ok; simp [hb]
theorem head_set (a t b n : UInt32) : ((((Hd.cells ⟨0, z32, z32, 0, 0, 0⟩).set 0 (u32v a)).set 65 (u32v t)).set 66 (u32v b)).set 67 (u32v n) = Hd.cells ⟨a, z32, z32, t, b, n⟩ := by kernel_rfl

set_option maxRecDepth 100000 in
set_option maxHeartbeats 3000000 in
theorem hget_any (A : Option Addr) (b : List UInt8) (c : Nat) (w : World) (hb : b.length = 80) (hc : 80 ≤ c) (hcm : c ≤ maxLen) (hr : Rd w A (b.map u8v)) :
    Calls Tryd.prog 36 #[.slice A 80 c] w fun e w' => ∃ cs, e = .returned (.tuple #[.agg cs, .int .i64 0]) ∧ HdA (hgetL b) cs ∧ Keep w w' := by
  obtain ⟨g, off, rfl, hg, _⟩ := hr.at (k := 0) (by simp; omega)
  unfold maxLen at hcm
  obtain ⟨zs, hz1, hz2, hz3, hz4⟩ := zhead_letter
  obtain ⟨bs, hbs⟩ : ∃ bs : Array Value, bs.toList = (Hd.cells ⟨num32 b, z32, z32, num32 (b.drop 68), num32 (b.drop 72), num32 (b.drop 76)⟩) := ⟨_, rfl⟩
  have hset : (((zs.toList.set 0 (u32v (num32 b))).set 65 (u32v (num32 (b.drop 68)))).set 66 (u32v (num32 (b.drop 72)))).set 67 (u32v (num32 (b.drop 76))) = bs.toList := by rw [hz4, hbs, head_set]
  have hbz : bs.size = 68 := by rw [← Array.length_toList, hbs]; exact Hd.len ⟨rfl, rfl⟩
  have hbn : ¬ bs = #[] := by intro h; rw [h] at hbz; simp at hbz
  have Hst : Hid (∀ ww : World, (storeCells ⟨ww.heap.size, 0, none⟩ ((((zs.toList.set 0 (u32v (num32 b))).set 65 (u32v (num32 (b.drop 68)))).set 66 (u32v (num32 (b.drop 72)))).set 67 (u32v (num32 (b.drop 76)))) 0).run Tryd.prog (ww.alloc (.cells zs 44)) = .ok () (ww.alloc (.cells bs 44))) := fun ww => by
    rw [hset]
    exact run_storeCells_new (P := Tryd.prog) ww 44 zs bs (by rw [hbz]; kernel_rfl) (hz1.trans hbz.symm) (by have := all_oneCell_toArray (show ∀ v ∈ bs.toList, v.oneCell' = true by rw [hbs]; exact Hd.one _); rwa [Array.toArray_toList] at this)
  have hsub : ∀ (w' : World), Keep w w' → ∀ k, k ≤ 80 → Rd w' (some ⟨g, off + k, none⟩) ((b.drop k).map u8v) := fun w' h k hk => by
    have h1 := (hr.keep h).sub k (80 - k) (by simp [hb]; omega)
    rw [List.take_of_length_le (by simp [hb])] at h1
    rwa [List.map_drop]
  have N1 : Hid (∀ w', Keep w w' → Calls Tryd.prog 45 #[.slice (some ⟨g, off, none⟩) 80 c] w' fun e w'' => e = .returned (u32v (num32 b)) ∧ w' = w'') := fun w' h => number_any _ b 80 c w' hb.symm (by omega) (hr.keep h)
  have N4 : Hid (∀ w', Keep w w' → Calls Tryd.prog 45 #[.slice (some ⟨g, off + 68, none⟩) 12 (c - 68)] w' fun e w'' => e = .returned (u32v (num32 (b.drop 68))) ∧ w' = w'') := fun w' h => number_any _ (b.drop 68) 12 _ w' (by simp [hb]) (by simp [hb]) (hsub w' h 68 (by omega))
  have N7 : Hid (∀ w', Keep w w' → Calls Tryd.prog 45 #[.slice (some ⟨g, off + 72, none⟩) 8 (c - 72)] w' fun e w'' => e = .returned (u32v (num32 (b.drop 72))) ∧ w' = w'') := fun w' h => number_any _ (b.drop 72) 8 _ w' (by simp [hb]) (by simp [hb]) (hsub w' h 72 (by omega))
  have N10 : Hid (∀ w', Keep w w' → Calls Tryd.prog 45 #[.slice (some ⟨g, off + 76, none⟩) 4 (c - 76)] w' fun e w'' => e = .returned (u32v (num32 (b.drop 76))) ∧ w' = w'') := fun w' h => number_any _ (b.drop 76) 4 _ w' (by simp [hb]) (by simp [hb]) (hsub w' h 76 (by omega))
  have HS1 : Hid (∀ w', Keep w w' → Rd w' (some ⟨g, off + 4, none⟩) (((b.drop 4).take 32).map u8v)) := fun w' h => by
    have h1 := (hr.keep h).sub 4 32 (by simp [hb])
    rwa [← List.map_drop, ← List.map_take] at h1
  have HS2 : Hid (∀ w', Keep w w' → Rd w' (some ⟨g, off + 36, none⟩) (((b.drop 36).take 32).map u8v)) := fun w' h => by
    have h1 := (hr.keep h).sub 36 32 (by simp [hb])
    rwa [← List.map_drop, ← List.map_take] at h1
  have Hbs := Lib.hid hbs; have Hb := Lib.hid hb
  have ht1 : Hid (((b.drop 4).take 32).length = 32) := by simp [Hid, hb]
  have ht2 : Hid (((b.drop 36).take 32).length = 32) := by simp [Hid, hb]
  have HG : Hid (hgetL b = ⟨num32 b, (b.drop 4).take 32, (b.drop 36).take 32, num32 (b.drop 68), num32 (b.drop 72), num32 (b.drop 76)⟩) := rfl
  generalize hgetL b = H at HG ⊢
  generalize num32 b = na at *
  generalize num32 (b.drop 68) = nt at *
  generalize num32 (b.drop 72) = nb at *
  generalize num32 (b.drop 76) = nn at *
  generalize (b.drop 4).take 32 = p1 at *
  generalize (b.drop 36).take 32 = p2 at *
  clear hbs hb hsub hr hset hz4
  go_enter Tryd.func36, Tryd.ntmps36
  go_upto_region 5 with fail
  have HR1 : Hid (Blk (w.alloc (.cells zs 44)) w.heap.size 44 zs.toList) := Blk.new w _ zs.toList
  have kw1 := keep_new w (.cells zs 44)
  have hz0 : w.heap.size < (w.alloc (.cells zs 44)).heap.size := by simp
  generalize w.alloc (.cells zs 44) = w1 at HR1 kw1 hz0 ⊢
  go_cut [4] (fun p wx => ∃ w9 : World, p = .pointer (some ⟨w9.heap.size, 0, none⟩) ∧ Blk wx w9.heap.size 44 bs.toList ∧ Keep w1 wx ∧ w1.heap.size ≤ w9.heap.size)
  case first =>
    refine wp_region_tree (.take [0,2,3,5,6,8,9] (.fork 1 (.fork 4 (.fork 7 (.fork 10 (.take [11] (.force [12] .done)) 12 (.force [10] (.take [11] .done))) 12 (.force [7,10] (.take [11] .done))) 12 (.force [4,7,10] (.take [11] .done))) 12 (.force [1,4,7,10] (.take [11] .done)))) [13] (by kernel_rfl) (by kernel_rfl) (fun w9 k9 => ?_)
    have k8 := k9
    replace k9 := keep_trans kw1 k9
    refine mt_take w9 (Below.refl _ _) ?_
    simp only [pick_cons, pick_nil, nth_zero, nth_succ]
    repeat (go_big_quiet_step (fail))
    refine wpQuiet_nil ?_
    refine mt_fork ?_ ?_
    · simp only [pick_cons, pick_nil, nth_zero, nth_succ]
      refine fc_step rfl (fun K hK => ?_)
      go_simp
      (with_reducible refine (N1.out _ k9).mono ?_)
      rintro e wX ⟨rfl, rfl⟩
      refine hK _ _ (Below.refl _ _) ?_
      clear hK K
      refine fc_nil ?_
      refine mt_fork ?_ ?_
      · simp only [pick_cons, pick_nil, nth_zero, nth_succ]
        refine fc_step rfl (fun K hK => ?_)
        go_simp
        (with_reducible refine (N4.out _ k9).mono ?_)
        rintro e wX ⟨rfl, rfl⟩
        refine hK _ _ (Below.refl _ _) ?_
        clear hK K
        refine fc_nil ?_
        refine mt_fork ?_ ?_
        · simp only [pick_cons, pick_nil, nth_zero, nth_succ]
          refine fc_step rfl (fun K hK => ?_)
          go_simp
          (with_reducible refine (N7.out _ k9).mono ?_)
          rintro e wX ⟨rfl, rfl⟩
          refine hK _ _ (Below.refl _ _) ?_
          clear hK K
          refine fc_nil ?_
          refine mt_fork ?_ ?_
          · simp only [pick_cons, pick_nil, nth_zero, nth_succ]
            refine fc_step rfl (fun K hK => ?_)
            go_simp
            (with_reducible refine (N10.out _ k9).mono ?_)
            rintro e wX ⟨rfl, rfl⟩
            refine hK _ _ (Below.refl _ _) ?_
            clear hK K
            refine fc_nil ?_
            refine mt_take w9 (Below.refl _ _) ?_
            simp only [pick_cons, pick_nil, nth_zero, nth_succ]
            repeat (go_big_quiet_step (fail))
            refine wpQuiet_nil ?_
            refine mt_force ?_
            simp only [pick_cons, pick_nil, nth_zero, nth_succ]
            refine fc_step rfl (fun K hK => ?_)
            go_simp
            refine hK _ _ (keep_new _ _) ?_
            clear hK K
            refine fc_nil ?_
            refine mt_end ?_
            have hst := Hst.out w9
            go_wp2
            go_meet
            exact ⟨w9, rfl, Blk.new w9 _ bs.toList, keep_trans k8 (keep_new _ _), k8.size⟩
          · simp only [pick_cons, pick_nil, nth_zero, nth_succ]
            refine fc_step rfl (fun K hK => ?_)
            go_simp
            refine hK _ _ (keep_new _ _) ?_
            clear hK K
            refine fc_nil ?_
            refine mt_force ?_
            simp only [pick_cons, pick_nil, nth_zero, nth_succ]
            refine fc_step rfl (fun K hK => ?_)
            go_simp
            (with_reducible refine (N10.out _ (keep_trans k9 (keep_new _ _))).mono ?_)
            rintro e wX ⟨rfl, rfl⟩
            refine hK _ _ (Below.refl _ _) ?_
            clear hK K
            refine fc_nil ?_
            refine mt_take (w9.alloc (.cells zs 44)) (Below.refl _ _) ?_
            simp only [pick_cons, pick_nil, nth_zero, nth_succ]
            repeat (go_big_quiet_step (fail))
            refine wpQuiet_nil ?_
            refine mt_end ?_
            have hst := Hst.out w9
            go_wp2
            go_meet
            exact ⟨w9, rfl, Blk.new w9 _ bs.toList, keep_trans k8 (keep_new _ _), k8.size⟩
        · simp only [pick_cons, pick_nil, nth_zero, nth_succ]
          refine fc_step rfl (fun K hK => ?_)
          go_simp
          refine hK _ _ (keep_new _ _) ?_
          clear hK K
          refine fc_nil ?_
          refine mt_force ?_
          simp only [pick_cons, pick_nil, nth_zero, nth_succ]
          refine fc_step rfl (fun K hK => ?_)
          go_simp
          (with_reducible refine (N7.out _ (keep_trans k9 (keep_new _ _))).mono ?_)
          rintro e wX ⟨rfl, rfl⟩
          refine hK _ _ (Below.refl _ _) ?_
          clear hK K
          refine fc_step rfl (fun K hK => ?_)
          go_simp
          (with_reducible refine (N10.out _ (keep_trans k9 (keep_new _ _))).mono ?_)
          rintro e wX ⟨rfl, rfl⟩
          refine hK _ _ (Below.refl _ _) ?_
          clear hK K
          refine fc_nil ?_
          refine mt_take (w9.alloc (.cells zs 44)) (Below.refl _ _) ?_
          simp only [pick_cons, pick_nil, nth_zero, nth_succ]
          repeat (go_big_quiet_step (fail))
          refine wpQuiet_nil ?_
          refine mt_end ?_
          have hst := Hst.out w9
          go_wp2
          go_meet
          exact ⟨w9, rfl, Blk.new w9 _ bs.toList, keep_trans k8 (keep_new _ _), k8.size⟩
      · simp only [pick_cons, pick_nil, nth_zero, nth_succ]
        refine fc_step rfl (fun K hK => ?_)
        go_simp
        refine hK _ _ (keep_new _ _) ?_
        clear hK K
        refine fc_nil ?_
        refine mt_force ?_
        simp only [pick_cons, pick_nil, nth_zero, nth_succ]
        refine fc_step rfl (fun K hK => ?_)
        go_simp
        (with_reducible refine (N4.out _ (keep_trans k9 (keep_new _ _))).mono ?_)
        rintro e wX ⟨rfl, rfl⟩
        refine hK _ _ (Below.refl _ _) ?_
        clear hK K
        refine fc_step rfl (fun K hK => ?_)
        go_simp
        (with_reducible refine (N7.out _ (keep_trans k9 (keep_new _ _))).mono ?_)
        rintro e wX ⟨rfl, rfl⟩
        refine hK _ _ (Below.refl _ _) ?_
        clear hK K
        refine fc_step rfl (fun K hK => ?_)
        go_simp
        (with_reducible refine (N10.out _ (keep_trans k9 (keep_new _ _))).mono ?_)
        rintro e wX ⟨rfl, rfl⟩
        refine hK _ _ (Below.refl _ _) ?_
        clear hK K
        refine fc_nil ?_
        refine mt_take (w9.alloc (.cells zs 44)) (Below.refl _ _) ?_
        simp only [pick_cons, pick_nil, nth_zero, nth_succ]
        repeat (go_big_quiet_step (fail))
        refine wpQuiet_nil ?_
        refine mt_end ?_
        have hst := Hst.out w9
        go_wp2
        go_meet
        exact ⟨w9, rfl, Blk.new w9 _ bs.toList, keep_trans k8 (keep_new _ _), k8.size⟩
    · simp only [pick_cons, pick_nil, nth_zero, nth_succ]
      refine fc_step rfl (fun K hK => ?_)
      go_simp
      refine hK _ _ (keep_new _ _) ?_
      clear hK K
      refine fc_nil ?_
      refine mt_force ?_
      simp only [pick_cons, pick_nil, nth_zero, nth_succ]
      refine fc_step rfl (fun K hK => ?_)
      go_simp
      (with_reducible refine (N1.out _ (keep_trans k9 (keep_new _ _))).mono ?_)
      rintro e wX ⟨rfl, rfl⟩
      refine hK _ _ (Below.refl _ _) ?_
      clear hK K
      refine fc_step rfl (fun K hK => ?_)
      go_simp
      (with_reducible refine (N4.out _ (keep_trans k9 (keep_new _ _))).mono ?_)
      rintro e wX ⟨rfl, rfl⟩
      refine hK _ _ (Below.refl _ _) ?_
      clear hK K
      refine fc_step rfl (fun K hK => ?_)
      go_simp
      (with_reducible refine (N7.out _ (keep_trans k9 (keep_new _ _))).mono ?_)
      rintro e wX ⟨rfl, rfl⟩
      refine hK _ _ (Below.refl _ _) ?_
      clear hK K
      refine fc_step rfl (fun K hK => ?_)
      go_simp
      (with_reducible refine (N10.out _ (keep_trans k9 (keep_new _ _))).mono ?_)
      rintro e wX ⟨rfl, rfl⟩
      refine hK _ _ (Below.refl _ _) ?_
      clear hK K
      refine fc_nil ?_
      refine mt_take (w9.alloc (.cells zs 44)) (Below.refl _ _) ?_
      simp only [pick_cons, pick_nil, nth_zero, nth_succ]
      repeat (go_big_quiet_step (fail))
      refine wpQuiet_nil ?_
      refine mt_end ?_
      have hst := Hst.out w9
      go_wp2
      go_meet
      exact ⟨w9, rfl, Blk.new w9 _ bs.toList, keep_trans k8 (keep_new _ _), k8.size⟩
  case rest =>
    obtain ⟨w9, rfl, hb9, k9, hz9⟩ := hcut
    have HB1 := Lib.hid hb9; have HR1' := Lib.hid (HR1.out.keep k9); have HK1 := Lib.hid k9
    generalize w9.heap.size = G at HB1 hz9 ⊢
    clear hb9 k9 HR1
    have HR1 := HR1'
    have Hbl : Hid (bs.toList.length = 68) := (Array.length_toList).trans hbz
    clear HR1' N1 N4 N7 N10 Hst
    go_upto_region 6 with fail
    refine wp_region_tree (.take [0,1,2,3] .done) [4] (by kernel_rfl) (by kernel_rfl) (fun v2 k2 => ?_)
    have b2 := Lib.hid (HB1.out.keep k2); have r2 := Lib.hid (HR1.out.keep k2); have q2 := Lib.hid (keep_trans HK1.out k2)
    refine mt_take v2 (Below.refl _ _) ?_
    simp only [pick_cons, pick_nil, nth_zero, nth_succ]
    repeat (go_big_quiet_step (fail))
    refine wpQuiet_nil (mt_end ?_)
    refine wpList_cpy byteW (by rfl) _ _ (by rfl) G 1 32 32 (by rfl) (some ⟨g, off + 4, none⟩) 32 (c - 4) (p1.map u8v) (by rfl) (by rw [List.length_map]; exact ht1) (HS1.out v2 (keep_trans kw1 q2.out)) (one_w8 _) bs.toList _ b2.out (by rw [Array.length_toList, hbz]; omega) ?_
    intro w2 ho2 hg2
    simp only [Act.put, Array.set!_eq_setIfInBounds, List.setIfInBounds_toArray, List.set_cons_succ, List.set_cons_zero]
    have HB2 : Hid (Blk w2 G 44 (splice bs.toList 1 (p1.map u8v))) := by
      have h := ho2.out
      rwa [List.take_of_length_le (by rw [List.length_map]; have : p1.length = 32 := ht1; omega)] at h
    have HR2 := Lib.hid (r2.out.grown hg2 (fun e => by injection e with e; omega))
    have HK2 : Hid (Keep w1 w2) := q2.out.grown hg2 q2.out.size (fun q hq => by injection hq with hq; omega)
    clear ho2 hg2 b2 r2 q2 k2 HB1 HR1 HK1
    have Hl2 : Hid ((splice bs.toList 1 (p1.map u8v)).length = 68) := (length_splice _ _ _ (by rw [Hbl.out, List.length_map]; have : p1.length = 32 := ht1; omega)).trans Hbl.out
    generalize hx2 : splice bs.toList 1 (p1.map u8v) = x2 at HB2 Hl2
    have Hx2 := Lib.hid hx2; clear hx2
    go_upto_region 7 with fail
    refine wp_region_tree (.take [0,1,2,3] .done) [4] (by kernel_rfl) (by kernel_rfl) (fun v3 k3 => ?_)
    have b3 := Lib.hid (HB2.out.keep k3); have r3 := Lib.hid (HR2.out.keep k3); have q3 := Lib.hid (keep_trans HK2.out k3)
    refine mt_take v3 (Below.refl _ _) ?_
    simp only [pick_cons, pick_nil, nth_zero, nth_succ]
    repeat (go_big_quiet_step (fail))
    refine wpQuiet_nil (mt_end ?_)
    refine wpList_cpy byteW (by rfl) _ _ (by rfl) G 33 32 32 (by rfl) (some ⟨g, off + 36, none⟩) 32 (c - 36) (p2.map u8v) (by rfl) (by rw [List.length_map]; exact ht2) (HS2.out v3 (keep_trans kw1 q3.out)) (one_w8 _) x2 _ b3.out (by rw [Hl2.out]; omega) ?_
    intro w3 ho3 hg3
    simp only [Act.put, Array.set!_eq_setIfInBounds, List.setIfInBounds_toArray, List.set_cons_succ, List.set_cons_zero]
    have HB3 : Hid (Blk w3 G 44 (splice x2 33 (p2.map u8v))) := by
      have h := ho3.out
      rwa [List.take_of_length_le (by rw [List.length_map]; have : p2.length = 32 := ht2; omega)] at h
    have HR3 := Lib.hid (r3.out.grown hg3 (fun e => by injection e with e; omega))
    have HK3 : Hid (Keep w1 w3) := q3.out.grown hg3 q3.out.size (fun q hq => by injection hq with hq; omega)
    clear ho3 hg3 b3 r3 q3 k3 HB2 HR2 HK2
    have hfin : splice x2 33 (p2.map u8v) = H.cells := by
      rw [← Hx2.out, Hbs.out, HG.out]
      have e1 : Hd.cells ⟨na, z32, z32, nt, nb, nn⟩ = [u32v na] ++ (z32.map u8v ++ (z32.map u8v ++ [u32v nt, u32v nb, u32v nn])) := rfl
      rw [e1, splice_mid [u32v na] _ _ (p1.map u8v) 1 rfl (by rw [List.length_map, List.length_map]; exact Eq.symm ht1), ← List.append_assoc,
        splice_mid ([u32v na] ++ p1.map u8v) _ _ (p2.map u8v) 33 (by have : p1.length = 32 := ht1; simp [this]) (by rw [List.length_map, List.length_map]; exact Eq.symm ht2)]
      simp [Hd.cells]
    have hok : H.ok := by rw [HG.out]; exact ⟨ht1, ht2⟩
    rw [hfin] at HB3
    clear hfin Hx2
    obtain ⟨cs, hcs⟩ : ∃ cs, HdA H cs := ⟨_, HdA.of hok⟩
    have hcz := hcs.z; have hcn := hcs.n; have hci := hcs.i
    have HB4 : Hid (Blk w3 G 44 cs.toList) := by rw [hcs.l]; exact HB3.out
    obtain ⟨w8, hst, hb8, hg8⟩ := run_store_blk (P := Tryd.prog) cs.toList HR3.out (by simp [hz1, hcz]) hcs.o
    have Hb8 := Lib.hid hb8; have Hg8 := Lib.hid hg8; have Hcs := Lib.hid hcs
    clear hb8 hg8 hcs hok
    go_upto_region 8 with fail
    go_wp2_with ((with_reducible refine load_arr G cs (Eq.trans ?_ rfl) HB4.out _ Tryd.underlying44 rfl hci ?_); rfl)
    have hb8 := Hb8.out
    have hk8 : Keep w w3 := keep_trans kw1 HK3.out
    exact bodyPost_ret (v := .tuple #[.agg cs, .int .i64 0]) (results_cell_tmp_row Tryd.results36 _ _ w.heap.size _ _ _ _ rfl hb8 Tryd.underlying44 rfl (by rw [List.size_toArray, Array.length_toList]; exact hci)) rfl ⟨cs, rfl, Hcs.out, hk8.grown Hg8.out hk8.size (fun q hq => by injection hq with hq; omega)⟩
end Go.Proofs.YtielojlhdnimgaaDoor
