/- florinref18.own. (printed by gen_drb.py) -/
import Derived.Test.YtmhbfjcehmjllaaDra
import Derived.Test.YtmhbfjcehmjllaaLit
set_option linter.unusedSimpArgs false
set_option linter.unusedVariables false
namespace Go.Proofs.Ytmhbfjcehmjllaa
open Go.RowKit
attribute [local go_sem ↓] Go.wp_at_zero Go.wp_at_succ
theorem own_lit {w : World} {base g size : Nat} {e : TypeId} (h : Blk w g e []) (hb : base ≤ g) : w.ownsRow base e size (.slice (some ⟨g, 0, none⟩) 0 0) 0 [] :=
  ⟨by simp, .inr ⟨g, 0, #[], rfl, hb, h, Nat.le_refl _, Nat.zero_le _, by simp, by simp⟩⟩
theorem one_writesR (vs : List WriteR) : ∀ u ∈ vs.flatMap WriteR.cells, u.oneCell' = true := one_writes vs
set_option maxRecDepth 100000 in
set_option maxHeartbeats 4000000 in
theorem rown_any (A : Option Addr) (b : List UInt8) (c : Nat) (PA : Option Addr) (ws : List WriteR) (pc : Nat) (w : World) (h : DOk w A b c PA ws pc) :
    Calls Try.prog 27 #[DV A b.length c PA ws.length pc] w fun e w' => ∃ A' c' PA' pc', e = .returned (DV A' (tkB b ws).length c' PA' (tkW b ws).length pc') ∧ w'.ownsRow w.heap.size 5 1 (.slice A' (tkB b ws).length c') (tkB b ws).length ((tkB b ws).map u8v) ∧ w'.ownsRow w.heap.size 53 2 (.slice PA' (tkW b ws).length pc') (tkW b ws).length ((tkW b ws).flatMap WriteR.cells) ∧ Keep w w' := by
  have hts := tk_sane b ws
  have hsl := sane_len hts
  obtain ⟨bl, hbl⟩ : ∃ n, (tkB b ws).length = n := ⟨_, rfl⟩
  obtain ⟨wl, hwl⟩ : ∃ n, (tkW b ws).length = n := ⟨_, rfl⟩
  have hb1 : bl ≤ 131072 := by omega
  have hw1 : wl ≤ 100000 := by omega
  rw [hbl, hwl]
  have HBL := Lib.hid hbl; have HWL := Lib.hid hwl
  have RS : Hid (∀ y, Keep w y → Calls Try.prog 16 #[DV A b.length c PA ws.length pc] y fun e w' => e = .returned (.bool (saneD b.length ws)) ∧ Keep y w') := Lib.hid fun y hy => rdsane_any _ _ _ _ _ _ _ (h.keep hy)
  clear hts hsl
  cases hs : saneD b.length ws with
  | true =>
    have e1 : tkB b ws = b := if_pos hs
    have e2 : tkW b ws = ws := if_pos hs
    rw [hs] at RS
    rw [e1] at HBL ⊢
    rw [e2] at HWL ⊢
    obtain rfl := HBL.out
    obtain rfl := HWL.out
    have RB := Lib.hid h.rb; have RP := Lib.hid h.rp
    clear hbl hwl e1 e2 HBL HWL hs h
    go_enter Try.func27, Try.ntmps27
    go_wp2_with (go_at_call 16; refine (RS.out _ (((Below.refl _ _).alloc (Nat.le_refl _) _).alloc (by simp) _)).mono ?_; rintro e w2 ⟨rfl, hk2⟩; have b0 : w2.cell? ⟨w.heap.size, 0, none⟩ = some (.slice A b.length c) := keep_cell hk2 (by go_simp); have b1 : w2.cell? ⟨w.heap.size, 1, none⟩ = some (.slice PA ws.length pc) := keep_cell hk2 (by go_simp); have r0 : w2.cell? ⟨w.heap.size + 1, 0, none⟩ = some (.slice none 0 0) := keep_cell hk2 (by go_simp); have r1 : w2.cell? ⟨w.heap.size + 1, 1, none⟩ = some (.slice none 0 0) := keep_cell hk2 (by go_simp); have f0 : w2.frozen? ⟨w.heap.size + 1, 0, none⟩ = false := keep_frozen hk2 (by simp) (by go_simp); have f1 : w2.frozen? ⟨w.heap.size + 1, 1, none⟩ = false := keep_frozen hk2 (by simp) (by go_simp); have k2 : Keep w w2 := keep_trans (((Below.refl _ _).alloc (Nat.le_refl _) _).alloc (by simp) _) hk2; have hz2 := hk2.size; simp at hz2)
    clear hk2 RS
    refine wp_region_tree (.take [1,2,5,6] (.fork 0 (.fork 3 (.force [4,7] .done) 4 (.force [3,7] .done)) 4 (.force [0,3,7] .done))) [8,9] (by kernel_rfl) (by kernel_rfl) (fun y0 hk => ?_)
    have Q := Lib.hid (keep_trans k2 hk)
    have R0 := Lib.hid (keep_cell hk r0); have R1 := Lib.hid (keep_cell hk r1)
    have F0 := Lib.hid (keep_frozen hk (by omega) f0); have F1 := Lib.hid (keep_frozen hk (by omega) f1)
    have B0 := Lib.hid (keep_cell hk b0); have B1 := Lib.hid (keep_cell hk b1)
    have hz0 : w.heap.size + 2 ≤ y0.heap.size := by have := hk.size; omega
    clear hk b0 b1 r0 r1 f0 f1 k2 hz2
    have q0 := aft_cell B0.out; have q1 := aft_cell B1.out
    refine mt_take y0 (Below.refl _ _) ?_
    simp only [pick_cons, pick_nil, nth_zero, nth_succ]
    repeat (go_big_quiet_step (fail))
    clear q0 q1 B0 B1
    refine wpQuiet_nil ?_
    refine mt_fork ?_ ?_
    · simp only [pick_cons, pick_nil, nth_zero, nth_succ]
      refine fc_step rfl (fun K hK => ?_)
      go_simp
      refine hK _ _ (keep_new _ _) ?_
      clear hK K
      obtain ⟨y1, hy⟩ : ∃ x, x = y0.alloc (.cells #[] 5) := ⟨_, rfl⟩
      have hk : Keep y0 y1 := by rw [hy]; exact keep_new _ _
      have L0 : Hid (y1.ownsRow (w.heap.size + 2) 5 1 (.slice (some ⟨y0.heap.size, 0, none⟩) 0 0) 0 []) := by rw [hy]; exact Lib.hid (own_lit (Blk.new y0 5 []) (by omega))
      rw [← hy]
      clear hy
      replace Q := Lib.hid (keep_trans Q.out hk); replace R0 := Lib.hid (keep_cell hk R0.out); replace R1 := Lib.hid (keep_cell hk R1.out)
      replace F0 := Lib.hid (keep_frozen hk (by omega) F0.out); replace F1 := Lib.hid (keep_frozen hk (by omega) F1.out)
      have hz_y1 : w.heap.size + 2 ≤ y1.heap.size := by have := hk.size; omega
      clear hk
      refine fc_nil (mt_fork ?_ ?_)
      · simp only [pick_cons, pick_nil, nth_zero, nth_succ]
        refine fc_step rfl (fun K hK => ?_)
        refine wp_lit byteT (w.heap.size + 2) _ (by rfl) L0.out (by omega) _ _ _ (b.map u8v) (by rfl) (by rw [List.length_map, Nat.mul_one]) (RB.out.keep Q.out) (one_bytes _) (by omega) (by omega) ?_
        intro v y2 ho hk
        refine hK _ _ hk ?_
        clear hK K L0
        obtain ⟨A3, c3, rfl, hc3, hm3, -⟩ := own_form ho
        have O3 := Lib.hid ho
        clear ho hc3 hm3
        replace Q := Lib.hid (keep_trans Q.out hk); replace R0 := Lib.hid (keep_cell hk R0.out); replace R1 := Lib.hid (keep_cell hk R1.out)
        replace F0 := Lib.hid (keep_frozen hk (by omega) F0.out); replace F1 := Lib.hid (keep_frozen hk (by omega) F1.out)
        have hz_y2 : w.heap.size + 2 ≤ y2.heap.size := by have := hk.size; omega
        clear hk
        refine fc_nil (mt_force ?_)
        simp only [pick_cons, pick_nil, nth_zero, nth_succ]
        refine fc_step rfl (fun K hK => ?_)
        go_simp
        refine hK _ _ (keep_new _ _) ?_
        clear hK K
        obtain ⟨y3, hy⟩ : ∃ x, x = y2.alloc (.cells #[] 53) := ⟨_, rfl⟩
        have hk : Keep y2 y3 := by rw [hy]; exact keep_new _ _
        have L4 : Hid (y3.ownsRow (w.heap.size + 2) 53 2 (.slice (some ⟨y2.heap.size, 0, none⟩) 0 0) 0 []) := by rw [hy]; exact Lib.hid (own_lit (Blk.new y2 53 []) (by omega))
        rw [← hy]
        clear hy
        replace Q := Lib.hid (keep_trans Q.out hk); replace R0 := Lib.hid (keep_cell hk R0.out); replace R1 := Lib.hid (keep_cell hk R1.out)
        replace F0 := Lib.hid (keep_frozen hk (by omega) F0.out); replace F1 := Lib.hid (keep_frozen hk (by omega) F1.out)
        replace O3 := Lib.hid (own_keep O3.out hk)
        have hz_y3 : w.heap.size + 2 ≤ y3.heap.size := by have := hk.size; omega
        clear hk
        refine fc_step rfl (fun K hK => ?_)
        refine wp_lit rwriteT (w.heap.size + 2) _ (by rfl) L4.out (by omega) _ _ _ (ws.flatMap WriteR.cells) (by rfl) (by rw [flatMap_len _ 2 (fun _ => rfl)]) (RP.out.keep Q.out) (one_writesR _) (by omega) (by omega) ?_
        intro v y4 ho hk
        refine hK _ _ hk ?_
        clear hK K L4
        obtain ⟨A7, c7, rfl, hc7, hm7, -⟩ := own_form ho
        have O7 := Lib.hid ho
        clear ho hc7 hm7
        replace Q := Lib.hid (keep_trans Q.out hk); replace R0 := Lib.hid (keep_cell hk R0.out); replace R1 := Lib.hid (keep_cell hk R1.out)
        replace F0 := Lib.hid (keep_frozen hk (by omega) F0.out); replace F1 := Lib.hid (keep_frozen hk (by omega) F1.out)
        replace O3 := Lib.hid (own_keep O3.out hk)
        have hz_y4 : w.heap.size + 2 ≤ y4.heap.size := by have := hk.size; omega
        clear hk
        refine fc_nil (mt_end ?_)
        have r0 := R0.out; have r1 := R1.out; have f0 := F0.out; have f1 := F1.out
        clear R0 R1 F0 F1
        go_wp2
        have o3 := ownsRow_setCell_below (ownsRow_setCell_below O3.out (a := ⟨w.heap.size + 1, 0, none⟩) (by simp) (.slice A3 b.length c3)) (a := ⟨w.heap.size + 1, 1, none⟩) (by simp) (.slice A7 ws.length c7)
        have o7 := ownsRow_setCell_below (ownsRow_setCell_below O7.out (a := ⟨w.heap.size + 1, 0, none⟩) (by simp) (.slice A3 b.length c3)) (a := ⟨w.heap.size + 1, 1, none⟩) (by simp) (.slice A7 ws.length c7)
        exact bodyPost_ret (v := DV A3 b.length c3 A7 ws.length c7) (by simp [results, Try.results27, go_sem, r0, r1, f0, f1]) rfl ⟨A3, c3, A7, c7, rfl, own_base o3 (by omega), own_base o7 (by omega), (Q.out.setCell (by simp) _).setCell (by simp) _⟩
      · simp only [pick_cons, pick_nil, nth_zero, nth_succ]
        refine fc_step rfl (fun K hK => ?_)
        go_simp
        refine hK _ _ (keep_new _ _) ?_
        clear hK K
        obtain ⟨y5, hy⟩ : ∃ x, x = y1.alloc (.cells #[] 53) := ⟨_, rfl⟩
        have hk : Keep y1 y5 := by rw [hy]; exact keep_new _ _
        have L4 : Hid (y5.ownsRow (w.heap.size + 2) 53 2 (.slice (some ⟨y1.heap.size, 0, none⟩) 0 0) 0 []) := by rw [hy]; exact Lib.hid (own_lit (Blk.new y1 53 []) (by omega))
        rw [← hy]
        clear hy
        replace Q := Lib.hid (keep_trans Q.out hk); replace R0 := Lib.hid (keep_cell hk R0.out); replace R1 := Lib.hid (keep_cell hk R1.out)
        replace F0 := Lib.hid (keep_frozen hk (by omega) F0.out); replace F1 := Lib.hid (keep_frozen hk (by omega) F1.out)
        replace L0 := Lib.hid (own_keep L0.out hk)
        have hz_y5 : w.heap.size + 2 ≤ y5.heap.size := by have := hk.size; omega
        clear hk
        refine fc_nil (mt_force ?_)
        simp only [pick_cons, pick_nil, nth_zero, nth_succ]
        refine fc_step rfl (fun K hK => ?_)
        refine wp_lit byteT (w.heap.size + 2) _ (by rfl) L0.out (by omega) _ _ _ (b.map u8v) (by rfl) (by rw [List.length_map, Nat.mul_one]) (RB.out.keep Q.out) (one_bytes _) (by omega) (by omega) ?_
        intro v y6 ho hk
        refine hK _ _ hk ?_
        clear hK K L0
        obtain ⟨A3, c3, rfl, hc3, hm3, -⟩ := own_form ho
        have O3 := Lib.hid ho
        clear ho hc3 hm3
        replace Q := Lib.hid (keep_trans Q.out hk); replace R0 := Lib.hid (keep_cell hk R0.out); replace R1 := Lib.hid (keep_cell hk R1.out)
        replace F0 := Lib.hid (keep_frozen hk (by omega) F0.out); replace F1 := Lib.hid (keep_frozen hk (by omega) F1.out)
        replace L4 := Lib.hid (own_keep L4.out hk)
        have hz_y6 : w.heap.size + 2 ≤ y6.heap.size := by have := hk.size; omega
        clear hk
        refine fc_step rfl (fun K hK => ?_)
        refine wp_lit rwriteT (w.heap.size + 2) _ (by rfl) L4.out (by omega) _ _ _ (ws.flatMap WriteR.cells) (by rfl) (by rw [flatMap_len _ 2 (fun _ => rfl)]) (RP.out.keep Q.out) (one_writesR _) (by omega) (by omega) ?_
        intro v y7 ho hk
        refine hK _ _ hk ?_
        clear hK K L4
        obtain ⟨A7, c7, rfl, hc7, hm7, -⟩ := own_form ho
        have O7 := Lib.hid ho
        clear ho hc7 hm7
        replace Q := Lib.hid (keep_trans Q.out hk); replace R0 := Lib.hid (keep_cell hk R0.out); replace R1 := Lib.hid (keep_cell hk R1.out)
        replace F0 := Lib.hid (keep_frozen hk (by omega) F0.out); replace F1 := Lib.hid (keep_frozen hk (by omega) F1.out)
        replace O3 := Lib.hid (own_keep O3.out hk)
        have hz_y7 : w.heap.size + 2 ≤ y7.heap.size := by have := hk.size; omega
        clear hk
        refine fc_nil (mt_end ?_)
        have r0 := R0.out; have r1 := R1.out; have f0 := F0.out; have f1 := F1.out
        clear R0 R1 F0 F1
        go_wp2
        have o3 := ownsRow_setCell_below (ownsRow_setCell_below O3.out (a := ⟨w.heap.size + 1, 0, none⟩) (by simp) (.slice A3 b.length c3)) (a := ⟨w.heap.size + 1, 1, none⟩) (by simp) (.slice A7 ws.length c7)
        have o7 := ownsRow_setCell_below (ownsRow_setCell_below O7.out (a := ⟨w.heap.size + 1, 0, none⟩) (by simp) (.slice A3 b.length c3)) (a := ⟨w.heap.size + 1, 1, none⟩) (by simp) (.slice A7 ws.length c7)
        exact bodyPost_ret (v := DV A3 b.length c3 A7 ws.length c7) (by simp [results, Try.results27, go_sem, r0, r1, f0, f1]) rfl ⟨A3, c3, A7, c7, rfl, own_base o3 (by omega), own_base o7 (by omega), (Q.out.setCell (by simp) _).setCell (by simp) _⟩
    · simp only [pick_cons, pick_nil, nth_zero, nth_succ]
      refine fc_step rfl (fun K hK => ?_)
      go_simp
      refine hK _ _ (keep_new _ _) ?_
      clear hK K
      obtain ⟨y8, hy⟩ : ∃ x, x = y0.alloc (.cells #[] 53) := ⟨_, rfl⟩
      have hk : Keep y0 y8 := by rw [hy]; exact keep_new _ _
      have L4 : Hid (y8.ownsRow (w.heap.size + 2) 53 2 (.slice (some ⟨y0.heap.size, 0, none⟩) 0 0) 0 []) := by rw [hy]; exact Lib.hid (own_lit (Blk.new y0 53 []) (by omega))
      rw [← hy]
      clear hy
      replace Q := Lib.hid (keep_trans Q.out hk); replace R0 := Lib.hid (keep_cell hk R0.out); replace R1 := Lib.hid (keep_cell hk R1.out)
      replace F0 := Lib.hid (keep_frozen hk (by omega) F0.out); replace F1 := Lib.hid (keep_frozen hk (by omega) F1.out)
      have hz_y8 : w.heap.size + 2 ≤ y8.heap.size := by have := hk.size; omega
      clear hk
      refine fc_nil (mt_force ?_)
      simp only [pick_cons, pick_nil, nth_zero, nth_succ]
      refine fc_step rfl (fun K hK => ?_)
      go_simp
      refine hK _ _ (keep_new _ _) ?_
      clear hK K
      obtain ⟨y9, hy⟩ : ∃ x, x = y8.alloc (.cells #[] 5) := ⟨_, rfl⟩
      have hk : Keep y8 y9 := by rw [hy]; exact keep_new _ _
      have L0 : Hid (y9.ownsRow (w.heap.size + 2) 5 1 (.slice (some ⟨y8.heap.size, 0, none⟩) 0 0) 0 []) := by rw [hy]; exact Lib.hid (own_lit (Blk.new y8 5 []) (by omega))
      rw [← hy]
      clear hy
      replace Q := Lib.hid (keep_trans Q.out hk); replace R0 := Lib.hid (keep_cell hk R0.out); replace R1 := Lib.hid (keep_cell hk R1.out)
      replace F0 := Lib.hid (keep_frozen hk (by omega) F0.out); replace F1 := Lib.hid (keep_frozen hk (by omega) F1.out)
      replace L4 := Lib.hid (own_keep L4.out hk)
      have hz_y9 : w.heap.size + 2 ≤ y9.heap.size := by have := hk.size; omega
      clear hk
      refine fc_step rfl (fun K hK => ?_)
      refine wp_lit byteT (w.heap.size + 2) _ (by rfl) L0.out (by omega) _ _ _ (b.map u8v) (by rfl) (by rw [List.length_map, Nat.mul_one]) (RB.out.keep Q.out) (one_bytes _) (by omega) (by omega) ?_
      intro v y10 ho hk
      refine hK _ _ hk ?_
      clear hK K L0
      obtain ⟨A3, c3, rfl, hc3, hm3, -⟩ := own_form ho
      have O3 := Lib.hid ho
      clear ho hc3 hm3
      replace Q := Lib.hid (keep_trans Q.out hk); replace R0 := Lib.hid (keep_cell hk R0.out); replace R1 := Lib.hid (keep_cell hk R1.out)
      replace F0 := Lib.hid (keep_frozen hk (by omega) F0.out); replace F1 := Lib.hid (keep_frozen hk (by omega) F1.out)
      replace L4 := Lib.hid (own_keep L4.out hk)
      have hz_y10 : w.heap.size + 2 ≤ y10.heap.size := by have := hk.size; omega
      clear hk
      refine fc_step rfl (fun K hK => ?_)
      refine wp_lit rwriteT (w.heap.size + 2) _ (by rfl) L4.out (by omega) _ _ _ (ws.flatMap WriteR.cells) (by rfl) (by rw [flatMap_len _ 2 (fun _ => rfl)]) (RP.out.keep Q.out) (one_writesR _) (by omega) (by omega) ?_
      intro v y11 ho hk
      refine hK _ _ hk ?_
      clear hK K L4
      obtain ⟨A7, c7, rfl, hc7, hm7, -⟩ := own_form ho
      have O7 := Lib.hid ho
      clear ho hc7 hm7
      replace Q := Lib.hid (keep_trans Q.out hk); replace R0 := Lib.hid (keep_cell hk R0.out); replace R1 := Lib.hid (keep_cell hk R1.out)
      replace F0 := Lib.hid (keep_frozen hk (by omega) F0.out); replace F1 := Lib.hid (keep_frozen hk (by omega) F1.out)
      replace O3 := Lib.hid (own_keep O3.out hk)
      have hz_y11 : w.heap.size + 2 ≤ y11.heap.size := by have := hk.size; omega
      clear hk
      refine fc_nil (mt_end ?_)
      have r0 := R0.out; have r1 := R1.out; have f0 := F0.out; have f1 := F1.out
      clear R0 R1 F0 F1
      go_wp2
      have o3 := ownsRow_setCell_below (ownsRow_setCell_below O3.out (a := ⟨w.heap.size + 1, 0, none⟩) (by simp) (.slice A3 b.length c3)) (a := ⟨w.heap.size + 1, 1, none⟩) (by simp) (.slice A7 ws.length c7)
      have o7 := ownsRow_setCell_below (ownsRow_setCell_below O7.out (a := ⟨w.heap.size + 1, 0, none⟩) (by simp) (.slice A3 b.length c3)) (a := ⟨w.heap.size + 1, 1, none⟩) (by simp) (.slice A7 ws.length c7)
      exact bodyPost_ret (v := DV A3 b.length c3 A7 ws.length c7) (by simp [results, Try.results27, go_sem, r0, r1, f0, f1]) rfl ⟨A3, c3, A7, c7, rfl, own_base o3 (by omega), own_base o7 (by omega), (Q.out.setCell (by simp) _).setCell (by simp) _⟩
  | false =>
    have e1 : tkB b ws = [] := if_neg (by rw [hs]; simp)
    have e2 : tkW b ws = [] := if_neg (by rw [hs]; simp)
    rw [hs] at RS
    rw [e1] at HBL ⊢
    rw [e2] at HWL ⊢
    obtain rfl : 0 = bl := HBL.out
    obtain rfl : 0 = wl := HWL.out
    have RB : Hid (Rd w none (([] : List UInt8).map u8v)) := Lib.hid (.inl rfl)
    have RP : Hid (Rd w none (([] : List WriteR).flatMap WriteR.cells)) := Lib.hid (.inl rfl)
    clear hbl hwl e1 e2 HBL HWL hs h
    go_enter Try.func27, Try.ntmps27
    go_wp2_with (first | (go_at_call 16; refine (RS.out _ (((Below.refl _ _).alloc (Nat.le_refl _) _).alloc (by simp) _)).mono ?_; rintro e w1 ⟨rfl, hk2⟩; have b0 : w1.cell? ⟨w.heap.size, 0, none⟩ = some (.slice A b.length c) := keep_cell hk2 (by go_simp); have b1 : w1.cell? ⟨w.heap.size, 1, none⟩ = some (.slice PA ws.length pc) := keep_cell hk2 (by go_simp); have r0 : w1.cell? ⟨w.heap.size + 1, 0, none⟩ = some (.slice none 0 0) := keep_cell hk2 (by go_simp); have r1 : w1.cell? ⟨w.heap.size + 1, 1, none⟩ = some (.slice none 0 0) := keep_cell hk2 (by go_simp); have h0 : w1.frozen? ⟨w.heap.size, 0, none⟩ = false := keep_frozen hk2 (by simp; omega) (by go_simp); have h1 : w1.frozen? ⟨w.heap.size, 1, none⟩ = false := keep_frozen hk2 (by simp; omega) (by go_simp); have f0 : w1.frozen? ⟨w.heap.size + 1, 0, none⟩ = false := keep_frozen hk2 (by simp) (by go_simp); have f1 : w1.frozen? ⟨w.heap.size + 1, 1, none⟩ = false := keep_frozen hk2 (by simp) (by go_simp); have k1 : Keep w w1 := keep_trans (((Below.refl _ _).alloc (Nat.le_refl _) _).alloc (by simp) _) hk2; have hz1 := hk2.size; simp at hz1) | (go_at_call 24; refine (rnew_any 0 0 _ (by omega)).mono ?_; rintro e w2 ⟨A9, c9, rfl, hown9, hk3⟩; replace b0 := keep_cell hk3 b0; replace b1 := keep_cell hk3 b1; replace r0 := keep_cell hk3 r0; replace r1 := keep_cell hk3 r1; replace h0 := keep_frozen hk3 (by omega) h0; replace h1 := keep_frozen hk3 (by omega) h1; replace f0 := keep_frozen hk3 (by omega) f0; replace f1 := keep_frozen hk3 (by omega) f1; have hz2 : w.heap.size + 2 ≤ w2.heap.size := (by have := hk3.size; omega); have k2 := keep_trans k1 hk3))
    clear hk2 RS k1 hz1 hk3 hown9
    obtain ⟨w3, hw3⟩ : ∃ x, x = (w2.setCell ⟨w.heap.size, 0, none⟩ (.slice A9 0 c9)).setCell ⟨w.heap.size, 1, none⟩ (.slice none 0 0) := ⟨_, rfl⟩
    replace b0 : w3.cell? ⟨w.heap.size, 0, none⟩ = some (.slice A9 0 c9) := by rw [hw3]; go_simp
    replace b1 : w3.cell? ⟨w.heap.size, 1, none⟩ = some (.slice none 0 0) := by rw [hw3]; go_simp
    replace r0 : w3.cell? ⟨w.heap.size + 1, 0, none⟩ = some (.slice none 0 0) := by rw [hw3]; go_simp
    replace r1 : w3.cell? ⟨w.heap.size + 1, 1, none⟩ = some (.slice none 0 0) := by rw [hw3]; go_simp
    replace f0 : w3.frozen? ⟨w.heap.size + 1, 0, none⟩ = false := by rw [hw3]; go_simp
    replace f1 : w3.frozen? ⟨w.heap.size + 1, 1, none⟩ = false := by rw [hw3]; go_simp
    replace k2 : Keep w w3 := by rw [hw3]; exact (k2.setCell (by simp) _).setCell (by simp) _
    replace hz2 : w.heap.size + 2 ≤ w3.heap.size := by rw [hw3]; simpa using hz2
    rw [← hw3]
    clear hw3 h0 h1
    replace RB : Hid (Rd w A9 (([] : List UInt8).map u8v)) := Lib.hid (.inl rfl)
    refine wp_region_tree (.take [1,2,5,6] (.fork 0 (.fork 3 (.force [4,7] .done) 4 (.force [3,7] .done)) 4 (.force [0,3,7] .done))) [8,9] (by kernel_rfl) (by kernel_rfl) (fun y0 hk => ?_)
    have Q := Lib.hid (keep_trans k2 hk)
    have R0 := Lib.hid (keep_cell hk r0); have R1 := Lib.hid (keep_cell hk r1)
    have F0 := Lib.hid (keep_frozen hk (by omega) f0); have F1 := Lib.hid (keep_frozen hk (by omega) f1)
    have B0 := Lib.hid (keep_cell hk b0); have B1 := Lib.hid (keep_cell hk b1)
    have hz0 : w.heap.size + 2 ≤ y0.heap.size := by have := hk.size; omega
    clear hk b0 b1 r0 r1 f0 f1 k2 hz2
    have q0 := aft_cell B0.out; have q1 := aft_cell B1.out
    refine mt_take y0 (Below.refl _ _) ?_
    simp only [pick_cons, pick_nil, nth_zero, nth_succ]
    repeat (go_big_quiet_step (fail))
    clear q0 q1 B0 B1
    refine wpQuiet_nil ?_
    refine mt_fork ?_ ?_
    · simp only [pick_cons, pick_nil, nth_zero, nth_succ]
      refine fc_step rfl (fun K hK => ?_)
      go_simp
      refine hK _ _ (keep_new _ _) ?_
      clear hK K
      obtain ⟨y1, hy⟩ : ∃ x, x = y0.alloc (.cells #[] 5) := ⟨_, rfl⟩
      have hk : Keep y0 y1 := by rw [hy]; exact keep_new _ _
      have L0 : Hid (y1.ownsRow (w.heap.size + 2) 5 1 (.slice (some ⟨y0.heap.size, 0, none⟩) 0 0) 0 []) := by rw [hy]; exact Lib.hid (own_lit (Blk.new y0 5 []) (by omega))
      rw [← hy]
      clear hy
      replace Q := Lib.hid (keep_trans Q.out hk); replace R0 := Lib.hid (keep_cell hk R0.out); replace R1 := Lib.hid (keep_cell hk R1.out)
      replace F0 := Lib.hid (keep_frozen hk (by omega) F0.out); replace F1 := Lib.hid (keep_frozen hk (by omega) F1.out)
      have hz_y1 : w.heap.size + 2 ≤ y1.heap.size := by have := hk.size; omega
      clear hk
      refine fc_nil (mt_fork ?_ ?_)
      · simp only [pick_cons, pick_nil, nth_zero, nth_succ]
        refine fc_step rfl (fun K hK => ?_)
        refine wp_lit byteT (w.heap.size + 2) _ (by rfl) L0.out (by omega) _ _ _ (([] : List UInt8).map u8v) (by rfl) (by rw [List.length_map, Nat.mul_one]; rfl) (RB.out.keep Q.out) (one_bytes _) (by omega) (by omega) ?_
        intro v y2 ho hk
        refine hK _ _ hk ?_
        clear hK K L0
        obtain ⟨A3, c3, rfl, hc3, hm3, -⟩ := own_form ho
        have O3 := Lib.hid ho
        clear ho hc3 hm3
        replace Q := Lib.hid (keep_trans Q.out hk); replace R0 := Lib.hid (keep_cell hk R0.out); replace R1 := Lib.hid (keep_cell hk R1.out)
        replace F0 := Lib.hid (keep_frozen hk (by omega) F0.out); replace F1 := Lib.hid (keep_frozen hk (by omega) F1.out)
        have hz_y2 : w.heap.size + 2 ≤ y2.heap.size := by have := hk.size; omega
        clear hk
        refine fc_nil (mt_force ?_)
        simp only [pick_cons, pick_nil, nth_zero, nth_succ]
        refine fc_step rfl (fun K hK => ?_)
        go_simp
        refine hK _ _ (keep_new _ _) ?_
        clear hK K
        obtain ⟨y3, hy⟩ : ∃ x, x = y2.alloc (.cells #[] 53) := ⟨_, rfl⟩
        have hk : Keep y2 y3 := by rw [hy]; exact keep_new _ _
        have L4 : Hid (y3.ownsRow (w.heap.size + 2) 53 2 (.slice (some ⟨y2.heap.size, 0, none⟩) 0 0) 0 []) := by rw [hy]; exact Lib.hid (own_lit (Blk.new y2 53 []) (by omega))
        rw [← hy]
        clear hy
        replace Q := Lib.hid (keep_trans Q.out hk); replace R0 := Lib.hid (keep_cell hk R0.out); replace R1 := Lib.hid (keep_cell hk R1.out)
        replace F0 := Lib.hid (keep_frozen hk (by omega) F0.out); replace F1 := Lib.hid (keep_frozen hk (by omega) F1.out)
        replace O3 := Lib.hid (own_keep O3.out hk)
        have hz_y3 : w.heap.size + 2 ≤ y3.heap.size := by have := hk.size; omega
        clear hk
        refine fc_step rfl (fun K hK => ?_)
        refine wp_lit rwriteT (w.heap.size + 2) _ (by rfl) L4.out (by omega) _ _ _ (([] : List WriteR).flatMap WriteR.cells) (by rfl) (by rw [flatMap_len _ 2 (fun _ => rfl)]; rfl) (RP.out.keep Q.out) (one_writesR _) (by omega) (by omega) ?_
        intro v y4 ho hk
        refine hK _ _ hk ?_
        clear hK K L4
        obtain ⟨A7, c7, rfl, hc7, hm7, -⟩ := own_form ho
        have O7 := Lib.hid ho
        clear ho hc7 hm7
        replace Q := Lib.hid (keep_trans Q.out hk); replace R0 := Lib.hid (keep_cell hk R0.out); replace R1 := Lib.hid (keep_cell hk R1.out)
        replace F0 := Lib.hid (keep_frozen hk (by omega) F0.out); replace F1 := Lib.hid (keep_frozen hk (by omega) F1.out)
        replace O3 := Lib.hid (own_keep O3.out hk)
        have hz_y4 : w.heap.size + 2 ≤ y4.heap.size := by have := hk.size; omega
        clear hk
        refine fc_nil (mt_end ?_)
        have r0 := R0.out; have r1 := R1.out; have f0 := F0.out; have f1 := F1.out
        clear R0 R1 F0 F1
        go_wp2
        have o3 := ownsRow_setCell_below (ownsRow_setCell_below O3.out (a := ⟨w.heap.size + 1, 0, none⟩) (by simp) (.slice A3 0 c3)) (a := ⟨w.heap.size + 1, 1, none⟩) (by simp) (.slice A7 0 c7)
        have o7 := ownsRow_setCell_below (ownsRow_setCell_below O7.out (a := ⟨w.heap.size + 1, 0, none⟩) (by simp) (.slice A3 0 c3)) (a := ⟨w.heap.size + 1, 1, none⟩) (by simp) (.slice A7 0 c7)
        exact bodyPost_ret (v := DV A3 0 c3 A7 0 c7) (by simp [results, Try.results27, go_sem, r0, r1, f0, f1]) rfl ⟨A3, c3, A7, c7, rfl, own_base o3 (by omega), own_base o7 (by omega), (Q.out.setCell (by simp) _).setCell (by simp) _⟩
      · simp only [pick_cons, pick_nil, nth_zero, nth_succ]
        refine fc_step rfl (fun K hK => ?_)
        go_simp
        refine hK _ _ (keep_new _ _) ?_
        clear hK K
        obtain ⟨y5, hy⟩ : ∃ x, x = y1.alloc (.cells #[] 53) := ⟨_, rfl⟩
        have hk : Keep y1 y5 := by rw [hy]; exact keep_new _ _
        have L4 : Hid (y5.ownsRow (w.heap.size + 2) 53 2 (.slice (some ⟨y1.heap.size, 0, none⟩) 0 0) 0 []) := by rw [hy]; exact Lib.hid (own_lit (Blk.new y1 53 []) (by omega))
        rw [← hy]
        clear hy
        replace Q := Lib.hid (keep_trans Q.out hk); replace R0 := Lib.hid (keep_cell hk R0.out); replace R1 := Lib.hid (keep_cell hk R1.out)
        replace F0 := Lib.hid (keep_frozen hk (by omega) F0.out); replace F1 := Lib.hid (keep_frozen hk (by omega) F1.out)
        replace L0 := Lib.hid (own_keep L0.out hk)
        have hz_y5 : w.heap.size + 2 ≤ y5.heap.size := by have := hk.size; omega
        clear hk
        refine fc_nil (mt_force ?_)
        simp only [pick_cons, pick_nil, nth_zero, nth_succ]
        refine fc_step rfl (fun K hK => ?_)
        refine wp_lit byteT (w.heap.size + 2) _ (by rfl) L0.out (by omega) _ _ _ (([] : List UInt8).map u8v) (by rfl) (by rw [List.length_map, Nat.mul_one]; rfl) (RB.out.keep Q.out) (one_bytes _) (by omega) (by omega) ?_
        intro v y6 ho hk
        refine hK _ _ hk ?_
        clear hK K L0
        obtain ⟨A3, c3, rfl, hc3, hm3, -⟩ := own_form ho
        have O3 := Lib.hid ho
        clear ho hc3 hm3
        replace Q := Lib.hid (keep_trans Q.out hk); replace R0 := Lib.hid (keep_cell hk R0.out); replace R1 := Lib.hid (keep_cell hk R1.out)
        replace F0 := Lib.hid (keep_frozen hk (by omega) F0.out); replace F1 := Lib.hid (keep_frozen hk (by omega) F1.out)
        replace L4 := Lib.hid (own_keep L4.out hk)
        have hz_y6 : w.heap.size + 2 ≤ y6.heap.size := by have := hk.size; omega
        clear hk
        refine fc_step rfl (fun K hK => ?_)
        refine wp_lit rwriteT (w.heap.size + 2) _ (by rfl) L4.out (by omega) _ _ _ (([] : List WriteR).flatMap WriteR.cells) (by rfl) (by rw [flatMap_len _ 2 (fun _ => rfl)]; rfl) (RP.out.keep Q.out) (one_writesR _) (by omega) (by omega) ?_
        intro v y7 ho hk
        refine hK _ _ hk ?_
        clear hK K L4
        obtain ⟨A7, c7, rfl, hc7, hm7, -⟩ := own_form ho
        have O7 := Lib.hid ho
        clear ho hc7 hm7
        replace Q := Lib.hid (keep_trans Q.out hk); replace R0 := Lib.hid (keep_cell hk R0.out); replace R1 := Lib.hid (keep_cell hk R1.out)
        replace F0 := Lib.hid (keep_frozen hk (by omega) F0.out); replace F1 := Lib.hid (keep_frozen hk (by omega) F1.out)
        replace O3 := Lib.hid (own_keep O3.out hk)
        have hz_y7 : w.heap.size + 2 ≤ y7.heap.size := by have := hk.size; omega
        clear hk
        refine fc_nil (mt_end ?_)
        have r0 := R0.out; have r1 := R1.out; have f0 := F0.out; have f1 := F1.out
        clear R0 R1 F0 F1
        go_wp2
        have o3 := ownsRow_setCell_below (ownsRow_setCell_below O3.out (a := ⟨w.heap.size + 1, 0, none⟩) (by simp) (.slice A3 0 c3)) (a := ⟨w.heap.size + 1, 1, none⟩) (by simp) (.slice A7 0 c7)
        have o7 := ownsRow_setCell_below (ownsRow_setCell_below O7.out (a := ⟨w.heap.size + 1, 0, none⟩) (by simp) (.slice A3 0 c3)) (a := ⟨w.heap.size + 1, 1, none⟩) (by simp) (.slice A7 0 c7)
        exact bodyPost_ret (v := DV A3 0 c3 A7 0 c7) (by simp [results, Try.results27, go_sem, r0, r1, f0, f1]) rfl ⟨A3, c3, A7, c7, rfl, own_base o3 (by omega), own_base o7 (by omega), (Q.out.setCell (by simp) _).setCell (by simp) _⟩
    · simp only [pick_cons, pick_nil, nth_zero, nth_succ]
      refine fc_step rfl (fun K hK => ?_)
      go_simp
      refine hK _ _ (keep_new _ _) ?_
      clear hK K
      obtain ⟨y8, hy⟩ : ∃ x, x = y0.alloc (.cells #[] 53) := ⟨_, rfl⟩
      have hk : Keep y0 y8 := by rw [hy]; exact keep_new _ _
      have L4 : Hid (y8.ownsRow (w.heap.size + 2) 53 2 (.slice (some ⟨y0.heap.size, 0, none⟩) 0 0) 0 []) := by rw [hy]; exact Lib.hid (own_lit (Blk.new y0 53 []) (by omega))
      rw [← hy]
      clear hy
      replace Q := Lib.hid (keep_trans Q.out hk); replace R0 := Lib.hid (keep_cell hk R0.out); replace R1 := Lib.hid (keep_cell hk R1.out)
      replace F0 := Lib.hid (keep_frozen hk (by omega) F0.out); replace F1 := Lib.hid (keep_frozen hk (by omega) F1.out)
      have hz_y8 : w.heap.size + 2 ≤ y8.heap.size := by have := hk.size; omega
      clear hk
      refine fc_nil (mt_force ?_)
      simp only [pick_cons, pick_nil, nth_zero, nth_succ]
      refine fc_step rfl (fun K hK => ?_)
      go_simp
      refine hK _ _ (keep_new _ _) ?_
      clear hK K
      obtain ⟨y9, hy⟩ : ∃ x, x = y8.alloc (.cells #[] 5) := ⟨_, rfl⟩
      have hk : Keep y8 y9 := by rw [hy]; exact keep_new _ _
      have L0 : Hid (y9.ownsRow (w.heap.size + 2) 5 1 (.slice (some ⟨y8.heap.size, 0, none⟩) 0 0) 0 []) := by rw [hy]; exact Lib.hid (own_lit (Blk.new y8 5 []) (by omega))
      rw [← hy]
      clear hy
      replace Q := Lib.hid (keep_trans Q.out hk); replace R0 := Lib.hid (keep_cell hk R0.out); replace R1 := Lib.hid (keep_cell hk R1.out)
      replace F0 := Lib.hid (keep_frozen hk (by omega) F0.out); replace F1 := Lib.hid (keep_frozen hk (by omega) F1.out)
      replace L4 := Lib.hid (own_keep L4.out hk)
      have hz_y9 : w.heap.size + 2 ≤ y9.heap.size := by have := hk.size; omega
      clear hk
      refine fc_step rfl (fun K hK => ?_)
      refine wp_lit byteT (w.heap.size + 2) _ (by rfl) L0.out (by omega) _ _ _ (([] : List UInt8).map u8v) (by rfl) (by rw [List.length_map, Nat.mul_one]; rfl) (RB.out.keep Q.out) (one_bytes _) (by omega) (by omega) ?_
      intro v y10 ho hk
      refine hK _ _ hk ?_
      clear hK K L0
      obtain ⟨A3, c3, rfl, hc3, hm3, -⟩ := own_form ho
      have O3 := Lib.hid ho
      clear ho hc3 hm3
      replace Q := Lib.hid (keep_trans Q.out hk); replace R0 := Lib.hid (keep_cell hk R0.out); replace R1 := Lib.hid (keep_cell hk R1.out)
      replace F0 := Lib.hid (keep_frozen hk (by omega) F0.out); replace F1 := Lib.hid (keep_frozen hk (by omega) F1.out)
      replace L4 := Lib.hid (own_keep L4.out hk)
      have hz_y10 : w.heap.size + 2 ≤ y10.heap.size := by have := hk.size; omega
      clear hk
      refine fc_step rfl (fun K hK => ?_)
      refine wp_lit rwriteT (w.heap.size + 2) _ (by rfl) L4.out (by omega) _ _ _ (([] : List WriteR).flatMap WriteR.cells) (by rfl) (by rw [flatMap_len _ 2 (fun _ => rfl)]; rfl) (RP.out.keep Q.out) (one_writesR _) (by omega) (by omega) ?_
      intro v y11 ho hk
      refine hK _ _ hk ?_
      clear hK K L4
      obtain ⟨A7, c7, rfl, hc7, hm7, -⟩ := own_form ho
      have O7 := Lib.hid ho
      clear ho hc7 hm7
      replace Q := Lib.hid (keep_trans Q.out hk); replace R0 := Lib.hid (keep_cell hk R0.out); replace R1 := Lib.hid (keep_cell hk R1.out)
      replace F0 := Lib.hid (keep_frozen hk (by omega) F0.out); replace F1 := Lib.hid (keep_frozen hk (by omega) F1.out)
      replace O3 := Lib.hid (own_keep O3.out hk)
      have hz_y11 : w.heap.size + 2 ≤ y11.heap.size := by have := hk.size; omega
      clear hk
      refine fc_nil (mt_end ?_)
      have r0 := R0.out; have r1 := R1.out; have f0 := F0.out; have f1 := F1.out
      clear R0 R1 F0 F1
      go_wp2
      have o3 := ownsRow_setCell_below (ownsRow_setCell_below O3.out (a := ⟨w.heap.size + 1, 0, none⟩) (by simp) (.slice A3 0 c3)) (a := ⟨w.heap.size + 1, 1, none⟩) (by simp) (.slice A7 0 c7)
      have o7 := ownsRow_setCell_below (ownsRow_setCell_below O7.out (a := ⟨w.heap.size + 1, 0, none⟩) (by simp) (.slice A3 0 c3)) (a := ⟨w.heap.size + 1, 1, none⟩) (by simp) (.slice A7 0 c7)
      exact bodyPost_ret (v := DV A3 0 c3 A7 0 c7) (by simp [results, Try.results27, go_sem, r0, r1, f0, f1]) rfl ⟨A3, c3, A7, c7, rfl, own_base o3 (by omega), own_base o7 (by omega), (Q.out.setCell (by simp) _).setCell (by simp) _⟩
end Go.Proofs.Ytmhbfjcehmjllaa
