import Derived.Test.YtmhbfjcehmjllaaDsk
import Derived.Test.YtmhbfjcehmjllaaSeq
set_option linter.unusedSimpArgs false
set_option linter.unusedVariables false
namespace Go.Proofs.Ytmhbfjcehmjllaa
open Go.RowKit
attribute [local go_sem ↓] Go.wp_at_zero Go.wp_at_succ

theorem take_flat' {α β : Type} (f : α → List β) (vs : List α) (k : Nat) (h : k < vs.length) : (vs.take (k + 1)).flatMap f = (vs.take k).flatMap f ++ f vs[k] := by
  rw [List.take_succ_eq_append_getElem h, List.flatMap_append]; simp

set_option maxRecDepth 100000 in
set_option maxHeartbeats 2000000 in
theorem drive_any (A : Option Addr) (b : List UInt8) (c : Nat) (PA : Option Addr) (ws : List WriteR) (pc : Nat) (w : World) (h : DOk w A b c PA ws pc) (hw : ws.length ≤ 200000) :
    Calls Try.prog 6 #[DV A b.length c PA ws.length pc] w fun e w' => ∃ PA' pc', e = .returned (DV A b.length c PA' ws.length pc') ∧ (∀ W, Keep w' W → DOk W A b c PA' ws pc') ∧ Keep w w' := by
  go_enter Try.func6, Try.ntmps6
  go_wp2_with fail
  go_loopw [4] (fun i wr => ∃ (k : Nat) (Ak : Option Addr) (ck : Nat), k ≤ ws.length ∧ i = .int .i64 k ∧ wr.cell? ⟨w.heap.size, 1, none⟩ = some (.slice PA ws.length pc) ∧
      wr.cell? ⟨w.heap.size + 1 + 1, 0, none⟩ = some (.slice A b.length c) ∧ wr.cell? ⟨w.heap.size + 1 + 1, 1, none⟩ = some (.slice Ak k ck) ∧ wr.frozen? ⟨w.heap.size + 1 + 1, 1, none⟩ = false ∧
      wr.cell? ⟨w.heap.size + 1, 0, none⟩ = some (.slice none 0 0) ∧ wr.cell? ⟨w.heap.size + 1, 1, none⟩ = some (.slice none 0 0) ∧ wr.frozen? ⟨w.heap.size + 1, 0, none⟩ = false ∧ wr.frozen? ⟨w.heap.size + 1, 1, none⟩ = false ∧
      wr.ownsRow (w.heap.size + 3) 54 2 (.slice Ak k ck) k ((ws.take k).flatMap WriteR.cells) ∧ Keep w wr)
    (fun i _ => ws.length - (intOf i).toNat)
  case atStart =>
    exact ⟨0, none, 0, Nat.zero_le _, rfl, by go_simp, by go_simp, by go_simp, by go_simp, by go_simp, by go_simp, by go_simp, by go_simp, World.ownsRow_nil _ _ _ _, keep_trans (keep_trans (keep_new _ _) (keep_new _ _)) (keep_new _ _)⟩
  case round =>
    obtain ⟨k, Ak, ck, hk, rfl, e1, q0, q1, y1, r0, r1, g0, g1, hown, hkeep⟩ := hrel
    have hsz := hkeep.size
    have hq := cell_lt q1
    by_cases hlt : k < ws.length
    · obtain ⟨b', off, rfl, hb, F⟩ := WriteR.at2 h.rp hlt
      have hts := take_flat' WriteR.cells ws k hlt
      generalize ws[k] = x at F hts
      have Hts := Lib.hid hts
      have HF := Lib.hid F
      obtain ⟨c0, c1⟩ := F wr hkeep
      clear F hts
      go_wp2
      have p0 := aft_cell q0; have p1 := aft_cell q1; have pe := aft_cell e1
      have pc0 := aft_cell (HF.out wr hkeep).1; have pc1 := aft_cell (HF.out wr hkeep).2
      refine wp_region_seq [0,1,2,3,4,5,6,7,8,9,10,11,12,13,14] [] [15] [16,17,18] (by kernel_rfl) (by kernel_rfl) wr (Below.refl _ _) ?_
      simp only [pick_cons, pick_nil, nth_zero, nth_succ]
      repeat (go_big_quiet_step (fail))
      refine wpQuiet_nil (wpQuiet_nil ?_)
      rintro _ ⟨y, rfl⟩
      have hk2 := aft_keep wr y
      generalize aft wr y = w2 at hk2 ⊢
      refine wpAl_step rfl (fun K hK => ?_)
      go_simp
      refine hK _ _ (aft_all (hk2.alloc hk2.size _)) (wpAl_nil ?_)
      clear hK K p0 p1 pe pc0 pc1
      have hz2 := hk2.size
      have own2 := own_keep hown hk2
      have a0 := keep_cell hk2 q0; have a1 := keep_cell hk2 q1; have a2 := keep_cell hk2 e1; have a3 := keep_cell hk2 r0; have a4 := keep_cell hk2 r1
      have f1 := keep_frozen hk2 hq y1; have f2 := keep_frozen hk2 (cell_lt r0) g0; have f3 := keep_frozen hk2 (cell_lt r0) g1
      have hn1 : ∀ g, (Value.slice Ak k ck).ownBlock = some g → w.heap.size + 3 ≤ g := fun g hg => (hown.lt g hg).1
      go_wp2_with (at_builtin; refine wpList_app writeT (by rfl) _ _ (by rfl) (w.heap.size + 3) _ k _ (by rfl) (own2.alloc _) _ 1 1 (WriteR.cells x) (by rfl) (by rfl) (Rd.new _ _ _) (by simp [WriteR.cells, Value.oneCell']) (by omega) (by unfold maxLen; omega) (by simp; omega) ?_; intro v3 w3 own3 hg3 hat3; have b0 := grown_cell hg3 (keep_cell (keep_new w2 _) a0) (fun h => by have := hn1 _ h; omega); have b1 := grown_cell hg3 (keep_cell (keep_new w2 _) a1) (fun h => by have := hn1 _ h; omega); have b2 := grown_cell hg3 (keep_cell (keep_new w2 _) a2) (fun h => by have := hn1 _ h; omega); have b3 := grown_cell hg3 (keep_cell (keep_new w2 _) a3) (fun h => by have := hn1 _ h; omega); have b4 := grown_cell hg3 (keep_cell (keep_new w2 _) a4) (fun h => by have := hn1 _ h; omega); have d1 := grown_frozen hg3 a1 (keep_new w2 _) f1 (fun h => by have := hn1 _ h; omega); have d2 := grown_frozen hg3 a3 (keep_new w2 _) f2 (fun h => by have := hn1 _ h; omega); have d3 := grown_frozen hg3 a4 (keep_new w2 _) f3 (fun h => by have := hn1 _ h; omega); have k3 := (keep_trans hkeep (keep_trans hk2 (keep_new w2 _))).grown hg3 (by simp; omega) (fun g hg => by have := hn1 g hg; omega); obtain ⟨A5, c5, rfl, hc5, hm5, hrd5⟩ := own_form own3; clear hrd5; have own4 := Lib.hid own3; clear own3)
      go_roundw
      case rel =>
        refine ⟨k + 1, A5, c5, by omega, by go_num, by go_simp, by go_simp, by go_simp, by go_simp, by go_simp, by go_simp, by go_simp, by go_simp, ?_, k3.setCell (by simp; omega) _⟩
        rw [Hts.out]
        exact ownsRow_setCell_below own4.out (by simp) _
      case measure => simp [intOf]; omega
    · have hk' : k = ws.length := by omega
      subst hk'
      go_wp2_with fail
      refine bodyPost_ret (v := DV A b.length c Ak ws.length ck) (by simp [results, Try.results6, go_sem, r0, r1, g0, g1]) rfl ⟨Ak, ck, rfl, ?_, (hkeep.setCell (p := ⟨w.heap.size + 1, 0, none⟩) (by simp) (.slice A b.length c)).setCell (p := ⟨w.heap.size + 1, 1, none⟩) (by simp) (.slice Ak ws.length ck)⟩
      intro W hW
      obtain ⟨A5, c5, h5, hc5, hm5, _⟩ := own_form hown
      injection h5 with _ _ h5
      subst h5
      rw [List.take_length] at hown
      have h0 := keep_trans ((hkeep.setCell (p := ⟨w.heap.size + 1, 0, none⟩) (by simp) (.slice A b.length c)).setCell (p := ⟨w.heap.size + 1, 1, none⟩) (by simp) (.slice Ak ws.length ck)) hW
      have h1 := h.keep h0
      exact ⟨h1.rb, h1.bc, h1.cm, (own_rd (ownsRow_setCell_below (ownsRow_setCell_below hown (by simp) _) (by simp) _)).keep hW, hc5, hm5, h1.ok⟩
set_option maxRecDepth 100000 in
set_option maxHeartbeats 2000000 in
theorem flat_any (A : Option Addr) (b : List UInt8) (c : Nat) (PA : Option Addr) (ws : List WriteR) (pc : Nat) (w : World) (h : DOk w A b c PA ws pc) (hw : ws.length ≤ 200000) :
    Calls Try.prog 14 #[DV A b.length c PA ws.length pc] w fun e w' => ∃ PA' pc', e = .returned (DV A b.length c PA' ws.length pc') ∧ (∀ W, Keep w' W → DOk W A b c PA' ws pc') ∧ Keep w w' := by
  go_enter Try.func14, Try.ntmps14
  go_wp2_with fail
  go_loopw [4] (fun i wr => ∃ (k : Nat) (Ak : Option Addr) (ck : Nat), k ≤ ws.length ∧ i = .int .i64 k ∧ wr.cell? ⟨w.heap.size, 1, none⟩ = some (.slice PA ws.length pc) ∧
      wr.cell? ⟨w.heap.size + 1 + 1, 0, none⟩ = some (.slice A b.length c) ∧ wr.cell? ⟨w.heap.size + 1 + 1, 1, none⟩ = some (.slice Ak k ck) ∧ wr.frozen? ⟨w.heap.size + 1 + 1, 1, none⟩ = false ∧
      wr.cell? ⟨w.heap.size + 1, 0, none⟩ = some (.slice none 0 0) ∧ wr.cell? ⟨w.heap.size + 1, 1, none⟩ = some (.slice none 0 0) ∧ wr.frozen? ⟨w.heap.size + 1, 0, none⟩ = false ∧ wr.frozen? ⟨w.heap.size + 1, 1, none⟩ = false ∧
      wr.ownsRow (w.heap.size + 3) 53 2 (.slice Ak k ck) k ((ws.take k).flatMap WriteR.cells) ∧ Keep w wr)
    (fun i _ => ws.length - (intOf i).toNat)
  case atStart =>
    exact ⟨0, none, 0, Nat.zero_le _, rfl, by go_simp, by go_simp, by go_simp, by go_simp, by go_simp, by go_simp, by go_simp, by go_simp, World.ownsRow_nil _ _ _ _, keep_trans (keep_trans (keep_new _ _) (keep_new _ _)) (keep_new _ _)⟩
  case round =>
    obtain ⟨k, Ak, ck, hk, rfl, e1, q0, q1, y1, r0, r1, g0, g1, hown, hkeep⟩ := hrel
    have hsz := hkeep.size
    have hq := cell_lt q1
    by_cases hlt : k < ws.length
    · obtain ⟨b', off, rfl, hb, F⟩ := WriteR.at2 h.rp hlt
      have hts := take_flat' WriteR.cells ws k hlt
      generalize ws[k] = x at F hts
      have Hts := Lib.hid hts
      have HF := Lib.hid F
      obtain ⟨c0, c1⟩ := F wr hkeep
      clear F hts
      go_wp2
      have p0 := aft_cell q0; have p1 := aft_cell q1; have pe := aft_cell e1
      have pc0 := aft_cell (HF.out wr hkeep).1; have pc1 := aft_cell (HF.out wr hkeep).2
      refine wp_region_seq [0,1,2,3,4,5,6,7,8,9,10,11,12,13,14] [] [15] [16,17,18] (by kernel_rfl) (by kernel_rfl) wr (Below.refl _ _) ?_
      simp only [pick_cons, pick_nil, nth_zero, nth_succ]
      repeat (go_big_quiet_step (fail))
      refine wpQuiet_nil (wpQuiet_nil ?_)
      rintro _ ⟨y, rfl⟩
      have hk2 := aft_keep wr y
      generalize aft wr y = w2 at hk2 ⊢
      refine wpAl_step rfl (fun K hK => ?_)
      go_simp
      refine hK _ _ (aft_all (hk2.alloc hk2.size _)) (wpAl_nil ?_)
      clear hK K p0 p1 pe pc0 pc1
      have hz2 := hk2.size
      have own2 := own_keep hown hk2
      have a0 := keep_cell hk2 q0; have a1 := keep_cell hk2 q1; have a2 := keep_cell hk2 e1; have a3 := keep_cell hk2 r0; have a4 := keep_cell hk2 r1
      have f1 := keep_frozen hk2 hq y1; have f2 := keep_frozen hk2 (cell_lt r0) g0; have f3 := keep_frozen hk2 (cell_lt r0) g1
      have hn1 : ∀ g, (Value.slice Ak k ck).ownBlock = some g → w.heap.size + 3 ≤ g := fun g hg => (hown.lt g hg).1
      go_wp2_with (at_builtin; refine wpList_app rwriteT (by rfl) _ _ (by rfl) (w.heap.size + 3) _ k _ (by rfl) (own2.alloc _) _ 1 1 (WriteR.cells x) (by rfl) (by rfl) (Rd.new _ _ _) (by simp [WriteR.cells, Value.oneCell']) (by omega) (by unfold maxLen; omega) (by simp; omega) ?_; intro v3 w3 own3 hg3 hat3; have b0 := grown_cell hg3 (keep_cell (keep_new w2 _) a0) (fun h => by have := hn1 _ h; omega); have b1 := grown_cell hg3 (keep_cell (keep_new w2 _) a1) (fun h => by have := hn1 _ h; omega); have b2 := grown_cell hg3 (keep_cell (keep_new w2 _) a2) (fun h => by have := hn1 _ h; omega); have b3 := grown_cell hg3 (keep_cell (keep_new w2 _) a3) (fun h => by have := hn1 _ h; omega); have b4 := grown_cell hg3 (keep_cell (keep_new w2 _) a4) (fun h => by have := hn1 _ h; omega); have d1 := grown_frozen hg3 a1 (keep_new w2 _) f1 (fun h => by have := hn1 _ h; omega); have d2 := grown_frozen hg3 a3 (keep_new w2 _) f2 (fun h => by have := hn1 _ h; omega); have d3 := grown_frozen hg3 a4 (keep_new w2 _) f3 (fun h => by have := hn1 _ h; omega); have k3 := (keep_trans hkeep (keep_trans hk2 (keep_new w2 _))).grown hg3 (by simp; omega) (fun g hg => by have := hn1 g hg; omega); obtain ⟨A5, c5, rfl, hc5, hm5, hrd5⟩ := own_form own3; clear hrd5; have own4 := Lib.hid own3; clear own3)
      go_roundw
      case rel =>
        refine ⟨k + 1, A5, c5, by omega, by go_num, by go_simp, by go_simp, by go_simp, by go_simp, by go_simp, by go_simp, by go_simp, by go_simp, ?_, k3.setCell (by simp; omega) _⟩
        rw [Hts.out]
        exact ownsRow_setCell_below own4.out (by simp) _
      case measure => simp [intOf]; omega
    · have hk' : k = ws.length := by omega
      subst hk'
      go_wp2_with fail
      refine bodyPost_ret (v := DV A b.length c Ak ws.length ck) (by simp [results, Try.results14, go_sem, r0, r1, g0, g1]) rfl ⟨Ak, ck, rfl, ?_, (hkeep.setCell (p := ⟨w.heap.size + 1, 0, none⟩) (by simp) (.slice A b.length c)).setCell (p := ⟨w.heap.size + 1, 1, none⟩) (by simp) (.slice Ak ws.length ck)⟩
      intro W hW
      obtain ⟨A5, c5, h5, hc5, hm5, _⟩ := own_form hown
      injection h5 with _ _ h5
      subst h5
      rw [List.take_length] at hown
      have h0 := keep_trans ((hkeep.setCell (p := ⟨w.heap.size + 1, 0, none⟩) (by simp) (.slice A b.length c)).setCell (p := ⟨w.heap.size + 1, 1, none⟩) (by simp) (.slice Ak ws.length ck)) hW
      have h1 := h.keep h0
      exact ⟨h1.rb, h1.bc, h1.cm, (own_rd (ownsRow_setCell_below (ownsRow_setCell_below hown (by simp) _) (by simp) _)).keep hW, hc5, hm5, h1.ok⟩
end Go.Proofs.Ytmhbfjcehmjllaa
