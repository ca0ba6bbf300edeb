/- What is done to a disk: the operations, as values of functions. -/
import Derived.Test.YtbomnldpmkedbaaDoorSnF
set_option linter.unusedSimpArgs false
set_option linter.unusedVariables false
namespace Go.Proofs.YtbomnldpmkedbaaDoor
open Go.RowKit
attribute [local go_sem ↓] Go.wp_at_zero Go.wp_at_succ

section
variable (A : Option Addr) (b : List UInt8) (c : Nat) (PA : Option Addr) (ws : List WriteR) (pc : Nat)
set_option maxRecDepth 100000 in
set_option maxHeartbeats 1000000 in
theorem osync_w (w : World) (h : DOk w A b c PA ws pc) :
    Calls Tryd.prog 50 #[DV A b.length c PA ws.length pc] w fun e w' => ∃ B A' c', B = bytesQ b (ws.map WriteR.pl) ∧ e = .returned (.tuple #[DV A' B.length c' none 0 0, .int .i64 0]) ∧ (∀ W, Fr w.heap.size (fun _ => False) w' W → DOk W A' B c' none [] 0) ∧ Keep w w' := by
  have S1 : Hid (∀ y, Keep w y → Calls Tryd.prog 62 #[DV A b.length c PA ws.length pc] y fun e w' => ∃ A' c', e = .returned (DV A' (bytesQ b (ws.map WriteR.pl)).length c' none 0 0) ∧ w'.ownsRow y.heap.size 5 1 (.slice A' (bytesQ b (ws.map WriteR.pl)).length c') (bytesQ b (ws.map WriteR.pl)).length ((bytesQ b (ws.map WriteR.pl)).map u8v) ∧ Keep y w') := fun y hy => by
    have h1 := sync_own A b c PA ws pc y (h.keep hy)
    rw [bytesD_Q] at h1; exact h1
  clear h
  generalize bytesQ b (ws.map WriteR.pl) = B at *
  generalize b.length = bl at *
  generalize ws.length = wl at *
  go_enter Tryd.func50, Tryd.ntmps50
  go_wp2_with fail
  refine (S1.out _ (((Below.refl _ _).alloc (Nat.le_refl _) _).alloc (by simp) _)).mono ?_
  rintro e w2 ⟨A2, c2, rfl, hown, hk2⟩
  have r0 : w2.cell? ⟨w.heap.size + 1, 0, none⟩ = some (.slice none 0 0) := keep_cell hk2 (by go_simp)
  have r1 : w2.cell? ⟨w.heap.size + 1, 1, none⟩ = some (.slice none 0 0) := keep_cell hk2 (by go_simp)
  have g0 : w2.frozen? ⟨w.heap.size + 1, 0, none⟩ = false := keep_frozen hk2 (by simp) (by go_simp)
  have g1 : w2.frozen? ⟨w.heap.size + 1, 1, none⟩ = false := keep_frozen hk2 (by simp) (by go_simp)
  have k2 : Keep w w2 := keep_trans (((Below.refl _ _).alloc (Nat.le_refl _) _).alloc (by simp) _) hk2
  go_wp2_with fail
  refine bodyPost_ret (v := .tuple #[DV A2 B.length c2 none 0 0, .int .i64 0]) (by simp [results, Tryd.results50, go_sem, r0, r1, g0, g1]) rfl ⟨B, A2, c2, rfl, rfl, fun W hW => ?_, (k2.setCell (by simp) _).setCell (by simp) _⟩
  have ho9 := ownsRow_setCell_below (ownsRow_setCell_below hown (a := ⟨w.heap.size + 1, 0, none⟩) (by simp) (.slice A2 B.length c2)) (a := ⟨w.heap.size + 1, 1, none⟩) (by simp) (.slice none 0 0)
  exact DOk.own (own_fr (own_lowH ho9 (by simp; omega)) hW (fun _ _ h => h))

set_option maxRecDepth 100000 in
set_option maxHeartbeats 2000000 in
theorem oput_w (p q : Nat) (i : Int) (B : Option Addr) (data : List UInt8) (cd : Nat) (w : World) (F : World → Prop) (hF : ∀ W, Keep w W → F W) (h : ∀ W, F W → DOk W A b c PA ws pc) (hs : saneP b.length (ws.map WriteR.pl) = true)
    (hp : w.cell? ⟨p, 0, none⟩ = some (.int .i64 i)) (hq : w.cell? ⟨q, 0, none⟩ = some (.slice B data.length cd)) (hdr : Rd w B (data.map u8v)) (hdl : data.length ≤ 1000000) (h32 : data.length = 32) (hi : -9223372036854775808 ≤ i ∧ i ≤ 9223372036854775807) :
    Calls Tryd.prog 67 #[DV A b.length c PA ws.length pc, .pointer (some ⟨p, 0, none⟩), .pointer (some ⟨q, 0, none⟩)] w fun e w' => ∃ A' c' PA' pc' vs er, e = .returned (.tuple #[DV A' b.length c' PA' vs.length pc', .int .i64 er]) ∧
      (vs.map WriteR.pl, er) = layP b (ws.map WriteR.pl) i data ∧ (∀ W, MidF F w w' W → DOk W A' b c' PA' vs pc') ∧ Keep w w' := by
  have L1 : Hid (∀ y, Keep w y → Calls Tryd.prog 66 #[DV A b.length c PA ws.length pc, .int .i64 i, .slice B data.length cd] y fun e w' =>
      ∃ A' c' PA' pc' vs er, e = .returned (.tuple #[DV A' b.length c' PA' vs.length pc', .int .i64 er]) ∧ (vs.map WriteR.pl, er) = layP b (ws.map WriteR.pl) i data ∧ (∀ W, MidF F y w' W → DOk W A' b c' PA' vs pc') ∧ Keep y w') := fun y hy => by
    have h1 := put_anyF A b c PA ws pc i B data cd y F (fun W hW => hF W (keep_trans hy hW)) h (hdr.keep hy) hdl hi
    have e1 : tkB b ws = b := tkB_pl hs
    have e2 : putD b ws i data = layP b (ws.map WriteR.pl) i data := (if_pos h32).trans (layD_pl rfl hs i data)
    rw [e1, e2] at h1
    exact h1.mono fun e w' ⟨A', c', PA', pc', vs, g1, g2, g3, g4⟩ => ⟨A', c', PA', pc', vs, _, g1, by rw [g2], g3, g4⟩
  clear h hs hdr hF h32
  generalize layP b (ws.map WriteR.pl) i data = LP at *
  generalize data.length = dl at *
  generalize hbl : b.length = bl at *
  clear hbl
  generalize ws.length = wl at *
  go_enter Tryd.func67, Tryd.ntmps67
  go_upto_region 1 with fail
  obtain ⟨w1, hw1⟩ : ∃ w1, w1 = (w.alloc (.cells #[.slice A bl c, .slice PA wl pc] 32)).alloc (.cells #[.slice none 0 0, .slice none 0 0] 32) := ⟨_, rfl⟩
  have HD1 : Hid (Blk w1 w.heap.size 32 [.slice A bl c, .slice PA wl pc]) := by rw [hw1]; exact (Blk.new w _ [.slice A bl c, .slice PA wl pc]).alloc _
  have HR1 : Hid (Blk w1 (w.heap.size + 1) 32 [.slice none 0 0, .slice none 0 0]) := by
    rw [hw1]
    have h1 := Blk.new (w.alloc (.cells #[.slice A bl c, .slice PA wl pc] 32)) 32 [.slice none 0 0, .slice none 0 0]
    rw [World.size_alloc] at h1
    exact h1
  have hk1 : Keep w w1 := by rw [hw1]; exact keep_trans (keep_new _ _) (keep_new _ _)
  have HK1 := Lib.hid hk1
  have hz11 : w.heap.size + 2 ≤ w1.heap.size := by rw [hw1]; simp
  rw [← hw1]
  clear hw1
  replace hp := keep_cell hk1 hp; replace hq := keep_cell hk1 hq
  have d0 := HD1.out.cell 0; have d1 := HD1.out.cell 1
  simp only [List.getElem?_cons_zero, List.getElem?_cons_succ] at d0 d1
  clear hk1
  go_wp2_with fail
  refine (L1.out w1 HK1.out).mono ?_
  rintro e w2 ⟨A2, c2, PA2, pc2, vs, er, rfl, hvs, hd, hk2⟩
  have HR2 := HR1.out.keep hk2
  have r0 := HR2.cell 0; have r1 := HR2.cell 1; have g0 := HR2.frozen 0; have g1 := HR2.frozen 1
  simp only [List.getElem?_cons_zero, List.getElem?_cons_succ] at r0 r1
  have k2 : Keep w w2 := keep_trans HK1.out hk2
  have hz2 : w1.heap.size ≤ w2.heap.size := hk2.size
  clear d0 d1 hp hq HR2
  go_wp2_with fail
  refine bodyPost_ret (v := .tuple #[DV A2 bl c2 PA2 vs.length pc2, .int .i64 er]) (by simp [results, Tryd.results67, go_sem, r0, r1, g0, g1]) rfl ⟨A2, c2, PA2, pc2, vs, er, rfl, hvs, fun W hW => hd W ⟨hW.1, fun k hk1 hk2 => ?_⟩, (k2.setCell (by simp) _).setCell (by simp) _⟩
  rw [hW.2 k (by omega) (by simpa using hk2), set_ne _ _ _ _ _ (by omega), set_ne _ _ _ _ _ (by omega)]

set_option maxRecDepth 100000 in
set_option maxHeartbeats 2000000 in
theorem olay_w (p q : Nat) (i : Int) (B : Option Addr) (data : List UInt8) (cd : Nat) (w : World) (F : World → Prop) (hF : ∀ W, Keep w W → F W) (h : ∀ W, F W → DOk W A b c PA ws pc) (hs : saneP b.length (ws.map WriteR.pl) = true)
    (hp : w.cell? ⟨p, 0, none⟩ = some (.int .i64 i)) (hq : w.cell? ⟨q, 0, none⟩ = some (.slice B data.length cd)) (hdr : Rd w B (data.map u8v)) (hdl : data.length ≤ 1000000) (hi : -9223372036854775808 ≤ i ∧ i ≤ 9223372036854775807) :
    Calls Tryd.prog 69 #[DV A b.length c PA ws.length pc, .pointer (some ⟨p, 0, none⟩), .pointer (some ⟨q, 0, none⟩)] w fun e w' => ∃ A' c' PA' pc' vs er, e = .returned (.tuple #[DV A' b.length c' PA' vs.length pc', .int .i64 er]) ∧
      (vs.map WriteR.pl, er) = layP b (ws.map WriteR.pl) i data ∧ (∀ W, MidF F w w' W → DOk W A' b c' PA' vs pc') ∧ Keep w w' := by
  have L1 : Hid (∀ y, Keep w y → Calls Tryd.prog 61 #[DV A b.length c PA ws.length pc, .int .i64 i, .slice B data.length cd] y fun e w' =>
      ∃ A' c' PA' pc' vs er, e = .returned (.tuple #[DV A' b.length c' PA' vs.length pc', .int .i64 er]) ∧ (vs.map WriteR.pl, er) = layP b (ws.map WriteR.pl) i data ∧ (∀ W, MidF F y w' W → DOk W A' b c' PA' vs pc') ∧ Keep y w') := fun y hy => by
    have h1 := lay_anyF A b c PA ws pc i B data cd y F (fun W hW => hF W (keep_trans hy hW)) h (hdr.keep hy) hdl hi
    have e1 : tkB b ws = b := tkB_pl hs
    have e2 := layD_pl (b := b) (ws := ws) rfl hs i data
    rw [e1, e2] at h1
    exact h1.mono fun e w' ⟨A', c', PA', pc', vs, g1, g2, g3, g4⟩ => ⟨A', c', PA', pc', vs, _, g1, by rw [g2], g3, g4⟩
  clear h hs hdr hF
  generalize layP b (ws.map WriteR.pl) i data = LP at *
  generalize data.length = dl at *
  generalize hbl : b.length = bl at *
  clear hbl
  generalize ws.length = wl at *
  go_enter Tryd.func69, Tryd.ntmps69
  go_upto_region 1 with fail
  obtain ⟨w1, hw1⟩ : ∃ w1, w1 = (w.alloc (.cells #[.slice A bl c, .slice PA wl pc] 32)).alloc (.cells #[.slice none 0 0, .slice none 0 0] 32) := ⟨_, rfl⟩
  have HD1 : Hid (Blk w1 w.heap.size 32 [.slice A bl c, .slice PA wl pc]) := by rw [hw1]; exact (Blk.new w _ [.slice A bl c, .slice PA wl pc]).alloc _
  have HR1 : Hid (Blk w1 (w.heap.size + 1) 32 [.slice none 0 0, .slice none 0 0]) := by
    rw [hw1]
    have h1 := Blk.new (w.alloc (.cells #[.slice A bl c, .slice PA wl pc] 32)) 32 [.slice none 0 0, .slice none 0 0]
    rw [World.size_alloc] at h1
    exact h1
  have hk1 : Keep w w1 := by rw [hw1]; exact keep_trans (keep_new _ _) (keep_new _ _)
  have HK1 := Lib.hid hk1
  have hz11 : w.heap.size + 2 ≤ w1.heap.size := by rw [hw1]; simp
  rw [← hw1]
  clear hw1
  replace hp := keep_cell hk1 hp; replace hq := keep_cell hk1 hq
  have d0 := HD1.out.cell 0; have d1 := HD1.out.cell 1
  simp only [List.getElem?_cons_zero, List.getElem?_cons_succ] at d0 d1
  clear hk1
  go_wp2_with fail
  refine (L1.out w1 HK1.out).mono ?_
  rintro e w2 ⟨A2, c2, PA2, pc2, vs, er, rfl, hvs, hd, hk2⟩
  have HR2 := HR1.out.keep hk2
  have r0 := HR2.cell 0; have r1 := HR2.cell 1; have g0 := HR2.frozen 0; have g1 := HR2.frozen 1
  simp only [List.getElem?_cons_zero, List.getElem?_cons_succ] at r0 r1
  have k2 : Keep w w2 := keep_trans HK1.out hk2
  have hz2 : w1.heap.size ≤ w2.heap.size := hk2.size
  clear d0 d1 hp hq HR2
  go_wp2_with fail
  refine bodyPost_ret (v := .tuple #[DV A2 bl c2 PA2 vs.length pc2, .int .i64 er]) (by simp [results, Tryd.results69, go_sem, r0, r1, g0, g1]) rfl ⟨A2, c2, PA2, pc2, vs, er, rfl, hvs, fun W hW => hd W ⟨hW.1, fun k hk1 hk2 => ?_⟩, (k2.setCell (by simp) _).setCell (by simp) _⟩
  rw [hW.2 k (by omega) (by simpa using hk2), set_ne _ _ _ _ _ (by omega), set_ne _ _ _ _ _ (by omega)]
end
end Go.Proofs.YtbomnldpmkedbaaDoor
