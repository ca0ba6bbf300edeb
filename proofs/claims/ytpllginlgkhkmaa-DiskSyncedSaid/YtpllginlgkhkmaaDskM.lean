import Derived.Test.YtpllginlgkhkmaaDskP
set_option linter.unusedSimpArgs false
set_option linter.unusedVariables false
namespace Go.Proofs.Ytpllginlgkhkmaa
open Go.RowKit
attribute [local go_sem ↓] Go.wp_at_zero Go.wp_at_succ

set_option maxRecDepth 100000 in
set_option maxHeartbeats 4000000 in
theorem more_law (A : Option Addr) (b : List UInt8) (c : Nat) (PA : Option Addr) (ws : List WriteR) (pc : Nat) (at_ : Int) (D : Option Addr) (data : List UInt8) (cd : Nat) (B : Option Addr) (plan : List UInt8) (cp : Nat) (w : World) (h : DOk w A b c PA ws pc)
    (hat : -9223372036854775808 ≤ at_ ∧ at_ ≤ 9223372036854775807) (hd : Rd w D (data.map u8v)) (hdl : data.length ≤ 9223372036854775807) (hp : Rd w B (plan.map u8v)) (hpl : plan.length ≤ cp) (hcp : cp ≤ 9223372036854775807) :
    Calls Try.prog 4 #[DV A b.length c PA ws.length pc, .int .i64 at_, .slice D data.length cd, .slice B plan.length cp] w fun e w' => e = .returned (.bool true) ∧ Keep w w' := by
  have hpl0 := h.pl; have hpm := h.pm; have hbc := h.bc; have hcm := h.cm
  unfold maxLen at hpm hcm
  go_enter Try.func4, Try.ntmps4
  go_wp2_with fail
  refine (awake_any _).mono ?_
  rintro e w1 ⟨rfl, hk1⟩
  have b0 := keep_box hk1 0 _ rfl; have b1 := keep_box hk1 1 _ rfl
  have k1 := keep_trans (keep_new w _) hk1; clear hk1
  go_wp2_with fail
  refine (few_any _ _ _ _ _ _ _ (by omega) (by omega)).mono ?_
  rintro e w2 ⟨rfl, hk2⟩
  replace b0 := keep_cell hk2 b0; replace b1 := keep_cell hk2 b1
  have k2 := keep_trans k1 hk2; clear k1 hk2
  cases hf : fewD b.length ws.length with
  | false => go_wp2_with fail; go_ret; exact ⟨rfl, k2⟩
  | true =>
    have hfew := of_decide_eq_true hf; clear hf
    by_cases hq0 : 200 < data.length
    · have hq0' : (200 : Int) < (data.length : Int) := by omega
      go_wp2_with fail; go_ret; exact ⟨rfl, k2⟩
    have hq0' : (data.length : Int) ≤ 200 := by omega
    clear hq0
    by_cases hq1 : 400 < plan.length
    · have hq1' : (400 : Int) < (plan.length : Int) := by omega
      go_wp2_with fail; go_ret; exact ⟨rfl, k2⟩
    have hq1' : (plan.length : Int) ≤ 400 := by omega
    clear hq1
    go_wp2_with fail
    refine (drive_any A b c PA ws pc w2 (h.keep k2) (by omega)).mono ?_
    rintro e w3 ⟨PA3, pc3, rfl, hd3, hk3⟩
    replace b0 := keep_cell hk3 b0; replace b1 := keep_cell hk3 b1
    have k3 := keep_trans k2 hk3; clear k2 hk3
    go_wp2_with fail
    refine (sane_any A b c PA3 ws pc3 w3 (hd3 _ (Below.refl _ _))).mono ?_
    rintro e w4 ⟨rfl, hk4⟩
    replace b0 := keep_cell hk4 b0; replace b1 := keep_cell hk4 b1
    have k4 := keep_trans k3 hk4; clear k3 hk4 hd3
    cases hs : saneD b.length ws with
    | false => go_wp2_with fail; go_ret; exact ⟨rfl, k4⟩
    | true =>
      have Hsp := Lib.hid (show saneP b.length (ws.map WriteR.pl) = true by rw [← sane_pl]; exact hs); clear hs
      go_wp2_with fail
      refine (drive_any A b c PA ws pc w4 (h.keep k4) (by omega)).mono ?_
      rintro e w5 ⟨PA5, pc5, rfl, hd5, hk5⟩
      replace b0 := keep_cell hk5 b0; replace b1 := keep_cell hk5 b1
      have k5 := keep_trans k4 hk5; clear k4 hk5
      have Hd5 := Lib.hid hd5; clear hd5
      obtain ⟨Hp, hHp⟩ : ∃ H, H = w5.heap.size := ⟨_, rfl⟩
      obtain ⟨Wp, hWp⟩ : ∃ W, W = w5.alloc (.cells #[.slice A b.length c, .slice PA5 ws.length pc5] 31) := ⟨_, rfl⟩
      have p0 : Wp.cell? ⟨Hp, 0, none⟩ = some (.slice A b.length c) := by rw [hWp, hHp]; go_simp
      have p1 : Wp.cell? ⟨Hp, 1, none⟩ = some (.slice PA5 ws.length pc5) := by rw [hWp, hHp]; go_simp
      have Kp : Keep w5 Wp := by rw [hWp]; exact keep_new _ _
      have QWp := Lib.hid hWp; have QHp := Lib.hid hHp; clear hWp hHp
      replace b0 := keep_cell Kp b0; replace b1 := keep_cell Kp b1
      go_wp2_with fail
      rw [← QWp.out, ← QHp.out]
      refine (lay_any A b c PA5 ws pc5 at_ D data cd _ w5 Kp (Hd5.out _ (Below.refl _ _)) (hd.keep k5) (by omega) hat).mono ?_
      rw [tkB_pl Hsp.out, layD_pl rfl Hsp.out]
      rintro e w6 ⟨A6, c6, PA6, pc6, vs, rfl, hvs, hd6, hk6⟩
      replace b0 := keep_cell hk6 b0; replace b1 := keep_cell hk6 b1; replace p0 := keep_cell hk6 p0; replace p1 := keep_cell hk6 p1
      have k6 := keep_trans (keep_trans k5 Kp) hk6
      have Hd6 := Lib.hid hd6; have Hvs := Lib.hid hvs; clear hd6 hvs
      have K56 := Lib.hid (keep_trans Kp hk6); have Hk6 := Lib.hid hk6; have K5 := Lib.hid k5
      clear hk6 k5 Kp
      obtain ⟨Hx, hHx⟩ : ∃ H, H = w6.heap.size := ⟨_, rfl⟩
      obtain ⟨Wx, hWx⟩ : ∃ W, W = w6.alloc (.cells #[.slice A6 b.length c6, .slice PA6 vs.length pc6] 31) := ⟨_, rfl⟩
      have x0 : Wx.cell? ⟨Hx, 0, none⟩ = some (.slice A6 b.length c6) := by rw [hWx, hHx]; go_simp
      have x1 : Wx.cell? ⟨Hx, 1, none⟩ = some (.slice PA6 vs.length pc6) := by rw [hWx, hHx]; go_simp
      have Kx : Keep w6 Wx := by rw [hWx]; exact keep_new _ _
      have QWx := Lib.hid hWx; have QHx := Lib.hid hHx; clear hWx hHx
      replace b0 := keep_cell Kx b0; replace b1 := keep_cell Kx b1; replace p0 := keep_cell Kx p0; replace p1 := keep_cell Kx p1
      go_upto_region 6 with fail
      rw [← QWx.out, ← QHx.out]
      have zb := cell_lt b0; have zp := cell_lt p0; have zx := cell_lt x0
      go_cut [13] (fun v wx => ∃ Ap cq pl, v = .slice Ap pl.length cq ∧ Hid (pl = plan.take ws.length) ∧ Rd wx Ap (pl.map u8v) ∧ Keep Wx wx)
      case first =>
        have k6x := keep_trans k6 Kx
        have hpx := Lib.hid (hp.keep k6x)
        by_cases hle : plan.length ≤ ws.length
        · have e : plan.take ws.length = plan := List.take_of_length_le hle
          have hle' : (plan.length : Int) ≤ (ws.length : Int) := by omega
          have E := Lib.hid e; clear e
          go_wp2_with (at_builtin; refine wpList_app byteT (by rfl) _ _ (by rfl) Wx.heap.size _ 0 [] (by rfl) (own_zero _ _ _) _ plan.length cp (plan.map u8v) (by rfl) (by simp) (hpx.out.alloc _) (one_bytes _) (by omega) (by unfold maxLen; omega) (by simp) ?_; intro v7 w7 own7 hg7 hat7)
          all_goals go_meet
          all_goals
            rw [List.nil_append, Nat.zero_add] at own7
            obtain ⟨A7, c7, rfl, _, _, hrd7⟩ := own_form own7
            exact ⟨A7, c7, plan.take ws.length, by rw [E.out], Lib.hid rfl, by first | exact hrd7 | (rw [E.out]; exact hrd7), keep_grown (keep_new _ _) (by simp) hg7 (own_zero _ _ 1)⟩
        · have e : (plan.take ws.length).length = ws.length := by rw [List.length_take]; omega
          have hle' : (ws.length : Int) < (plan.length : Int) := by omega
          have hwc : (ws.length : Int) ≤ (cp : Int) := by omega
          have hpt := Lib.hid (hpx.out.take ws.length)
          rw [← List.map_take] at hpt
          have E := Lib.hid e; clear e
          go_wp2_with (at_builtin; refine wpList_app byteT (by rfl) _ _ (by rfl) Wx.heap.size _ 0 [] (by rfl) (own_zero _ _ _) _ ws.length cp ((plan.take ws.length).map u8v) (by rfl) (by rw [List.length_map, E.out]; omega) (hpt.out.alloc _) (one_bytes _) (by omega) (by unfold maxLen; omega) (by simp) ?_; intro v7 w7 own7 hg7 hat7)
          all_goals go_meet
          all_goals
            rw [List.nil_append, Nat.zero_add] at own7
            obtain ⟨A7, c7, rfl, _, _, hrd7⟩ := own_form own7
            exact ⟨A7, c7, plan.take ws.length, by rw [E.out], Lib.hid rfl, by first | exact hrd7 | (rw [E.out]; exact hrd7), keep_grown (keep_new _ _) (by simp) hg7 (own_zero _ _ 1)⟩
      case rest =>
        obtain ⟨Ap, cq, pl, rfl, Hpl, hrp, hkc⟩ := hcut
        have hpl400 : pl.length ≤ 400 := by rw [Hpl.out, List.length_take]; omega
        replace b0 := keep_cell hkc b0; replace b1 := keep_cell hkc b1; replace p0 := keep_cell hkc p0; replace p1 := keep_cell hkc p1; replace x0 := keep_cell hkc x0; replace x1 := keep_cell hkc x1
        have zb := cell_lt b0; have zp := cell_lt p0; have zx := cell_lt x0
        have kc0 := keep_trans (keep_trans k6 Kx) hkc
        have K5c := keep_trans K56.out (keep_trans Kx hkc)
        have Hrp := Lib.hid hrp; clear hrp k6
        go_wp2_with fail
        refine (crash_any A b c PA5 ws pc5 B plan cp wc (Hd5.out _ K5c) (hp.keep kc0) (by omega)).mono ?_
        have hcl := crashD_pl (plan := plan) rfl Hsp.out
        have hcn : (crashD b ws plan).length = b.length := by rw [hcl]; exact crashP_len plan b.length _ 0 b rfl (sane_all Hsp.out)
        have hby : (bytesD (crashD b ws plan) []).length = b.length := by
          rw [bytesD_pl (ps := []) rfl (by rw [hcn]; exact sane_nil Hsp.out)]; exact hcn
        obtain ⟨qs, hqs⟩ := layP_more b (ws.map WriteR.pl) at_ data
        have hls := layP_sane Hsp.out at_ data
        have hsm : crashD b vs pl = crashD b ws plan := by
          rw [Hpl.out, crashD_pl Hvs.out hls, hcl, hqs, ← crashP_more plan qs (ws.map WriteR.pl) 0 ws.length b (by simp)]
        generalize crashD b ws plan = ca at hsm hby hcn hcl ⊢
        have Hcn := Lib.hid hcn; have Hby := Lib.hid hby; have Hsm := Lib.hid hsm
        clear hcn hby hsm hcl hqs hls
        rintro e w8 ⟨A8, c8, rfl, hown8, hk8⟩
        replace b0 := keep_cell hk8 b0; replace b1 := keep_cell hk8 b1; replace x0 := keep_cell hk8 x0; replace x1 := keep_cell hk8 x1
        have k8 := keep_trans kc0 hk8
        have Hd8 := Lib.hid (DOk.own hown8); clear hown8 p0 p1 zp
        obtain ⟨Ha, hHa⟩ : ∃ H, H = w8.heap.size := ⟨_, rfl⟩
        obtain ⟨Wa, hWa⟩ : ∃ W, W = w8.alloc (.cells #[.slice A8 ca.length c8, .slice none 0 0] 31) := ⟨_, rfl⟩
        have a0 : Wa.cell? ⟨Ha, 0, none⟩ = some (.slice A8 ca.length c8) := by rw [hWa, hHa]; go_simp
        have a1 : Wa.cell? ⟨Ha, 1, none⟩ = some (.slice none 0 0) := by rw [hWa, hHa]; go_simp
        have Ka : Keep w8 Wa := by rw [hWa]; exact keep_new _ _
        have QWa := Lib.hid hWa; have QHa := Lib.hid hHa; clear hWa hHa
        replace b0 := keep_cell Ka b0; replace b1 := keep_cell Ka b1; replace x0 := keep_cell Ka x0; replace x1 := keep_cell Ka x1
        go_upto_region 8 with fail
        rw [← QWa.out, ← QHa.out]
        have zb := cell_lt b0; have zx := cell_lt x0; have za := cell_lt a0
        have Kcx := keep_trans hk8 Ka
        go_wp2_with fail
        refine (crash_any A6 b c6 PA6 vs pc6 Ap pl cq _ (Hd6.out _ ?_) (Hrp.out.keep Kcx) (by omega)).mono ?_
        · exact Mid.of_keep K56.out (keep_trans (keep_trans Kx hkc) Kcx)
        rw [Hsm.out]
        rintro e w9 ⟨A9, c9, rfl, hown9, hk9⟩
        replace b0 := keep_cell hk9 b0; replace b1 := keep_cell hk9 b1; replace a0 := keep_cell hk9 a0; replace a1 := keep_cell hk9 a1
        have k9 := keep_trans (keep_trans k8 Ka) hk9
        have K89 := Lib.hid (keep_trans Ka hk9)
        have Hd9 := Lib.hid (DOk.own hown9); clear hown9 x0 x1 zx zb za Kcx
        obtain ⟨Hy, hHy⟩ : ∃ H, H = w9.heap.size := ⟨_, rfl⟩
        obtain ⟨Wy, hWy⟩ : ∃ W, W = w9.alloc (.cells #[.slice A9 ca.length c9, .slice none 0 0] 31) := ⟨_, rfl⟩
        have y0 : Wy.cell? ⟨Hy, 0, none⟩ = some (.slice A9 ca.length c9) := by rw [hWy, hHy]; go_simp
        have y1 : Wy.cell? ⟨Hy, 1, none⟩ = some (.slice none 0 0) := by rw [hWy, hHy]; go_simp
        have Ky : Keep w9 Wy := by rw [hWy]; exact keep_new _ _
        have QWy := Lib.hid hWy; have QHy := Lib.hid hHy; clear hWy hHy
        replace b0 := keep_cell Ky b0; replace b1 := keep_cell Ky b1; replace a0 := keep_cell Ky a0; replace a1 := keep_cell Ky a1
        go_upto_region 9 with fail
        rw [← QWy.out, ← QHy.out]
        have zb := cell_lt b0; have za := cell_lt a0; have zy := cell_lt y0
        have ky := keep_trans k9 Ky
        have Hs1 : Hid (sameD ca [] ca [] = true) := decide_eq_true ⟨rfl, rfl⟩
        have Hcells : Hid (∀ W', Keep Wy W' → W'.cell? ⟨Ha, 0, none⟩ = some (.slice A8 ca.length c8) ∧ W'.cell? ⟨Ha, 1, none⟩ = some (.slice none 0 0) ∧ W'.cell? ⟨Hy, 0, none⟩ = some (.slice A9 ca.length c9) ∧ W'.cell? ⟨Hy, 1, none⟩ = some (.slice none 0 0) ∧ W'.cell? ⟨w.heap.size, 0, none⟩ = some (.slice A b.length c)) :=
          fun W' hW => ⟨keep_cell hW a0, keep_cell hW a1, keep_cell hW y0, keep_cell hW y1, keep_cell hW b0⟩
        have Hda : Hid (∀ W', Keep Wy W' → DOk W' A8 ca c8 none [] 0) := fun W' hW => Hd8.out.keep (keep_trans K89.out (keep_trans Ky hW))
        have Hdy : Hid (∀ W', Keep Wy W' → DOk W' A9 ca c9 none [] 0) := fun W' hW => Hd9.out.keep (keep_trans Ky hW)
        have C1 : Hid (∀ W', Keep Wy W' → Calls Try.prog 16 #[DV A8 ca.length c8 none 0 0] W' fun e w' => ∃ PA' pc', e = .returned (DV A8 ca.length c8 PA' 0 pc') ∧ (∀ W, Keep w' W → DOk W A8 ca c8 PA' [] pc') ∧ Keep W' w') :=
          fun W' hW => flat_any A8 ca c8 none [] 0 W' (Hda.out W' hW) (by simp)
        have C2 : Hid (∀ W', Keep Wy W' → Calls Try.prog 16 #[DV A9 ca.length c9 none 0 0] W' fun e w' => ∃ PA' pc', e = .returned (DV A9 ca.length c9 PA' 0 pc') ∧ (∀ W, Keep w' W → DOk W A9 ca c9 PA' [] pc') ∧ Keep W' w') :=
          fun W' hW => flat_any A9 ca c9 none [] 0 W' (Hdy.out W' hW) (by simp)
        go_region_held3 (fun w' => w'.cell? ⟨Ha, 0, none⟩ = some (.slice A8 ca.length c8) ∧ w'.cell? ⟨Ha, 1, none⟩ = some (.slice none 0 0) ∧ w'.cell? ⟨Hy, 0, none⟩ = some (.slice A9 ca.length c9) ∧ w'.cell? ⟨Hy, 1, none⟩ = some (.slice none 0 0) ∧ w'.cell? ⟨w.heap.size, 0, none⟩ = some (.slice A b.length c))
          (first
            | go_keep
            | exact Hcells.out _ k10
            | exact Hcells.out _ k11
            | exact Hcells.out _ k12
            | exact Hcells.out _ k13)
          (first
            | (go_at_call 16; (with_reducible refine (C1.out _ (by exact (Below.refl _ _).drew)).mono ?_); rintro e w10 ⟨PAf, pcf, rfl, hdf, hk10⟩
               have k10 : Keep Wy w10 := keep_trans (Below.refl _ _).drew hk10
               have Hdf := Lib.hid hdf; clear hdf)
            | (go_at_call 16; (with_reducible refine (C2.out _ (by exact k10)).mono ?_); rintro e w11 ⟨PAg, pcg, rfl, hdg, hk11⟩
               have k11 : Keep Wy w11 := keep_trans k10 hk11
               have Hdg := Lib.hid hdg; clear hdg)
            | (go_at_call 15; refine (same_any A8 ca c8 PAf [] pcf A9 ca c9 PAg [] pcg _ (Hdf.out _ hk11) (Hdg.out _ (Below.refl _ _))).mono ?_; rw [Hs1.out]; rintro e w12 ⟨rfl, hk12⟩
               have k12 : Keep Wy w12 := keep_trans k11 hk12)
            | (go_at_call 17; refine (bytes_any A8 ca c8 none [] 0 _ (Hda.out _ k12)).mono ?_; rw [Hby.out]; rintro e w13 ⟨v13, rfl, hown13, hk13⟩
               have k13 : Keep Wy w13 := keep_trans k12 hk13
               obtain ⟨A13, c13, rfl, hc13, hm13, hrd13⟩ := own_form hown13
               clear hown13 hrd13))
        all_goals go_wp2
        all_goals go_ret
        all_goals exact ⟨rfl, keep_trans ky k13⟩
end Go.Proofs.Ytpllginlgkhkmaa
