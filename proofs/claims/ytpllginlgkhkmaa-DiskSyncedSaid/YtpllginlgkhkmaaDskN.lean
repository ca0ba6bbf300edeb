import Derived.Test.YtpllginlgkhkmaaDskM
import Derived.Test.YtpllginlgkhkmaaMov
set_option linter.unusedSimpArgs false
set_option linter.unusedVariables false
namespace Go.Proofs.Ytpllginlgkhkmaa
open Go.RowKit
attribute [local go_sem ↓] Go.wp_at_zero Go.wp_at_succ

set_option maxRecDepth 100000 in
set_option maxHeartbeats 4000000 in
theorem a32_dummy : True := trivial
def a32 (k : Nat) : List UInt8 := List.replicate k 32
theorem a32_succ (k : Nat) : a32 (k + 1) = a32 k ++ [32] := by unfold a32; rw [List.replicate_succ']
theorem a32_len (k : Nat) : (a32 k).length = k := List.length_replicate ..
theorem a32_plan {n j : Nat} (h : j < n) : planN (a32 n) j = 32 := by
  unfold planN a32; rw [List.getD_eq_getElem?_getD, List.getElem?_replicate, if_pos h]; rfl

set_option maxRecDepth 100000 in
set_option maxHeartbeats 4000000 in
theorem synced_law (A : Option Addr) (b : List UInt8) (c : Nat) (PA : Option Addr) (ws : List WriteR) (pc : Nat) (B : Option Addr) (plan : List UInt8) (cp : Nat) (w : World) (h : DOk w A b c PA ws pc)
    (hp : Rd w B (plan.map u8v)) (hpl : plan.length ≤ cp) (hcp : cp ≤ 9223372036854775807) :
    Calls Try.prog 5 #[DV A b.length c PA ws.length pc, .slice B plan.length cp] w fun e w' => e = .returned (.bool true) ∧ Keep w w' := by
  have hpl0 := h.pl; have hpm := h.pm; have hbc := h.bc; have hcm := h.cm
  unfold maxLen at hpm hcm
  go_enter Try.func5, Try.ntmps5
  go_wp2_with fail
  refine (awake_any _).mono ?_
  rintro e w1 ⟨rfl, hk1⟩
  have b0 := keep_box hk1 0 _ rfl; have b1 := keep_box hk1 1 _ rfl
  have k1 := keep_trans (keep_new w _) hk1; clear hk1
  go_wp2_with fail
  refine (few_any _ _ _ _ _ _ _ (by omega) (by omega)).mono ?_
  rintro e w2 ⟨rfl, hk2⟩
  replace b0 := keep_cell hk2 b0; replace b1 := keep_cell hk2 b1
  have k2 := keep_trans k1 hk2; clear k1 hk2
  cases hf : fewD b.length ws.length with
  | false => go_wp2_with fail; go_ret; exact ⟨rfl, k2⟩
  | true =>
    have hfew := of_decide_eq_true hf; clear hf
    by_cases hq0 : 400 < plan.length
    · have hq0' : (400 : Int) < (plan.length : Int) := by omega
      go_wp2_with fail; go_ret; exact ⟨rfl, k2⟩
    have hq0' : (plan.length : Int) ≤ 400 := by omega
    clear hq0
    go_wp2_with fail
    refine (drive_any A b c PA ws pc w2 (h.keep k2) (by omega)).mono ?_
    rintro e w3 ⟨PA3, pc3, rfl, hd3, hk3⟩
    replace b0 := keep_cell hk3 b0; replace b1 := keep_cell hk3 b1
    have k3 := keep_trans k2 hk3; clear k2 hk3
    go_wp2_with fail
    refine (sane_any A b c PA3 ws pc3 w3 (hd3 _ (Below.refl _ _))).mono ?_
    rintro e w4 ⟨rfl, hk4⟩
    replace b0 := keep_cell hk4 b0; replace b1 := keep_cell hk4 b1
    have k4 := keep_trans k3 hk4; clear k3 hk4 hd3
    cases hs : saneD b.length ws with
    | false => go_wp2_with fail; go_ret; exact ⟨rfl, k4⟩
    | true =>
      have Hsp := Lib.hid (show saneP b.length (ws.map WriteR.pl) = true by rw [← sane_pl]; exact hs); clear hs
      go_wp2_with fail
      refine (drive_any A b c PA ws pc w4 (h.keep k4) (by omega)).mono ?_
      rintro e w5 ⟨PA5, pc5, rfl, hd5, hk5⟩
      replace b0 := keep_cell hk5 b0; replace b1 := keep_cell hk5 b1
      have k5 := keep_trans k4 hk5; clear k4 hk5
      have Hd5 := Lib.hid hd5; clear hd5
      obtain ⟨Hp, hHp⟩ : ∃ H, H = w5.heap.size := ⟨_, rfl⟩
      obtain ⟨Wp, hWp⟩ : ∃ W, W = w5.alloc (.cells #[.slice A b.length c, .slice PA5 ws.length pc5] 31) := ⟨_, rfl⟩
      have p0 : Wp.cell? ⟨Hp, 0, none⟩ = some (.slice A b.length c) := by rw [hWp, hHp]; go_simp
      have p1 : Wp.cell? ⟨Hp, 1, none⟩ = some (.slice PA5 ws.length pc5) := by rw [hWp, hHp]; go_simp
      have Kp : Keep w5 Wp := by rw [hWp]; exact keep_new _ _
      have QWp := Lib.hid hWp; have QHp := Lib.hid hHp; clear hWp hHp
      replace b0 := keep_cell Kp b0; replace b1 := keep_cell Kp b1
      go_wp2_with fail
      rw [← QWp.out, ← QHp.out]
      refine (sync_any A b c PA5 ws pc5 _ (Hd5.out _ Kp)).mono ?_
      have hsb := bytesD_pl rfl Hsp.out
      have hsn : (bytesD b ws).length = b.length := by rw [hsb]; exact bytesP_len b.length _ b rfl (sane_all Hsp.out)
      have hs0 : saneP (bytesD b ws).length [] = true := by rw [hsn]; exact sane_nil Hsp.out
      have q1 : crashD (bytesD b ws) [] plan = bytesD b ws := crashD_pl (ps := []) rfl hs0
      have q2 : bytesD (bytesD b ws) [] = bytesD b ws := bytesD_pl (ps := []) rfl hs0
      have q3 : crashD b ws (a32 ws.length) = bytesD b ws := by
        rw [crashD_pl rfl Hsp.out, hsb]
        exact crashP_full _ b.length _ 0 b (sane_all Hsp.out) fun j _ hj => a32_plan (by simpa using hj)
      have q4 : crashD b ws [] = b := by rw [crashD_pl rfl Hsp.out]; exact crashP_past [] _ 0 b (Nat.zero_le _)
      have q5 : bytesD b ws = bytesD b ws := rfl
      have q6 : sameD (bytesD b ws) [] (bytesD b ws) [] = true := decide_eq_true ⟨rfl, rfl⟩
      have Q6 := Lib.hid q6; have Q1 := Lib.hid q1; have Q2 := Lib.hid q2; have Q3 := Lib.hid q3; have Q4 := Lib.hid q4; have Q7 := Lib.hid hsn
      clear q1 q2 q3 q4 q6 hs0 hsb hsn q5
      obtain ⟨sb, hsb⟩ : ∃ sb, sb = bytesD b ws := ⟨_, rfl⟩
      rw [← hsb] at Q1 Q2 Q3 Q6 Q7
      rw [← hsb]
      have Q5 := Lib.hid hsb; clear hsb
      rintro e w6 ⟨As, cs, rfl, hd6, hk6⟩
      replace b0 := keep_cell hk6 b0; replace b1 := keep_cell hk6 b1; replace p0 := keep_cell hk6 p0; replace p1 := keep_cell hk6 p1
      have k6 := keep_trans (keep_trans k5 Kp) hk6
      have K56 := Lib.hid (keep_trans Kp hk6)
      have Hd6 := Lib.hid hd6
      clear hk6 k5 Kp hd6
      obtain ⟨Hs, hHs⟩ : ∃ H, H = w6.heap.size := ⟨_, rfl⟩
      obtain ⟨Ws, hWs⟩ : ∃ W, W = w6.alloc (.cells #[.slice As sb.length cs, .slice none 0 0] 31) := ⟨_, rfl⟩
      have s0 : Ws.cell? ⟨Hs, 0, none⟩ = some (.slice As sb.length cs) := by rw [hWs, hHs]; go_simp
      have s1 : Ws.cell? ⟨Hs, 1, none⟩ = some (.slice none 0 0) := by rw [hWs, hHs]; go_simp
      have Ks : Keep w6 Ws := by rw [hWs]; exact keep_new _ _
      have QWs := Lib.hid hWs; have QHs := Lib.hid hHs; clear hWs hHs
      replace b0 := keep_cell Ks b0; replace b1 := keep_cell Ks b1; replace p0 := keep_cell Ks p0; replace p1 := keep_cell Ks p1
      go_upto_region 6 with fail
      rw [← QWs.out, ← QHs.out]
      have zb := cell_lt b0; have zp := cell_lt p0; have zs := cell_lt s0
      go_wp2_with fail
      go_loopw [8, 9] (fun v i wr => ∃ (k : Nat) (A : Option Addr) (c : Nat), k ≤ ws.length ∧ i = .int .i64 k ∧ v = .slice A k c ∧ wr.ownsRow Ws.heap.size 5 1 (.slice A k c) k ((a32 k).map u8v) ∧ Keep Ws wr) (fun _ i _ => ws.length - (intOf i).toNat)
      case atStart => exact ⟨0, none, 0, by omega, rfl, rfl, World.ownsRow_nil _ _ _ _, Below.refl _ _⟩
      case round =>
        obtain ⟨k, Aq, cq, hk, rfl, rfl, hown, hkr⟩ := hrel
        have Hown := Lib.hid hown; clear hown
        have hsz := hkr.size
        have r1 := keep_cell hkr b1
        by_cases hlt : k < ws.length
        · go_wp2_with (at_builtin; refine wpList_app byteT (by rfl) _ _ (by rfl) Ws.heap.size _ k _ (by rfl) (Hown.out.alloc _) _ 1 1 [u8v 32] (by rfl) (by rfl) (Rd.new _ _ _) (by simp [Value.oneCell']) (by omega) (by unfold maxLen; omega) (by simp; omega) ?_; intro v2 w2 own2 hg2 hat2; have k2 := keep_grown (keep_trans hkr (keep_new _ _)) (by simp; omega) hg2 (Hown.out.alloc _); obtain ⟨A2, c2, rfl, hc2, hm2, hrd2⟩ := own_form own2; have Own2 := Lib.hid own2; clear own2 hrd2)
          go_roundw
          case rel =>
            refine ⟨k + 1, A2, c2, by omega, by go_num, rfl, ?_, k2⟩
            rw [a32_succ, List.map_append]
            exact Own2.out
          case measure => simp [intOf]; omega
        · obtain rfl : k = ws.length := by omega
          go_upto_region 11 with fail
          replace b0 := keep_cell hkr b0; replace p0 := keep_cell hkr p0; replace p1 := keep_cell hkr p1; replace s0 := keep_cell hkr s0; replace s1 := keep_cell hkr s1
          have zb := cell_lt b0; have zp := cell_lt p0; have zs := cell_lt s0
          obtain ⟨WL, hWL⟩ : ∃ WL, WL = wr := ⟨_, rfl⟩
          subst hWL
          have Hall := Lib.hid (own_rd Hown.out)
          have kL := keep_trans (keep_trans k6 Ks) hkr
          have Kfive := keep_trans K56.out (keep_trans Ks hkr)
          have Ksix := keep_trans Ks hkr
          have hal : (a32 ws.length).length = ws.length := a32_len _
          have Hal := Lib.hid hal; clear hal
          have HP : Hid (∀ W', Keep WL W' → Rd W' B (plan.map u8v)) := fun W' hW => hp.keep (keep_trans kL hW)
          have HA : Hid (∀ W', Keep WL W' → Rd W' Aq ((a32 ws.length).map u8v)) := fun W' hW => Hall.out.keep hW
          have HO : Hid (∀ W', Keep WL W' → DOk W' A b c PA5 ws pc5) := fun W' hW => Hd5.out _ (keep_trans Kfive hW)
          have HS : Hid (∀ W', Keep WL W' → DOk W' As sb cs none [] 0) := fun W' hW => Hd6.out _ (keep_trans Ksix hW)
          have HB : Hid (∀ W', Keep WL W' → (convert 22 9 (.slice A b.length c)).run Try.prog W' = .ok (.string (str b)) W') := fun W' hW => bcv c (h.rb.keep (keep_trans kL hW))
          have Hcells : Hid (∀ W', Keep WL W' → W'.cell? ⟨Hs, 0, none⟩ = some (.slice As sb.length cs) ∧ W'.cell? ⟨Hs, 1, none⟩ = some (.slice none 0 0) ∧ W'.cell? ⟨Hp, 0, none⟩ = some (.slice A b.length c) ∧ W'.cell? ⟨Hp, 1, none⟩ = some (.slice PA5 ws.length pc5) ∧ W'.cell? ⟨w.heap.size, 0, none⟩ = some (.slice A b.length c) ∧ (convert 22 9 (.slice A b.length c)).run Try.prog W' = .ok (.string (str b)) W') :=
            fun W' hW => ⟨keep_cell hW s0, keep_cell hW s1, keep_cell hW p0, keep_cell hW p1, keep_cell hW b0, HB.out W' hW⟩
          have C1 : Hid (∀ W', Keep WL W' → Calls Try.prog 13 #[DV As sb.length cs none 0 0, .slice B plan.length cp] W' fun e w' => ∃ A' c', e = .returned (DV A' sb.length c' none 0 0) ∧ DOk w' A' sb c' none [] 0 ∧ Keep W' w') := fun W' hW => by
            have h1 := crash_any As sb cs none [] 0 B plan cp W' (HS.out W' hW) (HP.out W' hW) (by omega)
            rw [Q1.out] at h1
            exact h1.mono fun e w' ⟨A', c', he, ho, hk⟩ => ⟨A', c', he, DOk.own ho, hk⟩
          have C3 : Hid (∀ W', Keep WL W' → Calls Try.prog 13 #[DV A b.length c PA5 ws.length pc5, .slice Aq ws.length cq] W' fun e w' => ∃ A' c', e = .returned (DV A' sb.length c' none 0 0) ∧ DOk w' A' sb c' none [] 0 ∧ Keep W' w') := fun W' hW => by
            have h1 := crash_any A b c PA5 ws pc5 Aq (a32 ws.length) cq W' (HO.out W' hW) (HA.out W' hW) (by rw [Hal.out]; omega)
            rw [Q3.out, Hal.out] at h1
            exact h1.mono fun e w' ⟨A', c', he, ho, hk⟩ => ⟨A', c', he, DOk.own ho, hk⟩
          have C4 : Hid (∀ W', Keep WL W' → Calls Try.prog 13 #[DV A b.length c PA5 ws.length pc5, .slice none 0 0] W' fun e w' => ∃ A' c', e = .returned (DV A' b.length c' none 0 0) ∧ (∀ W, Keep w' W → (convert 22 9 (.slice A' b.length c')).run Try.prog W = .ok (.string (str b)) W) ∧ Keep W' w') := fun W' hW => by
            have h1 := crash_any A b c PA5 ws pc5 none [] 0 W' (HO.out W' hW) (.inl rfl) (by simp)
            rw [Q4.out] at h1
            exact h1.mono fun e w' ⟨A', c', he, ho, hk⟩ => ⟨A', c', he, fun W hW => bcv c' ((own_rd ho).keep hW), hk⟩
          have F : Hid (∀ A' c' W', DOk W' A' sb c' none [] 0 → Calls Try.prog 16 #[DV A' sb.length c' none 0 0] W' fun e w' => ∃ PA' pc', e = .returned (DV A' sb.length c' PA' 0 pc') ∧ (∀ W, Keep w' W → DOk W A' sb c' PA' [] pc') ∧ Keep W' w') :=
            fun A' c' W' hd => flat_any A' sb c' none [] 0 W' hd (by simp)
          have S : Hid (∀ A1 c1 P1 q1 A2 c2 P2 q2 W', DOk W' A1 sb c1 P1 [] q1 → DOk W' A2 sb c2 P2 [] q2 → Calls Try.prog 15 #[DV A1 sb.length c1 P1 0 q1, DV A2 sb.length c2 P2 0 q2] W' fun e w' => e = .returned (.bool true) ∧ Keep W' w') :=
            fun A1 c1 P1 q1 A2 c2 P2 q2 W' h1 h2 => by have h3 := same_any A1 sb c1 P1 [] q1 A2 sb c2 P2 [] q2 W' h1 h2; rw [Q6.out] at h3; exact h3
          have B1 : Hid (∀ W', Keep WL W' → Calls Try.prog 17 #[DV As sb.length cs none 0 0] W' fun e w' => ∃ A' c', e = .returned (.slice A' sb.length c') ∧ (∀ W, Keep w' W → (convert 22 9 (.slice A' sb.length c')).run Try.prog W = .ok (.string (str sb)) W) ∧ Keep W' w') := fun W' hW => by
            have h1 := bytes_any As sb cs none [] 0 W' (HS.out W' hW)
            rw [Q2.out] at h1
            exact h1.mono fun e w' ⟨v, he, ho, hk⟩ => by
              obtain ⟨A', c', rfl, _, _, hr⟩ := own_form ho
              exact ⟨A', c', he, fun W hW => bcv c' (hr.keep hW), hk⟩
          have B2 : Hid (∀ W', Keep WL W' → Calls Try.prog 17 #[DV A b.length c PA5 ws.length pc5] W' fun e w' => ∃ A' c', e = .returned (.slice A' sb.length c') ∧ (∀ W, Keep w' W → (convert 22 9 (.slice A' sb.length c')).run Try.prog W = .ok (.string (str sb)) W) ∧ Keep W' w') := fun W' hW => by
            have h1 := bytes_any A b c PA5 ws pc5 W' (HO.out W' hW)
            rw [← Q5.out] at h1
            exact h1.mono fun e w' ⟨v, he, ho, hk⟩ => by
              obtain ⟨A', c', rfl, _, _, hr⟩ := own_form ho
              exact ⟨A', c', he, fun W hW => bcv c' (hr.keep hW), hk⟩
          have hd0 : Keep WL WL.drew := (Below.refl _ _).drew
          have hfd : ∀ A n c W, (Instr.field 31 (DV A n c none 0 0) 0).run Try.prog W = .ok (.slice A n c) W := fun _ _ _ _ => by kernel_rfl
          clear b0 b1 r1 p0 p1 s0 s1 zb zp zs
          have cells : ∀ W', Keep WL W' → (∀ x, (aft W' x).cell? ⟨Hs, 0, none⟩ = some (.slice As sb.length cs)) ∧ (∀ x, (aft W' x).cell? ⟨Hs, 1, none⟩ = some (.slice none 0 0)) ∧ (∀ x, (aft W' x).cell? ⟨Hp, 0, none⟩ = some (.slice A b.length c)) ∧ (∀ x, (aft W' x).cell? ⟨Hp, 1, none⟩ = some (.slice PA5 ws.length pc5)) ∧ (∀ x, (aft W' x).cell? ⟨w.heap.size, 0, none⟩ = some (.slice A b.length c)) ∧ (∀ x, (convert 22 9 (.slice A b.length c)).run Try.prog (aft W' x) = .ok (.string (str b)) (aft W' x)) :=
            fun W' hW => by
              have h1 := fun x => Hcells.out (aft W' x) (keep_trans hW (aft_keep _ _))
              exact ⟨fun x => (h1 x).1, fun x => (h1 x).2.1, fun x => (h1 x).2.2.1, fun x => (h1 x).2.2.2.1, fun x => (h1 x).2.2.2.2.1, fun x => (h1 x).2.2.2.2.2⟩
          have Cells := Lib.hid cells; clear cells
          refine wp_region_moves [(true, [0,1,2,3,6]), (false, [4,5,7,8]), (true, [9,10,11,14]), (false, [12]), (true, [13]), (false, [15]), (true, [16,17,18,19,20,21,24]), (false, [22,23,25,26]), (true, [27,28,29,33,34,35]), (false, [30]), (true, [31,32,36,37,38,39,40,41,42,43,44])] [] (by kernel_rfl) (by kernel_rfl) (fun w9 k9 => ?_)
          simp only [mv_cons, mv_nil, pick_cons, pick_nil, nth_zero, nth_succ]
          have ⟨a0, a1, a2, a3, a4, a5⟩ := Cells.out w9 k9
          refine mv_take w9 (Below.refl _ _) ?_
          repeat (go_big_quiet_step (fail))
          refine wpQuiet_nil ?_
          clear a0 a1 a2 a3 a4 a5
          refine mv_force ?_
          refine fc_step rfl (fun K hK => ?_)
          go_simp
          (with_reducible refine (C1.out _ k9).mono ?_)
          rintro e w10 ⟨A10, c10, rfl, hd10, hk⟩
          refine hK _ _ hk ?_
          clear hK K
          have k10 := keep_trans k9 hk
          have D10 := Lib.hid hd10; clear hd10 hk
          refine fc_step rfl (fun K hK => ?_)
          go_simp
          (with_reducible refine (F.out A10 c10 _ D10.out).mono ?_)
          rintro e w11 ⟨P11, q11, rfl, hd11, hk⟩
          refine hK _ _ hk ?_
          clear hK K
          have k11 := keep_trans k10 hk
          have D11 := Lib.hid hd11; clear hd11 hk
          refine fc_step rfl (fun K hK => ?_)
          go_simp
          (with_reducible refine (F.out As cs _ (HS.out _ k11)).mono ?_)
          rintro e w12 ⟨P12, q12, rfl, hd12, hk⟩
          refine hK _ _ hk ?_
          clear hK K
          have k12 := keep_trans k11 hk
          have D12 := Lib.hid (hd12 _ (Below.refl _ _)); have E12 := Lib.hid (D11.out _ hk); clear hd12 hk
          refine fc_step rfl (fun K hK => ?_)
          go_simp
          (with_reducible refine (S.out _ _ _ _ _ _ _ _ _ E12.out D12.out).mono ?_)
          rintro e w13 ⟨rfl, hk⟩
          refine hK _ _ hk ?_
          clear hK K
          have k13 := keep_trans k12 hk
          clear hk
          refine fc_nil ?_
          have ⟨a0, a1, a2, a3, a4, a5⟩ := Cells.out w13 k13
          refine mv_take w13 (Below.refl _ _) ?_
          repeat (go_big_quiet_step (fail))
          refine wpQuiet_nil ?_
          clear a0 a1 a2 a3 a4 a5
          refine mv_force ?_
          refine fc_step rfl (fun K hK => ?_)
          go_simp
          (with_reducible refine (B1.out _ k13).mono ?_)
          rintro e w14 ⟨A14, c14, rfl, hv14, hk⟩
          refine hK _ _ hk ?_
          clear hK K
          have k14 := keep_trans k13 hk
          have V14 := Lib.hid hv14; clear hv14 hk
          refine fc_nil ?_
          have v14 := fun x => V14.out _ (aft_keep w14 x)
          refine mv_take w14 (Below.refl _ _) ?_
          repeat (go_big_quiet_step (fail))
          refine wpQuiet_nil ?_
          clear v14
          refine mv_force ?_
          refine fc_step rfl (fun K hK => ?_)
          go_simp
          (with_reducible refine (B2.out _ k14).mono ?_)
          rintro e w15 ⟨A15, c15, rfl, hv15, hk⟩
          refine hK _ _ hk ?_
          clear hK K
          have k15 := keep_trans k14 hk
          have V15 := Lib.hid hv15; clear hv15 hk
          refine fc_nil ?_
          have ⟨a0, a1, a2, a3, a4, a5⟩ := Cells.out w15 k15
          have v15 := fun x => V15.out _ (aft_keep w15 x)
          refine mv_take w15 (Below.refl _ _) ?_
          repeat (go_big_quiet_step (fail))
          refine wpQuiet_nil ?_
          clear a0 a1 a2 a3 a4 a5 v15
          refine mv_force ?_
          refine fc_step rfl (fun K hK => ?_)
          go_simp
          (with_reducible refine (C3.out _ k15).mono ?_)
          rintro e w20 ⟨A20, c20, rfl, hd20, hk⟩
          refine hK _ _ hk ?_
          clear hK K
          have k20 := keep_trans k15 hk
          have D20 := Lib.hid hd20; clear hd20 hk
          refine fc_step rfl (fun K hK => ?_)
          go_simp
          (with_reducible refine (F.out A20 c20 _ D20.out).mono ?_)
          rintro e w21 ⟨P21, q21, rfl, hd21, hk⟩
          refine hK _ _ hk ?_
          clear hK K
          have k21 := keep_trans k20 hk
          have D21 := Lib.hid hd21; clear hd21 hk
          refine fc_step rfl (fun K hK => ?_)
          go_simp
          (with_reducible refine (F.out As cs _ (HS.out _ k21)).mono ?_)
          rintro e w22 ⟨P22, q22, rfl, hd22, hk⟩
          refine hK _ _ hk ?_
          clear hK K
          have k22 := keep_trans k21 hk
          have D22 := Lib.hid (hd22 _ (Below.refl _ _)); have E22 := Lib.hid (D21.out _ hk); clear hd22 hk
          refine fc_step rfl (fun K hK => ?_)
          go_simp
          (with_reducible refine (S.out _ _ _ _ _ _ _ _ _ E22.out D22.out).mono ?_)
          rintro e w23 ⟨rfl, hk⟩
          refine hK _ _ hk ?_
          clear hK K
          have k23 := keep_trans k22 hk
          clear hk
          refine fc_nil ?_
          have ⟨a0, a1, a2, a3, a4, a5⟩ := Cells.out w23 k23
          refine mv_take w23 (Below.refl _ _) ?_
          repeat (go_big_quiet_step (fail))
          refine wpQuiet_nil ?_
          clear a0 a1 a2 a3 a4 a5
          refine mv_force ?_
          refine fc_step rfl (fun K hK => ?_)
          go_simp
          (with_reducible refine (C4.out _ k23).mono ?_)
          rintro e w24 ⟨A24, c24, rfl, hv24, hk⟩
          refine hK _ _ hk ?_
          clear hK K
          have k24 := keep_trans k23 hk
          have V24 := Lib.hid hv24; clear hv24 hk
          refine fc_nil ?_
          have ⟨a0, a1, a2, a3, a4, a5⟩ := Cells.out w24 k24
          have v24 := fun x => V24.out _ (aft_keep w24 x)
          refine mv_take w24 (Below.refl _ _) ?_
          repeat (go_big_quiet_step (fail))
          refine wpQuiet_nil ?_
          clear a0 a1 a2 a3 a4 a5 v24
          refine mv_end ?_
          go_wp2
          go_ret
          exact ⟨rfl, keep_trans kL k24⟩
end Go.Proofs.Ytpllginlgkhkmaa
