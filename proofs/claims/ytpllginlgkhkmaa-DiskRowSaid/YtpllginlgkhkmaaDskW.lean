import Derived.Test.YtpllginlgkhkmaaDskV
import Derived.Test.YtpllginlgkhkmaaMov
set_option linter.unusedSimpArgs false
set_option linter.unusedVariables false
namespace Go.Proofs.Ytpllginlgkhkmaa
open Go.RowKit
attribute [local go_sem ↓] Go.wp_at_zero Go.wp_at_succ

set_option maxRecDepth 100000 in
set_option maxHeartbeats 4000000 in
theorem row_walk (A : Option Addr) (b : List UInt8) (c : Nat) (PA : Option Addr) (ws : List WriteR) (pc : Nat) (at_ : Int) (D : Option Addr) (data : List UInt8) (cd : Nat) (B : Option Addr) (plan : List UInt8) (cp : Nat) (w : World) (h : DOk w A b c PA ws pc)
    (hat : -9223372036854775808 ≤ at_ ∧ at_ ≤ 9223372036854775807) (hd : Rd w D (data.map u8v)) (hdc : data.length ≤ cd) (hcd : cd ≤ 9223372036854775807) (hp : Rd w B (plan.map u8v)) (hpl : plan.length ≤ cp) (hcp : cp ≤ 9223372036854775807) :
    Calls Try.prog 6 #[DV A b.length c PA ws.length pc, .int .i64 at_, .slice D data.length cd, .slice B plan.length cp] w fun e w' => e = .returned (.bool true) ∧ Keep w w' := by
  have hpl0 := h.pl; have hpm := h.pm; have hbc := h.bc; have hcm := h.cm
  unfold maxLen at hpm hcm
  go_enter Try.func6, Try.ntmps6
  go_wp2_with fail
  refine (awake_any _).mono ?_
  rintro e w1 ⟨rfl, hk1⟩
  have b0 := keep_box hk1 0 _ rfl; have b1 := keep_box hk1 1 _ rfl
  have k1 := keep_trans (keep_new w _) hk1; clear hk1
  go_wp2_with fail
  refine (few_any _ _ _ _ _ _ _ (by omega) (by omega)).mono ?_
  rintro e w2 ⟨rfl, hk2⟩
  replace b0 := keep_cell hk2 b0; replace b1 := keep_cell hk2 b1
  have k2 := keep_trans k1 hk2; clear k1 hk2
  cases hf : fewD b.length ws.length with
  | false => go_wp2_with fail; go_ret; exact ⟨rfl, k2⟩
  | true =>
    have hfew := of_decide_eq_true hf; clear hf
    by_cases hq0 : 200 < data.length
    · have hq0' : (200 : Int) < (data.length : Int) := by omega
      go_wp2_with fail; go_ret; exact ⟨rfl, k2⟩
    have hq0' : (data.length : Int) ≤ 200 := by omega
    clear hq0
    by_cases hq1 : 400 < plan.length
    · have hq1' : (400 : Int) < (plan.length : Int) := by omega
      go_wp2_with fail; go_ret; exact ⟨rfl, k2⟩
    have hq1' : (plan.length : Int) ≤ 400 := by omega
    clear hq1
    by_cases hm32 : data.length % 32 = 0
    case neg =>
      have hm32' : ((data.length : Int) % 32 != 0) = true := by simp; omega
      clear hm32; go_wp2_with fail; go_ret; exact ⟨rfl, k2⟩
    have hm32' : ((data.length : Int) % 32 != 0) = false := by simp; omega
    have Hm32 := Lib.hid hm32; clear hm32
    go_wp2_with fail
    refine (drive_any A b c PA ws pc w2 (h.keep k2) (by omega)).mono ?_
    rintro e w3 ⟨PA3, pc3, rfl, hd3, hk3⟩
    replace b0 := keep_cell hk3 b0; replace b1 := keep_cell hk3 b1
    have k3 := keep_trans k2 hk3; clear k2 hk3
    go_wp2_with fail
    refine (sane_any A b c PA3 ws pc3 w3 (hd3 _ (Below.refl _ _))).mono ?_
    rintro e w4 ⟨rfl, hk4⟩
    replace b0 := keep_cell hk4 b0; replace b1 := keep_cell hk4 b1
    have k4 := keep_trans k3 hk4; clear k3 hk4 hd3
    cases hs : saneD b.length ws with
    | false => go_wp2_with fail; go_ret; exact ⟨rfl, k4⟩
    | true =>
      have Hsp := Lib.hid (show saneP b.length (ws.map WriteR.pl) = true by rw [← sane_pl]; exact hs); clear hs
      go_wp2_with fail
      refine (drive_any A b c PA ws pc w4 (h.keep k4) (by omega)).mono ?_
      rintro e w5 ⟨PA5, pc5, rfl, hd5, hk5⟩
      have k5 := keep_trans k4 hk5; clear k4 hk5 b0 b1
      have Hd5 := Lib.hid hd5; clear hd5
      obtain ⟨Hp, hHp⟩ : ∃ H, H = w5.heap.size := ⟨_, rfl⟩
      obtain ⟨Wp, hWp⟩ : ∃ W, W = w5.alloc (.cells #[.slice A b.length c, .slice PA5 ws.length pc5] 31) := ⟨_, rfl⟩
      have p0 : Wp.cell? ⟨Hp, 0, none⟩ = some (.slice A b.length c) := by rw [hWp, hHp]; go_simp
      have p1 : Wp.cell? ⟨Hp, 1, none⟩ = some (.slice PA5 ws.length pc5) := by rw [hWp, hHp]; go_simp
      have Kp : Keep w5 Wp := by rw [hWp]; exact keep_new _ _
      have QWp := Lib.hid hWp; have QHp := Lib.hid hHp; clear hWp hHp
      go_wp2_with fail
      rw [← QWp.out, ← QHp.out]
      refine (lay_any A b c PA5 ws pc5 at_ D data cd _ w5 Kp (Hd5.out _ (Below.refl _ _)) (hd.keep k5) (by omega) hat).mono ?_
      rw [tkB_pl Hsp.out, layD_pl rfl Hsp.out]
      have hrow := row_law Hsp.out at_ Hm32.out
      have hcl := crashD_pl (plan := plan) rfl Hsp.out
      have hrs := fun k => row_sane (b := b) k data Hsp.out
      have herr : (layP b (ws.map WriteR.pl) at_ data).2 = 0 ∨ (layP b (ws.map WriteR.pl) at_ data).2 = 14 := by
        have := layD_err b ws at_ data
        rw [layD_pl rfl Hsp.out] at this
        exact this.imp id fun h => h.1
      have hls := layP_sane Hsp.out at_ data
      rintro e w6 ⟨A6, c6, PA6, pc6, vx, rfl, hvx, hd6, hk6⟩
      have hvl : vx.length ≤ 100000 := by
        rw [← hvx] at hls
        have := (of_decide_eq_true (Bool.and_eq_true_iff.1 hls).1).2.2
        rwa [List.length_map] at this
      generalize hLP : layP b (ws.map WriteR.pl) at_ data = LP at hrow herr hvx ⊢
      obtain ⟨LP1, er⟩ := LP
      simp only at hrow herr hvx
      dsimp only
      have Hrow := Lib.hid hrow; have Hvx := Lib.hid hvx; have Hrs := Lib.hid hrs; have Herr := Lib.hid herr
      clear hrow hvx hrs hls hLP hcl herr
      replace p0 := keep_cell hk6 p0; replace p1 := keep_cell hk6 p1
      have k6 := keep_trans (keep_trans k5 Kp) hk6
      have K56 := Lib.hid (keep_trans Kp hk6)
      have Hd6 := Lib.hid hd6
      clear hk6 k5 Kp hd6
      obtain ⟨Hx, hHx⟩ : ∃ H, H = w6.heap.size := ⟨_, rfl⟩
      obtain ⟨Wx, hWx⟩ : ∃ W, W = w6.alloc (.cells #[.slice A6 b.length c6, .slice PA6 vx.length pc6] 31) := ⟨_, rfl⟩
      have x0 : Wx.cell? ⟨Hx, 0, none⟩ = some (.slice A6 b.length c6) := by rw [hWx, hHx]; go_simp
      have x1 : Wx.cell? ⟨Hx, 1, none⟩ = some (.slice PA6 vx.length pc6) := by rw [hWx, hHx]; go_simp
      have Kx : Keep w6 Wx := by rw [hWx]; exact keep_new _ _
      have QWx := Lib.hid hWx; have QHx := Lib.hid hHx; clear hWx hHx
      replace p0 := keep_cell Kx p0; replace p1 := keep_cell Kx p1
      go_upto_region 6 with fail
      rw [← QWx.out, ← QHx.out]
      have zp := cell_lt p0; have zx := cell_lt x0
      have kx := keep_trans k6 Kx
      have K5x := Lib.hid (keep_trans K56.out Kx)
      have K6x := Lib.hid Kx
      clear Kx
      obtain ⟨Hy, hHy⟩ : ∃ H, H = Wx.heap.size := ⟨_, rfl⟩
      obtain ⟨Wy, hWy⟩ : ∃ W, W = Wx.alloc (.cells #[.slice A b.length c, .slice PA5 ws.length pc5] 31) := ⟨_, rfl⟩
      have y0 : Wy.cell? ⟨Hy, 0, none⟩ = some (.slice A b.length c) := by rw [hWy, hHy]; go_simp
      have y1 : Wy.cell? ⟨Hy, 1, none⟩ = some (.slice PA5 ws.length pc5) := by rw [hWy, hHy]; go_simp
      have Ky : Keep Wx Wy := by rw [hWy]; exact keep_new _ _
      have QWy := Lib.hid hWy; have QHy := Lib.hid hHy; clear hWy hHy
      have g0 : Wy.frozen? ⟨Hy, 0, none⟩ = false := by rw [QWy.out, QHy.out]; go_simp
      have g1 : Wy.frozen? ⟨Hy, 1, none⟩ = false := by rw [QWy.out, QHy.out]; go_simp
      go_upto_region 8 with fail
      rw [← QWy.out, ← QHy.out]
      have P0 := Lib.hid p0; have P1 := Lib.hid p1; have X0 := Lib.hid x0; have X1 := Lib.hid x1
      replace p0 := keep_cell Ky p0; replace p1 := keep_cell Ky p1; replace x0 := keep_cell Ky x0; replace x1 := keep_cell Ky x1
      go_cut [15] (fun v wx => v = .int .i64 (max (-1) (min at_ 100000)) ∧ Wy = wx)
      case first =>
        rcases (show at_ < 0 ∨ 100000 < at_ ∨ (0 ≤ at_ ∧ at_ ≤ 100000) by omega) with hc | hc | ⟨hc, hc'⟩
        · have e : max (-1) (min at_ 100000) = -1 := by omega
          have E := Lib.hid e; clear e
          go_wp2
          go_meet
          exact ⟨by rw [E.out], rfl⟩
        · have e : max (-1) (min at_ 100000) = 100000 := by omega
          have E := Lib.hid e; clear e
          go_wp2
          go_meet
          exact ⟨by rw [E.out], rfl⟩
        · have e : max (-1) (min at_ 100000) = at_ := by omega
          have E := Lib.hid e; clear e
          go_wp2
          go_meet
          exact ⟨by rw [E.out], rfl⟩
      case rest =>
        obtain ⟨rfl, hcw⟩ := hcut
        subst hcw
        obtain ⟨kk, hkk⟩ : ∃ kk, kk = max (-1) (min at_ 100000) := ⟨_, rfl⟩
        have hkb : -1 ≤ kk ∧ kk ≤ 100000 := by omega
        obtain ⟨hkb1, hkb2⟩ := hkb
        rw [← hkk] at Hrow ⊢
        have Hkk := Lib.hid hkk; clear hkk
        have hn200 : data.length ≤ 200 := by omega
        have hHyW : Hy < Wy.heap.size := cell_lt y0
        have hyD : Hid (∀ W, Ex Hy Wy W → DOk W A b c PA5 ws pc5) := fun W hW => (Hd5.out Wx K5x.out).blocks fun k hk => (hW.2 k (Nat.lt_of_lt_of_le hk Ky.size) (by rw [QHy.out]; omega)).trans (Ky.block k hk)
        have hHx : Wx.heap.size ≤ Hy := by rw [QHy.out]; omega
        go_wp2_with fail
        go_loopw [14, 16] (fun o i wr => ∃ (r q : Nat) (okb : Bool) (Ay : Option Addr) (cy : Nat) (PAy : Option Addr) (pcy : Nat) (vs : List WriteR), r ≤ data.length / 32 ∧ Hid (q = 32 * r) ∧ i = .int .i64 q ∧ o = .bool okb ∧
            wr.cell? ⟨Hy, 0, none⟩ = some (.slice Ay b.length cy) ∧ wr.cell? ⟨Hy, 1, none⟩ = some (.slice PAy vs.length pcy) ∧ wr.frozen? ⟨Hy, 0, none⟩ = false ∧ wr.frozen? ⟨Hy, 1, none⟩ = false ∧
            Hid (okb = (rowP b (ws.map WriteR.pl) kk data r).1) ∧ Hid (vs.map WriteR.pl = (rowP b (ws.map WriteR.pl) kk data r).2) ∧ Hid (∀ W, Ex Hy wr W → DOk W Ay b cy PAy vs pcy) ∧ Keep Wx wr ∧ Wy.heap.size ≤ wr.heap.size)
          (fun _ i _ => data.length - (intOf i).toNat)
        case atStart => exact ⟨0, 0, true, A, c, PA5, pc5, ws, Nat.zero_le _, Lib.hid rfl, rfl, rfl, y0, y1, g0, g1, Lib.hid rfl, Lib.hid rfl, hyD, Ky, Nat.le_refl _⟩
        case round =>
          obtain ⟨r, q, okb, Ay, cy, PAy, pcy, vs, hr, hq, rfl, rfl, a0, a1, f0, f1, hok, hvs, hyd, hkr, hwr⟩ := hrel
          obtain ⟨wo, rfl⟩ : ∃ wo : World, wo = wr := ⟨_, rfl⟩
          have hHo : Hy < wo.heap.size := by omega
          by_cases hlt : r < data.length / 32
          · have hlt' : (q : Int) + 32 ≤ (data.length : Int) := by have := hq.out; omega
            have hqd : (q : Int) / 32 = (r : Int) := by have := hq.out; omega
            have hqc : q + 32 ≤ cd := by omega
            have h32r : 32 * r + 32 ≤ data.length := by omega
            have hsl := sec_len h32r
            have Hsl := Lib.hid hsl; clear hsl
            have hvsS : saneP b.length (vs.map WriteR.pl) = true := by rw [hvs.out]; exact Hrs.out kk r
            have PC : Hid (∀ W' G, Keep wo W' → (G = Hy ∨ (wo.heap.size ≤ G ∧ G < W'.heap.size)) → Calls Try.prog 19 #[DV Ay b.length cy PAy vs.length pcy, .int .i64 (kk + r), .slice (Option.map (fun x => x.add q) D) 32 (cd - q)] W' fun e w' =>
                ∃ A' c' PA' pc' vs', e = .returned (.tuple #[DV A' b.length c' PA' vs'.length pc', .int .i64 (layP b (vs.map WriteR.pl) (kk + r) (sec data r)).2]) ∧ Hid (vs'.map WriteR.pl = (layP b (vs.map WriteR.pl) (kk + r) (sec data r)).1) ∧ Hid (∀ W, Ex2 Hy G w' W → DOk W A' b c' PA' vs' pc') ∧ Keep W' w') := fun W' G hW hG => by
              have hrd : Rd W' (Option.map (fun x => x.add q) D) ((sec data r).map u8v) := by
                unfold sec
                rw [← hq.out, List.map_take, List.map_drop]
                exact ((hd.keep (keep_trans (keep_trans kx hkr) hW)).dropN (by rw [List.length_map]; have := hq.out; omega)).take 32
              have h1 := put_anyF Ay b cy PAy vs pcy (kk + r) (Option.map (fun x => x.add q) D) (sec data r) (cd - q) W' (fun W => Ex2 Hy G W' W) (fun W h => Ex2.of_keep h) (fun W h => hyd.out W ⟨Nat.le_trans hW.size h.1, fun k hk hn => (h.2 k (Nat.lt_of_lt_of_le hk hW.size) hn (by omega)).trans (hW.block k hk)⟩) hrd (by rw [Hsl.out]; omega) (by omega)
              have e1 : putD b vs (kk + r) (sec data r) = layP b (vs.map WriteR.pl) (kk + r) (sec data r) := by
                unfold putD; rw [if_pos Hsl.out, layD_pl rfl hvsS]
              rw [tkB_pl hvsS, e1, Hsl.out] at h1
              refine h1.mono fun e w' ⟨A', c', PA', pc', vs', he, hv, hdd, hk⟩ => ⟨A', c', PA', pc', vs', he, hv, fun W hWx => hdd W ⟨(Ex2.of_keep hk).trans hWx, fun k hk1 hk2 => hWx.2 k hk2 (by have := hW.size; omega) (by have := hW.size; omega)⟩, hk⟩
            go_upto_region 12 with fail
            have e2c : (layP b (vs.map WriteR.pl) (kk + r) (sec data r)).2 = 0 ∨ (layP b (vs.map WriteR.pl) (kk + r) (sec data r)).2 = 14 := by
              have := layD_err b vs (kk + r) (sec data r)
              rw [layD_pl rfl hvsS] at this
              exact this.imp id fun h => h.1
            have hstep : rowP b (ws.map WriteR.pl) kk data (r + 1) = (okb && decide ((layP b (vs.map WriteR.pl) (kk + r) (sec data r)).2 = 0), (layP b (vs.map WriteR.pl) (kk + r) (sec data r)).1) := by
              rw [hok.out, hvs.out]; rfl
            generalize layP b (vs.map WriteR.pl) (kk + r) (sec data r) = LQ at PC e2c hstep
            obtain ⟨LQ1, e2⟩ := LQ
            simp only at e2c hstep
            have Hstep := Lib.hid hstep; clear hstep hvsS
            go_cut [17, 18] (fun p f wx => ∃ (g : Nat) (A' : Option Addr) (c' : Nat) (PA' : Option Addr) (pc' : Nat) (vs' : List WriteR), p = .pointer (some ⟨g, 0, none⟩) ∧ f = .int .i64 e2 ∧ wx.cell? ⟨g, 0, none⟩ = some (.slice A' b.length c') ∧ wx.cell? ⟨g, 1, none⟩ = some (.slice PA' vs'.length pc') ∧
              Hid (vs'.map WriteR.pl = LQ1) ∧ Hid (∀ W, Ex Hy wx W → DOk W A' b c' PA' vs' pc') ∧ wo.heap.size ≤ g ∧ Keep wo wx)
            case first =>
              have h0q : (0 : Int) ≤ (q : Int) := by omega
              have hq32 : (0 : Int) ≤ (q : Int) + 32 := by omega
              have hqd2 : (q : Int) + 32 ≤ (cd : Int) := by omega
              have hqw : IntKind.i64.wrap ((q : Int) + 32) = (q : Int) + 32 := IntWalk.i64_in _ (by omega)
              have hkw : IntKind.i64.wrap (kk + (r : Int)) = kk + (r : Int) := IntWalk.i64_in _ (by omega)
              have hdr1 : (if cd = q then D else Option.map (fun x => x.add q) D) = Option.map (fun x => x.add q) D := if_neg (by omega)
              go_wp2_with fail
              refine wp_region_tree (.take [0,1,2,3,4,5,6,7,8,9] (.fork 10 (.take [11,12,13] (.force [14] .done)) 14 (.force [10] (.take [11,12,13] .done)))) [15,16] (by kernel_rfl) (by kernel_rfl) (fun w9 k9 => ?_)
              have b0 := aft_cell (keep_cell k9 a0); have b1 := aft_cell (keep_cell k9 a1)
              refine mt_take w9 (Below.refl _ _) ?_
              simp only [pick_cons, pick_nil, nth_zero, nth_succ]
              repeat (go_big_quiet_step (fail))
              refine wpQuiet_nil ?_
              clear b0 b1
              refine mt_fork ?_ ?_
              · simp only [pick_cons, pick_nil, nth_zero, nth_succ]
                refine fc_step rfl (fun K hK => ?_)
                go_simp
                (with_reducible refine (PC.out _ Hy k9 (.inl rfl)).mono ?_)
                rintro e w10 ⟨A', c', PA', pc', vs', rfl, hv', hd', hk⟩
                refine hK _ _ hk ?_
                clear hK K
                refine fc_nil (mt_take w10 (Below.refl _ _) ?_)
                simp only [pick_cons, pick_nil, nth_zero, nth_succ]
                repeat (go_big_quiet_step (fail))
                refine wpQuiet_nil (mt_force ?_)
                simp only [pick_cons, pick_nil, nth_zero, nth_succ]
                refine fc_step rfl (fun K hK => ?_)
                go_simp
                refine hK _ _ (keep_new _ _) ?_
                clear hK K
                refine fc_nil (mt_end ?_)
                go_wp2
                go_meet
                exact ⟨w10.heap.size, A', c', PA', pc', vs', rfl, rfl, box_cell _ _ _ 0, box_cell _ _ _ 1, hv', fun W hW => hd'.out W (Ex2.of_ex ((Ex.of_keep (keep_new _ _)).trans hW)), (keep_trans k9 hk).size, keep_trans (keep_trans k9 hk) (keep_new _ _)⟩
              · simp only [pick_cons, pick_nil, nth_zero, nth_succ]
                refine fc_step rfl (fun K hK => ?_)
                go_simp
                refine hK _ _ (keep_new _ _) ?_
                clear hK K
                obtain ⟨w8, hw8⟩ : ∃ w8, w8 = w9.alloc (.cells #[.slice none 0 0, .slice none 0 0] 31) := ⟨_, rfl⟩
                obtain ⟨G, hG⟩ : ∃ G, G = w9.heap.size := ⟨_, rfl⟩
                have m0 : w8.cell? ⟨G, 0, none⟩ = some (.slice none 0 0) := by rw [hw8, hG]; exact box_cell _ _ _ 0
                have m1 : w8.cell? ⟨G, 1, none⟩ = some (.slice none 0 0) := by rw [hw8, hG]; exact box_cell _ _ _ 1
                have n0 : w8.frozen? ⟨G, 0, none⟩ = false := by rw [hw8, hG]; go_simp
                have n1 : w8.frozen? ⟨G, 1, none⟩ = false := by rw [hw8, hG]; go_simp
                have k8 : Keep wo w8 := by rw [hw8]; exact keep_trans k9 (keep_new _ _)
                have hG1 : wo.heap.size ≤ G ∧ G < w8.heap.size := ⟨by rw [hG]; exact k9.size, cell_lt m0⟩
                rw [← hw8, ← hG]
                clear hw8 hG k9
                refine fc_nil (mt_force ?_)
                simp only [pick_cons, pick_nil, nth_zero, nth_succ]
                refine fc_step rfl (fun K hK => ?_)
                go_simp
                (with_reducible refine (PC.out _ G k8 (.inr hG1)).mono ?_)
                rintro e w10 ⟨A', c', PA', pc', vs', rfl, hv', hd', hk⟩
                refine hK _ _ hk ?_
                clear hK K
                replace n0 := keep_frozen hk (cell_lt m0) n0; replace n1 := keep_frozen hk (cell_lt m0) n1
                replace m0 := keep_cell hk m0; replace m1 := keep_cell hk m1
                refine fc_nil (mt_take w10 (Below.refl _ _) ?_)
                simp only [pick_cons, pick_nil, nth_zero, nth_succ]
                repeat (go_big_quiet_step (fail))
                refine wpQuiet_nil (mt_end ?_)
                go_wp2
                go_meet
                refine ⟨G, A', c', PA', pc', vs', rfl, rfl, by go_simp, by go_simp, hv', fun W hW => hd'.out W (Ex2.trans (Ex2.set_ (Ex2.set_ (Ex2.of_keep (Below.refl _ _)) 0 _) 1 _) (Ex2.of_ex hW)), hG1.1, ((keep_trans k8 hk).setCell hG1.1 _).setCell hG1.1 _⟩
            case rest =>
              obtain ⟨g, A', c', PA', pc', vs', rfl, rfl, e0, e1, hv', hd', hg, hkc⟩ := hcut
              have p0' := keep_frozen hkc hHo f0; have p1' := keep_frozen hkc hHo f1
              have y0' := keep_cell hkc a0; have y1' := keep_cell hkc a1
              have hgH : g ≠ Hy := by omega
              have hkX := keep_trans hkr hkc
              have hsz := hkc.size
              clear a0 a1 f0 f1
              rcases e2c with rfl | rfl <;> cases okb
              all_goals
                go_wp2
                go_roundw
                case rel =>
                  refine ⟨r + 1, q + 32, _, A', c', PA', pc', vs', by omega, Lib.hid (by rw [hq.out]; omega), by go_num, rfl, by go_simp, by go_simp, by go_simp, by go_simp, Lib.hid (by rw [Hstep.out]; rfl), Lib.hid (by rw [Hstep.out]; exact hv'.out), Lib.hid (fun W hW => hd'.out W (((Ex.of_keep (Below.refl _ _)).set_ 0 _ |>.set_ 1 _).trans hW)), (hkX.setCell hHx _).setCell hHx _, by simp; omega⟩
                case measure => simp [intOf]; omega
          · obtain rfl : r = data.length / 32 := by omega
            have hlt' : (data.length : Int) < (q : Int) + 32 := by have := hq.out; have := Hm32.out; omega
            have hqb : (q : Int) ≤ 200 := by have := hq.out; omega
            have hlt3 : decide ((q : Int) + 32 ≤ (data.length : Int)) = false := decide_eq_false (by omega)
            clear hlt
            have p0 := keep_cell hkr P0.out; have p1 := keep_cell hkr P1.out; have x0 := keep_cell hkr X0.out; have x1 := keep_cell hkr X1.out
            have kO := keep_trans kx hkr
            have K5o := Lib.hid (keep_trans K5x.out hkr)
            have K6o := Lib.hid (keep_trans K6x.out hkr)
            clear hkr
            go_wp2_with fail
            refine (sync_any A b c PA5 ws pc5 _ (Hd5.out _ K5o.out)).mono ?_
            have hsb := bytesD_pl rfl Hsp.out
            have hsn : (bytesD b ws).length = b.length := by rw [hsb]; exact bytesP_len b.length _ b rfl (sane_all Hsp.out)
            have hs0 : saneP (bytesD b ws).length [] = true := by rw [hsn]; exact sane_nil Hsp.out
            have q2 : bytesD (bytesD b ws) [] = bytesD b ws := bytesD_pl (ps := []) rfl hs0
            have Q2 := Lib.hid q2; clear q2 hs0 hsn hsb
            obtain ⟨sb, hsb⟩ : ∃ sb, sb = bytesD b ws := ⟨_, rfl⟩
            rw [← hsb] at Q2
            rw [← hsb]
            clear hsb
            rintro e w7 ⟨As, cs, rfl, hd7, hk7⟩
            have Hd7 := Lib.hid hd7; clear hd7
            have kk7 := keep_trans kO hk7
            obtain ⟨Hs, hHs⟩ : ∃ H, H = w7.heap.size := ⟨_, rfl⟩
            obtain ⟨Ws, hWs⟩ : ∃ W, W = w7.alloc (.cells #[.slice As sb.length cs, .slice none 0 0] 31) := ⟨_, rfl⟩
            have s0 : Ws.cell? ⟨Hs, 0, none⟩ = some (.slice As sb.length cs) := by rw [hWs, hHs]; go_simp
            have s1 : Ws.cell? ⟨Hs, 1, none⟩ = some (.slice none 0 0) := by rw [hWs, hHs]; go_simp
            have Ks : Keep w7 Ws := by rw [hWs]; exact keep_new _ _
            have QWs := Lib.hid hWs; have QHs := Lib.hid hHs; clear hWs hHs
            go_upto_region 16 with fail
            rw [← QWs.out, ← QHs.out]
            have k7s := keep_trans hk7 Ks
            have Kss := Lib.hid Ks; clear Ks hk7
            replace p0 := keep_cell k7s p0; replace p1 := keep_cell k7s p1
            go_wp2_with fail
            refine (crash_any A b c PA5 ws pc5 B plan cp Ws (Hd5.out _ (keep_trans K5o.out k7s)) (hp.keep (keep_trans kO k7s)) (by omega)).mono ?_
            have hcl := crashD_pl (plan := plan) rfl Hsp.out
            have hcn : (crashD b ws plan).length = b.length := by rw [hcl]; exact crashP_len plan b.length _ 0 b rfl (sane_all Hsp.out)
            have q1 : crashD (crashD b ws plan) [] plan = crashD b ws plan := crashD_pl (ps := []) rfl (by rw [hcn]; exact sane_nil Hsp.out)
            have Q1 := Lib.hid q1; clear q1 hcl hcn
            obtain ⟨cr, hcr⟩ : ∃ cr, cr = crashD b ws plan := ⟨_, rfl⟩
            rw [← hcr] at Q1
            rw [← hcr]
            clear hcr
            rintro e w8 ⟨A8, c8, rfl, hown8, hk8⟩
            have Hd8 := Lib.hid (DOk.own hown8); clear hown8
            obtain ⟨Hq, hHq⟩ : ∃ H, H = w8.heap.size := ⟨_, rfl⟩
            obtain ⟨Wq, hWq⟩ : ∃ W, W = w8.alloc (.cells #[.slice A8 cr.length c8, .slice none 0 0] 31) := ⟨_, rfl⟩
            have q0 : Wq.cell? ⟨Hq, 0, none⟩ = some (.slice A8 cr.length c8) := by rw [hWq, hHq]; go_simp
            have q1 : Wq.cell? ⟨Hq, 1, none⟩ = some (.slice none 0 0) := by rw [hWq, hHq]; go_simp
            have Kq : Keep w8 Wq := by rw [hWq]; exact keep_new _ _
            have QWq := Lib.hid hWq; have QHq := Lib.hid hHq; clear hWq hHq
            go_upto_region 17 with fail
            rw [← QWq.out, ← QHq.out]
            have K8 := keep_trans (keep_trans k7s hk8) Kq
            have Ksq := Lib.hid (keep_trans hk8 Kq)
            replace s0 := keep_cell Ksq.out s0; replace s1 := keep_cell Ksq.out s1
            have KL := keep_trans kO K8
            replace p0 := keep_cell Ksq.out p0; replace p1 := keep_cell Ksq.out p1; replace x0 := keep_cell K8 x0; replace x1 := keep_cell K8 x1
            have y0 := keep_cell K8 a0; have y1 := keep_cell K8 a1
            have Kqq := Lib.hid Kq
            obtain ⟨hr1, hr2, hr3⟩ := Hrow.out
            have hvsl : vs.length ≤ 100000 := by
              have h1 := Hrs.out kk (data.length / 32)
              rw [← hvs.out] at h1
              have := (of_decide_eq_true (Bool.and_eq_true_iff.1 h1).1).2.2
              rwa [List.length_map] at this
            have hokE : okb = decide (er = 0) := hok.out.trans hr1
            have HS : Hid (∀ W', Keep Wq W' → DOk W' As sb cs none [] 0) := fun W' hW => Hd7.out _ (keep_trans Kss.out (keep_trans Ksq.out hW))
            have HC : Hid (∀ W', Keep Wq W' → DOk W' A8 cr c8 none [] 0) := fun W' hW => Hd8.out.keep (keep_trans Kqq.out hW)
            have HO : Hid (∀ W', Keep Wq W' → DOk W' A b c PA5 ws pc5) := fun W' hW => Hd5.out _ (keep_trans K5o.out (keep_trans K8 hW))
            have HX : Hid (∀ W', Keep Wq W' → DOk W' A6 b c6 PA6 vx pc6) := fun W' hW => Hd6.out _ (Mid.of_keep K56.out (keep_trans K6o.out (keep_trans K8 hW)))
            have HY : Hid (∀ W', Keep Wq W' → DOk W' Ay b cy PAy vs pcy) := fun W' hW => hyd.out _ (Ex.of_keep (keep_trans K8 hW))
            have HP : Hid (∀ W', Keep Wq W' → Rd W' B (plan.map u8v)) := fun W' hW => hp.keep (keep_trans KL hW)
            have Hcells : Hid (∀ W', Keep Wq W' → (∀ x, (aft W' x).cell? ⟨Hx, 0, none⟩ = some (.slice A6 b.length c6)) ∧ (∀ x, (aft W' x).cell? ⟨Hx, 1, none⟩ = some (.slice PA6 vx.length pc6)) ∧ (∀ x, (aft W' x).cell? ⟨Hy, 0, none⟩ = some (.slice Ay b.length cy)) ∧ (∀ x, (aft W' x).cell? ⟨Hy, 1, none⟩ = some (.slice PAy vs.length pcy)) ∧
                (∀ x, (aft W' x).cell? ⟨Hp, 0, none⟩ = some (.slice A b.length c)) ∧ (∀ x, (aft W' x).cell? ⟨Hp, 1, none⟩ = some (.slice PA5 ws.length pc5)) ∧ (∀ x, (aft W' x).cell? ⟨Hs, 0, none⟩ = some (.slice As sb.length cs)) ∧ (∀ x, (aft W' x).cell? ⟨Hs, 1, none⟩ = some (.slice none 0 0)) ∧ (∀ x, (aft W' x).cell? ⟨Hq, 0, none⟩ = some (.slice A8 cr.length c8)) ∧ (∀ x, (aft W' x).cell? ⟨Hq, 1, none⟩ = some (.slice none 0 0))) :=
              fun W' hW => ⟨aft_cell (keep_cell hW x0), aft_cell (keep_cell hW x1), aft_cell (keep_cell hW y0), aft_cell (keep_cell hW y1), aft_cell (keep_cell hW p0), aft_cell (keep_cell hW p1), aft_cell (keep_cell hW s0), aft_cell (keep_cell hW s1), aft_cell (keep_cell hW q0), aft_cell (keep_cell hW q1)⟩
            have C1 : Hid (∀ W', Keep Wq W' → Calls Try.prog 13 #[DV A8 cr.length c8 none 0 0, .slice B plan.length cp] W' fun e w' => ∃ A' c', e = .returned (DV A' cr.length c' none 0 0) ∧ DOk w' A' cr c' none [] 0 ∧ Keep W' w') := fun W' hW => by
              have h1 := crash_any A8 cr c8 none [] 0 B plan cp W' (HC.out W' hW) (HP.out W' hW) (by omega)
              rw [Q1.out] at h1
              exact h1.mono fun e w' ⟨A', c', he, ho, hk⟩ => ⟨A', c', he, DOk.own ho, hk⟩
            have C2 : Hid (∀ W', Keep Wq W' → Calls Try.prog 18 #[DV As sb.length cs none 0 0] W' fun e w' => ∃ A' c', e = .returned (DV A' sb.length c' none 0 0) ∧ (∀ W, Keep w' W → DOk W A' sb c' none [] 0) ∧ Keep W' w') := fun W' hW => by
              have h1 := sync_any As sb cs none [] 0 W' (HS.out W' hW)
              rw [Q2.out] at h1
              exact h1
            have F : Hid (∀ A' l c' W', DOk W' A' l c' none [] 0 → Calls Try.prog 16 #[DV A' l.length c' none 0 0] W' fun e w' => ∃ PA' pc', e = .returned (DV A' l.length c' PA' 0 pc') ∧ (∀ W, Keep w' W → DOk W A' l c' PA' [] pc') ∧ Keep W' w') :=
              fun A' l c' W' hd => flat_any A' l c' none [] 0 W' hd (by simp)
            have G : Hid (∀ A' c' P' l q' W', l.length ≤ 200000 → DOk W' A' b c' P' l q' → Calls Try.prog 16 #[DV A' b.length c' P' l.length q'] W' fun e w' => ∃ PA' pc', e = .returned (DV A' b.length c' PA' l.length pc') ∧ (∀ W, Keep w' W → DOk W A' b c' PA' l pc') ∧ Keep W' w') :=
              fun A' c' P' l q' W' hl hd => flat_any A' b c' P' l q' W' hd hl
            have S : Hid (∀ A1 l c1 P1 q1 A2 c2 P2 q2 W', DOk W' A1 l c1 P1 [] q1 → DOk W' A2 l c2 P2 [] q2 → Calls Try.prog 15 #[DV A1 l.length c1 P1 0 q1, DV A2 l.length c2 P2 0 q2] W' fun e w' => e = .returned (.bool true) ∧ Keep W' w') :=
              fun A1 l c1 P1 q1 A2 c2 P2 q2 W' h1 h2 => by
                have h3 := same_any A1 l c1 P1 [] q1 A2 l c2 P2 [] q2 W' h1 h2
                rw [show sameD l [] l [] = true from decide_eq_true ⟨rfl, rfl⟩] at h3; exact h3
            have SX : Hid (∀ A1 c1 P1 l1 q1 A2 c2 P2 l2 q2 W', l1.map WriteR.pl = l2.map WriteR.pl → DOk W' A1 b c1 P1 l1 q1 → DOk W' A2 b c2 P2 l2 q2 → Calls Try.prog 15 #[DV A1 b.length c1 P1 l1.length q1, DV A2 b.length c2 P2 l2.length q2] W' fun e w' => e = .returned (.bool true) ∧ Keep W' w') :=
              fun A1 c1 P1 l1 q1 A2 c2 P2 l2 q2 W' hl h1 h2 => by
                have h3 := same_any A1 b c1 P1 l1 q1 A2 b c2 P2 l2 q2 W' h1 h2
                rw [show sameD b l1 b l2 = true from decide_eq_true ⟨rfl, hl⟩] at h3; exact h3
            have hvx2 : vx.length ≤ 200000 := by omega
            have hvs2 : vs.length ≤ 200000 := by omega
            have hws2 : ws.length ≤ 200000 := by omega
            have hxy : er = 0 → vx.map WriteR.pl = vs.map WriteR.pl := fun he => by
              rw [Hvx.out, hvs.out, hr2 he]
            have hxo : er ≠ 0 → vx.map WriteR.pl = ws.map WriteR.pl := fun he => Hvx.out.trans (hr3 he)
            have Hxy := Lib.hid hxy; have Hxo := Lib.hid hxo
            clear hxy hxo hr1 hr2 hr3 x0 x1 y0 y1 p0 p1 s0 s1 q0 q1 a0 a1 hok hvs f0 f1
            rcases Herr.out with he | he
            · subst he
              have hokV : okb = true := by rw [hokE]; rfl
              subst hokV
              clear hokE
              have HXV := Lib.hid (Hxy.out rfl)
              clear Hxy Hxo
              go_wp2_with fail
              refine wp_region_tree (.take [0,1,2,3,4,5,6,7,8,9,10,11,13] (.force [12,14,15] (.take [16,17,18,19,22] (.force [20,21,23,24] (.take [25,26,27,28,31] (.force [29,30,32,33] (.take [34,35,36,37,38,40] (.force [39,41,42] (.take [43,44,45] .done))))))))) [] (by kernel_rfl) (by kernel_rfl) (fun w9 k9 => ?_)
              have ⟨a0, a1, a2, a3, a4, a5, a6, a7, a8, a9⟩ := Hcells.out w9 k9
              refine mt_take w9 (Below.refl _ _) ?_
              simp only [pick_cons, pick_nil, nth_zero, nth_succ]
              repeat (go_big_quiet_step (fail))
              refine wpQuiet_nil ?_
              clear a0 a1 a2 a3 a4 a5 a6 a7 a8 a9
              refine mt_force ?_
              simp only [pick_cons, pick_nil, nth_zero, nth_succ]
              refine fc_step rfl (fun K hK => ?_)
              go_simp
              (with_reducible refine (G.out _ _ _ _ _ _ hvx2 (HX.out _ k9)).mono ?_)
              rintro e w10 ⟨P10, q10, rfl, hd10, hk⟩
              refine hK _ _ hk ?_
              clear hK K
              have k10 := keep_trans k9 hk
              have D10 := Lib.hid hd10; clear hd10 hk
              refine fc_step rfl (fun K hK => ?_)
              go_simp
              (with_reducible refine (G.out _ _ _ _ _ _ hvs2 (HY.out _ k10)).mono ?_)
              rintro e w11 ⟨P11, q11, rfl, hd11, hk⟩
              refine hK _ _ hk ?_
              clear hK K
              have k11 := keep_trans k10 hk
              have D11 := Lib.hid (hd11 _ (Below.refl _ _)); have E11 := Lib.hid (D10.out _ hk); clear hd11 hk
              refine fc_step rfl (fun K hK => ?_)
              go_simp
              (with_reducible refine (SX.out _ _ _ _ _ _ _ _ _ _ _ HXV.out E11.out D11.out).mono ?_)
              rintro e w12 ⟨rfl, hk⟩
              refine hK _ _ hk ?_
              clear hK K
              have k12 := keep_trans k11 hk
              clear hk
              refine fc_nil ?_
              have ⟨a0, a1, a2, a3, a4, a5, a6, a7, a8, a9⟩ := Hcells.out w12 k12
              refine mt_take w12 (Below.refl _ _) ?_
              simp only [pick_cons, pick_nil, nth_zero, nth_succ]
              repeat (go_big_quiet_step (fail))
              refine wpQuiet_nil ?_
              clear a0 a1 a2 a3 a4 a5 a6 a7 a8 a9
              refine mt_force ?_
              simp only [pick_cons, pick_nil, nth_zero, nth_succ]
              refine fc_step rfl (fun K hK => ?_)
              go_simp
              (with_reducible refine (C2.out _ k12).mono ?_)
              rintro e w20 ⟨A20, c20, rfl, hd20, hk⟩
              refine hK _ _ hk ?_
              clear hK K
              have k20 := keep_trans k12 hk
              have D20 := Lib.hid (hd20 _ (Below.refl _ _)); clear hd20 hk
              refine fc_step rfl (fun K hK => ?_)
              go_simp
              (with_reducible refine (F.out A20 sb c20 _ D20.out).mono ?_)
              rintro e w21 ⟨P21, q21, rfl, hd21, hk⟩
              refine hK _ _ hk ?_
              clear hK K
              have k21 := keep_trans k20 hk
              have D21 := Lib.hid hd21; clear hd21 hk
              refine fc_step rfl (fun K hK => ?_)
              go_simp
              (with_reducible refine (F.out As sb cs _ (HS.out _ k21)).mono ?_)
              rintro e w22 ⟨P22, q22, rfl, hd22, hk⟩
              refine hK _ _ hk ?_
              clear hK K
              have k22 := keep_trans k21 hk
              have D22 := Lib.hid (hd22 _ (Below.refl _ _)); have E22 := Lib.hid (D21.out _ hk); clear hd22 hk
              refine fc_step rfl (fun K hK => ?_)
              go_simp
              (with_reducible refine (S.out _ sb _ _ _ _ _ _ _ _ E22.out D22.out).mono ?_)
              rintro e w23 ⟨rfl, hk⟩
              refine hK _ _ hk ?_
              clear hK K
              have k23 := keep_trans k22 hk
              clear hk
              refine fc_nil ?_
              have ⟨a0, a1, a2, a3, a4, a5, a6, a7, a8, a9⟩ := Hcells.out w23 k23
              refine mt_take w23 (Below.refl _ _) ?_
              simp only [pick_cons, pick_nil, nth_zero, nth_succ]
              repeat (go_big_quiet_step (fail))
              refine wpQuiet_nil ?_
              clear a0 a1 a2 a3 a4 a5 a6 a7 a8 a9
              refine mt_force ?_
              simp only [pick_cons, pick_nil, nth_zero, nth_succ]
              refine fc_step rfl (fun K hK => ?_)
              go_simp
              (with_reducible refine (C1.out _ k23).mono ?_)
              rintro e w30 ⟨A30, c30, rfl, hd30, hk⟩
              refine hK _ _ hk ?_
              clear hK K
              have k30 := keep_trans k23 hk
              have D30 := Lib.hid hd30; clear hd30 hk
              refine fc_step rfl (fun K hK => ?_)
              go_simp
              (with_reducible refine (F.out A30 cr c30 _ D30.out).mono ?_)
              rintro e w31 ⟨P31, q31, rfl, hd31, hk⟩
              refine hK _ _ hk ?_
              clear hK K
              have k31 := keep_trans k30 hk
              have D31 := Lib.hid hd31; clear hd31 hk
              refine fc_step rfl (fun K hK => ?_)
              go_simp
              (with_reducible refine (F.out A8 cr c8 _ (HC.out _ k31)).mono ?_)
              rintro e w32 ⟨P32, q32, rfl, hd32, hk⟩
              refine hK _ _ hk ?_
              clear hK K
              have k32 := keep_trans k31 hk
              have D32 := Lib.hid (hd32 _ (Below.refl _ _)); have E32 := Lib.hid (D31.out _ hk); clear hd32 hk
              refine fc_step rfl (fun K hK => ?_)
              go_simp
              (with_reducible refine (S.out _ cr _ _ _ _ _ _ _ _ E32.out D32.out).mono ?_)
              rintro e w33 ⟨rfl, hk⟩
              refine hK _ _ hk ?_
              clear hK K
              have k33 := keep_trans k32 hk
              clear hk
              refine fc_nil ?_
              have ⟨a0, a1, a2, a3, a4, a5, a6, a7, a8, a9⟩ := Hcells.out w33 k33
              refine mt_take w33 (Below.refl _ _) ?_
              simp only [pick_cons, pick_nil, nth_zero, nth_succ]
              repeat (go_big_quiet_step (fail))
              refine wpQuiet_nil ?_
              clear a0 a1 a2 a3 a4 a5 a6 a7 a8 a9
              refine mt_force ?_
              simp only [pick_cons, pick_nil, nth_zero, nth_succ]
              refine fc_skip rfl ?_
              refine fc_skip rfl ?_
              refine fc_skip rfl ?_
              refine fc_nil ?_
              have k40 := k33
              simp only [Act.put, Array.set!_eq_setIfInBounds, List.setIfInBounds_toArray, List.set_cons_succ, List.set_cons_zero]
              refine mt_take w33 (Below.refl _ _) ?_
              simp only [pick_cons, pick_nil, nth_zero, nth_succ]
              repeat (go_big_quiet_step (fail))
              refine wpQuiet_nil ?_
              refine mt_end ?_
              go_wp2
              go_ret
              exact ⟨rfl, keep_trans KL k40⟩
            · subst he
              have hokV : okb = false := by rw [hokE]; rfl
              subst hokV
              clear hokE
              have HXV := Lib.hid (Hxo.out (by decide))
              clear Hxy Hxo
              go_wp2_with fail
              refine wp_region_tree (.take [0,1,2,3,4,5,6,7,8,9,10,11,13] (.force [12,14,15] (.take [16,17,18,19,22] (.force [20,21,23,24] (.take [25,26,27,28,31] (.force [29,30,32,33] (.take [34,35,36,37,38,40] (.force [39,41,42] (.take [43,44,45] .done))))))))) [] (by kernel_rfl) (by kernel_rfl) (fun w9 k9 => ?_)
              have ⟨a0, a1, a2, a3, a4, a5, a6, a7, a8, a9⟩ := Hcells.out w9 k9
              refine mt_take w9 (Below.refl _ _) ?_
              simp only [pick_cons, pick_nil, nth_zero, nth_succ]
              repeat (go_big_quiet_step (fail))
              refine wpQuiet_nil ?_
              clear a0 a1 a2 a3 a4 a5 a6 a7 a8 a9
              refine mt_force ?_
              simp only [pick_cons, pick_nil, nth_zero, nth_succ]
              refine fc_skip rfl ?_
              refine fc_skip rfl ?_
              refine fc_skip rfl ?_
              refine fc_nil ?_
              obtain ⟨w12, hw12⟩ : ∃ w12, w9 = w12 := ⟨_, rfl⟩
              have k12 := k9
              rw [hw12] at k12 ⊢
              clear hw12 k9
              simp only [Act.put, Array.set!_eq_setIfInBounds, List.setIfInBounds_toArray, List.set_cons_succ, List.set_cons_zero]
              have ⟨a0, a1, a2, a3, a4, a5, a6, a7, a8, a9⟩ := Hcells.out w12 k12
              refine mt_take w12 (Below.refl _ _) ?_
              simp only [pick_cons, pick_nil, nth_zero, nth_succ]
              repeat (go_big_quiet_step (fail))
              refine wpQuiet_nil ?_
              clear a0 a1 a2 a3 a4 a5 a6 a7 a8 a9
              refine mt_force ?_
              simp only [pick_cons, pick_nil, nth_zero, nth_succ]
              refine fc_step rfl (fun K hK => ?_)
              go_simp
              (with_reducible refine (C2.out _ k12).mono ?_)
              rintro e w20 ⟨A20, c20, rfl, hd20, hk⟩
              refine hK _ _ hk ?_
              clear hK K
              have k20 := keep_trans k12 hk
              have D20 := Lib.hid (hd20 _ (Below.refl _ _)); clear hd20 hk
              refine fc_step rfl (fun K hK => ?_)
              go_simp
              (with_reducible refine (F.out A20 sb c20 _ D20.out).mono ?_)
              rintro e w21 ⟨P21, q21, rfl, hd21, hk⟩
              refine hK _ _ hk ?_
              clear hK K
              have k21 := keep_trans k20 hk
              have D21 := Lib.hid hd21; clear hd21 hk
              refine fc_step rfl (fun K hK => ?_)
              go_simp
              (with_reducible refine (F.out As sb cs _ (HS.out _ k21)).mono ?_)
              rintro e w22 ⟨P22, q22, rfl, hd22, hk⟩
              refine hK _ _ hk ?_
              clear hK K
              have k22 := keep_trans k21 hk
              have D22 := Lib.hid (hd22 _ (Below.refl _ _)); have E22 := Lib.hid (D21.out _ hk); clear hd22 hk
              refine fc_step rfl (fun K hK => ?_)
              go_simp
              (with_reducible refine (S.out _ sb _ _ _ _ _ _ _ _ E22.out D22.out).mono ?_)
              rintro e w23 ⟨rfl, hk⟩
              refine hK _ _ hk ?_
              clear hK K
              have k23 := keep_trans k22 hk
              clear hk
              refine fc_nil ?_
              have ⟨a0, a1, a2, a3, a4, a5, a6, a7, a8, a9⟩ := Hcells.out w23 k23
              refine mt_take w23 (Below.refl _ _) ?_
              simp only [pick_cons, pick_nil, nth_zero, nth_succ]
              repeat (go_big_quiet_step (fail))
              refine wpQuiet_nil ?_
              clear a0 a1 a2 a3 a4 a5 a6 a7 a8 a9
              refine mt_force ?_
              simp only [pick_cons, pick_nil, nth_zero, nth_succ]
              refine fc_step rfl (fun K hK => ?_)
              go_simp
              (with_reducible refine (C1.out _ k23).mono ?_)
              rintro e w30 ⟨A30, c30, rfl, hd30, hk⟩
              refine hK _ _ hk ?_
              clear hK K
              have k30 := keep_trans k23 hk
              have D30 := Lib.hid hd30; clear hd30 hk
              refine fc_step rfl (fun K hK => ?_)
              go_simp
              (with_reducible refine (F.out A30 cr c30 _ D30.out).mono ?_)
              rintro e w31 ⟨P31, q31, rfl, hd31, hk⟩
              refine hK _ _ hk ?_
              clear hK K
              have k31 := keep_trans k30 hk
              have D31 := Lib.hid hd31; clear hd31 hk
              refine fc_step rfl (fun K hK => ?_)
              go_simp
              (with_reducible refine (F.out A8 cr c8 _ (HC.out _ k31)).mono ?_)
              rintro e w32 ⟨P32, q32, rfl, hd32, hk⟩
              refine hK _ _ hk ?_
              clear hK K
              have k32 := keep_trans k31 hk
              have D32 := Lib.hid (hd32 _ (Below.refl _ _)); have E32 := Lib.hid (D31.out _ hk); clear hd32 hk
              refine fc_step rfl (fun K hK => ?_)
              go_simp
              (with_reducible refine (S.out _ cr _ _ _ _ _ _ _ _ E32.out D32.out).mono ?_)
              rintro e w33 ⟨rfl, hk⟩
              refine hK _ _ hk ?_
              clear hK K
              have k33 := keep_trans k32 hk
              clear hk
              refine fc_nil ?_
              have ⟨a0, a1, a2, a3, a4, a5, a6, a7, a8, a9⟩ := Hcells.out w33 k33
              refine mt_take w33 (Below.refl _ _) ?_
              simp only [pick_cons, pick_nil, nth_zero, nth_succ]
              repeat (go_big_quiet_step (fail))
              refine wpQuiet_nil ?_
              clear a0 a1 a2 a3 a4 a5 a6 a7 a8 a9
              refine mt_force ?_
              simp only [pick_cons, pick_nil, nth_zero, nth_succ]
              refine fc_step rfl (fun K hK => ?_)
              go_simp
              (with_reducible refine (G.out _ _ _ _ _ _ hvx2 (HX.out _ k33)).mono ?_)
              rintro e w10 ⟨P10, q10, rfl, hd10, hk⟩
              refine hK _ _ hk ?_
              clear hK K
              have k10 := keep_trans k33 hk
              have D10 := Lib.hid hd10; clear hd10 hk
              refine fc_step rfl (fun K hK => ?_)
              go_simp
              (with_reducible refine (G.out _ _ _ _ _ _ hws2 (HO.out _ k10)).mono ?_)
              rintro e w11 ⟨P11, q11, rfl, hd11, hk⟩
              refine hK _ _ hk ?_
              clear hK K
              have k11 := keep_trans k10 hk
              have D11 := Lib.hid (hd11 _ (Below.refl _ _)); have E11 := Lib.hid (D10.out _ hk); clear hd11 hk
              refine fc_step rfl (fun K hK => ?_)
              go_simp
              (with_reducible refine (SX.out _ _ _ _ _ _ _ _ _ _ _ HXV.out E11.out D11.out).mono ?_)
              rintro e w40 ⟨rfl, hk⟩
              refine hK _ _ hk ?_
              clear hK K
              have k40 := keep_trans k11 hk
              clear hk
              refine fc_nil ?_
              refine mt_take w40 (Below.refl _ _) ?_
              simp only [pick_cons, pick_nil, nth_zero, nth_succ]
              repeat (go_big_quiet_step (fail))
              refine wpQuiet_nil ?_
              refine mt_end ?_
              go_wp2
              go_ret
              exact ⟨rfl, keep_trans KL k40⟩
end Go.Proofs.Ytpllginlgkhkmaa
