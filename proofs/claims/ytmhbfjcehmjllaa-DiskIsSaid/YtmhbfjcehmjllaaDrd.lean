/- florinref18.Crash. (printed by gen_drd.py) -/
import Derived.Test.YtmhbfjcehmjllaaDrc
import Derived.Test.YtmhbfjcehmjllaaDsP
set_option linter.unusedSimpArgs false
set_option linter.unusedVariables false
namespace Go.Proofs.Ytmhbfjcehmjllaa
open Go.RowKit
attribute [local go_sem ↓] Go.wp_at_zero Go.wp_at_succ
theorem crashAt_none (plan : List UInt8) : ∀ (l : List WriteR) (i : Nat) (b : List UInt8), plan.length ≤ i → crashAt plan i l b = b
  | [], _, _, _ => rfl
  | x :: l, i, b, h => by
    show crashAt plan (i + 1) l (layN b x (planN plan i)) = b
    have e : planN plan i = 0 := by unfold planN; simp [List.getD, List.getElem?_eq_none h]
    rw [e, layN_zero]
    exact crashAt_none plan l (i + 1) b (by omega)
theorem crashAt_len2 (plan : List UInt8) (nb : Nat) : ∀ (ws : List WriteR) (i : Nat) (b : List UInt8), b.length = nb → (∀ x ∈ ws, x.ok nb = true) → (crashAt plan i ws b).length = nb
  | [], _, _, h, _ => h
  | x :: l, i, b, h, hx => crashAt_len2 plan nb l (i + 1) _ ((len_layN b x _ (by rw [h]; exact hx x (by simp))).trans h) (fun y hy => hx y (by simp [hy]))
set_option maxRecDepth 100000 in
set_option maxHeartbeats 8000000 in
theorem rcrash_any (A : Option Addr) (b : List UInt8) (c : Nat) (PA : Option Addr) (ws : List WriteR) (pc : Nat) (PB : Option Addr) (plan : List UInt8) (cq : Nat) (w : World) (h : DOk w A b c PA ws pc) (hpr : Rd w PB (plan.map u8v)) (hpl0 : plan.length ≤ 1000000) :
    Calls Try.prog 22 #[DV A b.length c PA ws.length pc, .slice PB plan.length cq] w fun e w' => ∃ A' c', e = .returned (DV A' (crashD b ws plan).length c' none 0 0) ∧ DOk w' A' (crashD b ws plan) c' none [] 0 ∧ Keep w w' := by
  have RS : Hid (∀ y, Keep w y → Calls Try.prog 16 #[DV A b.length c PA ws.length pc] y fun e w' => e = .returned (.bool (saneD b.length ws)) ∧ Keep y w') := Lib.hid fun y hy => rdsane_any _ _ _ _ _ _ _ (h.keep hy)
  cases hs : saneD b.length ws with
  | false =>
    have e0 : crashD b ws plan = [] := by unfold crashD tkB tkW; rw [if_neg (by rw [hs]; simp), if_neg (by rw [hs]; simp)]; rfl
    rw [hs] at RS
    rw [e0]
    clear h hs e0 hpr
    go_enter Try.func22, Try.ntmps22
    go_wp2_with (go_at_call 16; refine (RS.out _ (((Below.refl _ _).alloc (Nat.le_refl _) _).alloc (by simp) _)).mono ?_; rintro e w2 ⟨rfl, hk2⟩; have r0 : w2.cell? ⟨w.heap.size + 1, 0, none⟩ = some (.slice none 0 0) := keep_cell hk2 (by go_simp); have r1 : w2.cell? ⟨w.heap.size + 1, 1, none⟩ = some (.slice none 0 0) := keep_cell hk2 (by go_simp); have f0 : w2.frozen? ⟨w.heap.size + 1, 0, none⟩ = false := keep_frozen hk2 (by simp) (by go_simp); have f1 : w2.frozen? ⟨w.heap.size + 1, 1, none⟩ = false := keep_frozen hk2 (by simp) (by go_simp); have k2 : Keep w w2 := keep_trans (((Below.refl _ _).alloc (Nat.le_refl _) _).alloc (by simp) _) hk2)
    exact bodyPost_ret (v := DV none 0 0 none 0 0) (by simp [results, Try.results22, go_sem, r0, r1, f0, f1]) rfl ⟨none, 0, rfl, ⟨.inl rfl, Nat.le_refl _, by unfold maxLen; omega, .inl rfl, Nat.le_refl _, by unfold maxLen; omega, fun x hx => absurd hx (by simp)⟩, (k2.setCell (by simp) _).setCell (by simp) _⟩
  | true =>
    have e0 : crashD b ws plan = crashAt plan 0 ws b := by unfold crashD tkB tkW; rw [if_pos hs, if_pos hs]
    have hsl := sane_len hs
    have hok := ok_of_sane hs
    rw [hs] at RS
    rw [e0]
    obtain ⟨N, hN⟩ : ∃ N, b.length = N := ⟨_, rfl⟩
    obtain ⟨M, hM⟩ : ∃ M, ws.length = M := ⟨_, rfl⟩
    obtain ⟨L, hL⟩ : ∃ L, plan.length = L := ⟨_, rfl⟩
    have hRl0 := crashAt_len2 plan N ws 0 b hN (fun x hx => by rw [← hN]; exact hok x hx)
    obtain ⟨R, hR⟩ : ∃ R, crashAt plan 0 ws b = R := ⟨_, rfl⟩
    have hRl : R.length = N := by rw [← hR]; exact hRl0
    have HF : Hid (∀ k (hk : k < M), ∃ bp off x, PA = some ⟨bp, off, none⟩ ∧ (∀ w', Keep w w' → w'.cell? ⟨bp, off + k * 2, none⟩ = some (.int .i64 x.at_) ∧ w'.cell? ⟨bp, off + k * 2 + 1, none⟩ = some (.slice x.A x.d.length x.cap)) ∧ OkW w x ∧ x.ok N = true ∧ ∀ l, crashAt plan k (ws.drop k) l = crashAt plan (k + 1) (ws.drop (k + 1)) (layN l x (planN plan k))) := Lib.hid fun k hk => by
      rw [← hM] at hk
      obtain ⟨bp, off, h1, _, h2⟩ := WriteR.at2 h.rp hk
      exact ⟨bp, off, ws[k], h1, h2, h.ok _ (List.getElem_mem hk), by rw [← hN]; exact hok _ (List.getElem_mem hk), fun l => by rw [drop_cons ws k hk]; rfl⟩
    have HPN : Hid (∀ k (hk : k < L), ∃ pb po v, PB = some ⟨pb, po, none⟩ ∧ (∀ w', Keep w w' → w'.cell? ⟨pb, po + k, none⟩ = some (u8v v)) ∧ planN plan k = min v.toNat 32) := Lib.hid fun k hk => by
      rw [← hL] at hk
      obtain ⟨pb, po, h1, _, h2⟩ := hpr.at (k := k) (by simpa using hk)
      exact ⟨pb, po, plan[k], h1, fun w' hw => keep_cell hw (by have q := h2 k (by simpa using hk); simpa using q), by unfold planN; simp [List.getD, List.getElem?_eq_getElem hk]⟩
    have HCN : Hid (∀ k l, L ≤ k → crashAt plan k (ws.drop k) l = l) := Lib.hid fun k l hk => crashAt_none plan _ k l (by omega)
    have HCE : Hid (∀ l, crashAt plan M (ws.drop M) l = l) := Lib.hid fun l => by rw [List.drop_of_length_le (by omega)]; rfl
    have RB := Lib.hid h.rb
    have hpl := h.pl; have hpm := h.pm; have hbc := h.bc; have hcm := h.cm
    unfold maxLen at hpm hcm
    rw [hM] at hpl
    rw [hN] at hbc
    rw [hL] at hpl0
    have HN := Lib.hid hN; have HM := Lib.hid hM; have HR := Lib.hid hR; have HRL := Lib.hid hRl
    have hN1 : N ≤ 131072 := by omega
    have hM1 : M ≤ 100000 := by omega
    rw [hN, hM] at RS
    rw [hN, hM, hL, hR, hRl]
    clear h hs hok e0 hN hM hR hRl hsl hRl0 hL hpr
    go_enter Try.func22, Try.ntmps22
    go_upto_region 3 with (go_at_call 16; refine (RS.out _ (((Below.refl _ _).alloc (Nat.le_refl _) _).alloc (by simp) _)).mono ?_; rintro e w2 ⟨rfl, hk2⟩; have b0 : w2.cell? ⟨w.heap.size, 0, none⟩ = some (.slice A N c) := keep_cell hk2 (by go_simp); have b1 : w2.cell? ⟨w.heap.size, 1, none⟩ = some (.slice PA M pc) := keep_cell hk2 (by go_simp); have r0 : w2.cell? ⟨w.heap.size + 1, 0, none⟩ = some (.slice none 0 0) := keep_cell hk2 (by go_simp); have r1 : w2.cell? ⟨w.heap.size + 1, 1, none⟩ = some (.slice none 0 0) := keep_cell hk2 (by go_simp); have f0 : w2.frozen? ⟨w.heap.size + 1, 0, none⟩ = false := keep_frozen hk2 (by simp) (by go_simp); have f1 : w2.frozen? ⟨w.heap.size + 1, 1, none⟩ = false := keep_frozen hk2 (by simp) (by go_simp); have K2 : Hid (Keep w w2) := Lib.hid (keep_trans (((Below.refl _ _).alloc (Nat.le_refl _) _).alloc (by simp) _) hk2); have hz2 : w.heap.size + 2 ≤ w2.heap.size := (by have := hk2.size; simpa using this); clear hk2)
    have B1 := Lib.hid b1
    have b0a := keep_cell (keep_new w2 (.cells #[] 5)) b0
    have RB2 := Lib.hid (RB.out.keep K2.out)
    have R0 := Lib.hid r0; have R1 := Lib.hid r1; have F0 := Lib.hid f0; have F1 := Lib.hid f1
    clear r0 r1 f0 f1
    go_upto_region 4 with (at_builtin; refine wpList_app byteT (by rfl) _ _ (by rfl) w2.heap.size _ 0 [] (by rfl) (own_zero w2 5 1) _ N c (b.map u8v) (by rfl) (by rw [List.length_map, HN.out, Nat.mul_one]) (RB2.out.alloc _) (one_bytes _) (by omega) (by unfold maxLen; omega) (by simp) ?_; intro v4 w4 own4 hg4 hat4)
    have k4 : Keep w2 w4 := keep_grown (keep_new w2 (.cells #[] 5)) (by simp) hg4 (own_zero w2 5 1)
    rw [List.nil_append, Nat.zero_add] at own4
    obtain ⟨A4, c4, rfl, hc4, hm4, -⟩ := own_form own4
    have OW := Lib.hid own4; have K4 := Lib.hid k4
    unfold maxLen at hm4
    clear RS own4 hg4 hat4 k4 RB RB2 b0 b1 b0a
    have B14 := Lib.hid (keep_cell K4.out B1.out)
    have b14 := B14.out
    go_wp2_with fail
    clear b14
    go_loopw [6] (fun i wr => ∃ (k : Nat) (bk : List UInt8), k ≤ M ∧ i = .int .i64 k ∧ Hid (bk.length = N) ∧ Hid (crashAt plan k (ws.drop k) bk = R) ∧ Hid (wr.ownsRow w2.heap.size 5 1 (.slice A4 N c4) N (bk.map u8v)) ∧ Hid (Keep w2 wr)) (fun i _ => M - (intOf i).toNat)
    case atStart => exact ⟨0, b, Nat.zero_le _, rfl, HN, HR, OW, K4⟩
    case round =>
      obtain ⟨k, bk, hk, rfl, HBL, HFO, HOW, HKr⟩ := hrel
      clear OW K4 B14
      have b1 := keep_cell HKr.out B1.out
      by_cases hlt : k < M
      · have hlt2 : (k : Int) < M := by omega
        by_cases hlp : k < L
        · have hlp2 : (k : Int) < L := by omega
          obtain ⟨bp, off, x, rfl, hc, hxw, hxo, hfd⟩ := HF.out k hlt
          obtain ⟨pb, po, pv, rfl, hpc, hpn⟩ := HPN.out k hlp
          have hxo2 := of_decide_eq_true hxo
          obtain ⟨hx0, hx1, hx2⟩ := hxo2
          obtain ⟨at_, hat⟩ : ∃ n : Nat, x.at_ = n := ⟨x.at_.toNat, by omega⟩
          have h32 : 32 * at_ + 32 ≤ N := by omega
          have hxc := hxw.2.1; have hxm := hxw.2.2
          unfold maxLen at hxm
          have hp255 : pv.toNat ≤ 255 := by have := pv.toNat_lt; omega
          have hfd2 := hfd bk
          rw [hpn] at hfd2
          obtain ⟨Q, hQ⟩ : ∃ Q, min pv.toNat 32 = Q := ⟨_, rfl⟩
          rw [hQ] at hfd2
          have HXW := Lib.hid hxw; have HFD := Lib.hid hfd2; have HXO := Lib.hid hxo; have HX2 := Lib.hid hx2; have HAT := Lib.hid hat; have HQ := Lib.hid hQ
          have HC : Hid (∀ w', Keep w2 w' → w'.cell? ⟨bp, off + k * 2, none⟩ = some (.int .i64 at_) ∧ w'.cell? ⟨bp, off + k * 2 + 1, none⟩ = some (.slice x.A x.d.length x.cap) ∧ w'.cell? ⟨pb, po + k, none⟩ = some (u8v pv)) := Lib.hid fun w' hk => by rw [← HAT.out]; exact ⟨(hc w' (keep_trans K2.out hk)).1, (hc w' (keep_trans K2.out hk)).2, hpc w' (keep_trans K2.out hk)⟩
          obtain ⟨g, cap, hv, hgb, hgl⟩ := HOW.out.form (by omega)
          injection hv with hv1 _ hv3
          subst hv1 hv3
          have HGB := Lib.hid hgb
          clear hc hxw hfd hxo hx0 hx1 hat HF hgl hgb hfd2 hpn hpc hQ HPN
          have HOW0 := HOW; have HKr0 := HKr
          go_wp2_with fail
          clear b1
          go_loopw [7] (fun j wr => ∃ (n : Nat), n ≤ Q ∧ j = .int .i64 n ∧ Hid (wr.ownsRow w2.heap.size 5 1 (.slice (some ⟨g, 0, none⟩) N c4) N ((layN bk x n).map u8v)) ∧ Hid (Keep w2 wr)) (fun j _ => 32 - (intOf j).toNat)
          case atStart => exact ⟨0, Nat.zero_le _, rfl, by rw [layN_zero]; exact HOW0, HKr0⟩
          case round =>
            obtain ⟨n, hn, rfl, HOn, HKn⟩ := hrel
            clear HOW HKr HOW0 HKr0
            have b1 := keep_cell HKn.out B1.out
            obtain ⟨c0, c1, c2⟩ := HC.out _ HKn.out
            have hq32 : Q ≤ 32 := by have := HQ.out; omega
            by_cases hlt3 : n < Q
            · have hlt5 : (n : Int) < pv.toNat := by have := HQ.out; omega
              have hlt4 : (n : Int) < 32 := by omega
              have hnd : n < x.d.length := by omega
              obtain ⟨xb, xo, hxA, hxb, hxc2⟩ := HXW.out.1.at (k := n) (by simpa using hnd)
              have cd : wr.cell? ⟨xb, xo + n, none⟩ = some (u8v x.d[n]) := keep_cell (keep_trans K2.out HKn.out) (by have q := hxc2 n (by simpa using hnd); simpa using q)
              have hfit : 32 * at_ + n < N := by omega
              have hls : splice (layN bk x n) (32 * at_ + n) [x.d[n]] = layN bk x (n + 1) := by
                have q := layN_succ bk x n hnd (by rw [HAT.out, HBL.out]; simp only [Int.toNat_natCast]; omega)
                rwa [HAT.out, Int.toNat_natCast] at q
              have HLS : Hid (∀ W : World, W.ownsRow w2.heap.size 5 1 (.slice (some ⟨g, 0, none⟩) N c4) N ((layN bk x n).map u8v) → (W.setCell ⟨g, 32 * at_ + n, none⟩ (u8v x.d[n])).ownsRow w2.heap.size 5 1 (.slice (some ⟨g, 0, none⟩) N c4) N ((layN bk x (n + 1)).map u8v)) := Lib.hid fun W hW => by
                have q := own_set1 hW hfit (u8v x.d[n])
                rwa [splice_map1, hls] at q
              obtain ⟨vd, hvd⟩ : ∃ v, x.d[n] = v := ⟨_, rfl⟩
              rw [hvd] at HLS cd
              clear hxb hxc2 hls hvd
              go_upto_region 10 with fail
              clear c2
              refine wp_region_tree (.take [0,1,2,3,4,5,6,7,8,9,10,11,12,13,14,15,16,17,18,19] .done) [20] (by kernel_rfl) (by kernel_rfl) (fun y0 hk => ?_)
              have q1 := aft_cell (keep_cell hk b1); have q2 := aft_cell (keep_cell hk c0); have q3 := aft_cell (keep_cell hk c1); have q4 := aft_cell (keep_cell hk cd)
              have HOy := Lib.hid (own_keep HOn.out hk)
              have HKy := Lib.hid (keep_trans HKn.out hk)
              rw [hxA] at q3
              clear hk b1 c0 c1 cd HOn HKn hxA
              refine mt_take y0 (Below.refl _ _) ?_
              simp only [pick_cons, pick_nil, nth_zero, nth_succ]
              repeat (go_big_quiet_step (fail))
              clear q1 q2 q3 q4
              refine wpQuiet_nil (mt_end ?_)
              obtain ⟨⟨vo, co⟩, fo⟩ := own_at1 HOy.out hfit
              have HNX := Lib.hid (HLS.out y0 HOy.out)
              have HKN : Hid (Keep w2 (y0.setCell ⟨g, 32 * at_ + n, none⟩ (u8v vd))) := Lib.hid (Below.setCell HKy.out (by show w2.heap.size ≤ g; exact HGB.out) _)
              clear HOy HKy HLS
              go_wp2
              obtain ⟨wn, hwn⟩ : ∃ x, x = y0.setCell ⟨g, 32 * at_ + n, none⟩ (u8v vd) := ⟨_, rfl⟩
              rw [← hwn] at HNX HKN ⊢
              clear hwn co fo
              go_roundw
              case rel => exact ⟨n + 1, by omega, by go_num, HNX, HKN⟩
              case measure => simp [intOf]; omega
            · obtain rfl : n = Q := by omega
              have HBL2 : Hid ((layN bk x n).length = N) := Lib.hid ((len_layN bk x n (by rw [HBL.out]; exact HXO.out)).trans HBL.out)
              have HFO2 : Hid (crashAt plan (k + 1) (ws.drop (k + 1)) (layN bk x n) = R) := Lib.hid (HFD.out.symm.trans HFO.out)
              by_cases hnp : n < pv.toNat
              · have hlt5 : (n : Int) < pv.toNat := by omega
                have hlt4 : ¬ (n : Int) < 32 := by have := HQ.out; omega
                clear HBL HFO HFD HC HXW HXO HX2 HAT HGB hlt3 hnp
                go_wp2
                go_roundw
                case rel => exact ⟨k + 1, layN bk x n, by omega, by go_num, HBL2, HFO2, HOn, HKn⟩
                case measure => simp [intOf]; omega
              · have hlt5 : ¬ (n : Int) < pv.toNat := by omega
                clear HBL HFO HFD HC HXW HXO HX2 HAT HGB hlt3 hnp
                go_wp2
                go_roundw
                case rel => exact ⟨k + 1, layN bk x n, by omega, by go_num, HBL2, HFO2, HOn, HKn⟩
                case measure => simp [intOf]; omega
        · have hlp2 : ¬ (k : Int) < L := by omega
          have e9 : bk = R := (HCN.out k bk (by omega)).symm.trans HFO.out
          have HO9 : Hid (wr.ownsRow w2.heap.size 5 1 (.slice A4 N c4) N (R.map u8v)) := by rw [← e9]; exact HOW
          clear HFO HOW HF HBL e9 HR HPN HCN HCE hlp
          have r0 := keep_cell HKr.out R0.out; have r1 := keep_cell HKr.out R1.out
          have f0 := keep_frozen HKr.out (by omega) F0.out; have f1 := keep_frozen HKr.out (by omega) F1.out
          have hO9 := HO9.out
          have hzr : w2.heap.size ≤ wr.heap.size := HKr.out.size
          go_wp2
          have o9 := ownsRow_setCell_below (ownsRow_setCell_below hO9 (a := ⟨w.heap.size + 1, 0, none⟩) (by show w.heap.size + 1 < w2.heap.size; omega) (.slice A4 N c4)) (a := ⟨w.heap.size + 1, 1, none⟩) (by show w.heap.size + 1 < w2.heap.size; omega) (.slice none 0 0)
          have hk9 : Keep w ((wr.setCell ⟨w.heap.size + 1, 0, none⟩ (.slice A4 N c4)).setCell ⟨w.heap.size + 1, 1, none⟩ (.slice none 0 0)) := ((keep_trans K2.out HKr.out).setCell (by simp) _).setCell (by simp) _
          refine bodyPost_ret (v := DV A4 N c4 none 0 0) (by simp [results, Try.results22, go_sem, r0, r1, f0, f1]) rfl ⟨A4, c4, rfl, ⟨own_rd o9, by rw [HRL.out]; exact hc4, by unfold maxLen; omega, .inl rfl, Nat.le_refl _, by unfold maxLen; omega, fun x hx => absurd hx (by simp)⟩, hk9⟩
      · obtain rfl : k = M := by omega
        have hlt2 : ¬ (k : Int) < k := by omega
        have e9 : bk = R := (HCE.out bk).symm.trans HFO.out
        have HO9 : Hid (wr.ownsRow w2.heap.size 5 1 (.slice A4 N c4) N (R.map u8v)) := by rw [← e9]; exact HOW
        clear HFO HOW HF HBL e9 HR HPN HCN HCE
        have r0 := keep_cell HKr.out R0.out; have r1 := keep_cell HKr.out R1.out
        have f0 := keep_frozen HKr.out (by omega) F0.out; have f1 := keep_frozen HKr.out (by omega) F1.out
        have hO9 := HO9.out
        have hzr : w2.heap.size ≤ wr.heap.size := HKr.out.size
        go_wp2
        have o9 := ownsRow_setCell_below (ownsRow_setCell_below hO9 (a := ⟨w.heap.size + 1, 0, none⟩) (by show w.heap.size + 1 < w2.heap.size; omega) (.slice A4 N c4)) (a := ⟨w.heap.size + 1, 1, none⟩) (by show w.heap.size + 1 < w2.heap.size; omega) (.slice none 0 0)
        have hk9 : Keep w ((wr.setCell ⟨w.heap.size + 1, 0, none⟩ (.slice A4 N c4)).setCell ⟨w.heap.size + 1, 1, none⟩ (.slice none 0 0)) := ((keep_trans K2.out HKr.out).setCell (by simp) _).setCell (by simp) _
        refine bodyPost_ret (v := DV A4 N c4 none 0 0) (by simp [results, Try.results22, go_sem, r0, r1, f0, f1]) rfl ⟨A4, c4, rfl, ⟨own_rd o9, by rw [HRL.out]; exact hc4, by unfold maxLen; omega, .inl rfl, Nat.le_refl _, by unfold maxLen; omega, fun x hx => absurd hx (by simp)⟩, hk9⟩
end Go.Proofs.Ytmhbfjcehmjllaa
