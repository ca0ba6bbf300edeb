import Derived.Test.YtielojlhdnimgaaDoorDskD
set_option linter.unusedSimpArgs false
set_option linter.unusedVariables false
namespace Go.Proofs.YtielojlhdnimgaaDoor
open Go.RowKit
attribute [local go_sem ↓] Go.wp_at_zero Go.wp_at_succ

def planN (plan : List UInt8) (i : Nat) : Nat := min (plan.getD i 0).toNat 32
def crashAt (plan : List UInt8) : Nat → List WriteR → List UInt8 → List UInt8
  | _, [], b => b
  | i, x :: ws, b => crashAt plan (i + 1) ws (layN b x (planN plan i))
def crashD (b : List UInt8) (ws : List WriteR) (plan : List UInt8) : List UInt8 := crashAt plan 0 (tkW b ws) (tkB b ws)

set_option maxRecDepth 100000 in
set_option maxHeartbeats 2000000 in
theorem crash_any (A : Option Addr) (b : List UInt8) (c : Nat) (PA : Option Addr) (ws : List WriteR) (pc : Nat) (B : Option Addr) (plan : List UInt8) (cq : Nat) (w : World) (h : DOk w A b c PA ws pc) (hpr : Rd w B (plan.map u8v)) (hpl : plan.length ≤ 1000000) :
    Calls Tryd.prog 25 #[DV A b.length c PA ws.length pc, .slice B plan.length cq] w fun e w' => ∃ A' c', e = .returned (DV A' (crashD b ws plan).length c' none 0 0) ∧ w'.ownsRow w.heap.size 5 1 (.slice A' (crashD b ws plan).length c') (crashD b ws plan).length ((crashD b ws plan).map u8v) ∧ Keep w w' := by
  have hsane := tk_sane b ws
  go_enter Tryd.func25, Tryd.ntmps25
  go_wp2_with (first
    | (go_at_call 40; refine (taken_any _ _ _ _ _ _ _ w (((Below.refl _ _).alloc (Nat.le_refl _) _).alloc (by simp) _) h).mono ?_; rintro e w2 ⟨A2, c2, PA2, pc2, rfl, hd, hk2⟩
       have b0 : w2.cell? ⟨w.heap.size, 0, none⟩ = some (.slice A b.length c) := keep_cell hk2 (by go_simp)
       have b1 : w2.cell? ⟨w.heap.size, 1, none⟩ = some (.slice PA ws.length pc) := keep_cell hk2 (by go_simp)
       have f0 : w2.frozen? ⟨w.heap.size, 0, none⟩ = false := keep_frozen hk2 (by simp; omega) (by go_simp)
       have f1 : w2.frozen? ⟨w.heap.size, 1, none⟩ = false := keep_frozen hk2 (by simp; omega) (by go_simp)
       have r0 : w2.cell? ⟨w.heap.size + 1, 0, none⟩ = some (.slice none 0 0) := keep_cell hk2 (by go_simp)
       have r1 : w2.cell? ⟨w.heap.size + 1, 1, none⟩ = some (.slice none 0 0) := keep_cell hk2 (by go_simp)
       have g0 : w2.frozen? ⟨w.heap.size + 1, 0, none⟩ = false := keep_frozen hk2 (by simp) (by go_simp)
       have g1 : w2.frozen? ⟨w.heap.size + 1, 1, none⟩ = false := keep_frozen hk2 (by simp) (by go_simp)
       have k2 : Keep w w2 := keep_trans (((Below.refl _ _).alloc (Nat.le_refl _) _).alloc (by simp) _) hk2))
  have k3 := (k2.setCell (p := ⟨w.heap.size, 0, none⟩) (by simp) (.slice A2 (tkB b ws).length c2)).setCell (p := ⟨w.heap.size, 1, none⟩) (by simp) (.slice PA2 (tkW b ws).length pc2)
  have hd3 := hd _ k3
  have e1 : ((w2.setCell ⟨w.heap.size, 0, none⟩ (.slice A2 (tkB b ws).length c2)).setCell ⟨w.heap.size, 1, none⟩ (.slice PA2 (tkW b ws).length pc2)).cell? ⟨w.heap.size, 1, none⟩ = some (.slice PA2 (tkW b ws).length pc2) := by go_simp
  have hbd : crashD b ws plan = crashAt plan 0 (tkW b ws) (tkB b ws) := rfl
  generalize tkB b ws = bb at hsane k3 hd3 e1 hbd ⊢
  generalize tkW b ws = wv at hsane k3 hd3 e1 hbd ⊢
  have Hbd := Lib.hid hbd; clear hbd
  have q0 : ((w2.setCell ⟨w.heap.size, 0, none⟩ (.slice A2 bb.length c2)).setCell ⟨w.heap.size, 1, none⟩ (.slice PA2 wv.length pc2)).cell? ⟨w.heap.size + 1, 0, none⟩ = some (.slice none 0 0) := by go_simp
  have q1 : ((w2.setCell ⟨w.heap.size, 0, none⟩ (.slice A2 bb.length c2)).setCell ⟨w.heap.size, 1, none⟩ (.slice PA2 wv.length pc2)).cell? ⟨w.heap.size + 1, 1, none⟩ = some (.slice none 0 0) := by go_simp
  have y0 : ((w2.setCell ⟨w.heap.size, 0, none⟩ (.slice A2 bb.length c2)).setCell ⟨w.heap.size, 1, none⟩ (.slice PA2 wv.length pc2)).frozen? ⟨w.heap.size + 1, 0, none⟩ = false := by go_simp
  have y1 : ((w2.setCell ⟨w.heap.size, 0, none⟩ (.slice A2 bb.length c2)).setCell ⟨w.heap.size, 1, none⟩ (.slice PA2 wv.length pc2)).frozen? ⟨w.heap.size + 1, 1, none⟩ = false := by go_simp
  generalize ((w2.setCell ⟨w.heap.size, 0, none⟩ (.slice A2 bb.length c2)).setCell ⟨w.heap.size, 1, none⟩ (.slice PA2 wv.length pc2)) = w3 at k3 hd3 e1 q0 q1 y0 y1 ⊢
  clear b0 b1 f0 f1 hk2 hd r0 r1 g0 g1
  have hsl := sane_len hsane
  have hok := ok_of_sane hsane
  have Hok := Lib.hid hok; clear hok
  refine (clone_any _ bb _ _ (by omega) hd3.rb).mono ?_
  rintro e w4 ⟨v4, rfl, hown4, hk4⟩
  have e4 := keep_cell hk4 e1
  have Hd3 := Lib.hid hd3
  have hbc := hd3.bc; have hcm := hd3.cm; have hpl := hd3.pl; have hpm := hd3.pm
  unfold maxLen at hcm hpm
  obtain ⟨A4, c4, rfl, hc4, hm4, hrd4⟩ := own_form hown4
  unfold maxLen at hm4
  clear hrd4 hd3 e1 hsl
  have Q0 := Lib.hid q0; have Q1 := Lib.hid q1; have Y0 := Lib.hid y0; have Y1 := Lib.hid y1
  clear q0 q1 y0 y1
  have k4 := keep_trans k3 hk4
  have hzk := k3.size
  go_wp2_with fail
  go_loopw [17] (fun i wr => ∃ (k : Nat) (bk : List UInt8), k ≤ wv.length ∧ i = .int .i64 k ∧ bk.length = bb.length ∧ crashAt plan k (wv.drop k) bk = crashAt plan 0 wv bb ∧ wr.ownsRow w3.heap.size 5 1 (.slice A4 bb.length c4) bb.length (bk.map u8v) ∧ Below w3.heap.size w3 wr)
    (fun i _ => wv.length - (intOf i).toNat)
  case atStart => exact ⟨0, bb, Nat.zero_le _, rfl, rfl, rfl, hown4, hk4⟩
  case round =>
    obtain ⟨k, bk, hk, rfl, hbl, hfold, hown, hkr⟩ := hrel
    obtain ⟨wo, rfl⟩ : ∃ wo : World, wo = wr := ⟨_, rfl⟩
    have Hbl := Lib.hid hbl; have Hfold := Lib.hid hfold; have Hown := Lib.hid hown
    clear hbl hfold hown
    by_cases hlt : k < wv.length
    · obtain ⟨bp, off, rfl, hb, F⟩ := WriteR.at2 (Hd3.out.rp) hlt
      have hx := Hd3.out.ok _ (List.getElem_mem hlt)
      have hxo := of_decide_eq_true (Hok.out _ (List.getElem_mem hlt))
      have hxo' := Hok.out _ (List.getElem_mem hlt)
      have hdc := drop_cons wv k hlt
      generalize wv[k] = x at F hx hxo hdc hxo'
      have Hdc := Lib.hid hdc; have Hxo := Lib.hid hxo'
      obtain ⟨hx0, hx1, hx2⟩ := hxo
      obtain ⟨at_, hat⟩ : ∃ n : Nat, x.at_ = n := ⟨x.at_.toNat, by omega⟩
      have h32 : 32 * at_ + 32 ≤ bb.length := by omega
      have hxl : x.d.length ≤ 32 := by omega
      have Hx2 := Lib.hid hx2
      obtain ⟨c0, c1⟩ := F wo hkr
      have Hat := Lib.hid hat
      rw [hat] at c0
      have Hx := Lib.hid hx
      have hxc := hx.2.1; have hxm := hx.2.2
      unfold maxLen at hxm
      obtain ⟨g, cap, hv, hgb, hgl⟩ := Hown.out.form (by omega)
      injection hv with hv1 _ hv3
      subst hv1 hv3
      obtain ⟨cur, hcur, hcl, _⟩ := own_cur Hown.out
      have Hcur := Lib.hid hcur
      clear F hdc hxo' hx hx0 hx1 hat hcur hx2
      have hpn : planN plan k ≤ 32 := Nat.min_le_right _ _
      have Hpn := Lib.hid (show ∀ y, plan.getD k 0 = y → planN plan k = min y.toNat 32 from fun y hy => by unfold planN; rw [hy])
      go_upto_if 25 with fail
      go_cut [8] (fun v wx => v = .int .i64 (planN plan k : Nat) ∧ Blk wx wo.heap.size 69 [.int .i64 at_, .slice x.A x.d.length x.cap] ∧ Keep wo wx)
      case first =>
        by_cases hkp : k < plan.length
        · obtain ⟨bq, oq, rfl, hbq, hcq⟩ := (hpr.keep (keep_trans k3 hkr)).at (k := k) (by simpa using hkp)
          have hcell := hcq k (by simpa using hkp)
          simp only [List.getElem_map] at hcell
          have hg := Hpn.out (plan[k]) (by simp [hkp])
          generalize plan[k] = y at hcell hg
          have Hg := Lib.hid hg
          have hy := y.toNat_lt
          clear hcq hg
          go_wp2
          all_goals go_meet
          all_goals exact ⟨by rw [Hg.out]; congr 1; omega, Blk.new _ _ _, (Below.refl _ _).alloc (Nat.le_refl _) _⟩
        · have hg := Hpn.out 0 (by simp [List.getElem?_eq_none (Nat.le_of_not_lt hkp)])
          have Hg := Lib.hid hg; clear hg
          go_wp2
          all_goals go_meet
          all_goals exact ⟨by rw [Hg.out]; rfl, Blk.new _ _ _, (Below.refl _ _).alloc (Nat.le_refl _) _⟩
      case rest =>
        obtain ⟨rfl, hbk, hkc⟩ := hcut
        have x0 := hbk.cell 0; have x1 := hbk.cell 1
        simp only [List.getElem?_cons_zero, List.getElem?_cons_succ] at x0 x1
        have hbl := hbk.lt
        have Hpd := Lib.hid (show ∀ b', layN b' x (planN plan k) = splice b' (32 * at_) (x.d.take (planN plan k)) from fun b' => by unfold layN; rw [show x.at_.toNat = at_ by rw [Hat.out]; rfl])
        have Hst := Lib.hid (show crashAt plan k (x :: wv.drop (k + 1)) bk = crashAt plan (k + 1) (wv.drop (k + 1)) (layN bk x (planN plan k)) from rfl)
        generalize planN plan k = n at hpn Hpd Hst ⊢
        have n0 : (0 : Int) ≤ (n : Int) := by omega
        have n1 : (n : Int) ≤ (x.cap : Int) := by have := Hx2.out; omega
        have Hcur2 := Lib.hid ((hkc.block g hgl).trans Hcur.out)
        have hown2 := own_keep Hown.out hkc
        have Hown2 := Lib.hid hown2; clear hown2 hbk
        have hkrc := keep_trans hkr hkc
        have hzc := hkrc.size
        go_wp2
        go_region_held3 (fun w' => w'.cell? ⟨wo.heap.size, 0, none⟩ = some (.int .i64 at_) ∧ w'.cell? ⟨wo.heap.size, 1, none⟩ = some (.slice x.A x.d.length x.cap))
          (first
            | go_keep
            | exact ⟨grown_cell hg7 (by go_simp) (by simp; omega), grown_cell hg7 (by go_simp) (by simp; omega)⟩)
          (first
            | (go_at_call 42; refine (sector_any _ _ _ _ at_ _ (by omega) (by omega) (by omega) _ rfl).mono ?_; rintro e w5 ⟨rfl, rfl⟩)
            | (refine stp_cpy byteT g (32 * at_) 32 32 (by rfl) x.A n x.cap ((x.d.map u8v).take n) (by rfl) (by simp; have := Hx2.out; omega) (Rd.take (Rd.keep Hx.out.1 (by exact hkrc.drew)) _) (fun u hu => one_bytes x.d u (List.mem_of_mem_take hu)) cur 5 (by exact Hcur2.out) (by omega) ?_
               intro w7 hcur7 hg7))
        go_wp2
        go_roundw
        case rel =>
          have hso : x.ok bk.length = true := by rw [Hbl.out]; exact Hxo.out
          have hl := len_layN bk x n hso
          rw [Hbl.out] at hl
          refine ⟨k + 1, layN bk x n, by omega, by go_num, hl, by rw [← Hfold.out, Hdc.out, Hst.out], ?_, ?_⟩
          · have hh := own_splice Hown2.out (off := 32 * at_) (ys := ((x.d.map u8v).take n).take 32) (by simp; omega) Hcur2.out hcur7.out
            rw [List.take_of_length_le (l := (x.d.map u8v).take n) (by simp; omega), ← List.map_take, splice_map] at hh
            rw [Hpd.out]; exact hh
          · exact (hkrc.drew).grown hg7 (by simp; omega) (fun q hq => by injection hq with hq; omega)
        case measure => simp [intOf]; omega
    · obtain rfl : k = wv.length := by omega
      rw [List.drop_length] at Hfold
      have r0 := keep_cell hkr Q0.out; have r1 := keep_cell hkr Q1.out
      have g0 := keep_frozen hkr (cell_lt Q0.out) Y0.out; have g1 := keep_frozen hkr (cell_lt Q1.out) Y1.out
      have hlt3 := cell_lt Q0.out
      go_wp2
      have hbk : bk = crashD b ws plan := by rw [Hbd.out, ← Hfold.out]; rfl
      have hbl2 : (crashD b ws plan).length = bb.length := by rw [← hbk]; exact Hbl.out
      refine bodyPost_ret (v := DV A4 bb.length c4 none 0 0) (by simp [results, Tryd.results25, go_sem, r0, r1]) rfl ⟨A4, c4, by rw [hbl2], ?_, ((keep_trans k3 hkr).setCell (by simp) _).setCell (by simp) _⟩
      have h1 := ownsRow_setCell_below (ownsRow_setCell_below Hown.out (a := ⟨w.heap.size + 1, 0, none⟩) hlt3 (.slice A4 bb.length c4)) (a := ⟨w.heap.size + 1, 1, none⟩) hlt3 (.slice none 0 0)
      rw [← hbk, Hbl.out]
      exact ⟨h1.1, h1.2.imp id fun ⟨g, cap, cur, e1, e2, e3⟩ => ⟨g, cap, cur, e1, by omega, e3⟩⟩
end Go.Proofs.YtielojlhdnimgaaDoor
