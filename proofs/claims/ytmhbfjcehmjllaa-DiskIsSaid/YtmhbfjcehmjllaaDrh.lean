/- florinref18.Lay. (printed by gen_drh.py) -/
import Derived.Test.YtmhbfjcehmjllaaDrg
set_option linter.unusedSimpArgs false
set_option linter.unusedVariables false
namespace Go.Proofs.Ytmhbfjcehmjllaa
open Go.RowKit
attribute [local go_sem ↓] Go.wp_at_zero Go.wp_at_succ
set_option maxRecDepth 100000 in
set_option maxHeartbeats 8000000 in
theorem rlay_any (A : Option Addr) (b : List UInt8) (c : Nat) (PA : Option Addr) (ws : List WriteR) (pc : Nat) (i : Int) (B : Option Addr) (data : List UInt8) (cd : Nat) (w : World) (h : DOk w A b c PA ws pc) (hdr : Rd w B (data.map u8v)) (hdl : data.length ≤ 1000000) (hdc : data.length ≤ cd) :
    Calls Try.prog 12 #[DV A b.length c PA ws.length pc, .int .i64 i, .slice B data.length cd] w fun e w' => ∃ A' c' PA' pc' vs, e = .returned (.tuple #[DV A' (tkB b ws).length c' PA' vs.length pc', .int .i64 (layD b ws i data).2]) ∧ vs.map WriteR.pl = (layD b ws i data).1 ∧ DOk w' A' (tkB b ws) c' PA' vs pc' ∧ Keep w w' := by
  have hts := tk_sane b ws
  have hsl := sane_len hts
  have HL1 : Hid (¬ data.length % 32 = 0 → layD b ws i data = ((tkW b ws).map WriteR.pl, 14)) := Lib.hid fun hne => by unfold layD; rw [if_pos hne]
  have HL2 : Hid (∀ k, data.length % 32 = 0 → 32 * k + 32 ≤ data.length → ¬ (0 ≤ i ∧ i + k < ((tkB b ws).length / 32 : Nat) ∧ (tkW b ws).length + k < 100000) → layD b ws i data = ((tkW b ws).map WriteR.pl, 14)) := Lib.hid fun k h1 h2 h3 => lay_bad h1 h2 h3
  have HL3 : Hid (∀ vs, data.length % 32 = 0 → LayI (tkB b ws) (tkW b ws) i data (data.length / 32) vs → layD b ws i data = (vs.map WriteR.pl, 0)) := Lib.hid fun vs h1 h2 => lay_end h1 h2
  have hwsok : ∀ x ∈ tkW b ws, OkW w x := fun x hx => by
    unfold tkW at hx
    split at hx
    · exact h.ok x hx
    · cases hx
  have OWN : Hid (∀ y, Keep w y → Calls Try.prog 27 #[DV A b.length c PA ws.length pc] y fun e w' => ∃ A' c' PA' pc', e = .returned (DV A' (tkB b ws).length c' PA' (tkW b ws).length pc') ∧ DOk w' A' (tkB b ws) c' PA' (tkW b ws) pc' ∧ Keep y w') := Lib.hid fun y hy => by
    refine (rown_any _ _ _ _ _ _ _ (h.keep hy)).mono ?_
    rintro e w' ⟨A', c', PA', pc', rfl, o1, o2, hk⟩
    obtain ⟨_, _, e1, hc1, hm1, -⟩ := own_form o1
    obtain ⟨_, _, e2, hc2, hm2, -⟩ := own_form o2
    obtain ⟨rfl, -, rfl⟩ : A' = _ ∧ (tkB b ws).length = _ ∧ c' = _ := by injection e1 with h1 h2 h3; exact ⟨h1, h2, h3⟩
    obtain ⟨rfl, -, rfl⟩ : PA' = _ ∧ (tkW b ws).length = _ ∧ pc' = _ := by injection e2 with h1 h2 h3; exact ⟨h1, h2, h3⟩
    exact ⟨A', c', PA', pc', rfl, ⟨own_rd o1, hc1, hm1, own_rd o2, hc2, hm2, fun x hx => (hwsok x hx).keep (keep_trans hy hk)⟩, hk⟩
  generalize layD b ws i data = R at *
  generalize hbb : tkB b ws = bb at *
  generalize hww : tkW b ws = wv at *
  obtain ⟨bl, hbl⟩ : ∃ n, bb.length = n := ⟨_, rfl⟩
  obtain ⟨wl, hwl⟩ : ∃ n, wv.length = n := ⟨_, rfl⟩
  obtain ⟨D, hD⟩ : ∃ n, data.length = n := ⟨_, rfl⟩
  have HI0 := Lib.hid (LayI.start i data hts)
  rw [hbl, hwl] at hsl OWN HL2
  rw [hD] at HL1 HL2 HL3 hdl hdc
  rw [hbl, hD]
  have HBL := Lib.hid hbl; have HWL := Lib.hid hwl; have HDL := Lib.hid hD; have HDR := Lib.hid hdr
  clear hbb hww hbl hwl hD hts h hwsok hdr
  go_enter Try.func12, Try.ntmps12
  go_upto_region 2 with (go_at_call 27; refine (OWN.out _ (((Below.refl _ _).alloc (Nat.le_refl _) _).alloc (by simp) _)).mono ?_; rintro e w2 ⟨A1, c1, PA1, pc1, rfl, d1, hk2⟩; have hrb : Blk w2 (w.heap.size + 1) 25 [.slice none 0 0, .slice none 0 0] := (by have q := Blk.keep (Blk.new (w.alloc (.cells #[.slice A b.length c, .slice PA ws.length pc] 25)) 25 [.slice none 0 0, .slice none 0 0]) hk2; rw [World.size_alloc] at q; exact q); have k2 : Keep w w2 := keep_trans (((Below.refl _ _).alloc (Nat.le_refl _) _).alloc (by simp) _) hk2; have hz2 : w.heap.size + 2 ≤ w2.heap.size := (by have := hk2.size; simpa using this))
  clear hk2 OWN
  obtain ⟨w3, hw3⟩ : ∃ x, x = w2.alloc (.cells #[.slice A1 bl c1, .slice PA1 wl pc1] 25) := ⟨_, rfl⟩
  have k23 : Keep w2 w3 := by rw [hw3]; exact keep_new _ _
  have HOB : Hid (Blk w3 w2.heap.size 25 [.slice A1 bl c1, .slice PA1 wl pc1]) := by rw [hw3]; exact Lib.hid (Blk.new w2 _ [.slice A1 bl c1, .slice PA1 wl pc1])
  have hz3 : w2.heap.size < w3.heap.size := by rw [hw3]; simp
  rw [← hw3]
  have K3 := Lib.hid (keep_trans k2 k23)
  have D1 := Lib.hid (d1.keep k23)
  have HRB := Lib.hid (hrb.keep k23)
  clear hw3 k2 k23 hrb d1
  generalize w2.heap.size = g at *
  have b0 := HOB.out.cell 0; have b1 := HOB.out.cell 1
  simp only [List.getElem?_cons_succ, List.getElem?_cons_zero] at b0 b1
  by_cases hm : D % 32 = 0
  · have hm2 : ((D : Int) % 32 != 0) = false := by simp; omega
    obtain ⟨n, hn⟩ : ∃ n, D / 32 = n := ⟨_, rfl⟩
    have hDn : D = 32 * n := by omega
    rw [hn] at HL3
    have HL3' : Hid (∀ vs, LayI bb wv i data n vs → R = (vs.map WriteR.pl, 0)) := Lib.hid fun vs h => HL3.out vs hm h
    have HL2' : Hid (∀ k, k < n → ¬ (0 ≤ i ∧ i + k < (bl / 32 : Nat) ∧ wl + k < 100000) → R = (wv.map WriteR.pl, 14)) := Lib.hid fun k h1 h2 => HL2.out k hm (by omega) h2
    have hdiv : (D : Int) / 32 = n := by omega
    have HDn := Lib.hid hDn
    clear hDn hn
    clear HL1 HL2 HL3
    go_upto_region 5 with fail
    obtain ⟨w4, hw4⟩ : ∃ x, x = w3.alloc (.cells #[.slice A1 bl c1, .slice PA1 wl pc1] 25) := ⟨_, rfl⟩
    have k34 : Keep w3 w4 := by rw [hw4]; exact keep_new _ _
    have HXB : Hid (Blk w4 w3.heap.size 25 [.slice A1 bl c1, .slice PA1 wl pc1]) := by rw [hw4]; exact Lib.hid (Blk.new w3 _ [.slice A1 bl c1, .slice PA1 wl pc1])
    rw [← hw4]
    have D4 := Lib.hid (D1.out.keep k34)
    have K34 := Lib.hid k34
    clear hw4 k34 b0 b1 hm2
    go_wp2_with fail
    go_loopw [10] (fun iv_ wr => ∃ (k : Nat) (A2 : Option Addr) (c2 : Nat) (PA2 : Option Addr) (vs : List WriteR) (pc2 : Nat), k ≤ n ∧ iv_ = .int .i64 k ∧ Hid (LayI bb wv i data k vs) ∧ Hid (DOk wr A2 bb c2 PA2 vs pc2) ∧ Hid (Blk wr w3.heap.size 25 [.slice A2 bl c2, .slice PA2 vs.length pc2]) ∧ Hid (Keep w3 wr)) (fun iv_ _ => n - (intOf iv_).toNat)
    case atStart => exact ⟨0, A1, c1, PA1, wv, pc1, Nat.zero_le _, rfl, HI0, D4, by rw [HWL.out]; exact HXB, K34⟩
    case round =>
      obtain ⟨k, A2, c2, PA2, vs, pc2, hk, rfl, HI, HDO, HB9, HKr⟩ := hrel
      clear HI0 D4 HXB K34
      by_cases hlt : k < n
      · have hlt2 : (k : Int) < n := by omega
        have hk32 : 32 * k + 32 ≤ data.length := by rw [HDL.out]; have := HDn.out; omega
        have hkD : 32 * k + 32 ≤ D := by have := HDn.out; omega
        have hgood := HI.out.good hk32
        have hbad := HI.out.bad hk32
        have hcl := chunk_len data hk32
        have hsn := tk_of HI.out.sn
        obtain ⟨ch, hch⟩ : ∃ x, (data.drop (32 * k)).take 32 = x := ⟨_, rfl⟩
        have HCH := Lib.hid hch
        rw [hch] at hgood hbad hcl
        obtain ⟨V, hV⟩ : ∃ V, max (-1) (min i 100000) = V := ⟨_, rfl⟩
        rw [hV] at hgood hbad
        obtain ⟨PE, hPE⟩ : ∃ x, putD bb vs (V + k) ch = x := ⟨_, rfl⟩
        rw [hPE] at hgood hbad
        obtain ⟨db, doff, rfl, hdb, hdc2⟩ := HDR.out.at (k := 32 * k) (by rw [List.length_map]; omega)
        have HCR : Hid (∀ y, Keep w y → Rd y (some ⟨db, doff + 32 * k, none⟩) (ch.map u8v)) := Lib.hid fun y hy => .inr ⟨db, doff + 32 * k, rfl, fun j hj => by
          rw [List.length_map, hcl] at hj
          have q := keep_cell hy (hdc2 (32 * k + j) (by rw [List.length_map]; omega))
          rw [← Nat.add_assoc] at q
          rw [q]
          congr 1
          simp only [List.getElem_map, ← hch, List.getElem_take, List.getElem_drop]⟩
        have PT : Hid (∀ y, Keep wr y → Calls Try.prog 10 #[DV A2 bl c2 PA2 vs.length pc2, .int .i64 ((if (-1 : Int) < if (100000 : Int) < i then 100000 else i then if (100000 : Int) < i then 100000 else i else -1) + k), .slice (some ⟨db, doff + 32 * k, none⟩) 32 (cd - 32 * k)] y fun e w' => ∃ A3 c3 PA3 pc3 us, e = .returned (.tuple #[DV A3 bl c3 PA3 us.length pc3, .int .i64 PE.2]) ∧ us.map WriteR.pl = PE.1 ∧ DOk w' A3 bb c3 PA3 us pc3 ∧ Keep y w') := Lib.hid fun y hy => by
          have q := rput_any A2 bb c2 PA2 vs pc2 (V + k) (some ⟨db, doff + 32 * k, none⟩) ch (cd - 32 * k) y (HDO.out.keep hy) (HCR.out y (keep_trans K3.out (keep_trans HKr.out hy))) (by omega)
          rw [hsn.1, hPE, hcl, HBL.out] at q
          have e1 : (if (-1 : Int) < if (100000 : Int) < i then 100000 else i then if (100000 : Int) < i then 100000 else i else -1) = V := by rw [← hV]; split <;> split <;> omega
          rw [e1]
          exact q
        have hsl := slice_32 db doff D cd k hkD hdc
        rw [if_neg (by omega)] at hsl
        have HGD := Lib.hid hgood; have HBD := Lib.hid hbad
        have hz9 : w3.heap.size < wr.heap.size := HB9.out.lt
        clear hgood hbad hcl hsn hch hPE hdb hdc2 hk32 HL3'
        go_upto_region 8 with fail
        go_cut [11, 12] (fun p e wx => ∃ (g11 : Nat) (A3 : Option Addr) (c3 : Nat) (PA3 : Option Addr) (us : List WriteR) (pc3 : Nat), p = .pointer (some ⟨g11, 0, none⟩) ∧ e = .int .i64 PE.2 ∧ Hid (wr.heap.size ≤ g11) ∧ Hid (Blk wx g11 25 [.slice A3 bl c3, .slice PA3 us.length pc3]) ∧ Hid (DOk wx A3 bb c3 PA3 us pc3) ∧ Hid (us.map WriteR.pl = PE.1) ∧ Hid (Keep wr wx))
        case first =>
          refine wp_region_tree (.take [0,1,2,3,4,5,6,7,8,9,10,11,12] (.fork 13 (.take [14,15,16] (.force [17] .done)) 17 (.force [13] (.take [14,15,16] .done)))) [18,19] (by kernel_rfl) (by kernel_rfl) (fun y0 hk => ?_)
          have q0 := aft_cell (keep_cell hk ((HB9.out.cell 0).trans rfl)); have q1 := aft_cell (keep_cell hk ((HB9.out.cell 1).trans rfl))
          have HQ := Lib.hid hk
          clear hk
          refine mt_take y0 (Below.refl _ _) ?_
          simp only [pick_cons, pick_nil, nth_zero, nth_succ]
          repeat (go_big_quiet_step (fail))
          clear q0 q1
          refine wpQuiet_nil (mt_fork ?_ ?_)
          · simp only [pick_cons, pick_nil, nth_zero, nth_succ]
            refine fc_step rfl (fun K hK => ?_)
            go_simp
            (with_reducible refine (PT.out _ HQ.out).mono ?_)
            rintro e y1 ⟨A3, c3, PA3, pc3, us, rfl, hus, hd, hk1⟩
            refine hK _ _ hk1 ?_
            clear hK K
            have HD3 := Lib.hid hd; have HUS := Lib.hid hus
            replace HQ := Lib.hid (keep_trans HQ.out hk1)
            clear hk1 hd hus PT
            refine fc_nil (mt_take y1 (Below.refl _ _) ?_)
            simp only [pick_cons, pick_nil, nth_zero, nth_succ]
            repeat (go_big_quiet_step (fail))
            refine wpQuiet_nil (mt_force ?_)
            simp only [pick_cons, pick_nil, nth_zero, nth_succ]
            refine fc_step rfl (fun K hK => ?_)
            go_simp
            refine hK _ _ (keep_new _ _) ?_
            clear hK K
            obtain ⟨y2, hy⟩ : ∃ x, x = y1.alloc (.cells #[.slice none 0 0, .slice none 0 0] 25) := ⟨_, rfl⟩
            have hk1 : Keep y1 y2 := by rw [hy]; exact keep_new _ _
            have HN : Hid (Blk y2 y1.heap.size 25 [.slice none 0 0, .slice none 0 0]) := by rw [hy]; exact Lib.hid (Blk.new y1 _ [.slice none 0 0, .slice none 0 0])
            rw [← hy]
            have hzy : wr.heap.size ≤ y1.heap.size := HQ.out.size
            replace HQ := Lib.hid (keep_trans HQ.out hk1)
            replace HD3 := Lib.hid (HD3.out.keep hk1)
            clear hy hk1
            generalize y1.heap.size = g11 at *
            refine fc_nil (mt_end ?_)
            have hgw := grown_set2 y2 g11 (.slice A3 bl c3) (.slice PA3 us.length pc3)
            have HDz := Lib.hid (DOk.far HD3.out HN.out hgw)
            have r0 := HN.out.cell 0; have r1 := HN.out.cell 1; have f0 := HN.out.frozen 0; have f1 := HN.out.frozen 1
            simp only [List.getElem?_cons_succ, List.getElem?_cons_zero] at r0 r1
            have HBz : Hid (Blk ((y2.setCell ⟨g11, 0, none⟩ (.slice A3 bl c3)).setCell ⟨g11, 1, none⟩ (.slice PA3 us.length pc3)) g11 25 [.slice A3 bl c3, .slice PA3 us.length pc3]) := Lib.hid ((HN.out.set_ 0 _).set_ 1 _)
            have HKz : Hid (Keep wr ((y2.setCell ⟨g11, 0, none⟩ (.slice A3 bl c3)).setCell ⟨g11, 1, none⟩ (.slice PA3 us.length pc3))) := Lib.hid ((HQ.out.setCell (by show wr.heap.size ≤ g11; omega) _).setCell (by show wr.heap.size ≤ g11; omega) _)
            clear hgw
            go_wp2
            all_goals go_meet
            all_goals exact ⟨g11, A3, c3, PA3, us, pc3, rfl, rfl, Lib.hid (by omega), HBz, HDz, HUS, HKz⟩
          · simp only [pick_cons, pick_nil, nth_zero, nth_succ]
            refine fc_step rfl (fun K hK => ?_)
            go_simp
            refine hK _ _ (keep_new _ _) ?_
            clear hK K
            obtain ⟨y1, hy⟩ : ∃ x, x = y0.alloc (.cells #[.slice none 0 0, .slice none 0 0] 25) := ⟨_, rfl⟩
            have hk1 : Keep y0 y1 := by rw [hy]; exact keep_new _ _
            have HN : Hid (Blk y1 y0.heap.size 25 [.slice none 0 0, .slice none 0 0]) := by rw [hy]; exact Lib.hid (Blk.new y0 _ [.slice none 0 0, .slice none 0 0])
            rw [← hy]
            have hzy : wr.heap.size ≤ y0.heap.size := HQ.out.size
            replace HQ := Lib.hid (keep_trans HQ.out hk1)
            clear hy hk1
            generalize y0.heap.size = g11 at *
            refine fc_nil (mt_force ?_)
            simp only [pick_cons, pick_nil, nth_zero, nth_succ]
            refine fc_step rfl (fun K hK => ?_)
            go_simp
            (with_reducible refine (PT.out _ HQ.out).mono ?_)
            rintro e y2 ⟨A3, c3, PA3, pc3, us, rfl, hus, hd, hk1⟩
            refine hK _ _ hk1 ?_
            clear hK K
            have HD3 := Lib.hid hd; have HUS := Lib.hid hus
            replace HN := Lib.hid (HN.out.keep hk1)
            replace HQ := Lib.hid (keep_trans HQ.out hk1)
            clear hk1 hd hus PT
            refine fc_nil (mt_take y2 (Below.refl _ _) ?_)
            simp only [pick_cons, pick_nil, nth_zero, nth_succ]
            repeat (go_big_quiet_step (fail))
            refine wpQuiet_nil (mt_end ?_)
            have hgw := grown_set2 y2 g11 (.slice A3 bl c3) (.slice PA3 us.length pc3)
            have HDz := Lib.hid (DOk.far HD3.out HN.out hgw)
            have r0 := HN.out.cell 0; have r1 := HN.out.cell 1; have f0 := HN.out.frozen 0; have f1 := HN.out.frozen 1
            simp only [List.getElem?_cons_succ, List.getElem?_cons_zero] at r0 r1
            have HBz : Hid (Blk ((y2.setCell ⟨g11, 0, none⟩ (.slice A3 bl c3)).setCell ⟨g11, 1, none⟩ (.slice PA3 us.length pc3)) g11 25 [.slice A3 bl c3, .slice PA3 us.length pc3]) := Lib.hid ((HN.out.set_ 0 _).set_ 1 _)
            have HKz : Hid (Keep wr ((y2.setCell ⟨g11, 0, none⟩ (.slice A3 bl c3)).setCell ⟨g11, 1, none⟩ (.slice PA3 us.length pc3))) := Lib.hid ((HQ.out.setCell (by show wr.heap.size ≤ g11; omega) _).setCell (by show wr.heap.size ≤ g11; omega) _)
            clear hgw
            go_wp2
            all_goals go_meet
            all_goals exact ⟨g11, A3, c3, PA3, us, pc3, rfl, rfl, Lib.hid (by omega), HBz, HDz, HUS, HKz⟩
        obtain ⟨g11, A3, c3, PA3, us, pc3, rfl, rfl, HG11, HB11, HD11, HUS, HKc⟩ := hcut
        have hg11 := HG11.out
        clear PT hsl HCR HDR HCH
        have KC := Lib.hid (keep_trans HKr.out HKc.out)
        by_cases hg : 0 ≤ i ∧ i + k < (bl / 32 : Nat) ∧ wl + k < 100000
        · obtain ⟨hp1, hp2⟩ := HGD.out hg.1 (by rw [HBL.out]; exact hg.2.1) (by rw [HWL.out]; exact hg.2.2)
          subst hp1
          have HLI := Lib.hid (hp2 us HUS.out)
          clear hp2 HGD HBD HL2'
          have hni : ¬ i < 0 := by omega
          clear hg
          have HB := Lib.hid (HB9.out.keep HKc.out)
          have hgw := grown_set2 wc w3.heap.size (.slice A3 bl c3) (.slice PA3 us.length pc3)
          have HDz := Lib.hid (DOk.far HD11.out HB.out hgw)
          have HBz : Hid (Blk ((wc.setCell ⟨w3.heap.size, 0, none⟩ (.slice A3 bl c3)).setCell ⟨w3.heap.size, 1, none⟩ (.slice PA3 us.length pc3)) w3.heap.size 25 [.slice A3 bl c3, .slice PA3 us.length pc3]) := Lib.hid ((HB.out.set_ 0 _).set_ 1 _)
          have HKz : Hid (Keep w3 ((wc.setCell ⟨w3.heap.size, 0, none⟩ (.slice A3 bl c3)).setCell ⟨w3.heap.size, 1, none⟩ (.slice PA3 us.length pc3))) := Lib.hid ((KC.out.setCell (by simp) _).setCell (by simp) _)
          have b0 := HB11.out.cell 0; have b1 := HB11.out.cell 1
          have r0 := HB.out.cell 0; have r1 := HB.out.cell 1; have f0 := HB.out.frozen 0; have f1 := HB.out.frozen 1
          simp only [List.getElem?_cons_succ, List.getElem?_cons_zero] at r0 r1 b0 b1
          clear hgw hV
          go_wp2
          go_roundw
          case rel => exact ⟨k + 1, A3, c3, PA3, us, pc3, by omega, by go_num, HLI, HDz, HBz, HKz⟩
          case measure => simp [intOf]; omega
        · have hR := HL2'.out k hlt hg
          subst hR
          have hor := HBD.out (by rw [HBL.out, HWL.out]; exact hg)
          clear HL2' HGD HBD HI hg hV
          have HOC := Lib.hid ((HOB.out.keep KC.out))
          have b0 := HOC.out.cell 0; have b1 := HOC.out.cell 1
          simp only [List.getElem?_cons_succ, List.getElem?_cons_zero] at b0 b1
          have D9 := Lib.hid (D1.out.keep KC.out)
          obtain ⟨P2, hP2⟩ : ∃ x, PE.2 = x := ⟨_, rfl⟩
          rw [hP2]; rw [hP2] at hor
          clear HUS hP2
          by_cases hi : i < 0
          · clear hor
            go_upto_region 10 with fail
            have hrb := HRB.out.keep KC.out
            have r0 := hrb.cell 0; have r1 := hrb.cell 1; have f0 := hrb.frozen 0; have f1 := hrb.frozen 1
            simp only [List.getElem?_cons_succ, List.getElem?_cons_zero] at r0 r1
            have HRW := Lib.hid hrb
            clear hrb
            go_wp2
            have k9 : Keep w ((wc.setCell ⟨w.heap.size + 1, 0, none⟩ (.slice A1 bl c1)).setCell ⟨w.heap.size + 1, 1, none⟩ (.slice PA1 wl pc1)) := ((keep_trans K3.out KC.out).setCell (by simp) _).setCell (by simp) _
            have d9 := DOk.far D9.out HRW.out (grown_set2 wc (w.heap.size + 1) (.slice A1 bl c1) (.slice PA1 wl pc1))
            exact bodyPost_ret (v := .tuple #[DV A1 bl c1 PA1 wl pc1, .int .i64 14]) (by simp [results, Try.results12, go_sem, r0, r1, f0, f1]) rfl ⟨A1, c1, PA1, pc1, wv, (by rw [HWL.out]), rfl, d9, k9⟩
          · obtain rfl : P2 = 14 := hor.resolve_left hi
            clear hor
            go_upto_region 10 with fail
            have hrb := HRB.out.keep KC.out
            have r0 := hrb.cell 0; have r1 := hrb.cell 1; have f0 := hrb.frozen 0; have f1 := hrb.frozen 1
            simp only [List.getElem?_cons_succ, List.getElem?_cons_zero] at r0 r1
            have HRW := Lib.hid hrb
            clear hrb
            go_wp2
            have k9 : Keep w ((wc.setCell ⟨w.heap.size + 1, 0, none⟩ (.slice A1 bl c1)).setCell ⟨w.heap.size + 1, 1, none⟩ (.slice PA1 wl pc1)) := ((keep_trans K3.out KC.out).setCell (by simp) _).setCell (by simp) _
            have d9 := DOk.far D9.out HRW.out (grown_set2 wc (w.heap.size + 1) (.slice A1 bl c1) (.slice PA1 wl pc1))
            exact bodyPost_ret (v := .tuple #[DV A1 bl c1 PA1 wl pc1, .int .i64 14]) (by simp [results, Try.results12, go_sem, r0, r1, f0, f1]) rfl ⟨A1, c1, PA1, pc1, wv, (by rw [HWL.out]), rfl, d9, k9⟩
      · obtain rfl : k = n := by omega
        have hlt2 : ¬ (k : Int) < k := by omega
        have hR := HL3'.out vs HI.out
        subst hR
        have b0 := HB9.out.cell 0; have b1 := HB9.out.cell 1
        simp only [List.getElem?_cons_succ, List.getElem?_cons_zero] at b0 b1
        clear HL3' HL2' HI hlt
        go_upto_region 12 with fail
        have hrb := HRB.out.keep HKr.out
        have r0 := hrb.cell 0; have r1 := hrb.cell 1; have f0 := hrb.frozen 0; have f1 := hrb.frozen 1
        simp only [List.getElem?_cons_succ, List.getElem?_cons_zero] at r0 r1
        have HRW := Lib.hid hrb
        clear hrb
        go_wp2
        have k9 : Keep w ((wr.setCell ⟨w.heap.size + 1, 0, none⟩ (.slice A2 bl c2)).setCell ⟨w.heap.size + 1, 1, none⟩ (.slice PA2 vs.length pc2)) := ((keep_trans K3.out HKr.out).setCell (by simp) _).setCell (by simp) _
        have d9 := DOk.far HDO.out HRW.out (grown_set2 wr (w.heap.size + 1) (.slice A2 bl c2) (.slice PA2 vs.length pc2))
        exact bodyPost_ret (v := .tuple #[DV A2 bl c2 PA2 vs.length pc2, .int .i64 0]) (by simp [results, Try.results12, go_sem, r0, r1, f0, f1]) rfl ⟨A2, c2, PA2, pc2, vs, rfl, rfl, d9, k9⟩
  · have hm2 : ((D : Int) % 32 != 0) = true := by simp; omega
    have hR := HL1.out hm
    subst hR
    clear HL1 HL2 HL3 HI0 hm
    go_upto_region 3 with fail
    have hrb := HRB.out.keep (Below.refl _ _)
    have r0 := hrb.cell 0; have r1 := hrb.cell 1; have f0 := hrb.frozen 0; have f1 := hrb.frozen 1
    simp only [List.getElem?_cons_succ, List.getElem?_cons_zero] at r0 r1
    have HRW := Lib.hid hrb
    clear hrb
    go_wp2
    have k9 : Keep w ((w3.setCell ⟨w.heap.size + 1, 0, none⟩ (.slice A1 bl c1)).setCell ⟨w.heap.size + 1, 1, none⟩ (.slice PA1 wl pc1)) := ((keep_trans K3.out (Below.refl _ _)).setCell (by simp) _).setCell (by simp) _
    have d9 := DOk.far D1.out HRW.out (grown_set2 w3 (w.heap.size + 1) (.slice A1 bl c1) (.slice PA1 wl pc1))
    exact bodyPost_ret (v := .tuple #[DV A1 bl c1 PA1 wl pc1, .int .i64 14]) (by simp [results, Try.results12, go_sem, r0, r1, f0, f1]) rfl ⟨A1, c1, PA1, pc1, wv, (by rw [HWL.out]), rfl, d9, k9⟩
end Go.Proofs.Ytmhbfjcehmjllaa
