/- What was synced is there behind a crash: the walk. -/
import Derived.Test.YtielojlhdnimgaaDoorJrnW1
set_option linter.unusedSimpArgs false
set_option linter.unusedVariables false
namespace Go.Proofs.YtielojlhdnimgaaDoor
open Go.RowKit
attribute [local go_sem ↓] Go.wp_at_zero Go.wp_at_succ

set_option maxRecDepth 100000 in
set_option maxHeartbeats 8000000 in
theorem crash_walk (A : Option Addr) (b : List UInt8) (c : Nat) (PA : Option Addr) (ws : List WriteR) (pc : Nat) (base room : Int) (Al : Option Addr) (gl : List Hd) (cl : Nat) (sync : Int) (Bp : Option Addr) (plan : List UInt8) (cp : Nat) (w : World) (h : DOk w A b c PA ws pc) (hS : ShaOk w)
    (hb : -9223372036854775808 ≤ base ∧ base ≤ 9223372036854775807) (hr : -9223372036854775808 ≤ room ∧ room ≤ 9223372036854775807) (hl : Rd w Al (gl.flatMap Hd.cells)) (hgo : ∀ x ∈ gl, x.ok) (hlc : gl.length ≤ cl) (hcm : cl ≤ maxLen) (hsy : -9223372036854775808 ≤ sync ∧ sync ≤ 9223372036854775807) (hpr : Rd w Bp (plan.map u8v)) (hpc : plan.length ≤ cp) (hpcm : cp ≤ maxLen) :
    Calls Tryd.prog 7 #[DV A b.length c PA ws.length pc, .int .i64 base, .int .i64 room, .slice Al gl.length cl, .int .i64 sync, .slice Bp plan.length cp] w fun e w' => e = .returned (.bool true) ∧ Keep w w' := by
  have hpl0 := h.pl; have hpm := h.pm; have hbc := h.bc; have hcm0 := h.cm
  unfold maxLen at hpm hcm hcm0 hpcm
  have Hh := Lib.hid h; have HS := Lib.hid hS; have Hl := Lib.hid hl; have Hgo := Lib.hid hgo; have Hpr := Lib.hid hpr
  clear h hS hl hgo hpr
  obtain ⟨zs, hz1, hz2, hz3⟩ := zlog_letter
  go_enter Tryd.func7, Tryd.ntmps7
  go_upto_region 1 with fail
  obtain ⟨w0, hw0⟩ : ∃ w0, w0 = w.alloc (.cells #[.slice A b.length c, .slice PA ws.length pc] 25) := ⟨_, rfl⟩
  have HD0 : Hid (Blk w0 w.heap.size 25 [.slice A b.length c, .slice PA ws.length pc]) := by rw [hw0]; exact Blk.new w _ [.slice A b.length c, .slice PA ws.length pc]
  have HK0 : Hid (Keep w w0) := by rw [hw0]; exact keep_new _ _
  have hz00 : w.heap.size < w0.heap.size := HD0.out.lt
  rw [← hw0]
  clear hw0
  generalize w.heap.size = B0 at *
  go_wp2_with fail
  refine (awake_any w0 (HS.out.keep HK0.out)).mono ?_
  rintro e w1 ⟨rfl, k1⟩
  have HD1 := Lib.hid (HD0.out.keep k1); have HK1 := Lib.hid (keep_trans HK0.out k1)
  have hz1' : w0.heap.size ≤ w1.heap.size := k1.size
  clear k1
  have b0 := HD1.out.cell 0; have b1 := HD1.out.cell 1
  simp only [List.getElem?_cons_zero, List.getElem?_cons_succ] at b0 b1
  go_wp2_with fail
  refine (few_any _ _ _ _ _ _ _ (by omega) (by omega)).mono ?_
  rintro e w2 ⟨rfl, hk2⟩
  have HK2 := Lib.hid (keep_trans HK1.out hk2)
  replace b0 := keep_cell hk2 b0; replace b1 := keep_cell hk2 b1
  clear hk2 HD1 HD0
  cases hf : fewD b.length ws.length with
  | false => go_wp2_with fail; go_ret; exact ⟨rfl, HK2.out⟩
  | true =>
    have hfew := of_decide_eq_true hf; clear hf
    by_cases hq0 : 60 < room
    · go_wp2_with fail; go_ret; exact ⟨rfl, HK2.out⟩
    have hq0' : room ≤ 60 := by omega
    clear hq0
    by_cases hq1 : 30 < gl.length
    · have hq1' : (30 : Int) < (gl.length : Int) := by omega
      go_wp2_with fail; go_ret; exact ⟨rfl, HK2.out⟩
    have hq1' : (gl.length : Int) ≤ 30 := by omega
    clear hq1
    by_cases hq2 : 400 < plan.length
    · have hq2' : (400 : Int) < (plan.length : Int) := by omega
      go_wp2_with fail; go_ret; exact ⟨rfl, HK2.out⟩
    have hq2' : (plan.length : Int) ≤ 400 := by omega
    clear hq2
    go_wp2_with fail
    refine (drive_any A b c PA ws pc w2 (Hh.out.keep HK2.out) (by omega)).mono ?_
    rintro e w3 ⟨PA3, pc3, rfl, _, hd3, hk3⟩
    have HK3 := Lib.hid (keep_trans HK2.out hk3)
    have C1 := reop_w A b c PA3 ws pc3 base room w3 (hd3 w3 (Below.refl _ _)) (HS.out.keep HK3.out) hb (by omega)
    clear hd3 hk3 b0 b1
    go_wp2_with fail
    refine C1.mono ?_
    clear C1
    rintro e w4 ⟨B, hs, A4, c4, cs, Ah, ch, rfl, R, hcs, hd4, own4, hok, k4⟩
    have hcz := hcs.z; have hcn := hcs.n; have hci := hcs.i
    have Hcs := Lib.hid hcs; have Hd4 := Lib.hid hd4; have HK4 := Lib.hid (keep_trans HK3.out k4); have Own4 := Lib.hid own4; have Hok := Lib.hid hok; have HR := Lib.hid R
    have hz34 : w3.heap.size ≤ w4.heap.size := k4.size
    have Hk4 := Lib.hid k4
    have hst : (storeCells ⟨w4.heap.size, 0, none⟩ cs.toList 0).run Tryd.prog (w4.alloc (.cells zs 35)) = .ok () (w4.alloc (.cells cs 35)) := run_storeCells_new (P := Tryd.prog) w4 35 zs cs hci (hz1.trans hcz.symm) (by have := all_oneCell_toArray Hcs.out.o; rwa [Array.toArray_toList] at this)
    clear hcs hd4 own4 R k4 hok
    go_upto_region 5 with fail
    clear hst
    obtain ⟨w5, hw5⟩ : ∃ w5, w5 = w4.alloc (.cells cs 35) := ⟨_, rfl⟩
    have HC5 : Hid (Blk w5 w4.heap.size 35 cs.toList) := by rw [hw5]; exact Blk.new w4 _ cs.toList
    have k5 : Keep w4 w5 := by rw [hw5]; exact keep_new _ _
    rw [← hw5]
    clear hw5
    have HK5 := Lib.hid (keep_trans HK4.out k5); have Own5 := Lib.hid (own_keep Own4.out k5)
    have hz45 : w4.heap.size < w5.heap.size := HC5.out.lt
    have HoP : Hid ((Value.slice Ah hs.length ch).ownBlock ≠ some w4.heap.size) := fun e => by have h1 := (Own4.out.lt _ e).2; omega
    have L5 : Hid (LgS (fun k => k = w4.heap.size ∨ (Value.slice Ah hs.length ch).ownBlock = some k) w5 w4.heap.size base room hs 0 A4 B c4 none [] 0) := by
      have hb5 := HC5.out
      rw [Hcs.out.l] at hb5
      refine ⟨hb5, HR.out.inv, Nat.le_refl _, fun W hW => Hd4.out W fun k q1 q2 q3 => ?_⟩
      have hkn : k ≠ w4.heap.size := Nat.ne_of_lt q2
      rw [hW k (Nat.zero_le _) (Nat.lt_trans q2 hz45) (fun q => q.elim hkn q3)]
      exact k5.block k q2
    have Cr5 : Hid (CrS B ([] : List WP) base hs hs.length) := CrS.start HR.out.inv HR.out.sane
    have h3P : w3.heap.size ≤ w4.heap.size := hz34
    have hKw : w.heap.size ≤ w3.heap.size := HK3.out.size
    generalize w4.heap.size = P at *
    clear HC5 Own4 Hcs Hd4 k5 HR Hk4
    go_upto_region 7 with fail
    go_loopw [15, 16, 17] (fun v su i wr => ∃ (k sure : Nat) (A2 : Option Addr) (b2 : List UInt8) (c2 : Nat) (PA2 : Option Addr) (ws2 : List WriteR) (pc2 : Nat) (all : List Hd) (Ag : Option Addr) (cg : Nat), k ≤ gl.length ∧ i = .int .i64 k ∧ su = .int .i64 sure ∧ v = .slice Ag all.length cg ∧
        LgS (fun q => q = P ∨ (Value.slice Ag all.length cg).ownBlock = some q) wr P base room all (4 * k) A2 b2 c2 PA2 ws2 pc2 ∧ CrS b2 (ws2.map WriteR.pl) base all sure ∧ wr.ownsRow w3.heap.size 44 68 (.slice Ag all.length cg) all.length (all.flatMap Hd.cells) ∧ (∀ x ∈ all, x.ok) ∧
        (Value.slice Ag all.length cg).ownBlock ≠ some P ∧ Keep w wr) (fun _ _ i _ => gl.length - (intOf i).toNat)
    case atStart => exact ⟨0, hs.length, A4, B, c4, none, [], 0, hs, Ah, ch, Nat.zero_le _, rfl, rfl, rfl, L5.out, Cr5.out, Own5.out, Hok.out, HoP.out, HK5.out⟩
    case round =>
      obtain ⟨k, sure0, A20, b20, c20, PA20, ws20, pc20, all, Ag, cg, hk, rfl, rfl, rfl, hL, hC, own, hok, hoP, hkr⟩ := hrel
      have HL0 := Lib.hid hL; have HC0 := Lib.hid hC; have Own0 := Lib.hid own; have Hok2 := Lib.hid hok; have HoP2 := Lib.hid hoP; have HKr0 := Lib.hid hkr
      have hPr0 : P < wr.heap.size := hL.blk.lt
      have hfit : all.length ≤ 1024 := by have h1 := hL.inv.fnd.fit; have : roomN room ≤ 1024 := by { unfold roomN; omega }; omega
      have hsu0 : sure0 ≤ all.length := hC.le
      clear hL hC own hok hoP hkr L5 Own5 HoP Hok HK5 Cr5
      by_cases hlt : k < gl.length
      · go_upto_if 61 with fail
        go_cut [16] (fun su wx => ∃ (sure : Nat) (A2 : Option Addr) (b2 : List UInt8) (c2 : Nat) (PA2 : Option Addr) (ws2 : List WriteR) (pc2 : Nat), su = .int .i64 sure ∧ Hid (LgS (fun q => q = P ∨ (Value.slice Ag all.length cg).ownBlock = some q) wx P base room all (4 * k) A2 b2 c2 PA2 ws2 pc2) ∧ Hid (CrS b2 (ws2.map WriteR.pl) base all sure) ∧
            Hid (wx.ownsRow w3.heap.size 44 68 (.slice Ag all.length cg) all.length (all.flatMap Hd.cells)) ∧ Hid (Keep w wx) ∧ P < wx.heap.size)
        case first =>
          by_cases hsq : (k : Int) = sync
          · obtain ⟨cs7, hcs7⟩ : ∃ cs7 : Array Value, cs7.toList = lgCells (.slice A20 b20.length c20) (.slice PA20 ws20.length pc20) base room (all.length : Nat) (lastL 0 z32 all) := ⟨_, rfl⟩
            have hcA7 := LogA.of (lastL_len all 0 z32 rfl) hcs7
            have hcz7 := hcA7.z; have hcn7 := hcA7.n; have hci7 := hcA7.i
            have HBP7 : Hid (Blk wr P 35 cs7.toList) := by rw [hcs7]; exact HL0.out.blk
            have C7 := sync_w A20 b20 c20 PA20 ws20 pc20 base room all cs7 wr (HL0.out.dok wr (Fr.of_keep (Below.refl _ _))) (HS.out.keep HKr0.out) hb HL0.out.inv hcA7
            have hsq' : ((k : Int) == sync) = true := by simpa using hsq
            clear hcA7 hcs7 hsq
            go_wp2_with ((with_reducible refine load_arr P cs7 (Eq.trans ?_ rfl) HBP7.out _ Tryd.underlying35 rfl hci7 ?_); rfl)
            refine C7.mono ?_
            clear C7
            rintro e w8 ⟨B8, A8, c8, es, hB8, rfl, hes, hinv8, hd8, k8⟩
            have hez := hes.z; have hen := hes.n; have hei := hes.i
            have Hes := Lib.hid hes; have Hinv8 := Lib.hid hinv8; have Hd8 := Lib.hid hd8; have K8 := Lib.hid k8
            have Hsn8 : Hid (saneP B8.length [] = true) := by rw [hB8]; exact bytesQ_sane _ _
            obtain ⟨w9, hst9, hb9, hg9⟩ := run_store_blk (P := Tryd.prog) es.toList (HBP7.out.keep k8) (by simp [hcz7, hez]) Hes.out.o
            rw [Hes.out.l] at hb9
            have Hb9 := Lib.hid hb9; have Hg9 := Lib.hid hg9
            clear hes hinv8 hd8 k8 hb9 hg9 hB8
            go_wp2_with fail
            go_meet
            have hz8 := K8.out.size; have hz9 := Hg9.out.size
            refine ⟨all.length, A8, B8, c8, none, [], 0, rfl, Lib.hid ⟨Hb9.out, Hinv8.out, Nat.zero_le _, fun W hW => Hd8.out W fun q q1 q2 _ => ?_⟩, Lib.hid (CrS.start Hinv8.out Hsn8.out), Lib.hid ?_, Lib.hid ((keep_trans HKr0.out K8.out).grown Hg9.out (keep_trans HKr0.out K8.out).size (fun q hq => by injection hq with hq; omega)), by omega⟩
            · have n1 : q ≠ P := by omega
              have n3 : (Value.slice Ag all.length cg).ownBlock ≠ some q := fun e => by have h1 := (Own0.out.lt q e).2; omega
              rw [hW q (Nat.zero_le _) (by omega) (fun e => e.elim n1 n3)]
              exact Hg9.out.block q q2 (fun e => n1 (Option.some.inj e))
            · exact (own_keep Own0.out K8.out).kept Hg9.out (.inr (fun e => HoP2.out e))
          · have hsq' : ((k : Int) == sync) = false := by simpa using hsq
            go_wp2
            go_meet
            exact ⟨sure0, A20, b20, c20, PA20, ws20, pc20, rfl, HL0, HC0, Own0, HKr0, hPr0⟩
        case rest =>
          obtain ⟨sure, A2, b2, c2, PA2, ws2, pc2, rfl, HL, HC, Own, HKr, hPr⟩ := hcut
          clear HL0 HC0 Own0 HKr0 hPr0 hsu0
          have hsu : sure ≤ all.length := HC.out.le
          generalize hwr : wc = wr at *
          obtain ⟨hb', off, rfl, hbb, F⟩ := Hd.at_ Hl.out Hgo.out hlt
          have hx := Hgo.out _ (List.getElem_mem hlt)
          obtain ⟨x, hxe⟩ : ∃ x, gl[k] = x := ⟨_, rfl⟩
          rw [hxe] at F hx
          obtain ⟨hv, hhv⟩ : ∃ hv, HdA x hv := ⟨_, HdA.of hx⟩
          have hvz := hhv.z; have hvn := hhv.n; have hvi := hhv.i
          have Hhv := Lib.hid hhv; have Hx := Lib.hid hx
          have HFw := Lib.hid (fun W hW => by rw [Hhv.out.l]; exact F W hW : ∀ W, Keep w W → W.rangeAt hb' (off + k * 68) hv.toList)
          have HF : Hid (∀ W, Keep wr W → W.rangeAt hb' (off + k * 68) hv.toList) := fun W hW => by rw [Hhv.out.l]; exact F W (keep_trans HKr.out hW)
          obtain ⟨cs2, hcs2⟩ : ∃ cs2 : Array Value, cs2.toList = lgCells (.slice A2 b2.length c2) (.slice PA2 ws2.length pc2) base room (all.length : Nat) (lastL 0 z32 all) := ⟨_, rfl⟩
          have hcA := LogA.of (lastL_len all 0 z32 rfl) hcs2
          have hcz2 := hcA.z; have hcn2 := hcA.n; have hci2 := hcA.i
          have HcA := Lib.hid hcA
          have HBP : Hid (Blk wr P 35 cs2.toList) := by rw [hcs2]; exact HL.out.blk
          have hXl : Hid (∀ q, (q = P ∨ (Value.slice Ag all.length cg).ownBlock = some q) → q < wr.heap.size) := fun q e => e.elim (fun e => by omega) (fun e => (Own.out.lt _ e).2)
          have A1 : Hid (∀ y, Keep wr y → Calls Tryd.prog 12 #[.agg cs2, .agg hv] y fun e w' => ∃ A5 c5 PA5 pc5 vs ds er, e = .returned (.tuple #[.agg ds, .int .i64 er]) ∧ (∀ W, MidF (Fr 0 (fun q => q = P ∨ (Value.slice Ag all.length cg).ownBlock = some q) wr) y w' W → DOk W A5 b2 c5 PA5 vs pc5) ∧ Keep y w' ∧
              (er = 0 → LogA (lgCells (.slice A5 b2.length c5) (.slice PA5 vs.length pc5) base room ((all ++ [x]).length : Nat) (lastL 0 z32 (all ++ [x]))) ds ∧ LogInv b2 (vs.map WriteR.pl) base room (all ++ [x]) ∧ AppR b2 base all x (ws2.map WriteR.pl) (vs.map WriteR.pl)) ∧
              (er ≠ 0 → (er = 12 ∨ er = 14) ∧ LogA (lgCells (.slice A5 b2.length c5) (.slice PA5 vs.length pc5) base room (all.length : Nat) (lastL 0 z32 all)) ds ∧ vs.map WriteR.pl = ws2.map WriteR.pl)) := fun y hy =>
            (app_w A2 b2 c2 PA2 ws2 pc2 base room all cs2 x hv y (Fr 0 (fun q => q = P ∨ (Value.slice Ag all.length cg).ownBlock = some q) wr) (fun W hW => Fr.of_keep (keep_trans hy hW)) HL.out.dok (HS.out.keep (keep_trans HKr.out hy)) hb HL.out.inv HcA.out Hx.out Hhv.out).mono
              fun e w' ⟨A5, c5, PA5, pc5, vs, ds, er, h1, _, h2, h3, h4, h5⟩ => ⟨A5, c5, PA5, pc5, vs, ds, er, h1, h2, h3, h4, h5⟩
          clear F hhv hx hcA hcs2 hxe
          go_upto_region 12 with fail
          go_cut [18, 19] (fun s15 s16 wx => ∃ p er A5 c5 PA5 vs pc5 ds, s15 = .pointer (some ⟨p, 0, none⟩) ∧ s16 = .int .i64 er ∧ wr.heap.size ≤ p ∧ Keep wr wx ∧
              Hid (AppP (fun q => q = P ∨ (Value.slice Ag all.length cg).ownBlock = some q) base room all x b2 ws2 p er wx A5 c5 PA5 vs pc5 ds))
          case first =>
            refine wp_region_tree (.take [0,1,2,3,4] (.fork 5 (.take [6,7,8] (.force [9] .done)) 9 (.force [5] (.take [6,7,8] .done)))) [10,11] (by kernel_rfl) (by kernel_rfl) (fun y0 q0' => ?_)
            have q0 := Lib.hid q0'
            have HB0 := Lib.hid (HBP.out.keep q0')
            have hrg0 := Lib.hid (HF.out y0 q0')
            clear q0'
            refine mt_take y0 (Below.refl _ _) ?_
            simp only [pick_cons, pick_nil, nth_zero, nth_succ]
            (with_reducible refine wpQuiet_load_partg P 0 cs2 (Eq.trans ?_ rfl) HB0.out.range _ Tryd.underlying35 rfl hci2 rfl ?_)
            rfl
            simp only [Act.put, Array.set!_eq_setIfInBounds, List.setIfInBounds_toArray, List.set_cons_succ, List.set_cons_zero]
            iterate 3 (go_big_quiet_step (fail))
            (with_reducible refine wpQuiet_load_partg hb' (off + k * 68) hv (Eq.trans ?_ rfl) hrg0.out _ Tryd.underlying44 rfl hvi rfl ?_)
            rfl
            simp only [Act.put, Array.set!_eq_setIfInBounds, List.setIfInBounds_toArray, List.set_cons_succ, List.set_cons_zero]
            refine wpQuiet_nil (mt_fork ?_ ?_)
            · simp only [pick_cons, pick_nil, nth_zero, nth_succ]
              refine fc_step rfl (fun K hK => ?_)
              go_simp
              (with_reducible refine (A1.out y0 q0.out).mono ?_)
              rintro e y1 ⟨A5, c5, PA5, pc5, vs, ds, er, rfl, hd5, hk5, h0, h1⟩
              refine hK _ _ hk5 ?_
              clear hK K
              have Hd5 := Lib.hid hd5; have H0 := Lib.hid h0; have H1 := Lib.hid h1; have K5 := Lib.hid hk5
              obtain ⟨hdz, hdn, hdo⟩ : ds.size = 37 ∧ ¬ ds = #[] ∧ ∀ v ∈ ds.toList, v.oneCell' = true := by
                by_cases he : er = 0
                · have h2 := (h0 he).1; exact ⟨h2.z, h2.n, h2.o⟩
                · have h2 := (h1 he).2.1; exact ⟨h2.z, h2.n, h2.o⟩
              have Hdo := Lib.hid hdo
              have q1 := Lib.hid (keep_trans q0.out hk5)
              clear hd5 hk5 h0 h1 hdo
              refine fc_nil (mt_take y1 (Below.refl _ _) ?_)
              simp only [pick_cons, pick_nil, nth_zero, nth_succ]
              repeat (go_big_quiet_step (fail))
              refine wpQuiet_nil (mt_force ?_)
              simp only [pick_cons, pick_nil, nth_zero, nth_succ]
              refine fc_step rfl (fun K hK => ?_)
              go_simp
              refine hK _ _ (keep_new _ _) ?_
              clear hK K
              obtain ⟨y2, hy2⟩ : ∃ y2, y2 = y1.alloc (.cells zs 35) := ⟨_, rfl⟩
              have b2' : Hid (Blk y2 y1.heap.size 35 zs.toList) := by rw [hy2]; exact Blk.new y1 _ zs.toList
              have q2 : Hid (Keep y1 y2) := by rw [hy2]; exact keep_new _ _
              rw [← hy2]
              clear hy2
              refine fc_nil (mt_end ?_)
              obtain ⟨wa, hsta, hba, hga⟩ := run_store_blk (P := Tryd.prog) ds.toList b2'.out (by simp [hz1, hdz]) Hdo.out
              have Hba := Lib.hid hba; have Hga := Lib.hid hga
              clear hba hga
              go_wp2
              go_meet
              have z1 := q1.out.size; have z2 := q2.out.size; have za := Hga.out.size; have zb := b2'.out.lt
              have hsame : ∀ q, q < y1.heap.size → wa.heap[q]? = y1.heap[q]? := fun q h => (Hga.out.block q (by omega) (fun e => by have e2 : q = y1.heap.size := Option.some.inj e; omega)).trans (q2.out.block q h)
              refine ⟨y1.heap.size, er, A5, c5, PA5, vs, pc5, ds, rfl, rfl, z1, ((keep_trans q1.out q2.out).grown Hga.out (by omega) (fun q hq => by injection hq with hq; omega)), Lib.hid ⟨Hba.out, app_fr Hd5.out q0.out hXl.out K5.out.size (by omega) (fun q h1 h2 => (hsame q (by omega)).trans (q1.out.block q h1)) (fun q _ h => hsame q h), H0.out, H1.out⟩⟩
            · simp only [pick_cons, pick_nil, nth_zero, nth_succ]
              refine fc_step rfl (fun K hK => ?_)
              go_simp
              refine hK _ _ (keep_new _ _) ?_
              clear hK K
              obtain ⟨y1, hy1⟩ : ∃ y1, y1 = y0.alloc (.cells zs 35) := ⟨_, rfl⟩
              have b1' : Hid (Blk y1 y0.heap.size 35 zs.toList) := by rw [hy1]; exact Blk.new y0 _ zs.toList
              have q01 : Hid (Keep y0 y1) := by rw [hy1]; exact keep_new _ _
              rw [← hy1]
              clear hy1
              have q1 := Lib.hid (keep_trans q0.out q01.out)
              have zb := b1'.out.lt; have z0 := q0.out.size
              generalize y0.heap.size = p5 at *
              refine fc_nil (mt_force ?_)
              simp only [pick_cons, pick_nil, nth_zero, nth_succ]
              refine fc_step rfl (fun K hK => ?_)
              go_simp
              (with_reducible refine (A1.out y1 q1.out).mono ?_)
              rintro e y2 ⟨A5, c5, PA5, pc5, vs, ds, er, rfl, hd5, hk5, h0, h1⟩
              refine hK _ _ hk5 ?_
              clear hK K
              have Hd5 := Lib.hid hd5; have H0 := Lib.hid h0; have H1 := Lib.hid h1; have K5 := Lib.hid hk5
              obtain ⟨hdz, hdn, hdo⟩ : ds.size = 37 ∧ ¬ ds = #[] ∧ ∀ v ∈ ds.toList, v.oneCell' = true := by
                by_cases he : er = 0
                · have h2 := (h0 he).1; exact ⟨h2.z, h2.n, h2.o⟩
                · have h2 := (h1 he).2.1; exact ⟨h2.z, h2.n, h2.o⟩
              have Hdo := Lib.hid hdo
              clear hd5 hk5 h0 h1 hdo
              refine fc_nil (mt_take y2 (Below.refl _ _) ?_)
              simp only [pick_cons, pick_nil, nth_zero, nth_succ]
              repeat (go_big_quiet_step (fail))
              refine wpQuiet_nil (mt_end ?_)
              obtain ⟨wa, hsta, hba, hga⟩ := run_store_blk (P := Tryd.prog) ds.toList (b1'.out.keep K5.out) (by simp [hz1, hdz]) Hdo.out
              have Hba := Lib.hid hba; have Hga := Lib.hid hga
              clear hba hga
              go_wp2
              go_meet
              have z5 := K5.out.size; have za := Hga.out.size
              have hsame : ∀ q, q < y2.heap.size → q ≠ p5 → wa.heap[q]? = y2.heap[q]? := fun q h h2 => Hga.out.block q h (fun e => by have e2 : q = p5 := Option.some.inj e; omega)
              refine ⟨p5, er, A5, c5, PA5, vs, pc5, ds, rfl, rfl, z0, ((keep_trans q1.out K5.out).grown Hga.out (by omega) (fun q hq => by injection hq with hq; omega)), Lib.hid ⟨Hba.out, app_fr Hd5.out q1.out hXl.out z5 (by omega) (fun q h1 h2 => (hsame q (by omega) (by omega)).trans ((keep_trans q1.out K5.out).block q h1)) (fun q h1 h2 => hsame q h2 (by omega)), H0.out, H1.out⟩⟩
          case rest =>
            obtain ⟨p, er, A5, c5, PA5, vs, pc5, ds, rfl, rfl, hp1, kwc, HP⟩ := hcut
            have HKc := Lib.hid (keep_trans HKr.out kwc)
            have hpc : p < wc.heap.size := HP.out.1.lt
            have HBPc := Lib.hid (HBP.out.keep kwc)
            have Ownc := Lib.hid (own_keep Own.out kwc)
            have Kwc := Lib.hid kwc
            have hzwc : wr.heap.size ≤ wc.heap.size := kwc.size
            clear kwc A1 HF HBP
            by_cases he : er = 0
            · subst he
              obtain ⟨hds, hinv, hap⟩ := HP.out.2.2.1 rfl
              have hdz := hds.z; have hdn := hds.n; have hdi := hds.i
              have Hds := Lib.hid hds; have Hinv := Lib.hid hinv; have Hap := Lib.hid hap
              have Hdok := Lib.hid HP.out.2.1; have HPb := Lib.hid HP.out.1
              clear hds hinv hap HP
              obtain ⟨w6, hst6, hb6, hg6⟩ := run_store_blk (P := Tryd.prog) ds.toList HBPc.out (by simp [hcz2, hdz]) Hds.out.o
              have Hb6 := Lib.hid hb6; have Hg6 := Lib.hid hg6
              have K6 : Hid (Keep w w6) := HKc.out.grown hg6 HKc.out.size (fun q hq => by injection hq with hq; omega)
              have Own6 := Lib.hid (Ownc.out.kept hg6 (.inr (fun e => HoP2.out e)))
              have hz6 : wc.heap.size ≤ w6.heap.size := hg6.size
              clear hb6 hg6
              go_upto_region 15 with ((with_reducible refine load_arr p ds (Eq.trans ?_ rfl) HPb.out _ Tryd.underlying35 rfl hdi ?_); rfl)
              clear hst6
              have hrg6 := Lib.hid (HFw.out w6 K6.out)
              have HQ6 : Hid (Blk (w6.alloc (.cells hv 44)) w6.heap.size 44 hv.toList) := Blk.new w6 _ hv.toList
              have own6a : (w6.alloc (.cells hv 44)).ownsRow w3.heap.size 44 68 (.slice Ag all.length cg) all.length (all.flatMap Hd.cells) := Own6.out.alloc _
              have Own6a := Lib.hid own6a; clear own6a
              have hb6' : w3.heap.size ≤ (w6.alloc (.cells hv 44)).heap.size := by simp; omega
              go_upto_region 8 with (first
                | ((with_reducible refine load_part hb' (off + k * 68) hv (Eq.trans ?_ rfl) hrg6.out _ Tryd.underlying44 rfl hvi ?_); rfl)
                | ((with_reducible refine list_build1 headT hv hvz (by omega) (Eq.trans ?_ rfl) ?_); rfl)
                | (at_builtin; refine wpList_app headT (by rfl) _ _ (by rfl) w3.heap.size _ all.length _ (by rfl) Own6a.out _ 1 1 hv.toList (by rfl) (by rw [Array.length_toList, hvz]) HQ6.out.rd Hhv.out.o (by omega) (by unfold maxLen; omega) hb6' ?_; intro v7 w7 own7 hg7 hat7; have Own7 := Lib.hid own7; have Hg7 := Lib.hid hg7; have Hat7 := Lib.hid hat7; clear own7 hg7 hat7))
              obtain ⟨Ag7, cg7, rfl, hcg7, hmg7, _⟩ := own_form Own7.out
              have hz7 : w6.heap.size + 1 ≤ w7.heap.size := by have h1 := Hg7.out.size; simpa using h1
              have hln : (all ++ [x]).length = all.length + 1 := by rw [List.length_append, List.length_singleton]
              have K7 : Hid (Keep w w7) := (keep_trans K6.out (keep_new _ _)).grown Hg7.out (by simp; have := K6.out.size; omega) (fun q hq => by have h1 := (Own6a.out.lt q hq).1; omega)
              have HoP7 : Hid ((Value.slice Ag7 (all.length + 1) cg7).ownBlock ≠ some P) := fun e => by
                rcases Hat7.out with h1 | h1
                · exact HoP2.out (h1.symm.trans e)
                · have e2 : (w6.alloc (.cells hv 44)).heap.size = P := Option.some.inj (h1.symm.trans e)
                  simp at e2; omega
              have Own8 : Hid (w7.ownsRow w3.heap.size 44 68 (.slice Ag7 (all.length + 1) cg7) (all.length + 1) ((all ++ [x]).flatMap Hd.cells)) := by
                have h1 := Own7.out
                rw [Hhv.out.l] at h1
                rw [List.flatMap_append, List.flatMap_singleton]; exact h1
              have hBP7 : Blk w7 P 35 ds.toList := (Hb6.out.alloc _).grown Hg7.out HoP2.out
              have L7 : Hid (LgS (fun q => q = P ∨ (Value.slice Ag7 (all.length + 1) cg7).ownBlock = some q) w7 P base room (all ++ [x]) (4 * (k + 1)) A5 b2 c5 PA5 vs pc5) := by
                rw [Hds.out.l] at hBP7
                refine ⟨hBP7, Hinv.out, ?_, fun W hW => Hdok.out W fun q q1 q2 q3 => ?_⟩
                · have h1 := congrArg List.length Hap.out.eq
                  rw [List.length_append, List.length_map, List.length_map, show (layWs (base.toNat + 4 * all.length : Nat) (recB (lastL 0 z32 all) all.length x) 4).length = 4 by simp [layWs]] at h1
                  have := HL.out.len; omega
                · have n1 : q ≠ P := fun e => q3 (.inl e)
                  have n2 : (Value.slice Ag all.length cg).ownBlock ≠ some q := fun e => q3 (.inr e)
                  have n3 : (Value.slice Ag7 (all.length + 1) cg7).ownBlock ≠ some q := fun e => by
                    rcases Hat7.out with h1 | h1
                    · exact n2 (h1.symm.trans e)
                    · have e2 : (w6.alloc (.cells hv 44)).heap.size = q := Option.some.inj (h1.symm.trans e)
                      simp at e2; omega
                  rw [hW q (Nat.zero_le _) (by omega) (fun e => e.elim n1 n3), Hg7.out.block q (by simp; omega) (fun e => n2 e.symm), (keep_new w6 (.cells hv 44)).block q (by omega)]
                  exact Hg6.out.block q q2 (fun e => n1 (Option.some.inj e))
              clear hBP7
              have Cr7 := Lib.hid (HC.out.more Hap.out)
              go_wp2_with fail
              go_roundw
              case rel => exact ⟨k + 1, sure, A5, b2, c5, PA5, vs, pc5, all ++ [x], Ag7, cg7, by omega, by go_num, rfl, by rw [hln], by rw [hln]; exact L7.out, Cr7.out, by rw [hln]; exact Own8.out, fun y hy => by
                rcases List.mem_append.1 hy with hy | hy
                · exact Hok2.out y hy
                · rw [List.mem_singleton.1 hy]; exact Hx.out, by rw [hln]; exact HoP7.out, K7.out⟩
              case measure => simp [intOf]; omega
            · go_wp2_with fail
              go_roundw
              case rel =>
                refine ⟨k + 1, sure, A2, b2, c2, PA2, ws2, pc2, all, Ag, cg, by omega, by go_num, rfl, rfl, ⟨HL.out.blk.keep Kwc.out, HL.out.inv, by have := HL.out.len; omega, fun W hW => HL.out.dok W (fun q q1 q2 q3 => (hW q q1 (by omega) q3).trans (Kwc.out.block q q2))⟩, HC.out, Ownc.out, Hok2.out, HoP2.out, HKc.out⟩
              case measure => simp [intOf]; omega
      · have HL := HL0; have HC := HC0; have Own := Own0; have HKr := HKr0
        have hpm2 : plan.length ≤ 1000000 := by omega
        obtain ⟨cb, hcb⟩ : ∃ cb, cb = crashD b20 ws20 plan := ⟨_, rfl⟩
        have C1 := crash_any A20 b20 c20 PA20 ws20 pc20 Bp plan cp wr (HL.out.dok wr (Fr.of_keep (Below.refl _ _))) (Hpr.out.keep HKr.out) hpm2
        rw [← hcb] at C1
        have hcb2 : cb = crashP plan 0 (ws20.map WriteR.pl) b20 := hcb.trans (crashD_pl rfl HC.out.san)
        have hcl : cb.length = b20.length := by rw [hcb2]; exact crashP_len plan b20.length _ 0 b20 rfl (sane_all HC.out.san)
        have Hcb2 := Lib.hid hcb2
        have Hsn : Hid (saneP cb.length [] = true) := by rw [hcl]; exact sane_nil HC.out.san
        obtain ⟨c0, c1, p2, p3, p4⟩ := lg_d HL.out.blk
        clear p2 p3 p4 hcb hcb2 hcl
        go_wp2_with fail
        refine C1.mono ?_
        clear C1 c0 c1
        rintro e w6 ⟨A6, c6, rfl, own6, k6⟩
        have Hd6 := Lib.hid (DOk.own own6); have K6 := Lib.hid (keep_trans HKr.out k6); have Own6 := Lib.hid (own_keep Own.out k6)
        have hcbl : cb.length ≤ c6 ∧ c6 ≤ maxLen := ⟨(DOk.own own6).bc, (DOk.own own6).cm⟩
        clear own6 k6
        go_upto_region 17 with fail
        obtain ⟨w7, hw7⟩ : ∃ w7, w7 = w6.alloc (.cells #[.slice A6 cb.length c6, .slice none 0 0] 31) := ⟨_, rfl⟩
        have HQ7 : Hid (Blk w7 w6.heap.size 31 [.slice A6 cb.length c6, .slice none 0 0]) := by rw [hw7]; exact Blk.new w6 _ [.slice A6 cb.length c6, .slice none 0 0]
        have k7 : Keep w6 w7 := by rw [hw7]; exact keep_new _ _
        rw [← hw7]
        clear hw7
        have K7 := Lib.hid (keep_trans K6.out k7); have Own7 := Lib.hid (own_keep Own6.out k7); have Hd7 : Hid (∀ W, Keep w7 W → DOk W A6 cb c6 none [] 0) := fun W hW => Hd6.out.keep (keep_trans k7 hW)
        generalize w6.heap.size = Q7 at *
        clear k7
        have d0 := HQ7.out.cell 0; have d1 := HQ7.out.cell 1
        simp only [List.getElem?_cons_zero, List.getElem?_cons_succ] at d0 d1
        have C2 := open_w A6 cb c6 none [] 0 base room w7 (Hd7.out w7 (Below.refl _ _)) (HS.out.keep K7.out) hb
        go_wp2_with fail
        refine C2.mono ?_
        clear C2 d0 d1
        rintro e w8 ⟨h9, es, Ah9, ch9, rfl, hf9, hes, own9, hok9, k8⟩
        rw [show ([] : List WriteR).map WriteR.pl = [] from rfl, bytesQ_nil Hsn.out] at hf9
        obtain ⟨hs1, hs2⟩ := HC.out.crash HL.out.inv plan (room := room) (hs := h9) (by rw [← Hcb2.out]; exact hf9)
        have hez := hes.z; have hen := hes.n; have hei := hes.i
        have Hes := Lib.hid hes; have K8 := Lib.hid (keep_trans K7.out k8); have Kc8 := Lib.hid k8; have Hf9 := Lib.hid hf9; have Hok9 := Lib.hid hok9; have Hs2 := Lib.hid hs2
        have Hr9 := Lib.hid (own_rd own9); have Hg9 := Lib.hid (own_rd (own_keep Own7.out k8))
        have hh9 : h9.length ≤ 1024 := by have h1 := hf9.fit; have : roomN room ≤ 1024 := by { unfold roomN; omega }; omega
        have hst : (storeCells ⟨w8.heap.size, 0, none⟩ es.toList 0).run Tryd.prog (w8.alloc (.cells zs 35)) = .ok () (w8.alloc (.cells es 35)) := run_storeCells_new (P := Tryd.prog) w8 35 zs es hei (hz1.trans hez.symm) (by have := all_oneCell_toArray Hes.out.o; rwa [Array.toArray_toList] at this)
        clear hes own9 k8 hf9 hok9 hs2
        go_upto_region 18 with fail
        clear hst
        obtain ⟨w9, hw9⟩ : ∃ w9, w9 = w8.alloc (.cells es 35) := ⟨_, rfl⟩
        have k9 : Keep w8 w9 := by rw [hw9]; exact keep_new _ _
        rw [← hw9]
        clear hw9
        have K9 := Lib.hid (keep_trans K8.out k9); have K79 := Lib.hid (keep_trans Kc8.out k9)
        have Hr9b := Lib.hid (Hr9.out.keep k9); have Hg9b := Lib.hid (Hg9.out.keep k9); have HQ9 := Lib.hid (HQ7.out.keep K79.out)
        generalize w8.heap.size = E8 at *
        clear k9 Hr9 Hg9
        by_cases hbn : base < 0
        · go_wp2_with fail
          exact bodyPost_ret (v := .bool true) (by simp [results, Tryd.results7]) rfl ⟨rfl, K9.out⟩
        · go_wp2_with fail
          go_loopw [23] (fun i wy => ∃ m : Nat, m ≤ h9.length ∧ m ≤ all.length ∧ i = .int .i64 m ∧ h9.take m = all.take m ∧ Keep w9 wy) (fun i _ => h9.length - (intOf i).toNat)
          case atStart => exact ⟨0, Nat.zero_le _, Nat.zero_le _, rfl, by simp, Below.refl _ _⟩
          case round =>
            obtain ⟨m, hm1, hm2, rfl, hmt, hky⟩ := hrel
            have Hmt := Lib.hid hmt; clear hmt
            by_cases hQ : ∃ (h1 : m < h9.length) (h2 : m < all.length), h9[m] = all[m]
            · obtain ⟨q1, q2, q3⟩ := hQ
              obtain ⟨bh, offh, rfl, hbh, Fh⟩ := Hd.at_ Hr9b.out Hok9.out q1
              obtain ⟨bg, offg, rfl, hbg, Fg⟩ := Hd.at_ Hg9b.out Hok2.out q2
              have hx := Hok9.out _ (List.getElem_mem q1); have hy := Hok2.out _ (List.getElem_mem q2)
              have hts : h9.take (m + 1) = all.take (m + 1) := by rw [List.take_succ_eq_append_getElem q1, List.take_succ_eq_append_getElem q2, Hmt.out, q3]
              have Hts := Lib.hid hts
              generalize h9[m] = x at Fh hx q3
              generalize all[m] = y at Fg hy q3
              obtain ⟨xv, hxv⟩ : ∃ xv, HdA x xv := ⟨_, HdA.of hx⟩
              obtain ⟨yv, hyv⟩ : ∃ yv, HdA y yv := ⟨_, HdA.of hy⟩
              have xz := hxv.z; have xn := hxv.n; have xi := hxv.i
              have yz := hyv.z; have yn := hyv.n; have yi := hyv.i
              have Hxr : Hid (wr.rangeAt bh (offh + m * 68) xv.toList) := by rw [hxv.l]; exact Fh wr hky
              have Hyr : Hid (wr.rangeAt bg (offg + m * 68) yv.toList) := by rw [hyv.l]; exact Fg wr hky
              have he : ∀ w, (Go.binOp .eql 44 (.agg xv) (.agg yv)).run Tryd.prog w = .ok (.bool (hdEq x y)) w := fun w => hd_eql hxv hyv hx hy w
              have hgd := hd_guard
              rw [(hdEq_iff x y).2 q3] at he
              clear Fh Fg hts q3 hxv hyv hx hy
              go_upto_region 21 with fail
              refine wp_region_aft (by kernel_rfl) (by kernel_rfl) wr (Below.refl _ _) ?_
              iterate 14 (go_big_quiet_step (fail))
              (with_reducible refine wpQuiet_load_partg bh (offh + m * 68) xv (Eq.trans ?_ rfl) Hxr.out _ Tryd.underlying44 rfl xi (Eq.trans ?_ rfl) ?_)
              rfl
              rfl
              simp only [Act.put, Array.set!_eq_setIfInBounds, List.setIfInBounds_toArray, List.set_cons_succ, List.set_cons_zero]
              iterate 3 (go_big_quiet_step (fail))
              (with_reducible refine wpQuiet_load_partg bg (offg + m * 68) yv (Eq.trans ?_ rfl) Hyr.out _ Tryd.underlying44 rfl yi (Eq.trans ?_ rfl) ?_)
              rfl
              rfl
              simp only [Act.put, Array.set!_eq_setIfInBounds, List.setIfInBounds_toArray, List.set_cons_succ, List.set_cons_zero]
              repeat (go_big_quiet_step (fail))
              refine wpQuiet_nil ?_
              rintro _ ⟨z, rfl⟩
              have hk2 := aft_keep wr z
              generalize aft wr z = wq at hk2 ⊢
              clear he
              go_wp2
              go_roundw
              case rel => exact ⟨m + 1, by omega, by omega, by go_num, Hts.out, keep_trans hky hk2⟩
              case measure => simp [intOf]; omega
            · have hge : sure0 ≤ m := by
                apply Nat.le_of_not_lt
                intro hlt2
                have q1 : m < h9.length := by omega
                have q2 : m < all.length := by omega
                refine hQ ⟨q1, q2, ?_⟩
                have h1 := congrArg (fun l => l[m]?) Hs2.out
                simp only [List.getElem?_take, if_pos hlt2, List.getElem?_eq_getElem q1, List.getElem?_eq_getElem q2, Option.some.injEq] at h1
                exact h1
              have HQ := Lib.hid hQ
              clear hQ
              go_upto_region 21 with fail
              go_cut [131] (fun v wx => v = .bool false ∧ Keep wr wx)
              case first =>
                by_cases q1 : m < h9.length
                · by_cases q2 : m < all.length
                  · have q3 : h9[m] ≠ all[m] := fun e => HQ.out ⟨q1, q2, e⟩
                    obtain ⟨bh, offh, rfl, hbh, Fh⟩ := Hd.at_ Hr9b.out Hok9.out q1
                    obtain ⟨bg, offg, rfl, hbg, Fg⟩ := Hd.at_ Hg9b.out Hok2.out q2
                    have hx := Hok9.out _ (List.getElem_mem q1); have hy := Hok2.out _ (List.getElem_mem q2)
                    generalize h9[m] = x at Fh hx q3
                    generalize all[m] = y at Fg hy q3
                    obtain ⟨xv, hxv⟩ : ∃ xv, HdA x xv := ⟨_, HdA.of hx⟩
                    obtain ⟨yv, hyv⟩ : ∃ yv, HdA y yv := ⟨_, HdA.of hy⟩
                    have xz := hxv.z; have xn := hxv.n; have xi := hxv.i
                    have yz := hyv.z; have yn := hyv.n; have yi := hyv.i
                    have Hxr : Hid (wr.rangeAt bh (offh + m * 68) xv.toList) := by rw [hxv.l]; exact Fh wr hky
                    have Hyr : Hid (wr.rangeAt bg (offg + m * 68) yv.toList) := by rw [hyv.l]; exact Fg wr hky
                    have he : ∀ w, (Go.binOp .eql 44 (.agg xv) (.agg yv)).run Tryd.prog w = .ok (.bool (hdEq x y)) w := fun w => hd_eql hxv hyv hx hy w
                    have hgd := hd_guard
                    have q4 : hdEq x y = false := by cases h : hdEq x y with | false => rfl | true => exact absurd ((hdEq_iff x y).1 h) q3
                    rw [q4] at he
                    clear Fh Fg q3 q4 hxv hyv hx hy HQ
                    refine wp_region_aft (by kernel_rfl) (by kernel_rfl) wr (Below.refl _ _) ?_
                    iterate 14 (go_big_quiet_step (fail))
                    (with_reducible refine wpQuiet_load_partg bh (offh + m * 68) xv (Eq.trans ?_ rfl) Hxr.out _ Tryd.underlying44 rfl xi (Eq.trans ?_ rfl) ?_)
                    rfl
                    rfl
                    simp only [Act.put, Array.set!_eq_setIfInBounds, List.setIfInBounds_toArray, List.set_cons_succ, List.set_cons_zero]
                    iterate 3 (go_big_quiet_step (fail))
                    (with_reducible refine wpQuiet_load_partg bg (offg + m * 68) yv (Eq.trans ?_ rfl) Hyr.out _ Tryd.underlying44 rfl yi (Eq.trans ?_ rfl) ?_)
                    rfl
                    rfl
                    simp only [Act.put, Array.set!_eq_setIfInBounds, List.setIfInBounds_toArray, List.set_cons_succ, List.set_cons_zero]
                    repeat (go_big_quiet_step (fail))
                    refine wpQuiet_nil ?_
                    rintro _ ⟨z, rfl⟩
                    have hk2 := aft_keep wr z
                    generalize aft wr z = wq at hk2 ⊢
                    clear he
                    go_wp2
                    go_meet
                    exact ⟨rfl, hk2⟩
                  · have q2' : ¬ (m : Int) < (all.length : Int) := by omega
                    clear q2 HQ
                    refine wp_region_aft (by kernel_rfl) (by kernel_rfl) wr (Below.refl _ _) ?_
                    repeat (go_big_quiet_step (fail))
                    refine wpQuiet_nil ?_
                    rintro _ ⟨z, rfl⟩
                    have hk2 := aft_keep wr z
                    generalize aft wr z = wq at hk2 ⊢
                    go_wp2
                    go_meet
                    exact ⟨rfl, hk2⟩
                · have q1' : ¬ (m : Int) < (h9.length : Int) := by omega
                  clear q1 HQ
                  refine wp_region_aft (by kernel_rfl) (by kernel_rfl) wr (Below.refl _ _) ?_
                  repeat (go_big_quiet_step (fail))
                  refine wpQuiet_nil ?_
                  rintro _ ⟨z, rfl⟩
                  have hk2 := aft_keep wr z
                  generalize aft wr z = wq at hk2 ⊢
                  go_wp2
                  go_meet
                  exact ⟨rfl, hk2⟩
              case rest =>
                obtain ⟨rfl, kq⟩ := hcut
                have hge' : (sure0 : Int) ≤ (m : Int) := by omega
                have K9q := Lib.hid (keep_trans hky kq)
                have Kq := Lib.hid (keep_trans K9.out K9q.out)
                have HQq := HQ9.out.keep K9q.out
                have d0 := HQq.cell 0; have d1 := HQq.cell 1
                simp only [List.getElem?_cons_zero, List.getElem?_cons_succ] at d0 d1
                clear HQq kq hge HQ
                by_cases hmh : m = h9.length
                · have he : ((m : Int) == (h9.length : Int)) = true := by rw [hmh]; simp
                  clear hmh
                  go_wp2_with fail
                  exact bodyPost_ret (v := .bool true) (by simp [results, Tryd.results7]) rfl ⟨rfl, Kq.out⟩
                · have he : ((m : Int) == (h9.length : Int)) = false := by simp; omega
                  have O1 := odd_any A6 cb c6 base room m Ah9 h9 ch9 wc (Hd7.out wc (keep_trans K79.out K9q.out)) (HS.out.keep Kq.out) Hsn.out Hf9.out (by omega)
                  clear hmh
                  go_wp2_with fail
                  refine O1.mono ?_
                  rintro e wz ⟨rfl, kz⟩
                  go_wp2_with fail
                  exact bodyPost_ret (v := .bool true) (by simp [results, Tryd.results7]) rfl ⟨rfl, keep_trans Kq.out kz⟩
end Go.Proofs.YtielojlhdnimgaaDoor
