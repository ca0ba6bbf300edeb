/- What is kept is there: the walk. (printed by gen_snVk.py) -/
import Derived.Test.YtbomnldpmkedbaaDoorSnT
import Derived.Test.YtbomnldpmkedbaaDoorJrnN
set_option linter.unusedSimpArgs false
set_option linter.unusedVariables false
namespace Go.Proofs.YtbomnldpmkedbaaDoor
open Go.RowKit
attribute [local go_sem ↓] Go.wp_at_zero Go.wp_at_succ

theorem app_lt {b : List UInt8} {base room : Int} {N : Nat} {last : List UInt8} {h : Hd} {ps : List WP} (e : (appendD b base room N last h ps).1 = 0) : N < roomN room := by
  unfold appendD at e
  split at e
  · cases e
  · omega
theorem app_full {b : List UInt8} {base : Int} {room N : Nat} {last : List UInt8} {h : Hd} {ps : List WP} (hs : saneP b.length ps = true) (h0 : 0 ≤ base) (h1 : 32 * (base + 4 * room) ≤ b.length) (hr : room ≤ 1024) (hp : ps.length ≤ 1000) (hb : base ≤ 5000) (e : (appendD b base room N last h ps).1 ≠ 0) : room ≤ N := by
  unfold appendD at e
  rw [roomN_nat hr] at e
  by_cases hn : room ≤ N
  · exact hn
  · rw [if_neg hn, if_pos] at e
    · exact absurd rfl e
    · unfold appOk layOk
      have hw : wrap64 (base + ((4 * N : Nat) : Int)) = base + ((4 * N : Nat) : Int) := IntWalk.wrap64_in _ (by omega)
      rw [hs, hw, Bool.true_and]
      exact decide_eq_true ⟨by omega, by omega, by omega⟩
theorem log_size (w : World) : (sizeOf 36).run Tryd.prog w = .ok 37 w := by kernel_rfl
theorem log_agg (w : World) : (isAgg 36).run Tryd.prog w = .ok true w := by kernel_rfl
theorem disk_size (w : World) : (sizeOf 32).run Tryd.prog w = .ok 2 w := by kernel_rfl
theorem disk_agg (w : World) : (isAgg 32).run Tryd.prog w = .ok true w := by kernel_rfl
theorem field_log (cs : Array Value) (w : World) : (Instr.field 38 (.agg cs) 0).run Tryd.prog w = .ok (.agg (cs.extract 0 37)) w := by
  have hp : (part 36 cs 0).run Tryd.prog w = .ok (.agg (cs.extract 0 37)) w := by
    simp only [part, Sem.run_bind, log_agg, log_size, Result.andThen_ok, if_true, Sem.run_pure, Nat.zero_add]
  unfold Instr.field
  simp only [Sem.run_bind, run_underlying Tryd.underlying38, Result.andThen_ok]
  exact hp
theorem field_disk (cs : Array Value) (w : World) : (Instr.field 36 (.agg cs) 0).run Tryd.prog w = .ok (.agg (cs.extract 0 2)) w := by
  have hp : (part 32 cs 0).run Tryd.prog w = .ok (.agg (cs.extract 0 2)) w := by
    simp only [part, Sem.run_bind, disk_agg, disk_size, Result.andThen_ok, if_true, Sem.run_pure, Nat.zero_add]
  unfold Instr.field
  simp only [Sem.run_bind, run_underlying Tryd.underlying36, Result.andThen_ok]
  exact hp
theorem st_disk {cs : Array Value} {d0 d1 : Value} {base room n ep : Int} {last : List UInt8} (h : cs.toList = stCells d0 d1 base room n last ep) : (cs.extract 0 37).extract 0 2 = #[d0, d1] := by
  apply Array.ext'
  rw [Array.toList_extract, Array.toList_extract, List.extract_eq_take_drop, List.extract_eq_take_drop, h]
  rfl

set_option maxRecDepth 100000 in
set_option maxHeartbeats 8000000 in
theorem keeps_walk (A : Option Addr) (b : List UInt8) (c : Nat) (PA : Option Addr) (ws : List WriteR) (pc : Nat) (Ak : Option Addr) (kl : List Hd) (ck : Nat) (Al : Option Addr) (gl : List Hd) (cl : Nat) (w : World) (h : DOk w A b c PA ws pc) (hS : ShaOk w)
    (hk : Rd w Ak (kl.flatMap Hd.cells)) (hko : ∀ x ∈ kl, x.ok) (hkc : kl.length ≤ ck) (hkm : ck ≤ maxLen) (hl : Rd w Al (gl.flatMap Hd.cells)) (hgo : ∀ x ∈ gl, x.ok) (hlc : gl.length ≤ cl) (hcm : cl ≤ maxLen) :
    Calls Tryd.prog 6 #[DV A b.length c PA ws.length pc, .slice Ak kl.length ck, .slice Al gl.length cl] w fun e w' => e = .returned (.bool true) ∧ Keep w w' := by
  have hpl0 := h.pl; have hpm := h.pm; have hbc := h.bc; have hcm0 := h.cm
  unfold maxLen at hpm hcm hcm0 hkm
  have Hh := Lib.hid h; have HS := Lib.hid hS; have Hl := Lib.hid hl; have Hgo := Lib.hid hgo; have Hk := Lib.hid hk; have Hko := Lib.hid hko
  clear h hS hl hgo hk hko
  obtain ⟨zs, hz1, hz2, hz3⟩ := zst_letter
  go_enter Tryd.func6, Tryd.ntmps6
  go_upto_region 1 with fail
  obtain ⟨w0, hw0⟩ : ∃ w0, w0 = w.alloc (.cells #[.slice A b.length c, .slice PA ws.length pc] 49) := ⟨_, rfl⟩
  have HD0 : Hid (Blk w0 w.heap.size 49 [.slice A b.length c, .slice PA ws.length pc]) := by rw [hw0]; exact Blk.new w _ [.slice A b.length c, .slice PA ws.length pc]
  have HK0 : Hid (Keep w w0) := by rw [hw0]; exact keep_new _ _
  have hz00 : w.heap.size < w0.heap.size := HD0.out.lt
  rw [← hw0]
  clear hw0
  generalize hB0 : w.heap.size = B0 at *
  have hB0' : w.heap.size ≤ B0 := Nat.le_of_eq hB0
  clear hB0
  go_wp2_with fail
  refine (awake_any w0 (HS.out.keep HK0.out)).mono ?_
  rintro e w1 ⟨rfl, k1⟩
  have HD1 := Lib.hid (HD0.out.keep k1); have HK1 := Lib.hid (keep_trans HK0.out k1)
  have hz1' : w0.heap.size ≤ w1.heap.size := k1.size
  clear k1
  have b0 := HD1.out.cell 0; have b1 := HD1.out.cell 1
  simp only [List.getElem?_cons_zero, List.getElem?_cons_succ] at b0 b1
  go_wp2_with fail
  refine (few_any _ _ _ _ _ _ _ (by omega) (by omega)).mono ?_
  rintro e w2 ⟨rfl, hk2⟩
  have HK2 := Lib.hid (keep_trans HK1.out hk2)
  have HD2 := Lib.hid (HD1.out.keep hk2)
  replace b0 := keep_cell hk2 b0; replace b1 := keep_cell hk2 b1
  clear hk2 HD1 HD0
  cases hf : fewD b.length ws.length with
  | false => go_wp2_with fail; go_ret; exact ⟨rfl, HK2.out⟩
  | true =>
    have hfew := of_decide_eq_true hf; clear hf
    by_cases hq0 : 3840 < b.length
    · have hq0' : (3840 : Int) < (b.length : Int) := by omega
      go_wp2_with fail; go_ret; exact ⟨rfl, HK2.out⟩
    have hq0' : (b.length : Int) ≤ 3840 := by omega
    clear hq0
    by_cases hq1 : 30 < kl.length
    · have hq1' : (30 : Int) < (kl.length : Int) := by omega
      go_wp2_with fail; go_ret; exact ⟨rfl, HK2.out⟩
    have hq1' : (kl.length : Int) ≤ 30 := by omega
    clear hq1
    by_cases hq2 : 30 < gl.length
    · have hq2' : (30 : Int) < (gl.length : Int) := by omega
      go_wp2_with fail; go_ret; exact ⟨rfl, HK2.out⟩
    have hq2' : (gl.length : Int) ≤ 30 := by omega
    clear hq2
    go_wp2_with fail
    refine (drive_any A b c PA ws pc w2 (Hh.out.keep HK2.out) (by omega)).mono ?_
    rintro e w3 ⟨PA3, pc3, rfl, _, hd3, hk3⟩
    have HK3 := Lib.hid (keep_trans HK2.out hk3); have HD3 := Lib.hid (HD2.out.keep hk3)
    have C1 := sopen_w A b c PA3 ws pc3 w3 (hd3 w3 (Below.refl _ _)) (HS.out.keep HK3.out) (by omega)
    clear hd3 hk3 b0 b1 HD2
    go_wp2_with fail
    refine C1.mono ?_
    clear C1
    rintro e w4 ⟨ep1, base1, room1, B1, hs, A4, c4, cs, Ah, ch, rfl, R, hcs, hd4, own4, hok, k4⟩
    obtain ⟨hgw, hbl1, hbl2⟩ := R.goodW
    have hrm : B1 = [] ∨ room1 = roomS ((B1.length / 32 : Nat) : Int) := by
      by_cases hsn : saneP b.length (ws.map WriteR.pl) = true
      · exact .inr (by rw [hbl1 hsn]; exact R.roomE)
      · exact .inl (hbl2 hsn)
    have hrE : room1 = roomS ((b.length / 32 : Nat) : Int) := R.roomE
    obtain ⟨L1, hL1⟩ : ∃ L1, lookB (bytesQ b (ws.map WriteR.pl)) = L1 := ⟨_, rfl⟩
    rw [hL1] at hgw
    have Hgw := Lib.hid hgw; have Hrm := Lib.hid hrm; have HrE := Lib.hid hrE; have Hbl1 := Lib.hid hbl1; have Hbl2 := Lib.hid hbl2
    have hcz := hcs.z; have hcn := hcs.n; have hci := hcs.i
    have Hcs := Lib.hid hcs; have Hd4 := Lib.hid hd4; have HK4 := Lib.hid (keep_trans HK3.out k4); have Own4 := Lib.hid own4; have Hok := Lib.hid hok; have HD4 := Lib.hid (HD3.out.keep k4)
    have hz34 : w3.heap.size ≤ w4.heap.size := k4.size
    have hz3w : w.heap.size ≤ w3.heap.size := HK3.out.size
    have hst : (storeCells ⟨w4.heap.size, 0, none⟩ cs.toList 0).run Tryd.prog (w4.alloc (.cells zs 38)) = .ok () (w4.alloc (.cells cs 38)) := run_storeCells_new (P := Tryd.prog) w4 38 zs cs hci (hz1.trans hcz.symm) (by have := all_oneCell_toArray Hcs.out.o; rwa [Array.toArray_toList] at this)
    clear hcs hd4 own4 R k4 hok hgw hrm hbl1 hbl2 hL1 HD3 hrE
    go_upto_region 5 with fail
    clear hst
    obtain ⟨w5, hw5⟩ : ∃ w5, w5 = w4.alloc (.cells cs 38) := ⟨_, rfl⟩
    have HC5 : Hid (Blk w5 w4.heap.size 38 cs.toList) := by rw [hw5]; exact Blk.new w4 _ cs.toList
    have k5 : Keep w4 w5 := by rw [hw5]; exact keep_new _ _
    rw [← hw5]
    clear hw5
    have HK5 := Lib.hid (keep_trans HK4.out k5); have Own5 := Lib.hid (own_keep Own4.out k5); have HD5 := Lib.hid (HD4.out.keep k5)
    have hB05 : B0 < w5.heap.size := HD5.out.lt
    have hz45 : w4.heap.size < w5.heap.size := HC5.out.lt
    have Hd5 : Hid (∀ W, Fr 0 (fun _ => False) w5 W → DOk W A4 B1 c4 none [] 0) := fun W hW => Hd4.out W (hW.sub (Nat.zero_le _) k5 (fun _ _ _ _ e => e))
    have h3P : w3.heap.size ≤ w4.heap.size := hz34
    generalize w4.heap.size = P1 at *
    clear Own4 Hd4 k5 HD4
    have hgb := Hgw.out.bnd
    have C5 := compact_w A4 B1 c4 none [] 0 base1 room1 (hs.length : Nat) (lastL 0 z32 hs) (lastL_len hs 0 z32 rfl) ep1 cs Ak kl ck w5 (fun _ => False) (fun _ h => h.elim) Hd5.out (HS.out.keep HK5.out) Hgw.out.san Hcs.out (by omega) (by omega) (Hk.out.keep HK5.out) Hko.out
    rw [List.map_nil] at C5
    obtain ⟨CE, hCE⟩ : ∃ CE, compE B1 [] base1 room1 ep1 kl = CE := ⟨_, rfl⟩
    rw [hCE] at C5
    have HCE := Lib.hid hCE
    clear hCE
    go_wp2_with ((with_reducible refine load_arr P1 cs (Eq.trans ?_ rfl) HC5.out _ Tryd.underlying38 rfl hci ?_); rfl)
    refine C5.mono ?_
    clear C5
    rintro e w6 ⟨s6, rfl, k6, hno, hyes⟩
    have hs6 : s6.size = 38 ∧ ¬ s6 = #[] ∧ (Tryd.prog.info? 38).map (·.size) = some s6.size ∧ ∀ v ∈ s6.toList, v.oneCell' = true := by
      by_cases he : CE = 0
      · obtain ⟨A', b', c', PA', vs, pc', hs', hC⟩ := hyes he
        exact ⟨hC.sta.z, hC.sta.n, hC.sta.i, hC.sta.o⟩
      · rw [hno he]; exact ⟨hcz, hcn, hci, Hcs.out.o⟩
    obtain ⟨h6z, h6n, h6i, h6o⟩ := hs6
    have H6o := Lib.hid h6o; have Hno := Lib.hid hno; have Hyes := Lib.hid hyes
    have HK6 := Lib.hid (keep_trans HK5.out k6); have Own6 := Lib.hid (own_keep Own5.out k6); have HD6 := Lib.hid (HD5.out.keep k6); have HC6 := Lib.hid (HC5.out.keep k6); have K56 := Lib.hid k6
    have hz56 : w5.heap.size ≤ w6.heap.size := k6.size
    have hst : (storeCells ⟨w6.heap.size, 0, none⟩ s6.toList 0).run Tryd.prog (w6.alloc (.cells zs 38)) = .ok () (w6.alloc (.cells s6 38)) := run_storeCells_new (P := Tryd.prog) w6 38 zs s6 h6i (hz1.trans h6z.symm) (by have := all_oneCell_toArray H6o.out; rwa [Array.toArray_toList] at this)
    clear hno hyes h6o k6 Own5 HD5 HC5
    go_upto_region 6 with fail
    clear hst
    obtain ⟨w7, hw7⟩ : ∃ w7, w7 = w6.alloc (.cells s6 38) := ⟨_, rfl⟩
    have HT7 : Hid (Blk w7 w6.heap.size 38 s6.toList) := by rw [hw7]; exact Blk.new w6 _ s6.toList
    have k7 : Keep w6 w7 := by rw [hw7]; exact keep_new _ _
    rw [← hw7]
    clear hw7
    have HK7 := Lib.hid (keep_trans HK6.out k7); have Own7 := Lib.hid (own_keep Own6.out k7); have HD7 := Lib.hid (HD6.out.keep k7); have HC7 := Lib.hid (HC6.out.keep k7); have K67 := Lib.hid k7
    have hz67 : w6.heap.size < w7.heap.size := HT7.out.lt
    clear k7 Own6 HD6 HC6
    have HC7' : Hid (Blk w7 P1 38 (stCells (.slice A4 B1.length c4) (.slice none 0 0) base1 (room1 : Int) (hs.length : Nat) (lastL 0 z32 hs) ep1)) := by rw [← Hcs.out.l]; exact HC7.out
    have hls : (lastL 0 z32 hs).length = 32 := lastL_len hs 0 z32 rfl
    by_cases he : CE = 0
    · have h4 : 4 ≤ B1.length / 32 := by
        have h1 := HCE.out
        unfold compE at h1
        split at h1
        · rename_i h2; exact (mayS_zero h2).2.2.2.2.2
        · rename_i h2; exact absurd (h1.trans he) h2
      have hr1 : room1 = roomS ((B1.length / 32 : Nat) : Int) := Hrm.out.resolve_left (fun e => by rw [e] at h4; exact absurd h4 (by decide))
      have G := Hgw.out.good hr1
      have hsnb : saneP b.length (ws.map WriteR.pl) = true := Classical.byContradiction fun e => by
        have h1 := Hbl2.out e
        rw [h1] at h4; exact absurd h4 (by decide)
      have hBl := Hbl1.out hsnb
      subst he
      obtain ⟨q1, q2, q3⟩ := G.compE_yes HCE.out
      obtain ⟨A6, B, c6, PA6, vs6, pc6, hs6', hC⟩ := Hyes.out rfl
      obtain ⟨rfl, e6, hN, hG6, hst6⟩ := G.comp q3 q1 Hko.out q2 hC
      subst e6
      have hcb := (G.chyp q3 q1 Hko.out q2).bnd
      have hBl6 := hN.len
      have Hd6 : Hid (∀ W, Fr 0 (fun _ => False) w6 W → DOk W A6 B c6 PA6 [] pc6) := hC.dok
      have hGW : GoodW B [] (ep1 + 1) (oth B1 room1 : Nat) room1 hs6' (lookB (bytesQ B [])) := hG6.weak rfl
      have hfit0 : 32 * (((oth B1 room1 : Nat) : Int) + 4 * room1) ≤ B.length := by omega
      have HrB : Hid (room1 = roomS ((B.length / 32 : Nat) : Int)) := hG6.roomE
      clear hC hG6 hN G hsnb Hyes Hno hcb hBl6 hBl
      generalize hL0 : lookB (bytesQ B []) = L0 at *
      clear hL0
      generalize hbase : ((oth B1 room1 : Nat) : Int) = base at *
      clear hbase
      generalize hep : ep1 + 1 = ep at *
      have Hep := Lib.hid hep
      clear hep
      generalize hroom : room1 = room at *
      clear hroom
      have HGW := Lib.hid hGW; have Hst6 := Lib.hid hst6
      clear hGW hst6
      have hT7 : Blk w7 w6.heap.size 38 (stCells (.slice A6 B.length c6) (.slice PA6 0 pc6) base (room : Int) (hs6'.length : Nat) (lastL 0 z32 hs6') ep) := by rw [← Hst6.out.l]; exact HT7.out
      have HT := Lib.hid hT7
      clear hT7 HT7
      have Hkr7 := Lib.hid ((Hk.out.keep HK7.out).alloc (.cells #[] 65))
      have Own70 : Hid ((w7.alloc (.cells #[] 65)).ownsRow w7.heap.size 65 68 (.slice (some ⟨w7.heap.size, 0, none⟩) 0 0) 0 []) := own_zero w7 _ _
      have hkf : ((hs6'.flatMap Hd.cells)).length = hs6'.length * 68 := flatMap_len' _ 68 _ (fun a ha => Hd.len (Hko.out a ha))
      have hk1 : ∀ u ∈ hs6'.flatMap Hd.cells, u.oneCell' = true := fun u hu => by
        obtain ⟨y, _, hy⟩ := List.mem_flatMap.1 hu
        exact Hd.one y u hy
      have Hk1 := Lib.hid hk1
      clear hk1
      go_upto_region 10 with (at_builtin; refine wpList_app headT (by rfl) _ _ (by rfl) w7.heap.size _ 0 _ (by rfl) Own70.out _ hs6'.length ck (hs6'.flatMap Hd.cells) (by rfl) hkf Hkr7.out Hk1.out (by omega) (by unfold maxLen; omega) (by simp) ?_; intro v8 w8 own8 hg8 hat8; have Own8 := Lib.hid own8; have Hg8 := Lib.hid hg8; have Hat8 := Lib.hid hat8; clear own8 hg8 hat8)
      have Own9 : Hid (w8.ownsRow w7.heap.size 65 68 v8 hs6'.length (hs6'.flatMap Hd.cells)) := own_eq Own8.out (by omega) (by rw [List.nil_append])
      obtain ⟨Ag0, cg0, rfl, hcg0, hmg0, _⟩ := own_form Own9.out
      have K78 : Hid (Keep w7 w8) := (keep_new w7 (.cells #[] 65)).grown Hg8.out (by simp) (fun q hq => (Own70.out.lt q hq).1)
      have hz78 : w7.heap.size ≤ w8.heap.size := K78.out.size
      have HoP : Hid ((Value.slice Ag0 hs6'.length cg0).ownBlock ≠ some w6.heap.size) := fun e => by have h1 := (Own9.out.lt _ e).1; omega
      have OwnP : Hid (w8.ownsRow w6.heap.size 65 68 (.slice Ag0 hs6'.length cg0) hs6'.length (hs6'.flatMap Hd.cells)) := own_lowH Own9.out (by omega)
      have L8 : Hid (SgS (fun k => k = w6.heap.size ∨ (Value.slice Ag0 hs6'.length cg0).ownBlock = some k) w8 w6.heap.size B ep base room L0 hs6' (4 * 0) A6 c6 PA6 [] pc6) :=
        ⟨HT.out.keep K78.out, HGW.out, Nat.le_refl _, fun W hW => Hd6.out W (hW.sub (Nat.zero_le _) (keep_trans K67.out K78.out) (fun k h1 h2 _ e => e.elim (fun e => by omega) (fun e => by have h3 := (Own9.out.lt _ e).1; omega)))⟩
      have HK8 := Lib.hid (keep_trans HK7.out K78.out)
      have HC8 := Lib.hid (HC7'.out.keep K78.out); have HD8 := Lib.hid (HD7.out.keep K78.out)
      have hwP : w.heap.size ≤ w6.heap.size := HK6.out.size
      have hcon : hs6'.length = min (hs6'.length + 0) room := by omega
      have HINV0 : Hid (hs6'.length = min (hs6'.length + 0) room ∧ Blk w8 B0 49 [.slice A b.length c, .slice PA ws.length pc] ∧ Blk w8 P1 38 (stCells (.slice A4 B1.length c4) (.slice none 0 0) base1 (room : Int) (hs.length : Nat) (lastL 0 z32 hs) ep1)) := ⟨hcon, HD8.out, HC8.out⟩
      clear hcon
      clear Own8 Hg8 Hat8 Own70 Hkr7 Own9 hkf Own7
      have hP1P : P1 < w6.heap.size := by omega
      have hB0P : B0 < w6.heap.size := by omega
      generalize w6.heap.size = P at *
      go_wp2_with fail
      go_loopw [14, 15] (fun v i wr => ∃ (k : Nat) (A2 : Option Addr) (c2 : Nat) (PA2 : Option Addr) (ws2 : List WriteR) (pc2 : Nat) (all : List Hd) (Ag : Option Addr) (cg : Nat), k ≤ gl.length ∧ i = .int .i64 k ∧ v = .slice Ag all.length cg ∧
          Hid (SgS (fun q => q = P ∨ (Value.slice Ag all.length cg).ownBlock = some q) wr P B ep base room L0 all (4 * k) A2 c2 PA2 ws2 pc2) ∧ Hid (wr.ownsRow P 65 68 (.slice Ag all.length cg) all.length (all.flatMap Hd.cells)) ∧ Hid (∀ x ∈ all, x.ok) ∧
          Hid ((Value.slice Ag all.length cg).ownBlock ≠ some P) ∧ Hid (Keep w wr) ∧ Hid (all.length = min (hs6'.length + k) room ∧ Blk wr B0 49 [.slice A b.length c, .slice PA ws.length pc] ∧ Blk wr P1 38 (stCells (.slice A4 B1.length c4) (.slice none 0 0) base1 (room : Int) (hs.length : Nat) (lastL 0 z32 hs) ep1))) (fun _ i _ => gl.length - (intOf i).toNat)
      case atStart => exact ⟨0, A6, c6, PA6, [], pc6, hs6', Ag0, cg0, Nat.zero_le _, rfl, rfl, L8, OwnP, Hko, HoP, HK8, HINV0⟩
      case round =>
        obtain ⟨k, A2, c2, PA2, ws2, pc2, all, Ag, cg, hk, rfl, rfl, HL, Own, Hok2, HoP2, HKr, HInv⟩ := hrel
        have hPr : P < wr.heap.size := HL.out.blk.lt
        have hfit : all.length ≤ 1024 := by have h1 := HL.out.good.bnd; omega
        have hbw : P ≤ wr.heap.size := by omega
        by_cases hlt : k < gl.length
        · obtain ⟨hb', off, rfl, hbb, F⟩ := Hd.at_ Hl.out Hgo.out hlt
          have hx := Hgo.out _ (List.getElem_mem hlt)
          have htk : gl.take (k + 1) = gl.take k ++ [gl[k]] := List.take_succ_eq_append_getElem hlt
          obtain ⟨x, hxe⟩ : ∃ x, gl[k] = x := ⟨_, rfl⟩
          rw [hxe] at F hx htk
          have Htk := Lib.hid htk
          obtain ⟨hv, hhv⟩ : ∃ hv, HdA x hv := ⟨_, HdA.of hx⟩
          have hvz := hhv.z; have hvn := hhv.n; have hvi := hhv.i
          have Hhv := Lib.hid hhv; have Hx := Lib.hid hx
          have HFw := Lib.hid (fun W hW => by rw [Hhv.out.l]; exact F W hW : ∀ W, Keep w W → W.rangeAt hb' (off + k * 68) hv.toList)
          have HF : Hid (∀ W, Keep wr W → W.rangeAt hb' (off + k * 68) hv.toList) := fun W hW => by rw [Hhv.out.l]; exact F W (keep_trans HKr.out hW)
          obtain ⟨cs2, hcs2⟩ : ∃ cs2 : Array Value, cs2.toList = stCells (.slice A2 B.length c2) (.slice PA2 ws2.length pc2) base (room : Int) (all.length : Nat) (lastL 0 z32 all) ep := ⟨_, rfl⟩
          have hcA := StA.of (lastL_len all 0 z32 rfl) hcs2
          have hcz2 := hcA.z; have hcn2 := hcA.n; have hci2 := hcA.i
          have HcA := Lib.hid hcA
          have HBP : Hid (Blk wr P 38 cs2.toList) := by rw [hcs2]; exact HL.out.blk
          have hXl : Hid (∀ q, (q = P ∨ (Value.slice Ag all.length cg).ownBlock = some q) → q < wr.heap.size) := fun q e => e.elim (fun e => by omega) (fun e => (Own.out.lt _ e).2)
          have hgb := HL.out.good.bnd
          have A1 : Hid (∀ y, Keep wr y → Calls Tryd.prog 22 #[.agg cs2, .agg hv] y fun e w' => ∃ A' c' PA' pc' vs ss' er n last, e = .returned (.tuple #[.agg ss', .int .i64 er]) ∧ AppU B (ws2.map WriteR.pl) (vs.map WriteR.pl) base room all x er n last ∧
              StA (stCells (.slice A' B.length c') (.slice PA' vs.length pc') base room n last ep) ss' ∧ (∀ W, MidF (Fr 0 (fun q => q = P ∨ (Value.slice Ag all.length cg).ownBlock = some q) wr) y w' W → DOk W A' B c' PA' vs pc') ∧ Keep y w') := fun y hy =>
            sapp_w A2 B c2 PA2 ws2 pc2 base room all ep cs2 x hv y (Fr 0 (fun q => q = P ∨ (Value.slice Ag all.length cg).ownBlock = some q) wr) (fun W hW => Fr.of_keep (keep_trans hy hW)) HL.out.dok (HS.out.keep (keep_trans HKr.out hy)) (by omega) HL.out.good.inv HcA.out Hx.out Hhv.out
          clear F hhv hx hcA hcs2 hxe hgb htk
          go_upto_region 13 with fail
          go_cut [16, 17] (fun s11 s12 wx => ∃ p er A5 c5 PA5 vs pc5 n5 l5 ds, s11 = .pointer (some ⟨p, 0, none⟩) ∧ s12 = .int .i64 er ∧ wr.heap.size ≤ p ∧ Hid (Keep wr wx) ∧ Hid (SaP (fun q => q = P ∨ (Value.slice Ag all.length cg).ownBlock = some q) B ep base room all x ws2 p er wx A5 c5 PA5 vs pc5 n5 l5 ds))
          case first =>
            refine wp_region_tree (.take [0,1,2,3,4] (.fork 5 (.take [6,7,8] (.force [9] .done)) 9 (.force [5] (.take [6,7,8] .done)))) [10,11] (by kernel_rfl) (by kernel_rfl) (fun y0 hk => ?_)
            have Q := Lib.hid hk
            clear hk
            refine mt_take y0 (Below.refl _ _) ?_
            simp only [pick_cons, pick_nil, nth_zero, nth_succ]
            have HB0 := Lib.hid (HBP.out.keep Q.out)
            have hrg0 := Lib.hid (HF.out y0 Q.out)
            (with_reducible refine wpQuiet_load_partgS P 0 cs2 (Eq.trans ?_ rfl) HB0.out.rangeS _ Tryd.underlying38 rfl hci2 rfl ?_)
            rfl
            simp only [Act.put, Array.set!_eq_setIfInBounds, List.setIfInBounds_toArray, List.set_cons_succ, List.set_cons_zero]
            iterate 3 (go_big_quiet_step (fail))
            (with_reducible refine wpQuiet_load_partgS hb' (off + k * 68) hv (Eq.trans ?_ rfl) hrg0.out _ Tryd.underlying65 rfl hvi rfl ?_)
            rfl
            simp only [Act.put, Array.set!_eq_setIfInBounds, List.setIfInBounds_toArray, List.set_cons_succ, List.set_cons_zero]
            clear HB0 hrg0
            refine wpQuiet_nil (mt_fork ?_ ?_)
            · simp only [pick_cons, pick_nil, nth_zero, nth_succ]
              refine fc_step rfl (fun K hK => ?_)
              go_simp
              (with_reducible refine (A1.out y0 Q.out).mono ?_)
              rintro e y1 ⟨A5, c5, PA5, pc5, vs, ds, er, n5, l5, rfl, hap, hds, hd5, hk⟩
              refine hK _ _ hk ?_
              clear hK K
              have HQ5 : wr.heap.size ≤ y0.heap.size := Q.out.size
              have Hprev := Q
              replace Q := Lib.hid (keep_trans Q.out hk)
              have hs_y1 : y0.heap.size ≤ y1.heap.size := hk.size
              have hdz := hds.z; have hdn := hds.n; have hdi := hds.i
              have Hap := Lib.hid hap; have Hds := Lib.hid hds; have Hd5 := Lib.hid hd5
              have HKK5 : Hid (Keep y1 y1) := Below.refl _ _
              have HQK : Hid (Keep wr y0) := Hprev
              clear hap hds hd5
              clear hk
              refine fc_nil (mt_take y1 (Below.refl _ _) ?_)
              simp only [pick_cons, pick_nil, nth_zero, nth_succ]
              repeat (go_big_quiet_step (fail))
              refine wpQuiet_nil (mt_force ?_)
              simp only [pick_cons, pick_nil, nth_zero, nth_succ]
              refine fc_step rfl (fun K hK => ?_)
              go_simp
              refine hK _ _ (keep_new _ _) ?_
              clear hK K
              obtain ⟨y2, hy⟩ : ∃ y2, y2 = y1.alloc (.cells zs 38) := ⟨_, rfl⟩
              have HP9 : Hid (Blk y2 y1.heap.size 38 zs.toList) := by rw [hy]; exact Blk.new y1 _ zs.toList
              have hk : Keep y1 y2 := by rw [hy]; exact keep_new _ _
              rw [← hy]
              clear hy
              have HP9s : y1.heap.size < y2.heap.size := HP9.out.lt
              have HP9n := Q.out.size
              replace Q := Lib.hid (keep_trans Q.out hk)
              have hs_y2 : y1.heap.size ≤ y2.heap.size := hk.size
              replace HKK5 := Lib.hid (keep_trans HKK5.out hk)
              clear hk
              generalize hp : y1.heap.size = p9 at *
              have HP9a : y1.heap.size ≤ p9 := Nat.le_of_eq hp
              have HP9b : p9 ≤ y1.heap.size := Nat.le_of_eq hp.symm
              clear hp
              refine fc_nil (mt_end ?_)
              obtain ⟨wa, hsta, hba, hga⟩ := run_store_blk (P := Tryd.prog) ds.toList HP9.out (by simp [hz1, hdz]) Hds.out.o
              have Hba := Lib.hid hba; have Hga := Lib.hid hga
              have hPl := HP9.out.lt; have hga1 := hga.size; have hQs := Q.out.size; have hKs := HKK5.out.size; have hQK := HQK.out.size
              clear hba hga
              go_wp2
              go_meet
              refine ⟨p9, er, A5, c5, PA5, vs, pc5, n5, l5, ds, rfl, rfl, by omega, Lib.hid (Q.out.grown Hga.out (by omega) (fun q hq => by injection hq with hq; omega)), Lib.hid ⟨Hba.out, Hds.out, Hap.out, app_frS Hd5.out HQK.out hXl.out (by omega) (by omega) (fun q h1 h2 => ?_) (fun q h1 h2 => ?_)⟩⟩
              · exact (Hga.out.block q (by omega) (fun e => by have e2 : q = p9 := Option.some.inj e; omega)).trans (Q.out.block q h1)
              · exact (Hga.out.block q (by omega) (fun e => by have e2 : q = p9 := Option.some.inj e; omega)).trans (HKK5.out.block q h2)
            · simp only [pick_cons, pick_nil, nth_zero, nth_succ]
              refine fc_step rfl (fun K hK => ?_)
              go_simp
              refine hK _ _ (keep_new _ _) ?_
              clear hK K
              obtain ⟨y3, hy⟩ : ∃ y3, y3 = y0.alloc (.cells zs 38) := ⟨_, rfl⟩
              have HP9 : Hid (Blk y3 y0.heap.size 38 zs.toList) := by rw [hy]; exact Blk.new y0 _ zs.toList
              have hk : Keep y0 y3 := by rw [hy]; exact keep_new _ _
              rw [← hy]
              clear hy
              have HP9s : y0.heap.size < y3.heap.size := HP9.out.lt
              have HP9n := Q.out.size
              replace Q := Lib.hid (keep_trans Q.out hk)
              have hs_y3 : y0.heap.size ≤ y3.heap.size := hk.size
              clear hk
              generalize hp : y0.heap.size = p9 at *
              have HP9a : y0.heap.size ≤ p9 := Nat.le_of_eq hp
              have HP9b : p9 ≤ y0.heap.size := Nat.le_of_eq hp.symm
              clear hp
              refine fc_nil (mt_force ?_)
              simp only [pick_cons, pick_nil, nth_zero, nth_succ]
              refine fc_step rfl (fun K hK => ?_)
              go_simp
              (with_reducible refine (A1.out y3 Q.out).mono ?_)
              rintro e y4 ⟨A5, c5, PA5, pc5, vs, ds, er, n5, l5, rfl, hap, hds, hd5, hk⟩
              refine hK _ _ hk ?_
              clear hK K
              have HQ5 : wr.heap.size ≤ y3.heap.size := Q.out.size
              have Hprev := Q
              replace Q := Lib.hid (keep_trans Q.out hk)
              have hs_y4 : y3.heap.size ≤ y4.heap.size := hk.size
              replace HP9 := Lib.hid (HP9.out.keep hk)
              have hdz := hds.z; have hdn := hds.n; have hdi := hds.i
              have Hap := Lib.hid hap; have Hds := Lib.hid hds; have Hd5 := Lib.hid hd5
              have HKK5 : Hid (Keep y4 y4) := Below.refl _ _
              have HQK : Hid (Keep wr y3) := Hprev
              clear hap hds hd5
              clear hk
              refine fc_nil (mt_take y4 (Below.refl _ _) ?_)
              simp only [pick_cons, pick_nil, nth_zero, nth_succ]
              repeat (go_big_quiet_step (fail))
              refine wpQuiet_nil (mt_end ?_)
              obtain ⟨wa, hsta, hba, hga⟩ := run_store_blk (P := Tryd.prog) ds.toList HP9.out (by simp [hz1, hdz]) Hds.out.o
              have Hba := Lib.hid hba; have Hga := Lib.hid hga
              have hPl := HP9.out.lt; have hga1 := hga.size; have hQs := Q.out.size; have hKs := HKK5.out.size; have hQK := HQK.out.size
              clear hba hga
              go_wp2
              go_meet
              refine ⟨p9, er, A5, c5, PA5, vs, pc5, n5, l5, ds, rfl, rfl, by omega, Lib.hid (Q.out.grown Hga.out (by omega) (fun q hq => by injection hq with hq; omega)), Lib.hid ⟨Hba.out, Hds.out, Hap.out, app_frS Hd5.out HQK.out hXl.out (by omega) (by omega) (fun q h1 h2 => ?_) (fun q h1 h2 => ?_)⟩⟩
              · exact (Hga.out.block q (by omega) (fun e => by have e2 : q = p9 := Option.some.inj e; omega)).trans (Q.out.block q h1)
              · exact (Hga.out.block q (by omega) (fun e => by have e2 : q = p9 := Option.some.inj e; omega)).trans (HKK5.out.block q h2)
          case rest =>
            obtain ⟨p, er, A5, c5, PA5, vs, pc5, n5, l5, ds, rfl, rfl, hp1, Kwc, HP⟩ := hcut
            have HKc := Lib.hid (keep_trans HKr.out Kwc.out)
            have hpc : p < wc.heap.size := HP.out.blk.lt
            have HBPc := Lib.hid (HBP.out.keep Kwc.out)
            have Ownc := Lib.hid (own_keep Own.out Kwc.out)
            have hzwc : wr.heap.size ≤ wc.heap.size := Kwc.out.size
            have hdz := HP.out.sta.z; have hdn := HP.out.sta.n; have hdi := HP.out.sta.i
            clear A1 HF HBP
            by_cases he : er = 0
            · subst he
              obtain ⟨hn5, hl5, hinv, hap⟩ := HP.out.app.ok rfl
              have Hg5 := Lib.hid (HL.out.good.app hinv hap Hx.out)
              have Hap := Lib.hid hap
              have Hds : Hid (StA (stCells (.slice A5 B.length c5) (.slice PA5 vs.length pc5) base room ((all ++ [x]).length : Nat) (lastL 0 z32 (all ++ [x])) ep) ds) := by
                have h1 := HP.out.sta
                rw [hn5, hl5] at h1; exact h1
              have Hdok := Lib.hid HP.out.dok; have HPb := Lib.hid HP.out.blk
              have Hlt := Lib.hid (app_lt HP.out.app.erE.symm)
              clear hinv hap hn5 hl5 HP
              obtain ⟨w6, hst6, hb6, hg6⟩ := run_store_blk (P := Tryd.prog) ds.toList HBPc.out (by simp [hcz2, hdz]) Hds.out.o
              have Hb6 := Lib.hid hb6; have Hg6 := Lib.hid hg6
              have K6 : Hid (Keep w w6) := HKc.out.grown hg6 HKc.out.size (fun q hq => by injection hq with hq; omega)
              have Own6 := Lib.hid (Ownc.out.kept hg6 (.inr (fun e => HoP2.out e)))
              have hz6 : wc.heap.size ≤ w6.heap.size := hg6.size
              clear hb6 hg6
              go_upto_region 16 with ((with_reducible refine load_arr p ds (Eq.trans ?_ rfl) HPb.out _ Tryd.underlying38 rfl hdi ?_); rfl)
              clear hst6
              have hrg6 := Lib.hid (HFw.out w6 K6.out)
              have HQ6 : Hid (Blk (w6.alloc (.cells hv 65)) w6.heap.size 65 hv.toList) := Blk.new w6 _ hv.toList
              have Own6a : Hid ((w6.alloc (.cells hv 65)).ownsRow P 65 68 (.slice Ag all.length cg) all.length (all.flatMap Hd.cells)) := Own6.out.alloc _
              have hb6' : P ≤ (w6.alloc (.cells hv 65)).heap.size := by simp; omega
              go_upto_region 12 with (first
                | ((with_reducible refine load_part hb' (off + k * 68) hv (Eq.trans ?_ rfl) hrg6.out _ Tryd.underlying65 rfl hvi ?_); rfl)
                | ((with_reducible refine list_build1S headT hv hvz (by omega) (Eq.trans ?_ rfl) ?_); rfl)
                | (at_builtin; refine wpList_app headT (by rfl) _ _ (by rfl) P _ all.length _ (by rfl) Own6a.out _ 1 1 hv.toList (by rfl) (by rw [Array.length_toList, hvz]) HQ6.out.rd Hhv.out.o (by omega) (by unfold maxLen; omega) hb6' ?_; intro v7 w7 own7 hg7 hat7; have Own7 := Lib.hid own7; have Hg7 := Lib.hid hg7; have Hat7 := Lib.hid hat7; clear own7 hg7 hat7))
              obtain ⟨Ag7, cg7, rfl, hcg7, hmg7, _⟩ := own_form Own7.out
              have hz7 : w6.heap.size + 1 ≤ w7.heap.size := by have h1 := Hg7.out.size; simpa using h1
              have hln : (all ++ [x]).length = all.length + 1 := by rw [List.length_append, List.length_singleton]
              have K7 : Hid (Keep w w7) := (keep_trans K6.out (keep_new _ _)).grown Hg7.out (by simp; have := K6.out.size; omega) (fun q hq => by have h1 := (Own6a.out.lt q hq).1; omega)
              have HoP7 : Hid ((Value.slice Ag7 (all.length + 1) cg7).ownBlock ≠ some P) := fun e => by
                rcases Hat7.out with h1 | h1
                · exact HoP2.out (h1.symm.trans e)
                · have e2 : (w6.alloc (.cells hv 65)).heap.size = P := Option.some.inj (h1.symm.trans e)
                  simp at e2; omega
              have Own8 : Hid (w7.ownsRow P 65 68 (.slice Ag7 (all.length + 1) cg7) (all.length + 1) ((all ++ [x]).flatMap Hd.cells)) := by
                have h1 := Own7.out
                rw [Hhv.out.l] at h1
                rw [List.flatMap_append, List.flatMap_singleton]; exact h1
              have hBP7 : Blk w7 P 38 ds.toList := (Hb6.out.alloc _).grown Hg7.out HoP2.out
              have L7 : Hid (SgS (fun q => q = P ∨ (Value.slice Ag7 (all.length + 1) cg7).ownBlock = some q) w7 P B ep base room L0 (all ++ [x]) (4 * (k + 1)) A5 c5 PA5 vs pc5) := by
                rw [Hds.out.l] at hBP7
                refine ⟨hBP7, Hg5.out, ?_, fun W hW => Hdok.out W fun q q1 q2 q3 => ?_⟩
                · have h1 := congrArg List.length Hap.out.eq
                  rw [List.length_append, List.length_map, List.length_map, show (layWs (base.toNat + 4 * all.length : Nat) (recB (lastL 0 z32 all) all.length x) 4).length = 4 by simp [layWs]] at h1
                  have := HL.out.len; omega
                · have n1 : q ≠ P := fun e => q3 (.inl e)
                  have n2 : (Value.slice Ag all.length cg).ownBlock ≠ some q := fun e => q3 (.inr e)
                  have n3 : (Value.slice Ag7 (all.length + 1) cg7).ownBlock ≠ some q := fun e => by
                    rcases Hat7.out with h1 | h1
                    · exact n2 (h1.symm.trans e)
                    · have e2 : (w6.alloc (.cells hv 65)).heap.size = q := Option.some.inj (h1.symm.trans e)
                      simp at e2; omega
                  rw [hW q (Nat.zero_le _) (by omega) (fun e => e.elim n1 n3), Hg7.out.block q (by simp; omega) (fun e => n2 e.symm), (keep_new w6 (.cells hv 65)).block q (by omega)]
                  exact Hg6.out.block q q2 (fun e => n1 (Option.some.inj e))
              have Hok8 : Hid (∀ y ∈ all ++ [x], y.ok) := fun y hy => by
                rcases List.mem_append.1 hy with hy | hy
                · exact Hok2.out y hy
                · rw [List.mem_singleton.1 hy]; exact Hx.out
              have HInv7 : Hid ((all ++ [x]).length = min (hs6'.length + (k + 1)) room ∧ Blk w7 B0 49 [.slice A b.length c, .slice PA ws.length pc] ∧ Blk w7 P1 38 (stCells (.slice A4 B1.length c4) (.slice none 0 0) base1 (room : Int) (hs.length : Nat) (lastL 0 z32 hs) ep1)) := by
                obtain ⟨i1, i2, i3⟩ := HInv.out
                have h1 := Hlt.out
                rw [roomN_nat HL.out.good.rm] at h1
                refine ⟨by rw [hln]; omega, ?_, ?_⟩
                · exact (((i2.keep Kwc.out).grown Hg6.out (fun e => by have e2 : P = B0 := Option.some.inj e; omega)).alloc _).grown Hg7.out (fun e => by have h2 := (Own6a.out.lt _ e).1; omega)
                · exact (((i3.keep Kwc.out).grown Hg6.out (fun e => by have e2 : P = P1 := Option.some.inj e; omega)).alloc _).grown Hg7.out (fun e => by have h2 := (Own6a.out.lt _ e).1; omega)
              clear hBP7 HL Hb6 Hg6 Own7 Hg7 Hat7 Own6 Own6a HQ6 hrg6 HPb Hdok
              go_wp2
              go_roundw
              case rel => exact ⟨k + 1, A5, c5, PA5, vs, pc5, all ++ [x], Ag7, cg7, by omega, by go_num, by rw [hln], by rw [hln]; exact L7, by rw [hln]; exact Own8, Hok8, by rw [hln]; exact HoP7, K7, HInv7⟩
              case measure => simp [intOf]; omega
            · have hne : (er == 0) = false := by simp [he]
              obtain ⟨her, _, _, _⟩ := HP.out.app.no he
              have L7 : Hid (SgS (fun q => q = P ∨ (Value.slice Ag all.length cg).ownBlock = some q) wc P B ep base room L0 all (4 * (k + 1)) A2 c2 PA2 ws2 pc2) := ⟨HL.out.blk.keep Kwc.out, HL.out.good, by have := HL.out.len; omega, fun W hW => HL.out.dok W (hW.keep Kwc.out)⟩
              have Hap := Lib.hid HP.out.app
              have Hne := Lib.hid he
              have HInv7 : Hid (all.length = min (hs6'.length + (k + 1)) room ∧ Blk wc B0 49 [.slice A b.length c, .slice PA ws.length pc] ∧ Blk wc P1 38 (stCells (.slice A4 B1.length c4) (.slice none 0 0) base1 (room : Int) (hs.length : Nat) (lastL 0 z32 hs) ep1)) := by
                obtain ⟨i1, i2, i3⟩ := HInv.out
                have hb := HL.out.good.bnd
                have h1 := app_full HL.out.good.san (by omega) hfit0 hb.2.2.2.2.2 (by rw [List.length_map]; have := HL.out.len; omega) (by omega) (fun e => Hne.out (HP.out.app.erE.trans e))
                exact ⟨by omega, i2.keep Kwc.out, i3.keep Kwc.out⟩
              clear HP HL he her
              go_wp2
              go_roundw
              case rel => exact ⟨k + 1, A2, c2, PA2, ws2, pc2, all, Ag, cg, by omega, by go_num, rfl, L7, Ownc, Hok2, HoP2, HKc, HInv7⟩
              case measure => simp [intOf]; omega
        · have hnl : ¬ ((k : Int) < (gl.length : Int)) := by omega
          have hkl : (k : Int) = (gl.length : Int) := by omega
          have hl9 : (lastL 0 z32 all).length = 32 := lastL_len all 0 z32 rfl
          obtain ⟨i1, i2, i3⟩ := HInv.out
          have Hi1 := Lib.hid i1; have Hi2 := Lib.hid i2; have Hi3 := Lib.hid i3
          obtain ⟨cs9, hcs9⟩ : ∃ cs9 : Array Value, cs9.toList = stCells (.slice A2 B.length c2) (.slice PA2 ws2.length pc2) base (room : Int) (all.length : Nat) (lastL 0 z32 all) ep := ⟨_, rfl⟩
          have hcA9 := StA.of hl9 hcs9
          have h9z := hcA9.z; have h9n := hcA9.n; have h9i := hcA9.i
          have HBP9 : Hid (Blk wr P 38 cs9.toList) := by rw [hcs9]; exact HL.out.blk
          have hgb9 := HL.out.good.bnd
          have C9 := ssync_w A2 B c2 PA2 ws2 pc2 base room all ep cs9 wr (HL.out.dok wr (Fr.of_keep (Below.refl _ _))) (HS.out.keep HKr.out) (by omega) HL.out.good.inv hcA9
          clear i1 i2 i3 hcA9 hcs9 HInv
          go_wp2_with ((with_reducible refine load_arr P cs9 (Eq.trans ?_ rfl) HBP9.out _ Tryd.underlying38 rfl h9i ?_); rfl)
          refine C9.mono ?_
          clear C9
          rintro e wa ⟨Bq, Aq, cq, ds, hBq, rfl, hds, hinv, hdq, ka⟩
          have hdz := hds.z; have hdn := hds.n
          have hf1 := field_log ds
          have hf2 := field_disk (ds.extract 0 37)
          rw [st_disk hds.l] at hf2
          generalize ds.extract 0 37 = lsq at hf1 hf2
          have hGq : GoodW Bq [] ep base room all L0 := by rw [hBq]; exact HL.out.good.sync
          have hBql : Bq.length = B.length := by rw [hBq]; exact bytesQ_len _ _ HL.out.good.san
          have hRq : room = roomS ((Bq.length / 32 : Nat) : Int) := by rw [hBql]; exact HrB.out
          have Ka := Lib.hid ka
          have HKa := Lib.hid (keep_trans HKr.out ka)
          have O1 : Calls Tryd.prog 12 #[DV Aq Bq.length cq none 0 0] wa fun e w' => ∃ cs Ah ch, e = .returned (.tuple #[.agg cs, .slice Ah all.length ch]) ∧ (∃ d0 d1 rm n last, last.length = 32 ∧ cs.toList = stCells d0 d1 base rm n last ep ∧ cs.size = 38 ∧ (Tryd.prog.info? 38).map (·.size) = some cs.size ∧ ¬ cs = #[] ∧ ∀ v ∈ cs.toList, v.oneCell' = true) ∧ Rd w' Ah (all.flatMap Hd.cells) ∧ Keep wa w' := by
            refine (sopen_w Aq Bq cq none [] 0 wa (hdq wa (fun _ _ _ _ => rfl)) (HS.out.keep HKa.out) (by decide)).mono ?_
            rintro e w' ⟨ep', base', room', B', hs', A', c', cs', Ah', ch', rfl, R, hcs, _, own, _, hk⟩
            obtain ⟨e1, e2, e3⟩ := hGq.again (.inr hRq) R
            have e4 := e3 hRq
            subst e1 e2 e4
            exact ⟨cs', Ah', ch', rfl, ⟨_, _, _, _, _, lastL_len _ _ _ rfl, hcs.l, hcs.z, hcs.i, hcs.n, hcs.o⟩, own_rd own, hk⟩
          clear hinv hds hGq hBql hRq ka hBq hdq
          go_wp2_with fail
          refine O1.mono ?_
          clear O1 hf1 hf2
          rintro e wb ⟨csb, Agb, cgb, rfl, ⟨e0, e1, rmb, nb, lb, hlb, hclb, hbz, hbi, hbn, hbo⟩, hrb, kb⟩
          have Hbo := Lib.hid hbo; have Hrb := Lib.hid hrb; have Hclb := Lib.hid hclb; have Krb := Lib.hid (keep_trans Ka.out kb)
          have hst : (storeCells ⟨wb.heap.size, 0, none⟩ csb.toList 0).run Tryd.prog (wb.alloc (.cells zs 38)) = .ok () (wb.alloc (.cells csb 38)) := run_storeCells_new (P := Tryd.prog) wb 38 zs csb hbi (hz1.trans hbz.symm) (by have := all_oneCell_toArray Hbo.out; rwa [Array.toArray_toList] at this)
          clear hbo hrb hclb kb
          go_upto_region 18 with fail
          clear hst
          obtain ⟨wd, hwd⟩ : ∃ wd, wd = wb.alloc (.cells csb 38) := ⟨_, rfl⟩
          have HE : Hid (Blk wd wb.heap.size 38 (stCells e0 e1 base rmb nb lb ep)) := by rw [hwd, ← Hclb.out]; exact Blk.new wb _ csb.toList
          have kd : Keep wb wd := by rw [hwd]; exact keep_new _ _
          rw [← hwd]
          clear hwd
          have Krd := Lib.hid (keep_trans Krb.out kd); have Hrd := Lib.hid (Hrb.out.keep kd); have Hgd := Lib.hid (own_rd (own_keep Own.out (keep_trans Krb.out kd)))
          generalize wb.heap.size = E at *
          clear kd
          obtain ⟨x0, x1, x2, x3, x4, x5⟩ := st_d hlb HE.out
          obtain ⟨t0, t1, t2, t3, t4, t5⟩ := st_d hl9 (HL.out.blk.keep Krd.out)
          obtain ⟨s0, s1, s2, s3, s4, s5⟩ := st_d hls (Hi3.out.keep Krd.out)
          have b0 := (Hi2.out.keep Krd.out).cell 0
          simp only [List.getElem?_cons_zero] at b0
          have ax2 := aft_cell x2; have ax5 := aft_cell x5; have at2 := aft_cell t2; have at5 := aft_cell t5; have as5 := aft_cell s5; have ab0 := aft_cell b0
          clear x0 x1 x2 x3 x4 x5 t0 t1 t2 t3 t4 t5 s0 s1 s2 s3 s4 s5 b0
          have HKd := Lib.hid (keep_trans HKr.out Krd.out)
          have S1 : Hid (∀ y, Keep wd y → Calls Tryd.prog 18 #[.slice Agb all.length cgb, .slice Ag all.length cg] y fun e w' => e = .returned (.bool true) ∧ Keep y w') := fun y hy => by
            have h1 := hsame_any Agb all cgb Ag all cg y (Hrd.out.keep hy) (Hgd.out.keep hy) Hok2.out Hok2.out (by omega) (by omega)
            rw [decide_eq_true (rfl : all = all)] at h1; exact h1
          have M1 : Hid (∀ y, Calls Tryd.prog 9 #[.int .i64 ((b.length : Int) / 32)] y fun e w'' => e = .returned (.int .i64 room) ∧ y = w'') := fun y => by
            have h1 := room_any ((b.length : Int) / 32) y (by omega)
            rw [show ((b.length : Int) / 32) = ((b.length / 32 : Nat) : Int) by omega] at h1 ⊢
            rw [← HrE.out] at h1; exact h1
          have g2 : (ep == ep) = true := by simp
          have g3 : (base == base) = true := by simp
          have hnat : all.length = min (hs6'.length + gl.length) room := by have := Hi1.out; omega
          have hw : wrap64 (ep1 + 1) = ep := by rw [IntWalk.wrap64_in _ (by have := hgb.2.2.1; omega)]; exact Hep.out
          have hmin : min ((hs6'.length : Int) + (gl.length : Int)) (room : Int) = (all.length : Int) := by omega
          by_cases hm : (hs6'.length : Int) + (gl.length : Int) ≤ (room : Int)
          · have hm' : ¬ ((room : Int) < (hs6'.length : Int) + (gl.length : Int)) := by omega
            have g4 : ((all.length : Int) == (hs6'.length : Int) + (gl.length : Int)) = true := by simp; omega
            clear hl9 hls hlb hgb9 hnat hgb q2 hr1 hm hmin
            refine wp_region_plainqT wd (Below.refl _ _) ?_
            try simp only [List.append_eq, List.cons_append, List.nil_append]
            repeat (go_big_quiet_step (first | (go_at_call 18; exact quiet_aft (v := .bool true) (S1.out (aft wd _) (aft_keep wd _))) | (go_at_call 9; exact quiet_aft_same (M1.out _))))
            refine wpQuiet_nil ?_
            rintro _ ⟨y, rfl⟩
            have j := aft_keep wd y
            generalize aft wd y = wz at j ⊢
            clear ax2 ax5 at2 at5 as5 ab0
            go_wp2
            go_ret
            exact ⟨rfl, keep_trans HKd.out j⟩
          · have hm' : (room : Int) < (hs6'.length : Int) + (gl.length : Int) := by omega
            have g4 : ((all.length : Int) == (room : Int)) = true := by simp; omega
            clear hl9 hls hlb hgb9 hnat hgb q2 hr1 hm hmin
            refine wp_region_plainqT wd (Below.refl _ _) ?_
            try simp only [List.append_eq, List.cons_append, List.nil_append]
            repeat (go_big_quiet_step (first | (go_at_call 18; exact quiet_aft (v := .bool true) (S1.out (aft wd _) (aft_keep wd _))) | (go_at_call 9; exact quiet_aft_same (M1.out _))))
            refine wpQuiet_nil ?_
            rintro _ ⟨y, rfl⟩
            have j := aft_keep wd y
            generalize aft wd y = wz at j ⊢
            clear ax2 ax5 at2 at5 as5 ab0
            go_wp2
            go_ret
            exact ⟨rfl, keep_trans HKd.out j⟩
    · have hd : (CE != 0) = true := by simp [he]
      have hse := Hno.out he
      subst hse
      have Hne := Lib.hid he
      clear he Hno Hyes
      have HT7' : Hid (Blk w7 w6.heap.size 38 (stCells (.slice A4 B1.length c4) (.slice none 0 0) base1 (room1 : Int) (hs.length : Nat) (lastL 0 z32 hs) ep1)) := by rw [← Hcs.out.l]; exact HT7.out
      obtain ⟨c0, c1, c2, c3, c4', c5⟩ := st_d hls HT7'.out
      clear c2 c3 c4' c5
      generalize w6.heap.size = P at *
      have O1 : Calls Tryd.prog 12 #[DV A4 B1.length c4 none 0 0] w7 fun e w' => ∃ cs' Ah' ch' , e = .returned (.tuple #[.agg cs', .slice Ah' hs.length ch']) ∧ (cs'.size = 38 ∧ (Tryd.prog.info? 38).map (·.size) = some cs'.size ∧ ¬ cs' = #[] ∧ ∀ v ∈ cs'.toList, v.oneCell' = true) ∧ Rd w' Ah' (hs.flatMap Hd.cells) ∧ Keep w7 w' := by
        refine (sopen_w A4 B1 c4 none [] 0 w7 (Hd5.out w7 (Fr.of_keep (keep_trans K56.out K67.out))) (HS.out.keep HK7.out) (by decide)).mono ?_
        rintro e w' ⟨ep', base', room', B', hs', A', c', cs', Ah', ch', rfl, R, hcs, _, own, _, hk⟩
        obtain ⟨e1, e2, _⟩ := Hgw.out.again Hrm.out R
        subst e1 e2
        exact ⟨cs', Ah', ch', rfl, ⟨hcs.z, hcs.i, hcs.n, hcs.o⟩, own_rd own, hk⟩
      go_wp2_with fail
      refine O1.mono ?_
      clear O1 c0 c1
      rintro e w8 ⟨cs8, Ag8, cg8, rfl, ⟨h8z, h8i, h8n, h8o⟩, hr8, k8⟩
      have H8o := Lib.hid h8o; have Hr8 := Lib.hid hr8; have K78 := Lib.hid k8
      have hst : (storeCells ⟨w8.heap.size, 0, none⟩ cs8.toList 0).run Tryd.prog (w8.alloc (.cells zs 38)) = .ok () (w8.alloc (.cells cs8 38)) := run_storeCells_new (P := Tryd.prog) w8 38 zs cs8 h8i (hz1.trans h8z.symm) (by have := all_oneCell_toArray H8o.out; rwa [Array.toArray_toList] at this)
      clear h8o hr8 k8
      go_upto_region 8 with fail
      clear hst
      try simp only [List.append_eq, List.cons_append, List.nil_append]
      obtain ⟨w9, hw9⟩ : ∃ w9, w9 = w8.alloc (.cells cs8 38) := ⟨_, rfl⟩
      have k9 : Keep w8 w9 := by rw [hw9]; exact keep_new _ _
      rw [← hw9]
      clear hw9
      have K79 := Lib.hid (keep_trans K78.out k9); have Hr9 := Lib.hid (Hr8.out.keep k9); have Hg9 := Lib.hid (own_rd (own_keep Own7.out K79.out))
      have b0 := (HD7.out.keep K79.out).cell 0; have b1 := (HD7.out.keep K79.out).cell 1
      simp only [List.getElem?_cons_zero, List.getElem?_cons_succ] at b0 b1
      obtain ⟨d0, d1, d2, d3, d4, d5⟩ := st_d hls (HC7'.out.keep K79.out)
      clear d0 d1 d2 d3 d4 k9
      generalize w8.heap.size = E8 at *
      have HK9 := Lib.hid (keep_trans HK7.out K79.out)
      have S1 : Hid (∀ y, Keep w9 y → Calls Tryd.prog 18 #[.slice Ag8 hs.length cg8, .slice Ah hs.length ch] y fun e w' => e = .returned (.bool true) ∧ Keep y w') := fun y hy => by
        have h1 := hsame_any Ag8 hs cg8 Ah hs ch y (Hr9.out.keep hy) (Hg9.out.keep hy) Hok.out Hok.out (by omega) (by omega)
        rw [decide_eq_true (rfl : hs = hs)] at h1; exact h1
      have M1 : Calls Tryd.prog 9 #[.int .i64 ((b.length : Int) / 32)] w9 fun e w'' => e = .returned (.int .i64 room1) ∧ w9 = w'' := by
        have h1 := room_any ((b.length : Int) / 32) w9 (by omega)
        rw [show ((b.length : Int) / 32) = ((b.length / 32 : Nat) : Int) by omega] at h1 ⊢
        rw [← HrE.out] at h1; exact h1
      go_wp2_with fail
      refine M1.mono ?_
      clear M1
      rintro e _ ⟨rfl, rfl⟩
      by_cases q1 : room1 < kl.length
      · have q1' : (room1 : Int) < (kl.length : Int) := by omega
        clear q1 hgb
        go_wp2_with fail
        refine (S1.out w9 (Below.refl _ _)).mono ?_
        rintro e w10 ⟨rfl, k10⟩
        go_wp2_with fail
        go_ret
        exact ⟨rfl, keep_trans HK9.out k10⟩
      · have q1' : ¬ ((room1 : Int) < (kl.length : Int)) := by omega
        by_cases q2 : b.length < 128
        · have q2' : (b.length : Int) < 128 := by omega
          clear q1 q2 hgb
          go_wp2_with fail
          refine (S1.out w9 (Below.refl _ _)).mono ?_
          rintro e w10 ⟨rfl, k10⟩
          go_wp2_with fail
          go_ret
          exact ⟨rfl, keep_trans HK9.out k10⟩
        · have q2' : ¬ ((b.length : Int) < 128) := by omega
          go_wp2_with fail
          refine (drive_any A b c PA ws pc w9 (Hh.out.keep HK9.out) (by omega)).mono ?_
          rintro e w10 ⟨PA10, pc10, rfl, _, hd10, hk10⟩
          have N1 : Calls Tryd.prog 24 #[DV A b.length c PA10 ws.length pc10] w10 fun e w' => e = .returned (.bool (saneP b.length (ws.map WriteR.pl))) ∧ Keep w10 w' := by
            have h1 := sane_any A b c PA10 ws pc10 w10 (hd10 w10 (Below.refl _ _))
            rw [sane_pl] at h1; exact h1
          have K10 := Lib.hid hk10
          clear hd10 b0 b1
          go_wp2_with fail
          refine N1.mono ?_
          clear N1
          rintro e w11 ⟨rfl, k11⟩
          have K911 := Lib.hid (keep_trans K10.out k11)
          replace d5 := keep_cell K911.out d5
          cases hsn : saneP b.length (ws.map WriteR.pl) with
          | false =>
            clear q1 q2 hgb hsn hk10 k11
            go_wp2_with fail
            refine (S1.out w11 K911.out).mono ?_
            rintro e w12 ⟨rfl, k12⟩
            go_wp2_with fail
            go_ret
            exact ⟨rfl, keep_trans HK9.out (keep_trans K911.out k12)⟩
          | true =>
            have hBl := Hbl1.out hsn
            have hr1 : room1 = roomS ((B1.length / 32 : Nat) : Int) := by rw [hBl]; exact HrE.out
            have hnn := (Hgw.out.good hr1).compE_no Hko.out (by rw [HCE.out]; exact Hne.out)
            have hep : 2147483646 < ep1 := Classical.byContradiction fun e => hnn ⟨by omega, by omega, by omega⟩
            have q3 : decide ((2147483646 : Int) < ep1) = true := decide_eq_true hep
            clear q1 q2 hgb hsn hk10 k11 hBl hr1 hnn hep
            go_wp2_with fail
            refine (S1.out w11 K911.out).mono ?_
            rintro e w12 ⟨rfl, k12⟩
            go_wp2_with fail
            go_ret
            exact ⟨rfl, keep_trans HK9.out (keep_trans K911.out k12)⟩
end Go.Proofs.YtbomnldpmkedbaaDoor
