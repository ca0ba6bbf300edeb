/- The document's example. -/
import Derived.Test.YtbomnldpmkedbaaDoorSnS
import Derived.Test.YtbomnldpmkedbaaDoorJrnQ
set_option linter.unusedSimpArgs false
set_option linter.unusedVariables false
namespace Go.Proofs.YtbomnldpmkedbaaDoor
open Go.RowKit
attribute [local go_sem ↓] Go.wp_at_zero Go.wp_at_succ

theorem list_build1S {P : Program} {t e : TypeId} {zc : Array Value} {size bytes : Nat} (T : ElT P t e (.agg zc) size bytes) {ops : Array Oper} {rest : List Oper} {a : Act} {w : World} {Q : Exit → Act → World → Prop} {x : Operand} {dst : Option Tmp} {ty' : TypeId} {pos : String} {af : Array Edge}
    (cs : Array Value) (hz : cs.size = size) (hsm : size ≤ 1000) (hx : a.eval x = .agg cs)
    (h : wpList P ops Q rest (a.put dst (.slice (some ⟨w.heap.size, 0, none⟩) 1 1)) (w.alloc (.cells cs e))) : wpList P ops Q ({ dst := dst, op := .buildSlice t 1 #[(0, x)], type := ty', pos := pos, after := af, guard := none } :: rest) a w :=
  wpList_plain rfl fun _ hK => wp_build1 T x rfl cs hz hsm hx (hK _ _ h)

def snB : List UInt8 := List.replicate 640 0
def snH : Hd := ⟨0, z32, z32, 0, 0, 4⟩
theorem snH_ok : snH.ok := ⟨rfl, rfl⟩
theorem snB_len : snB.length = 640 := by kernel_rfl
theorem snB_sane : saneP snB.length [] = true := by kernel_rfl
theorem snB_zero (k : Nat) (h : ep4 (slotB snB k) = 0) : takeS (slotB snB k) = (0, 0, false) := if_neg (fun e => by have := e.2.1; omega)
theorem snB_look : lookB snB = (0, 0, -1) := by
  rw [look_two (by rw [snB_len]; omega), snB_zero 0 (by kernel_rfl), snB_zero 1 (by kernel_rfl)]
  rfl
theorem snB_found : Found 4 (2 : Nat) snB [] := found_of (by omega) (by rw [snB_len]; decide) trivial (Nat.zero_le _) (nx_zero fun _ _ => by kernel_rfl)
theorem snH_build : ∃ hv : Array Value, HdA snH hv ∧ Tryd.prog.built 65 [(5, .int .u32 4)] = some hv := ⟨_, HdA.of snH_ok, by kernel_rfl⟩

set_option maxRecDepth 100000 in
set_option maxHeartbeats 4000000 in
theorem awake_any (w : World) (hS : ShaOk w) : Calls Tryd.prog 8 #[] w fun e w' => e = .returned (.bool true) ∧ Keep w w' := by
  have HS := Lib.hid hS; clear hS
  obtain ⟨zs, hz1, hz2, hz3⟩ := zst_letter
  obtain ⟨hv, hhv, hvb⟩ := snH_build
  have hvz := hhv.z; have hvn := hhv.n; have hvi := hhv.i
  have Hhv := Lib.hid hhv; have Hvb := Lib.hid hvb
  clear hhv hvb
  go_enter Tryd.func8, Tryd.ntmps8
  go_wp2_with fail
  refine (new_any 20 20 _ (by omega)).mono ?_
  rintro e w1 ⟨A1, c1, rfl, own1, k1⟩
  have hd1 : DOk w1 A1 snB c1 none [] 0 := DOk.own own1
  have HK1 := Lib.hid k1
  have C1 := sopen_w A1 snB c1 none [] 0 w1 hd1 (HS.out.keep k1) (by decide)
  rw [snB_len] at C1
  clear hd1 own1 k1
  go_wp2_with fail
  refine C1.mono ?_
  clear C1
  rintro e w2 ⟨ep, base, room, B, hs, A2, c2, cs, Ah, ch, rfl, R, hcs, hd2, own2, _, k2⟩
  obtain ⟨G, hlk, hBl⟩ := R.good snB_sane
  have hq0 : bytesQ snB (List.map WriteR.pl []) = snB := bytesQ_nil snB_sane
  rw [hq0, snB_look] at hlk
  rw [snB_len] at hBl
  have hrm : room = 2 := by rw [R.roomE, snB_len]; rfl
  have hep : ep = 0 := by rw [R.epE, hq0, snB_look]
  have hbs : base = 4 := by rw [R.baseE, hq0, snB_look]; unfold begS; simp
  subst hrm hep hbs
  have hn : hs = [] := by
    have h1 := R.R.fnd
    rw [hq0] at h1
    exact h1.uniq snB_found
  subst hn
  have hcz := hcs.z; have hcn := hcs.n; have hci := hcs.i
  have HG := Lib.hid G; have Hcs := Lib.hid hcs; have Hd2 := Lib.hid hd2; have HK2 := Lib.hid (keep_trans HK1.out k2); have Hlk := Lib.hid hlk; have HBl := Lib.hid hBl
  have hk12 : w1.heap.size ≤ w2.heap.size := k2.size
  have hst : (storeCells ⟨w2.heap.size, 0, none⟩ cs.toList 0).run Tryd.prog (w2.alloc (.cells zs 38)) = .ok () (w2.alloc (.cells cs 38)) := run_storeCells_new (P := Tryd.prog) w2 38 zs cs hci (hz1.trans hcz.symm) (by have := all_oneCell_toArray Hcs.out.o; rwa [Array.toArray_toList] at this)
  clear hcs hd2 own2 R k2 G hlk hBl hq0
  go_upto_region 2 with fail
  clear hst
  obtain ⟨w3, hw3⟩ : ∃ w3, w3 = w2.alloc (.cells cs 38) := ⟨_, rfl⟩
  have HC3 : Hid (Blk w3 w2.heap.size 38 cs.toList) := by rw [hw3]; exact Blk.new w2 _ cs.toList
  have k3 : Keep w2 w3 := by rw [hw3]; exact keep_new _ _
  rw [← hw3]
  clear hw3
  have HK3 := Lib.hid (keep_trans HK2.out k3)
  have hz23 : w2.heap.size < w3.heap.size := HC3.out.lt
  have hd3 : ∀ y, Keep w3 y → ∀ W, Fr 0 (fun _ => False) y W → DOk W A2 B c2 none [] 0 := fun y hy W hW => Hd2.out W (hW.sub (Nat.zero_le _) (keep_trans k3 hy) (fun _ _ _ _ e => e))
  have hrd : ∀ y, Keep w3 y → Blk (y.alloc (.cells hv 65)) y.heap.size 65 hv.toList := fun y _ => Blk.new y _ hv.toList
  have C2 : Hid (∀ y, Keep w3 y → Rd y (some ⟨w3.heap.size, 0, none⟩) hv.toList → Calls Tryd.prog 14 #[.agg cs, .slice (some ⟨w3.heap.size, 0, none⟩) 1 1] y fun e w' => ∃ ss' b' A' c' PA' pc', e = .returned (.tuple #[.agg ss', .int .i64 0]) ∧ Keep y w' ∧
      NewB B [snH] 0 2 (oth B 2) (slt B) (1 - (lookB B).2.1) b' ∧ GoodS b' [] 1 (oth B 2 : Nat) 2 [snH] ∧ StA (stCells (.slice A' b'.length c') (.slice PA' 0 pc') (oth B 2 : Nat) (2 : Nat) (1 : Nat) (lastL 0 z32 [snH]) 1) ss' ∧ (∀ W, Keep w' W → DOk W A' b' c' PA' [] pc')) := fun y hy hr => by
    have hok : ∀ x ∈ [snH], x.ok := fun x hx => by rw [List.mem_singleton.1 hx]; exact snH_ok
    have h4 : 4 ≤ B.length / 32 := by rw [HBl.out]; decide
    have hce := HG.out.compE_ok h4 (gl := [snH]) (by decide) hok (by decide)
    have h1 := compact_w A2 B c2 none [] 0 4 (2 : Nat) (0 : Nat) (lastL 0 z32 []) rfl 0 cs (some ⟨w3.heap.size, 0, none⟩) [snH] 1 y (fun _ => False) (fun _ h => h.elim) (hd3 y hy) (HS.out.keep (keep_trans HK3.out hy)) HG.out.san Hcs.out (by decide) (by decide)
      (by rw [List.flatMap_cons, List.flatMap_nil, List.append_nil, ← Hhv.out.l]; exact hr) hok
    rw [List.map_nil, hce] at h1
    refine h1.mono ?_
    rintro e w' ⟨ss', g1, g2, _, g4⟩
    obtain ⟨A', b', c', PA', vs, pc', hs', hC⟩ := g4 rfl
    obtain ⟨rfl, rfl, q1, q2, q3⟩ := HG.out.comp h4 (by decide) hok (by decide) hC
    exact ⟨ss', b', A', c', PA', pc', g1, g2, q1, q2, q3, fun W hW => hC.dok W (Fr.of_keep hW)⟩
  clear hd3 hrd
  generalize w2.heap.size = C at *
  have HB3 : Hid (Blk (w3.alloc (.cells hv 65)) w3.heap.size 65 hv.toList) := Blk.new w3 _ hv.toList
  go_wp2_with (first
    | ((with_reducible refine load_arr C cs (Eq.trans ?_ rfl) HC3.out _ Tryd.underlying38 rfl hci ?_); rfl)
    | ((with_reducible refine list_build [(5, .int .u32 4)] hv (Eq.trans ?_ rfl) Hvb.out ?_); rfl)
    | ((with_reducible refine list_build1S headT hv hvz (by omega) (Eq.trans ?_ rfl) ?_); rfl))
  refine (C2.out _ (keep_new _ _) HB3.out.rd).mono ?_
  clear C2
  rintro e w4 ⟨s4, b4, A4, c4, PA4, pc4, rfl, k4, hN, hG4, hs4, hd4⟩
  have h4z := hs4.z; have h4n := hs4.n; have h4i := hs4.i
  have HG4 := Lib.hid hG4; have Hs4 := Lib.hid hs4; have Hd4 := Lib.hid hd4; have HN := Lib.hid hN
  have HK4 := Lib.hid (keep_trans HK3.out (keep_trans (keep_new w3 (.cells hv 65)) k4))
  have hst : (storeCells ⟨w4.heap.size, 0, none⟩ s4.toList 0).run Tryd.prog (w4.alloc (.cells zs 38)) = .ok () (w4.alloc (.cells s4 38)) := run_storeCells_new (P := Tryd.prog) w4 38 zs s4 h4i (hz1.trans h4z.symm) (by have := all_oneCell_toArray Hs4.out.o; rwa [Array.toArray_toList] at this)
  clear hN hG4 hs4 hd4 k4 HB3
  go_upto_region 3 with fail
  clear hst
  obtain ⟨w5, hw5⟩ : ∃ w5, w5 = w4.alloc (.cells s4 38) := ⟨_, rfl⟩
  have HM5 : Hid (Blk w5 w4.heap.size 38 s4.toList) := by rw [hw5]; exact Blk.new w4 _ s4.toList
  have k5 : Keep w4 w5 := by rw [hw5]; exact keep_new _ _
  rw [← hw5]
  clear hw5
  have HK5 := Lib.hid (keep_trans HK4.out k5)
  have hz45 : w4.heap.size < w5.heap.size := HM5.out.lt
  have HM5' : Hid (Blk w5 w4.heap.size 38 (stCells (.slice A4 b4.length c4) (.slice PA4 0 pc4) (oth B 2 : Nat) (2 : Nat) (1 : Nat) (lastL 0 z32 [snH]) 1)) := by rw [← Hs4.out.l]; exact HM5.out
  have hl1 : (lastL 0 z32 [snH]).length = 32 := lastL_len _ _ _ rfl
  generalize lastL 0 z32 [snH] = LL at *
  obtain ⟨d0, d1, d2, d3, d4, d5⟩ := st_d hl1 HM5'.out
  clear d2 d3 d4 d5
  have C3 : Hid (Calls Tryd.prog 12 #[DV A4 b4.length c4 PA4 0 pc4] w5 fun e w' => ∃ base cs Ah ch, e = .returned (.tuple #[.agg cs, .slice Ah 1 ch]) ∧ (∃ d0 d1 rm n last, last.length = 32 ∧ cs.toList = stCells d0 d1 base rm n last 1 ∧ cs.size = 38 ∧ (Tryd.prog.info? 38).map (·.size) = some cs.size ∧ ¬ cs = #[] ∧ ∀ v ∈ cs.toList, v.oneCell' = true) ∧ Rd w' Ah ([snH].flatMap Hd.cells) ∧ Keep w5 w') := by
    refine (sopen_w A4 b4 c4 PA4 [] pc4 w5 (Hd4.out w5 k5) (HS.out.keep HK5.out) (by decide)).mono ?_
    rintro e w6 ⟨ep, base, room, B6, hs6, A6, c6, cs6, Ah, ch, rfl, R, hcs, hd6, own6, _, k6⟩
    have hq := bytesQ_nil HG4.out.san
    have hep : ep = 1 := by rw [R.epE, List.map_nil]; exact HG4.out.epE.symm
    have hrm : room = 2 := by rw [R.roomE]; exact HG4.out.roomE.symm
    have hbs : base = (oth B 2 : Nat) := by rw [R.baseE, List.map_nil, hrm]; exact HG4.out.baseE.symm
    have hn : hs6 = [snH] := by
      have h1 := R.R.fnd
      have h2 := HG4.out.inv.fnd
      rw [hrm, hbs] at h1
      exact h1.uniq h2
    subst hep hrm hbs hn
    exact ⟨_, cs6, Ah, ch, rfl, ⟨_, _, _, _, _, lastL_len _ _ _ rfl, hcs.l, hcs.z, hcs.i, hcs.n, hcs.o⟩, own_rd own6, k6⟩
  generalize hbl : b4.length = bl at *
  clear hbl k5 HN HG HG4 Hlk
  generalize hM : w4.heap.size = M at *
  clear hM
  go_wp2_with fail
  refine C3.out.mono ?_
  clear C3 d0 d1
  rintro e w6 ⟨bs6, cs6, Ag, cg, rfl, ⟨e0, e1, rm6, n6, l6, hl6, hcl, h6z, h6i, h6n, h6o⟩, hr6, k6⟩
  have Ho6 := Lib.hid h6o; have HK6 := Lib.hid (keep_trans HK5.out k6); have HM6 := Lib.hid (HM5'.out.keep k6); have Hr6 := Lib.hid hr6; have Hcl := Lib.hid hcl
  have hst : (storeCells ⟨w6.heap.size, 0, none⟩ cs6.toList 0).run Tryd.prog (w6.alloc (.cells zs 38)) = .ok () (w6.alloc (.cells cs6 38)) := run_storeCells_new (P := Tryd.prog) w6 38 zs cs6 h6i (hz1.trans h6z.symm) (by have := all_oneCell_toArray Ho6.out; rwa [Array.toArray_toList] at this)
  have hz56 : w5.heap.size ≤ w6.heap.size := k6.size
  clear h6o hr6 k6 hcl HM5 HM5'
  go_upto_region 4 with fail
  clear hst
  obtain ⟨w7, hw7⟩ : ∃ w7, w7 = w6.alloc (.cells cs6 38) := ⟨_, rfl⟩
  have HE7 : Hid (Blk w7 w6.heap.size 38 (stCells e0 e1 bs6 rm6 n6 l6 1)) := by rw [hw7, ← Hcl.out]; exact Blk.new w6 _ cs6.toList
  have k7 : Keep w6 w7 := by rw [hw7]; exact keep_new _ _
  rw [← hw7]
  clear hw7
  have HK7 := Lib.hid (keep_trans HK6.out k7); have HM7 := Lib.hid (HM6.out.keep k7)
  obtain ⟨gb, off, rfl, hgb, F⟩ := Hd.at_ (hs := [snH]) (Hr6.out.keep k7) (fun x hx => by rw [List.mem_singleton.1 hx]; exact snH_ok) (k := 0) (by simp)
  have r0 : w7.cell? ⟨gb, off + 67, none⟩ = some (.int .u32 4) := F w7 (Below.refl _ _) 67 _ (by rfl)
  obtain ⟨m0, m1, m2, m3, m4, m5⟩ := st_d hl1 HM7.out
  obtain ⟨n0, n1, n2, n3, n4, n5⟩ := st_d hl6 HE7.out
  clear m0 m1 m2 m3 m4 n0 n1 n2 n3 n4 F k7
  generalize w6.heap.size = E at *
  go_wp2_with fail
  refine (room_any 68 w7 (by omega)).mono ?_
  rintro e _ ⟨rfl, rfl⟩
  have h8 : (roomS 68 : Int) = 8 := rfl
  rw [h8]
  clear h8
  go_wp2_with fail
  go_ret
  exact ⟨rfl, HK7.out⟩
end Go.Proofs.YtbomnldpmkedbaaDoor
