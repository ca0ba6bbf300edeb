/- What is appended is there: the walk. -/
import Derived.Test.YtielojlhdnimgaaDoorJrnU
set_option linter.unusedSimpArgs false
set_option linter.unusedVariables false
namespace Go.Proofs.YtielojlhdnimgaaDoor
open Go.RowKit
attribute [local go_sem ↓] Go.wp_at_zero Go.wp_at_succ

theorem wpQuiet_load_partg {P : Program} {w0 : World} {ops : Array Oper} {rest : List Oper} {a : Act} {Q : Act → Prop} {x : Operand} {dst : Option Tmp} {ty ty' : TypeId} {pos : String} {af : Array Edge} {gd : Option (Nat × Bool)}
    (g off : Nat) (cs : Array Value) (hx : a.eval x = .pointer (some ⟨g, off, none⟩)) (hr : w0.rangeAt g off cs.toList) (d : TypeDesc) (hu : P.underlying ty = some d) (hd : d.isRow = true) (hi : (P.info? ty).map (·.size) = some cs.size)
    (hw : Region.wanted { dst := dst, op := .load ty x, type := ty', pos := pos, after := af, guard := gd } (yielded ops a.tmps) = true)
    (h : wpQuiet P ops (fun w' => ∃ x, w' = aft w0 x) Q rest (a.put dst (.agg cs))) :
    wpQuiet P ops (fun w' => ∃ x, w' = aft w0 x) Q ({ dst := dst, op := .load ty x, type := ty', pos := pos, after := af, guard := gd } :: rest) a := by
  refine BigFrame.wpQuiet_want hw fun K hK => ⟨.agg cs, fun w hw => ?_, hK _ h⟩
  obtain ⟨y, rfl⟩ := hw
  unfold Oper.quietAt execOp
  have hl := run_loadVar_mid (P := P) (aft w0 y) g off ty cs.toList d (fun j v hv => keep_cell (aft_keep w0 y) (hr j v hv)) hu hd (by simpa using hi)
  simp only [hx, Instr.loadAt, Instr.sureAddr, Sem.run_bind, Sem.run_pure, Result.andThen_ok, hl, Array.toArray_toList]
  exact ⟨rfl, rfl⟩
theorem list_build1 {P : Program} {t e : TypeId} {zc : Array Value} {size bytes : Nat} (T : ElT P t e (.agg zc) size bytes) {ops : Array Oper} {rest : List Oper} {a : Act} {w : World} {Q : Exit → Act → World → Prop} {x : Operand} {dst : Option Tmp} {ty' : TypeId} {pos : String} {af : Array Edge}
    (cs : Array Value) (hz : cs.size = size) (hsm : size ≤ 1000) (hx : a.eval x = .agg cs)
    (h : wpList P ops Q rest (a.put dst (.slice (some ⟨w.heap.size, 0, none⟩) 1 1)) (w.alloc (.cells cs e))) : wpList P ops Q ({ dst := dst, op := .buildSlice t 1 #[(0, x)], type := ty', pos := pos, after := af, guard := none } :: rest) a w :=
  wpList_plain rfl fun _ hK => wp_build1 T x rfl cs hz hsm hx (hK _ _ h)
theorem Blk.range {w : World} {g : Nat} {t : TypeId} {l : List Value} (hb : Blk w g t l) : w.rangeAt g 0 l := range_of hb 0 l (by rw [List.drop_zero, List.take_length])

/-- Behind one more: what the disk hangs on. -/
theorem app_fr {X : Nat → Prop} {wr x w' wx : World} {A : Option Addr} {b : List UInt8} {c : Nat} {PA : Option Addr} {ws : List WriteR} {pc : Nat} (hd : ∀ W, MidF (Fr 0 X wr) x w' W → DOk W A b c PA ws pc)
    (hk : Keep wr x) (hX : ∀ k, X k → k < wr.heap.size) (h1 : x.heap.size ≤ w'.heap.size) (h2 : w'.heap.size ≤ wx.heap.size) (h3 : ∀ k, k < wr.heap.size → ¬ X k → wx.heap[k]? = wr.heap[k]?) (h4 : ∀ k, x.heap.size ≤ k → k < w'.heap.size → wx.heap[k]? = w'.heap[k]?) :
    ∀ W, Fr 0 X wx W → DOk W A b c PA ws pc := fun W hW => hd W ⟨fun k _ q2 q3 => (hW k (Nat.zero_le _) (by have := hk.size; omega) q3).trans (h3 k q2 q3), fun k q1 q2 => (hW k (Nat.zero_le _) (by omega) (fun q => by have := hX k q; have := hk.size; omega)).trans (h4 k q1 q2)⟩
/-- A log in a box, and what holds of it. -/
structure LgS (X : Nat → Prop) (wr : World) (P : Nat) (base room : Int) (all : List Hd) (m : Nat) (A : Option Addr) (b : List UInt8) (c : Nat) (PA : Option Addr) (ws : List WriteR) (pc : Nat) : Prop where
  blk : Blk wr P 35 (lgCells (.slice A b.length c) (.slice PA ws.length pc) base room (all.length : Nat) (lastL 0 z32 all))
  inv : LogInv b (ws.map WriteR.pl) base room all
  len : ws.length ≤ m
  dok : ∀ W, Fr 0 X wr W → DOk W A b c PA ws pc
/-- What comes of one more, in a box of its own. -/
def AppP (X : Nat → Prop) (base room : Int) (all : List Hd) (h : Hd) (b : List UInt8) (ws : List WriteR) (p : Nat) (er : Int) (wx : World) (A : Option Addr) (c : Nat) (PA : Option Addr) (vs : List WriteR) (pc : Nat) (ds : Array Value) : Prop :=
  Blk wx p 35 ds.toList ∧ (∀ W, Fr 0 X wx W → DOk W A b c PA vs pc) ∧
      (er = 0 → LogA (lgCells (.slice A b.length c) (.slice PA vs.length pc) base room ((all ++ [h]).length : Nat) (lastL 0 z32 (all ++ [h]))) ds ∧ LogInv b (vs.map WriteR.pl) base room (all ++ [h]) ∧ AppR b base all h (ws.map WriteR.pl) (vs.map WriteR.pl)) ∧
      (er ≠ 0 → (er = 12 ∨ er = 14) ∧ LogA (lgCells (.slice A b.length c) (.slice PA vs.length pc) base room (all.length : Nat) (lastL 0 z32 all)) ds ∧ vs.map WriteR.pl = ws.map WriteR.pl)
theorem sameL_refl (b : List UInt8) (ws vs : List WriteR) (base room n : Int) (last : List UInt8) (h : vs.map WriteR.pl = ws.map WriteR.pl) : sameL b vs base room n last b ws base room n last = true := by
  unfold sameL sameD
  simp [h]

set_option maxRecDepth 100000 in
set_option maxHeartbeats 8000000 in
theorem back_walk (A : Option Addr) (b : List UInt8) (c : Nat) (PA : Option Addr) (ws : List WriteR) (pc : Nat) (base room : Int) (Al : Option Addr) (gl : List Hd) (cl : Nat) (sync : Int) (w : World) (h : DOk w A b c PA ws pc) (hS : ShaOk w)
    (hb : -9223372036854775808 ≤ base ∧ base ≤ 9223372036854775807) (hr : -9223372036854775808 ≤ room ∧ room ≤ 9223372036854775807) (hl : Rd w Al (gl.flatMap Hd.cells)) (hgo : ∀ x ∈ gl, x.ok) (hlc : gl.length ≤ cl) (hcm : cl ≤ maxLen) (hsy : -9223372036854775808 ≤ sync ∧ sync ≤ 9223372036854775807) :
    Calls Tryd.prog 3 #[DV A b.length c PA ws.length pc, .int .i64 base, .int .i64 room, .slice Al gl.length cl, .int .i64 sync] w fun e w' => e = .returned (.bool true) ∧ Keep w w' := by
  have hpl0 := h.pl; have hpm := h.pm; have hbc := h.bc; have hcm0 := h.cm
  unfold maxLen at hpm hcm hcm0
  have Hh := Lib.hid h; have HS := Lib.hid hS; have Hl := Lib.hid hl; have Hgo := Lib.hid hgo
  clear h hS hl hgo
  obtain ⟨zs, hz1, hz2, hz3⟩ := zlog_letter
  go_enter Tryd.func3, Tryd.ntmps3
  go_upto_region 1 with fail
  obtain ⟨w0, hw0⟩ : ∃ w0, w0 = w.alloc (.cells #[.slice A b.length c, .slice PA ws.length pc] 25) := ⟨_, rfl⟩
  have HD0 : Hid (Blk w0 w.heap.size 25 [.slice A b.length c, .slice PA ws.length pc]) := by rw [hw0]; exact Blk.new w _ [.slice A b.length c, .slice PA ws.length pc]
  have HK0 : Hid (Keep w w0) := by rw [hw0]; exact keep_new _ _
  have hz00 : w.heap.size < w0.heap.size := HD0.out.lt
  rw [← hw0]
  clear hw0
  generalize w.heap.size = B0 at *
  go_wp2_with fail
  refine (awake_any w0 (HS.out.keep HK0.out)).mono ?_
  rintro e w1 ⟨rfl, k1⟩
  have HD1 := Lib.hid (HD0.out.keep k1); have HK1 := Lib.hid (keep_trans HK0.out k1)
  have hz1' : w0.heap.size ≤ w1.heap.size := k1.size
  clear k1
  have b0 := HD1.out.cell 0; have b1 := HD1.out.cell 1
  simp only [List.getElem?_cons_zero, List.getElem?_cons_succ] at b0 b1
  go_wp2_with fail
  refine (few_any _ _ _ _ _ _ _ (by omega) (by omega)).mono ?_
  rintro e w2 ⟨rfl, hk2⟩
  have HK2 := Lib.hid (keep_trans HK1.out hk2)
  replace b0 := keep_cell hk2 b0; replace b1 := keep_cell hk2 b1
  clear hk2 HD1 HD0
  cases hf : fewD b.length ws.length with
  | false => go_wp2_with fail; go_ret; exact ⟨rfl, HK2.out⟩
  | true =>
    have hfew := of_decide_eq_true hf; clear hf
    by_cases hq0 : 60 < room
    · go_wp2_with fail; go_ret; exact ⟨rfl, HK2.out⟩
    have hq0' : room ≤ 60 := by omega
    clear hq0
    by_cases hq1 : 30 < gl.length
    · have hq1' : (30 : Int) < (gl.length : Int) := by omega
      go_wp2_with fail; go_ret; exact ⟨rfl, HK2.out⟩
    have hq1' : (gl.length : Int) ≤ 30 := by omega
    clear hq1
    go_wp2_with fail
    refine (drive_any A b c PA ws pc w2 (Hh.out.keep HK2.out) (by omega)).mono ?_
    rintro e w3 ⟨PA3, pc3, rfl, _, hd3, hk3⟩
    have HK3 := Lib.hid (keep_trans HK2.out hk3)
    have C1 := reop_w A b c PA3 ws pc3 base room w3 (hd3 w3 (Below.refl _ _)) (HS.out.keep HK3.out) hb (by omega)
    clear hd3 hk3 b0 b1
    go_wp2_with fail
    refine C1.mono ?_
    clear C1
    rintro e w4 ⟨B, hs, A4, c4, cs, Ah, ch, rfl, R, hcs, hd4, own4, hok, k4⟩
    have hcz := hcs.z; have hcn := hcs.n; have hci := hcs.i
    have Hcs := Lib.hid hcs; have Hd4 := Lib.hid hd4; have HK4 := Lib.hid (keep_trans HK3.out k4); have Own4 := Lib.hid own4; have Hok := Lib.hid hok; have HR := Lib.hid R
    have hz34 : w3.heap.size ≤ w4.heap.size := k4.size
    have Hk4 := Lib.hid k4
    have hst : (storeCells ⟨w4.heap.size, 0, none⟩ cs.toList 0).run Tryd.prog (w4.alloc (.cells zs 35)) = .ok () (w4.alloc (.cells cs 35)) := run_storeCells_new (P := Tryd.prog) w4 35 zs cs hci (hz1.trans hcz.symm) (by have := all_oneCell_toArray Hcs.out.o; rwa [Array.toArray_toList] at this)
    clear hcs hd4 own4 R k4 hok
    go_upto_region 5 with fail
    clear hst
    obtain ⟨w5, hw5⟩ : ∃ w5, w5 = w4.alloc (.cells cs 35) := ⟨_, rfl⟩
    have HC5 : Hid (Blk w5 w4.heap.size 35 cs.toList) := by rw [hw5]; exact Blk.new w4 _ cs.toList
    have k5 : Keep w4 w5 := by rw [hw5]; exact keep_new _ _
    rw [← hw5]
    clear hw5
    have HK5 := Lib.hid (keep_trans HK4.out k5); have Own5 := Lib.hid (own_keep Own4.out k5)
    have hz45 : w4.heap.size < w5.heap.size := HC5.out.lt
    have HoP : Hid ((Value.slice Ah hs.length ch).ownBlock ≠ some w4.heap.size) := fun e => by have h1 := (Own4.out.lt _ e).2; omega
    have L5 : Hid (LgS (fun k => k = w4.heap.size ∨ (Value.slice Ah hs.length ch).ownBlock = some k) w5 w4.heap.size base room hs 0 A4 B c4 none [] 0) := by
      have hb5 := HC5.out
      rw [Hcs.out.l] at hb5
      refine ⟨hb5, HR.out.inv, Nat.le_refl _, fun W hW => Hd4.out W fun k q1 q2 q3 => ?_⟩
      have hkn : k ≠ w4.heap.size := Nat.ne_of_lt q2
      rw [hW k (Nat.zero_le _) (Nat.lt_trans q2 hz45) (fun q => q.elim hkn q3)]
      exact k5.block k q2
    have h3P : w3.heap.size ≤ w4.heap.size := hz34
    have hKw : w.heap.size ≤ w3.heap.size := HK3.out.size
    generalize w4.heap.size = P at *
    clear HC5 Own4 Hcs Hd4 k5 HR Hk4
    go_upto_region 6 with fail
    go_loopw [13, 14] (fun v i wr => ∃ (k : Nat) (A2 : Option Addr) (b2 : List UInt8) (c2 : Nat) (PA2 : Option Addr) (ws2 : List WriteR) (pc2 : Nat) (all : List Hd) (Ag : Option Addr) (cg : Nat), k ≤ gl.length ∧ i = .int .i64 k ∧ v = .slice Ag all.length cg ∧
        LgS (fun q => q = P ∨ (Value.slice Ag all.length cg).ownBlock = some q) wr P base room all (4 * k) A2 b2 c2 PA2 ws2 pc2 ∧ wr.ownsRow w3.heap.size 44 68 (.slice Ag all.length cg) all.length (all.flatMap Hd.cells) ∧ (∀ x ∈ all, x.ok) ∧
        (Value.slice Ag all.length cg).ownBlock ≠ some P ∧ Keep w wr) (fun _ i _ => gl.length - (intOf i).toNat)
    case atStart => exact ⟨0, A4, B, c4, none, [], 0, hs, Ah, ch, Nat.zero_le _, rfl, rfl, L5.out, Own5.out, Hok.out, HoP.out, HK5.out⟩
    case round =>
      obtain ⟨k, A2, b2, c2, PA2, ws2, pc2, all, Ag, cg, hk, rfl, rfl, hL, own, hok, hoP, hkr⟩ := hrel
      have HL := Lib.hid hL; have Own := Lib.hid own; have Hok2 := Lib.hid hok; have HoP2 := Lib.hid hoP; have HKr := Lib.hid hkr
      have hPr : P < wr.heap.size := hL.blk.lt
      have hfit : all.length ≤ 1024 := by have h1 := hL.inv.fnd.fit; have : roomN room ≤ 1024 := by { unfold roomN; omega }; omega
      clear hL own hok hoP hkr L5 Own5 HoP Hok HK5
      by_cases hlt : k < gl.length
      · obtain ⟨hb', off, rfl, hbb, F⟩ := Hd.at_ Hl.out Hgo.out hlt
        have hx := Hgo.out _ (List.getElem_mem hlt)
        obtain ⟨x, hxe⟩ : ∃ x, gl[k] = x := ⟨_, rfl⟩
        rw [hxe] at F hx
        obtain ⟨hv, hhv⟩ : ∃ hv, HdA x hv := ⟨_, HdA.of hx⟩
        have hvz := hhv.z; have hvn := hhv.n; have hvi := hhv.i
        have Hhv := Lib.hid hhv; have Hx := Lib.hid hx
        have HFw := Lib.hid (fun W hW => by rw [Hhv.out.l]; exact F W hW : ∀ W, Keep w W → W.rangeAt hb' (off + k * 68) hv.toList)
        have HF : Hid (∀ W, Keep wr W → W.rangeAt hb' (off + k * 68) hv.toList) := fun W hW => by rw [Hhv.out.l]; exact F W (keep_trans HKr.out hW)
        obtain ⟨cs2, hcs2⟩ : ∃ cs2 : Array Value, cs2.toList = lgCells (.slice A2 b2.length c2) (.slice PA2 ws2.length pc2) base room (all.length : Nat) (lastL 0 z32 all) := ⟨_, rfl⟩
        have hcA := LogA.of (lastL_len all 0 z32 rfl) hcs2
        have hcz2 := hcA.z; have hcn2 := hcA.n; have hci2 := hcA.i
        have HcA := Lib.hid hcA
        have HBP : Hid (Blk wr P 35 cs2.toList) := by rw [hcs2]; exact HL.out.blk
        have hXl : Hid (∀ q, (q = P ∨ (Value.slice Ag all.length cg).ownBlock = some q) → q < wr.heap.size) := fun q e => e.elim (fun e => by omega) (fun e => (Own.out.lt _ e).2)
        have A1 : Hid (∀ y, Keep wr y → Calls Tryd.prog 12 #[.agg cs2, .agg hv] y fun e w' => ∃ A5 c5 PA5 pc5 vs ds er, e = .returned (.tuple #[.agg ds, .int .i64 er]) ∧ (∀ W, MidF (Fr 0 (fun q => q = P ∨ (Value.slice Ag all.length cg).ownBlock = some q) wr) y w' W → DOk W A5 b2 c5 PA5 vs pc5) ∧ Keep y w' ∧
            (er = 0 → LogA (lgCells (.slice A5 b2.length c5) (.slice PA5 vs.length pc5) base room ((all ++ [x]).length : Nat) (lastL 0 z32 (all ++ [x]))) ds ∧ LogInv b2 (vs.map WriteR.pl) base room (all ++ [x]) ∧ AppR b2 base all x (ws2.map WriteR.pl) (vs.map WriteR.pl)) ∧
            (er ≠ 0 → (er = 12 ∨ er = 14) ∧ LogA (lgCells (.slice A5 b2.length c5) (.slice PA5 vs.length pc5) base room (all.length : Nat) (lastL 0 z32 all)) ds ∧ vs.map WriteR.pl = ws2.map WriteR.pl)) := fun y hy =>
          (app_w A2 b2 c2 PA2 ws2 pc2 base room all cs2 x hv y (Fr 0 (fun q => q = P ∨ (Value.slice Ag all.length cg).ownBlock = some q) wr) (fun W hW => Fr.of_keep (keep_trans hy hW)) HL.out.dok (HS.out.keep (keep_trans HKr.out hy)) hb HL.out.inv HcA.out Hx.out Hhv.out).mono
            fun e w' ⟨A5, c5, PA5, pc5, vs, ds, er, h1, _, h2, h3, h4, h5⟩ => ⟨A5, c5, PA5, pc5, vs, ds, er, h1, h2, h3, h4, h5⟩
        clear F hhv hx hcA hcs2 hxe
        go_upto_region 8 with fail
        go_cut [15, 16] (fun s15 s16 wx => ∃ p er A5 c5 PA5 vs pc5 ds, s15 = .pointer (some ⟨p, 0, none⟩) ∧ s16 = .int .i64 er ∧ wr.heap.size ≤ p ∧ Keep wr wx ∧
            Hid (AppP (fun q => q = P ∨ (Value.slice Ag all.length cg).ownBlock = some q) base room all x b2 ws2 p er wx A5 c5 PA5 vs pc5 ds))
        case first =>
          refine wp_region_tree (.take [0,1,2,3,4] (.fork 5 (.take [6,7,8] (.force [9] .done)) 9 (.force [5] (.take [6,7,8] .done)))) [10,11] (by kernel_rfl) (by kernel_rfl) (fun y0 q0' => ?_)
          have q0 := Lib.hid q0'
          have HB0 := Lib.hid (HBP.out.keep q0')
          have hrg0 := Lib.hid (HF.out y0 q0')
          clear q0'
          refine mt_take y0 (Below.refl _ _) ?_
          simp only [pick_cons, pick_nil, nth_zero, nth_succ]
          (with_reducible refine wpQuiet_load_partg P 0 cs2 (Eq.trans ?_ rfl) HB0.out.range _ Tryd.underlying35 rfl hci2 rfl ?_)
          rfl
          simp only [Act.put, Array.set!_eq_setIfInBounds, List.setIfInBounds_toArray, List.set_cons_succ, List.set_cons_zero]
          iterate 3 (go_big_quiet_step (fail))
          (with_reducible refine wpQuiet_load_partg hb' (off + k * 68) hv (Eq.trans ?_ rfl) hrg0.out _ Tryd.underlying44 rfl hvi rfl ?_)
          rfl
          simp only [Act.put, Array.set!_eq_setIfInBounds, List.setIfInBounds_toArray, List.set_cons_succ, List.set_cons_zero]
          refine wpQuiet_nil (mt_fork ?_ ?_)
          · simp only [pick_cons, pick_nil, nth_zero, nth_succ]
            refine fc_step rfl (fun K hK => ?_)
            go_simp
            (with_reducible refine (A1.out y0 q0.out).mono ?_)
            rintro e y1 ⟨A5, c5, PA5, pc5, vs, ds, er, rfl, hd5, hk5, h0, h1⟩
            refine hK _ _ hk5 ?_
            clear hK K
            have Hd5 := Lib.hid hd5; have H0 := Lib.hid h0; have H1 := Lib.hid h1; have K5 := Lib.hid hk5
            obtain ⟨hdz, hdn, hdo⟩ : ds.size = 37 ∧ ¬ ds = #[] ∧ ∀ v ∈ ds.toList, v.oneCell' = true := by
              by_cases he : er = 0
              · have h2 := (h0 he).1; exact ⟨h2.z, h2.n, h2.o⟩
              · have h2 := (h1 he).2.1; exact ⟨h2.z, h2.n, h2.o⟩
            have Hdo := Lib.hid hdo
            have q1 := Lib.hid (keep_trans q0.out hk5)
            clear hd5 hk5 h0 h1 hdo
            refine fc_nil (mt_take y1 (Below.refl _ _) ?_)
            simp only [pick_cons, pick_nil, nth_zero, nth_succ]
            repeat (go_big_quiet_step (fail))
            refine wpQuiet_nil (mt_force ?_)
            simp only [pick_cons, pick_nil, nth_zero, nth_succ]
            refine fc_step rfl (fun K hK => ?_)
            go_simp
            refine hK _ _ (keep_new _ _) ?_
            clear hK K
            obtain ⟨y2, hy2⟩ : ∃ y2, y2 = y1.alloc (.cells zs 35) := ⟨_, rfl⟩
            have b2' : Hid (Blk y2 y1.heap.size 35 zs.toList) := by rw [hy2]; exact Blk.new y1 _ zs.toList
            have q2 : Hid (Keep y1 y2) := by rw [hy2]; exact keep_new _ _
            rw [← hy2]
            clear hy2
            refine fc_nil (mt_end ?_)
            obtain ⟨wa, hsta, hba, hga⟩ := run_store_blk (P := Tryd.prog) ds.toList b2'.out (by simp [hz1, hdz]) Hdo.out
            have Hba := Lib.hid hba; have Hga := Lib.hid hga
            clear hba hga
            go_wp2
            go_meet
            have z1 := q1.out.size; have z2 := q2.out.size; have za := Hga.out.size; have zb := b2'.out.lt
            have hsame : ∀ q, q < y1.heap.size → wa.heap[q]? = y1.heap[q]? := fun q h => (Hga.out.block q (by omega) (fun e => by have e2 : q = y1.heap.size := Option.some.inj e; omega)).trans (q2.out.block q h)
            refine ⟨y1.heap.size, er, A5, c5, PA5, vs, pc5, ds, rfl, rfl, z1, ((keep_trans q1.out q2.out).grown Hga.out (by omega) (fun q hq => by injection hq with hq; omega)), Lib.hid ⟨Hba.out, app_fr Hd5.out q0.out hXl.out K5.out.size (by omega) (fun q h1 h2 => (hsame q (by omega)).trans (q1.out.block q h1)) (fun q _ h => hsame q h), H0.out, H1.out⟩⟩
          · simp only [pick_cons, pick_nil, nth_zero, nth_succ]
            refine fc_step rfl (fun K hK => ?_)
            go_simp
            refine hK _ _ (keep_new _ _) ?_
            clear hK K
            obtain ⟨y1, hy1⟩ : ∃ y1, y1 = y0.alloc (.cells zs 35) := ⟨_, rfl⟩
            have b1' : Hid (Blk y1 y0.heap.size 35 zs.toList) := by rw [hy1]; exact Blk.new y0 _ zs.toList
            have q01 : Hid (Keep y0 y1) := by rw [hy1]; exact keep_new _ _
            rw [← hy1]
            clear hy1
            have q1 := Lib.hid (keep_trans q0.out q01.out)
            have zb := b1'.out.lt; have z0 := q0.out.size
            generalize y0.heap.size = p5 at *
            refine fc_nil (mt_force ?_)
            simp only [pick_cons, pick_nil, nth_zero, nth_succ]
            refine fc_step rfl (fun K hK => ?_)
            go_simp
            (with_reducible refine (A1.out y1 q1.out).mono ?_)
            rintro e y2 ⟨A5, c5, PA5, pc5, vs, ds, er, rfl, hd5, hk5, h0, h1⟩
            refine hK _ _ hk5 ?_
            clear hK K
            have Hd5 := Lib.hid hd5; have H0 := Lib.hid h0; have H1 := Lib.hid h1; have K5 := Lib.hid hk5
            obtain ⟨hdz, hdn, hdo⟩ : ds.size = 37 ∧ ¬ ds = #[] ∧ ∀ v ∈ ds.toList, v.oneCell' = true := by
              by_cases he : er = 0
              · have h2 := (h0 he).1; exact ⟨h2.z, h2.n, h2.o⟩
              · have h2 := (h1 he).2.1; exact ⟨h2.z, h2.n, h2.o⟩
            have Hdo := Lib.hid hdo
            clear hd5 hk5 h0 h1 hdo
            refine fc_nil (mt_take y2 (Below.refl _ _) ?_)
            simp only [pick_cons, pick_nil, nth_zero, nth_succ]
            repeat (go_big_quiet_step (fail))
            refine wpQuiet_nil (mt_end ?_)
            obtain ⟨wa, hsta, hba, hga⟩ := run_store_blk (P := Tryd.prog) ds.toList (b1'.out.keep K5.out) (by simp [hz1, hdz]) Hdo.out
            have Hba := Lib.hid hba; have Hga := Lib.hid hga
            clear hba hga
            go_wp2
            go_meet
            have z5 := K5.out.size; have za := Hga.out.size
            have hsame : ∀ q, q < y2.heap.size → q ≠ p5 → wa.heap[q]? = y2.heap[q]? := fun q h h2 => Hga.out.block q h (fun e => by have e2 : q = p5 := Option.some.inj e; omega)
            refine ⟨p5, er, A5, c5, PA5, vs, pc5, ds, rfl, rfl, z0, ((keep_trans q1.out K5.out).grown Hga.out (by omega) (fun q hq => by injection hq with hq; omega)), Lib.hid ⟨Hba.out, app_fr Hd5.out q1.out hXl.out z5 (by omega) (fun q h1 h2 => (hsame q (by omega) (by omega)).trans ((keep_trans q1.out K5.out).block q h1)) (fun q h1 h2 => hsame q h2 (by omega)), H0.out, H1.out⟩⟩
        case rest =>
          obtain ⟨p, er, A5, c5, PA5, vs, pc5, ds, rfl, rfl, hp1, kwc, HP⟩ := hcut
          have HKc := Lib.hid (keep_trans HKr.out kwc)
          have hpc : p < wc.heap.size := HP.out.1.lt
          have HBPc := Lib.hid (HBP.out.keep kwc)
          have Ownc := Lib.hid (own_keep Own.out kwc)
          have Kwc := Lib.hid kwc
          have hzwc : wr.heap.size ≤ wc.heap.size := kwc.size
          clear kwc A1 HF HBP
          by_cases he : er = 0
          · subst he
            obtain ⟨hds, hinv, hap⟩ := HP.out.2.2.1 rfl
            have hdz := hds.z; have hdn := hds.n; have hdi := hds.i
            have Hds := Lib.hid hds; have Hinv := Lib.hid hinv; have Hap := Lib.hid hap
            have Hdok := Lib.hid HP.out.2.1; have HPb := Lib.hid HP.out.1
            clear hds hinv hap HP
            obtain ⟨w6, hst6, hb6, hg6⟩ := run_store_blk (P := Tryd.prog) ds.toList HBPc.out (by simp [hcz2, hdz]) Hds.out.o
            have Hb6 := Lib.hid hb6; have Hg6 := Lib.hid hg6
            have K6 : Hid (Keep w w6) := HKc.out.grown hg6 HKc.out.size (fun q hq => by injection hq with hq; omega)
            have Own6 := Lib.hid (Ownc.out.kept hg6 (.inr (fun e => HoP2.out e)))
            have hz6 : wc.heap.size ≤ w6.heap.size := hg6.size
            clear hb6 hg6
            go_upto_region 12 with ((with_reducible refine load_arr p ds (Eq.trans ?_ rfl) HPb.out _ Tryd.underlying35 rfl hdi ?_); rfl)
            clear hst6
            have hrg6 := Lib.hid (HFw.out w6 K6.out)
            have HQ6 : Hid (Blk (w6.alloc (.cells hv 44)) w6.heap.size 44 hv.toList) := Blk.new w6 _ hv.toList
            have own6a : (w6.alloc (.cells hv 44)).ownsRow w3.heap.size 44 68 (.slice Ag all.length cg) all.length (all.flatMap Hd.cells) := Own6.out.alloc _
            have Own6a := Lib.hid own6a; clear own6a
            have hb6' : w3.heap.size ≤ (w6.alloc (.cells hv 44)).heap.size := by simp; omega
            go_upto_region 13 with (first
              | ((with_reducible refine load_part hb' (off + k * 68) hv (Eq.trans ?_ rfl) hrg6.out _ Tryd.underlying44 rfl hvi ?_); rfl)
              | ((with_reducible refine list_build1 headT hv hvz (by omega) (Eq.trans ?_ rfl) ?_); rfl)
              | (at_builtin; refine wpList_app headT (by rfl) _ _ (by rfl) w3.heap.size _ all.length _ (by rfl) Own6a.out _ 1 1 hv.toList (by rfl) (by rw [Array.length_toList, hvz]) HQ6.out.rd Hhv.out.o (by omega) (by unfold maxLen; omega) hb6' ?_; intro v7 w7 own7 hg7 hat7; have Own7 := Lib.hid own7; have Hg7 := Lib.hid hg7; have Hat7 := Lib.hid hat7; clear own7 hg7 hat7))
            obtain ⟨Ag7, cg7, rfl, hcg7, hmg7, _⟩ := own_form Own7.out
            have hz7 : w6.heap.size + 1 ≤ w7.heap.size := by have h1 := Hg7.out.size; simpa using h1
            have hln : (all ++ [x]).length = all.length + 1 := by rw [List.length_append, List.length_singleton]
            have K7 : Hid (Keep w w7) := (keep_trans K6.out (keep_new _ _)).grown Hg7.out (by simp; have := K6.out.size; omega) (fun q hq => by have h1 := (Own6a.out.lt q hq).1; omega)
            have HoP7 : Hid ((Value.slice Ag7 (all.length + 1) cg7).ownBlock ≠ some P) := fun e => by
              rcases Hat7.out with h1 | h1
              · exact HoP2.out (h1.symm.trans e)
              · have e2 : (w6.alloc (.cells hv 44)).heap.size = P := Option.some.inj (h1.symm.trans e)
                simp at e2; omega
            have Own8 : Hid (w7.ownsRow w3.heap.size 44 68 (.slice Ag7 (all.length + 1) cg7) (all.length + 1) ((all ++ [x]).flatMap Hd.cells)) := by
              have h1 := Own7.out
              rw [Hhv.out.l] at h1
              rw [List.flatMap_append, List.flatMap_singleton]; exact h1
            have hBP7 : Blk w7 P 35 ds.toList := (Hb6.out.alloc _).grown Hg7.out HoP2.out
            have L7 : Hid (LgS (fun q => q = P ∨ (Value.slice Ag7 (all.length + 1) cg7).ownBlock = some q) w7 P base room (all ++ [x]) (4 * (k + 1)) A5 b2 c5 PA5 vs pc5) := by
              rw [Hds.out.l] at hBP7
              refine ⟨hBP7, Hinv.out, ?_, fun W hW => Hdok.out W fun q q1 q2 q3 => ?_⟩
              · have h1 := congrArg List.length Hap.out.eq
                rw [List.length_append, List.length_map, List.length_map, show (layWs (base.toNat + 4 * all.length : Nat) (recB (lastL 0 z32 all) all.length x) 4).length = 4 by simp [layWs]] at h1
                have := HL.out.len; omega
              · have n1 : q ≠ P := fun e => q3 (.inl e)
                have n2 : (Value.slice Ag all.length cg).ownBlock ≠ some q := fun e => q3 (.inr e)
                have n3 : (Value.slice Ag7 (all.length + 1) cg7).ownBlock ≠ some q := fun e => by
                  rcases Hat7.out with h1 | h1
                  · exact n2 (h1.symm.trans e)
                  · have e2 : (w6.alloc (.cells hv 44)).heap.size = q := Option.some.inj (h1.symm.trans e)
                    simp at e2; omega
                rw [hW q (Nat.zero_le _) (by omega) (fun e => e.elim n1 n3), Hg7.out.block q (by simp; omega) (fun e => n2 e.symm), (keep_new w6 (.cells hv 44)).block q (by omega)]
                exact Hg6.out.block q q2 (fun e => n1 (Option.some.inj e))
            clear hBP7
            go_upto_if 84 with fail
            go_cut [] (fun wx => ∃ (A8 : Option Addr) (b8 : List UInt8) (c8 : Nat) (PA8 : Option Addr) (ws8 : List WriteR) (pc8 : Nat), Hid (LgS (fun q => q = P ∨ (Value.slice Ag7 (all.length + 1) cg7).ownBlock = some q) wx P base room (all ++ [x]) (4 * (k + 1)) A8 b8 c8 PA8 ws8 pc8) ∧
                Hid (wx.ownsRow w3.heap.size 44 68 (.slice Ag7 (all.length + 1) cg7) (all.length + 1) ((all ++ [x]).flatMap Hd.cells)) ∧ Hid (Keep w wx) ∧ P < wx.heap.size)
            case first =>
              by_cases hsq : (k : Int) = sync
              · obtain ⟨cs7, hcs7⟩ : ∃ cs7 : Array Value, cs7.toList = lgCells (.slice A5 b2.length c5) (.slice PA5 vs.length pc5) base room ((all ++ [x]).length : Nat) (lastL 0 z32 (all ++ [x])) := ⟨_, rfl⟩
                have hcA7 := LogA.of (lastL_len (all ++ [x]) 0 z32 rfl) hcs7
                have hcz7 := hcA7.z; have hcn7 := hcA7.n; have hci7 := hcA7.i
                have HBP7 : Hid (Blk w7 P 35 cs7.toList) := by rw [hcs7]; exact L7.out.blk
                have C7 := sync_w A5 b2 c5 PA5 vs pc5 base room (all ++ [x]) cs7 w7 (L7.out.dok w7 (Fr.of_keep (Below.refl _ _))) (HS.out.keep K7.out) hb L7.out.inv hcA7
                have hPz : P < w7.heap.size := L7.out.blk.lt
                have hsq' : ((k : Int) == sync) = true := by simpa using hsq
                clear hcA7 hcs7 hsq
                go_wp2_with ((with_reducible refine load_arr P cs7 (Eq.trans ?_ rfl) HBP7.out _ Tryd.underlying35 rfl hci7 ?_); rfl)
                refine C7.mono ?_
                clear C7
                rintro e w8 ⟨B8, A8, c8, es, _, rfl, hes, hinv8, hd8, k8⟩
                have hez := hes.z; have hen := hes.n; have hei := hes.i
                have Hes := Lib.hid hes; have Hinv8 := Lib.hid hinv8; have Hd8 := Lib.hid hd8; have K8 := Lib.hid k8
                obtain ⟨w9, hst9, hb9, hg9⟩ := run_store_blk (P := Tryd.prog) es.toList (HBP7.out.keep k8) (by simp [hcz7, hez]) Hes.out.o
                rw [Hes.out.l] at hb9
                have Hb9 := Lib.hid hb9; have Hg9 := Lib.hid hg9
                clear hes hinv8 hd8 k8 hb9 hg9
                go_wp2_with fail
                go_meet
                have hz8 := K8.out.size; have hz9 := Hg9.out.size
                refine ⟨A8, B8, c8, none, [], 0, Lib.hid ⟨Hb9.out, Hinv8.out, Nat.zero_le _, fun W hW => Hd8.out W fun q q1 q2 _ => ?_⟩, Lib.hid ?_, Lib.hid ((keep_trans K7.out K8.out).grown Hg9.out (keep_trans K7.out K8.out).size (fun q hq => by injection hq with hq; omega)), by omega⟩
                · have n1 : q ≠ P := by omega
                  have n3 : (Value.slice Ag7 (all.length + 1) cg7).ownBlock ≠ some q := fun e => by have h1 := (Own8.out.lt q e).2; omega
                  rw [hW q (Nat.zero_le _) (by omega) (fun e => e.elim n1 n3)]
                  exact Hg9.out.block q q2 (fun e => n1 (Option.some.inj e))
                · exact (own_keep Own8.out K8.out).kept Hg9.out (.inr (fun e => HoP7.out e))
              · have hsq' : ((k : Int) == sync) = false := by simpa using hsq
                have hPz : P < w7.heap.size := L7.out.blk.lt
                go_wp2
                go_meet
                exact ⟨A5, b2, c5, PA5, vs, pc5, L7, Own8, K7, hPz⟩
            case rest =>
              obtain ⟨A8, b8, c8, PA8, ws8, pc8, L8, Own9, K8, hP8⟩ := hcut
              obtain ⟨cs8, hcs8⟩ : ∃ cs8 : Array Value, cs8.toList = lgCells (.slice A8 b8.length c8) (.slice PA8 ws8.length pc8) base room ((all ++ [x]).length : Nat) (lastL 0 z32 (all ++ [x])) := ⟨_, rfl⟩
              have hcA8 := LogA.of (lastL_len (all ++ [x]) 0 z32 rfl) hcs8
              have hcz8 := hcA8.z; have hcn8 := hcA8.n; have hci8 := hcA8.i
              have HBP8 : Hid (Blk wc P 35 cs8.toList) := by rw [hcs8]; exact L8.out.blk
              have HcA8 := Lib.hid hcA8
              have C8 := open_w A8 b8 c8 PA8 ws8 pc8 base room wc (L8.out.dok wc (Fr.of_keep (Below.refl _ _))) (HS.out.keep K8.out) hb
              have Hok8 : Hid (∀ y ∈ all ++ [x], y.ok) := fun y hy => by
                rcases List.mem_append.1 hy with hy | hy
                · exact Hok2.out y hy
                · rw [List.mem_singleton.1 hy]; exact Hx.out
              obtain ⟨c0, c1, c2', c3, c4⟩ := lg_d L8.out.blk
              clear hcA8 hcs8 c2' c3 c4
              go_wp2_with fail
              refine C8.mono ?_
              clear C8 c0 c1
              rintro e w9 ⟨hs9, es, Ah9, ch9, rfl, hf9, hes, own9, _, k9⟩
              have hn : hs9 = all ++ [x] := hf9.uniq L8.out.inv.fnd
              subst hn
              rw [hln] at hes own9 ⊢
              have hez := hes.z; have hen := hes.n; have hei := hes.i
              have Hes := Lib.hid hes; have K9 := Lib.hid (keep_trans K8.out k9); have Kc9 := Lib.hid k9
              have Hr9 := Lib.hid (own_rd own9); have Hg9 := Lib.hid (own_rd (own_keep Own9.out k9))
              have hst : (storeCells ⟨w9.heap.size, 0, none⟩ es.toList 0).run Tryd.prog (w9.alloc (.cells zs 35)) = .ok () (w9.alloc (.cells es 35)) := run_storeCells_new (P := Tryd.prog) w9 35 zs es hei (hz1.trans hez.symm) (by have := all_oneCell_toArray Hes.out.o; rwa [Array.toArray_toList] at this)
              clear hes own9 k9 hf9
              go_upto_region 16 with fail
              clear hst
              obtain ⟨wd, hwd⟩ : ∃ wd, wd = w9.alloc (.cells es 35) := ⟨_, rfl⟩
              have HE : Hid (Blk wd w9.heap.size 35 (lgCells (.slice A8 b8.length c8) (.slice PA8 ws8.length pc8) base room ((all.length + 1 : Nat) : Int) (lastL 0 z32 (all ++ [x])))) := by rw [hwd, ← Hes.out.l]; exact Blk.new w9 _ es.toList
              have kd : Keep w9 wd := by rw [hwd]; exact keep_new _ _
              rw [← hwd]
              clear hwd
              have Kcd := Lib.hid (keep_trans Kc9.out kd); have Kd := Lib.hid (keep_trans K9.out kd)
              have HBPd := Lib.hid (HBP8.out.keep Kcd.out)
              have S1 := hsame_any Ah9 (all ++ [x]) ch9 Ag7 (all ++ [x]) cg7 wd (Hr9.out.keep kd) (Hg9.out.keep kd) Hok8.out Hok8.out (by omega) (by omega)
              rw [hln, decide_eq_true (rfl : all ++ [x] = all ++ [x])] at S1
              have S2 : Hid (∀ y, Keep wd y → Calls Tryd.prog 18 #[.agg cs8] y fun e w' => e = .returned (.bool true) ∧ Keep y w') := fun y hy =>
                sane_w A8 b8 c8 PA8 ws8 pc8 base room (all ++ [x]) cs8 y (L8.out.dok y (Fr.of_keep (keep_trans Kcd.out hy))) (HS.out.keep (keep_trans Kd.out hy)) hb L8.out.inv HcA8.out (lastL_len _ 0 z32 rfl)
              generalize w9.heap.size = E at *
              clear kd
              go_wp2_with fail
              refine S1.mono ?_
              clear S1
              rintro e we ⟨rfl, ke⟩
              obtain ⟨p0, p1, p2, p3, c4⟩ := lg_d (HE.out.keep ke)
              have HBPe := Lib.hid (HBPd.out.keep ke); have Ke := Lib.hid ke
              clear p0 p1 p2 p3 ke
              go_wp2_with ((with_reducible refine load_partg P 0 cs8 (Eq.trans ?_ rfl) HBPe.out.range _ Tryd.underlying35 rfl hci8 (Eq.trans ?_ rfl) ?_); rfl; rfl)
              refine (S2.out we Ke.out).mono ?_
              rintro e wf ⟨rfl, kf⟩
              have Kcf := Lib.hid (keep_trans Kcd.out (keep_trans Ke.out kf)); have Kf := Lib.hid (keep_trans Kd.out (keep_trans Ke.out kf))
              clear kf c4
              go_wp2_with fail
              go_roundw
              case rel =>
                exact ⟨k + 1, A8, b8, c8, PA8, ws8, pc8, all ++ [x], Ag7, cg7, by omega, by go_num, by rw [hln], ⟨L8.out.blk.keep Kcf.out, L8.out.inv, L8.out.len, fun W hW => L8.out.dok W (fun q q1 q2 q3 => (hW q q1 (by have := Kcf.out.size; omega) (by rw [hln]; exact q3)).trans (Kcf.out.block q q2))⟩, by rw [hln]; exact own_keep Own9.out Kcf.out, Hok8.out, by rw [hln]; exact HoP7.out, Kf.out⟩
              case measure => simp [intOf]; omega
          · obtain ⟨her, hds, hvs⟩ := HP.out.2.2.2 he
            have hdz := hds.z; have hdn := hds.n; have hdi := hds.i
            have Hds := Lib.hid hds; have Hvs := Lib.hid hvs; have HPb := Lib.hid HP.out.1
            have hvl : vs.length = ws2.length := by have h1 := congrArg List.length hvs; rwa [List.length_map, List.length_map] at h1
            have P1 : Hid (∀ y, Keep wc y → Calls Tryd.prog 14 #[.agg ds] y fun e w' => ∃ PA' pc' fs, e = .returned (.agg fs) ∧ LoA (lgCells (.slice A5 b2.length c5) (.slice PA' vs.length pc') base room (all.length : Nat) (lastL 0 z32 all)) fs ∧ (∀ W, Keep w' W → DOk W A5 b2 c5 PA' vs pc') ∧ Keep y w') := fun y hy =>
              plainly_any A5 b2 c5 PA5 vs pc5 base room _ _ ds y (HP.out.2.1 y (Fr.of_keep hy)) (by have := HL.out.len; omega) Hds.out (lastL_len all 0 z32 rfl)
            have P2 : Hid (∀ y, Keep wc y → Calls Tryd.prog 14 #[.agg cs2] y fun e w' => ∃ PA' pc' fs, e = .returned (.agg fs) ∧ LoA (lgCells (.slice A2 b2.length c2) (.slice PA' ws2.length pc') base room (all.length : Nat) (lastL 0 z32 all)) fs ∧ (∀ W, Keep w' W → DOk W A2 b2 c2 PA' ws2 pc') ∧ Keep y w') := fun y hy =>
              plainly_any A2 b2 c2 PA2 ws2 pc2 base room _ _ cs2 y (HL.out.dok y (Fr.of_keep (keep_trans Kwc.out hy))) (by have := HL.out.len; omega) HcA.out (lastL_len all 0 z32 rfl)
            have S1 : Hid (∀ y PA' pc' fs PA'' pc'' gs, LoA (lgCells (.slice A5 b2.length c5) (.slice PA' vs.length pc') base room (all.length : Nat) (lastL 0 z32 all)) fs → LoA (lgCells (.slice A2 b2.length c2) (.slice PA'' ws2.length pc'') base room (all.length : Nat) (lastL 0 z32 all)) gs → DOk y A5 b2 c5 PA' vs pc' → DOk y A2 b2 c2 PA'' ws2 pc'' →
                Calls Tryd.prog 13 #[.agg fs, .agg gs] y fun e w' => e = .returned (.bool true) ∧ Keep y w') := fun y PA' pc' fs PA'' pc'' gs q1 q2 q3 q4 =>
              (lsame_any A5 b2 c5 PA' vs pc' base room _ _ fs A2 b2 c2 PA'' ws2 pc'' base room _ _ gs y q3 q4 q1 (lastL_len all 0 z32 rfl) q2 (lastL_len all 0 z32 rfl)).mono fun e w' ⟨h1, h2⟩ => ⟨by rw [h1, sameL_refl _ _ _ _ _ _ _ Hvs.out], h2⟩
            clear hds hvs HP hvl
            rcases her with rfl | rfl
            · go_upto_region 10 with fail
              refine wp_region_tree (.take [0,1,2,3,4,5,6,7,8,9,10,12] (.force [11,13,14] (.take [15,16] .done))) [] (by kernel_rfl) (by kernel_rfl) (fun y0 q0' => ?_)
              have q0 := Lib.hid q0'
              have HB0 := Lib.hid (HBPc.out.keep q0'); have HP0 := Lib.hid (HPb.out.keep q0')
              clear q0'
              refine mt_take y0 (Below.refl _ _) ?_
              simp only [pick_cons, pick_nil, nth_zero, nth_succ]
              iterate 10 (go_big_quiet_step (fail))
              (with_reducible refine wpQuiet_load_partg p 0 ds (Eq.trans ?_ rfl) HP0.out.range _ Tryd.underlying35 rfl hdi (Eq.trans ?_ rfl) ?_)
              rfl
              rfl
              simp only [Act.put, Array.set!_eq_setIfInBounds, List.setIfInBounds_toArray, List.set_cons_succ, List.set_cons_zero]
              (with_reducible refine wpQuiet_load_partg P 0 cs2 (Eq.trans ?_ rfl) HB0.out.range _ Tryd.underlying35 rfl hci2 (Eq.trans ?_ rfl) ?_)
              rfl
              rfl
              simp only [Act.put, Array.set!_eq_setIfInBounds, List.setIfInBounds_toArray, List.set_cons_succ, List.set_cons_zero]
              refine wpQuiet_nil (mt_force ?_)
              simp only [pick_cons, pick_nil, nth_zero, nth_succ]
              refine fc_step rfl (fun K hK => ?_)
              go_simp
              (with_reducible refine (P1.out y0 q0.out).mono ?_)
              rintro e y1 ⟨PA6, pc6, fs, rfl, hfs, hd6, hk⟩
              refine hK _ _ hk ?_
              clear hK K
              have Hfs := Lib.hid hfs; have Hd6 := Lib.hid hd6; have Hk1 := Lib.hid hk
              clear hfs hd6 hk
              refine fc_step rfl (fun K hK => ?_)
              go_simp
              (with_reducible refine (P2.out y1 (keep_trans q0.out Hk1.out)).mono ?_)
              rintro e y2 ⟨PA7, pc7, gs, rfl, hgs, hd7, hk⟩
              refine hK _ _ hk ?_
              clear hK K
              have Hgs := Lib.hid hgs; have Hd7 := Lib.hid hd7; have Hk2 := Lib.hid hk
              clear hgs hd7 hk
              refine fc_step rfl (fun K hK => ?_)
              go_simp
              (with_reducible refine (S1.out y2 PA6 pc6 fs PA7 pc7 gs Hfs.out Hgs.out (Hd6.out _ Hk2.out) (Hd7.out _ (Below.refl _ _))).mono ?_)
              rintro e y3 ⟨rfl, hk⟩
              refine hK _ _ hk ?_
              clear hK K
              have Hk3 := Lib.hid hk
              clear hk
              refine fc_nil (mt_take y3 (Below.refl _ _) ?_)
              simp only [pick_cons, pick_nil, nth_zero, nth_succ]
              repeat (go_big_quiet_step (fail))
              refine wpQuiet_nil (mt_end ?_)
              go_wp2
              exact bodyPost_ret (v := .bool true) (by simp [results, Tryd.results3]) rfl ⟨rfl, keep_trans HKc.out (keep_trans q0.out (keep_trans Hk1.out (keep_trans Hk2.out Hk3.out)))⟩
            · go_upto_region 10 with fail
              refine wp_region_tree (.take [0,1,2,3,4,5,6,7,8,9,10,12] (.force [11,13,14] (.take [15,16] .done))) [] (by kernel_rfl) (by kernel_rfl) (fun y0 q0' => ?_)
              have q0 := Lib.hid q0'
              have HB0 := Lib.hid (HBPc.out.keep q0'); have HP0 := Lib.hid (HPb.out.keep q0')
              clear q0'
              refine mt_take y0 (Below.refl _ _) ?_
              simp only [pick_cons, pick_nil, nth_zero, nth_succ]
              iterate 10 (go_big_quiet_step (fail))
              (with_reducible refine wpQuiet_load_partg p 0 ds (Eq.trans ?_ rfl) HP0.out.range _ Tryd.underlying35 rfl hdi (Eq.trans ?_ rfl) ?_)
              rfl
              rfl
              simp only [Act.put, Array.set!_eq_setIfInBounds, List.setIfInBounds_toArray, List.set_cons_succ, List.set_cons_zero]
              (with_reducible refine wpQuiet_load_partg P 0 cs2 (Eq.trans ?_ rfl) HB0.out.range _ Tryd.underlying35 rfl hci2 (Eq.trans ?_ rfl) ?_)
              rfl
              rfl
              simp only [Act.put, Array.set!_eq_setIfInBounds, List.setIfInBounds_toArray, List.set_cons_succ, List.set_cons_zero]
              refine wpQuiet_nil (mt_force ?_)
              simp only [pick_cons, pick_nil, nth_zero, nth_succ]
              refine fc_step rfl (fun K hK => ?_)
              go_simp
              (with_reducible refine (P1.out y0 q0.out).mono ?_)
              rintro e y1 ⟨PA6, pc6, fs, rfl, hfs, hd6, hk⟩
              refine hK _ _ hk ?_
              clear hK K
              have Hfs := Lib.hid hfs; have Hd6 := Lib.hid hd6; have Hk1 := Lib.hid hk
              clear hfs hd6 hk
              refine fc_step rfl (fun K hK => ?_)
              go_simp
              (with_reducible refine (P2.out y1 (keep_trans q0.out Hk1.out)).mono ?_)
              rintro e y2 ⟨PA7, pc7, gs, rfl, hgs, hd7, hk⟩
              refine hK _ _ hk ?_
              clear hK K
              have Hgs := Lib.hid hgs; have Hd7 := Lib.hid hd7; have Hk2 := Lib.hid hk
              clear hgs hd7 hk
              refine fc_step rfl (fun K hK => ?_)
              go_simp
              (with_reducible refine (S1.out y2 PA6 pc6 fs PA7 pc7 gs Hfs.out Hgs.out (Hd6.out _ Hk2.out) (Hd7.out _ (Below.refl _ _))).mono ?_)
              rintro e y3 ⟨rfl, hk⟩
              refine hK _ _ hk ?_
              clear hK K
              have Hk3 := Lib.hid hk
              clear hk
              refine fc_nil (mt_take y3 (Below.refl _ _) ?_)
              simp only [pick_cons, pick_nil, nth_zero, nth_succ]
              repeat (go_big_quiet_step (fail))
              refine wpQuiet_nil (mt_end ?_)
              go_wp2
              exact bodyPost_ret (v := .bool true) (by simp [results, Tryd.results3]) rfl ⟨rfl, keep_trans HKc.out (keep_trans q0.out (keep_trans Hk1.out (keep_trans Hk2.out Hk3.out)))⟩
      · obtain ⟨p0, p1, p2, p3, c4⟩ := lg_d HL.out.blk
        clear p0 p1 p2 p3
        go_wp2_with fail
        exact bodyPost_ret (v := .bool true) (by simp [results, Tryd.results3]) rfl ⟨rfl, HKr.out⟩
end Go.Proofs.YtielojlhdnimgaaDoor
