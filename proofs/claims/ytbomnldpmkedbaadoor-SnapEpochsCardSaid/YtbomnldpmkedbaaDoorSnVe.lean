/- Each time it is written anew the epoch rises: the walk. (printed by gen_snVe.py) -/
import Derived.Test.YtbomnldpmkedbaaDoorSnVe0
import Derived.Test.YtbomnldpmkedbaaDoorSnT
set_option linter.unusedSimpArgs false
set_option linter.unusedVariables false
namespace Go.Proofs.YtbomnldpmkedbaaDoor
open Go.RowKit
attribute [local go_sem ↓] Go.wp_at_zero Go.wp_at_succ

/-- A row of headers that came in. -/
structure RowH where
  A : Option Addr
  l : List Hd
  c : Nat
def RowH.val (r : RowH) : Value := .slice r.A r.l.length r.c
structure OkRow (w : World) (r : RowH) : Prop where
  rd : Rd w r.A (r.l.flatMap Hd.cells)
  ok : ∀ x ∈ r.l, x.ok
  lc : r.l.length ≤ r.c
  cm : r.c ≤ maxLen
theorem OkRow.keep {w w' : World} {r : RowH} (h : OkRow w r) (k : Keep w w') : OkRow w' r := ⟨h.rd.keep k, h.ok, h.lc, h.cm⟩
theorem i64_and127 (n : Int) : bits BinOp.and IntKind.i64 n 127 = n % 128 := by
  have h127 : (BitVec.ofInt 64 127).toNat = 2 ^ 7 - 1 := by decide
  have key : (BitVec.ofInt 64 n &&& BitVec.ofInt 64 127).toNat = (n % ((2 ^ 64 : Nat) : Int)).toNat % 2 ^ 7 := by
    rw [BitVec.toNat_and, BitVec.toNat_ofInt, h127, Nat.and_two_pow_sub_one_eq_mod]
  show IntKind.i64.wrap ((BitVec.ofInt 64 n &&& BitVec.ofInt 64 127).toNat : Nat) = n % 128
  rw [key, IntKind.wrap_i64]
  omega
def newL (m : Nat) : List UInt8 := List.replicate (32 * m) 0
theorem newL_len (m : Nat) : (newL m).length = 32 * m := List.length_replicate
theorem newL_sane {m : Nat} (h : m ≤ 127) : saneP (newL m).length [] = true := by
  rw [newL_len]; exact (saneP_iff _ _).2 ⟨⟨by omega, by omega, by simp⟩, rfl⟩
theorem ep64 : ep4 (List.replicate 64 0) = 0 := by simp [ep4, List.getD_eq_getElem?_getD, List.getElem?_replicate]
theorem take64 : takeS (List.replicate 64 0) = (0, 0, false) := if_neg (fun e => by
  have h1 := e.2.1
  rw [ep64] at h1
  omega)
theorem newL_look (m : Nat) : (lookB (newL m)).1 = 0 := by
  by_cases h : (newL m).length < 128
  · unfold lookB; rw [if_pos h]
  · rw [look_two (by omega)]
    rw [newL_len] at h
    have e : ∀ k, k ≤ 1 → slotB (newL m) k = List.replicate 64 0 := fun k hk => by
      unfold slotB newL
      rw [List.drop_replicate, List.take_replicate]
      congr 1; omega
    rw [e 0 (by omega), e 1 (by omega), take64]
    rfl
/-- The state of the loop. -/
structure EpS (wr : World) (P m k : Nat) (A : Option Addr) (B : List UInt8) (c : Nat) (PA : Option Addr) (pc : Nat) (base : Int) (room : Nat) (hs : List Hd) (ep : Int) : Prop where
  blk : Blk wr P 38 (stCells (.slice A B.length c) (.slice PA 0 pc) base (room : Int) (hs.length : Nat) (lastL 0 z32 hs) ep)
  good : GoodS B [] ep base room hs
  len : B.length = 32 * m
  epk : ep ≤ k
  dok : ∀ W, Fr 0 (fun q => q = P) wr W → DOk W A B c PA [] pc
/-- What a store written anew is. -/
structure CpN (Q : World → Prop) (B : List UInt8) (room : Nat) (ep : Int) (l : List Hd) (A' : Option Addr) (b' : List UInt8) (c' : Nat) (PA' : Option Addr) (pc' : Nat) (ss' : Array Value) : Prop where
  new : NewB B l ep room (oth B room) (slt B) (1 - (lookB B).2.1) b'
  good : GoodS b' [] (ep + 1) (oth B room : Nat) room l
  sta : StA (stCells (.slice A' b'.length c') (.slice PA' 0 pc') (oth B room : Nat) (room : Int) (l.length : Nat) (lastL 0 z32 l) (ep + 1)) ss'
  dok : ∀ W, Q W → DOk W A' b' c' PA' [] pc'
structure CpS (Q : World → Prop) (B : List UInt8) (room : Nat) (ep : Int) (l : List Hd) (cs2 : Array Value) (er : Int) (ss' : Array Value) : Prop where
  z : ss'.size = 38
  n : ¬ ss' = #[]
  i : (Tryd.prog.info? 38).map (·.size) = some ss'.size
  o : ∀ v ∈ ss'.toList, v.oneCell' = true
  no : er ≠ 0 → ss' = cs2
  iff_ : er = 0 ↔ (l.length ≤ room ∧ 4 ≤ B.length / 32)
  yes : er = 0 → ∃ A' b' c' PA' pc', CpN Q B room ep l A' b' c' PA' pc' ss'
theorem CpS.to {Q Q' : World → Prop} {B : List UInt8} {room : Nat} {ep : Int} {l : List Hd} {cs2 : Array Value} {er : Int} {ss' : Array Value} (h : CpS Q B room ep l cs2 er ss') (hq : ∀ W, Q' W → Q W) : CpS Q' B room ep l cs2 er ss' :=
  ⟨h.z, h.n, h.i, h.o, h.no, h.iff_, fun e => by obtain ⟨A', b', c', PA', pc', h1⟩ := h.yes e; exact ⟨A', b', c', PA', pc', h1.new, h1.good, h1.sta, fun W hW => h1.dok W (hq W hW)⟩⟩
theorem cp_fr {P : Nat} {wr y w' wx : World} (h1 : w'.heap.size ≤ wx.heap.size) (h2 : ∀ q, q < w'.heap.size → ¬ (wr.heap.size ≤ q ∧ q < y.heap.size) → q ≠ P → wx.heap[q]? = w'.heap[q]?) :
    ∀ W, Fr 0 (fun q => q = P) wx W → Fr 0 (fun q => q = P ∨ (wr.heap.size ≤ q ∧ q < y.heap.size)) w' W :=
  fun W hW q a b c => (hW q a (by omega) (fun e => c (.inl e))).trans (h2 q b (fun e => c (.inr e)) (fun e => c (.inl e)))
theorem EpS.keep {wr w' : World} {P m k : Nat} {A : Option Addr} {B : List UInt8} {c : Nat} {PA : Option Addr} {pc : Nat} {base : Int} {room : Nat} {hs : List Hd} {ep : Int} (h : EpS wr P m k A B c PA pc base room hs ep) (hk : Keep wr w') : EpS w' P m k A B c PA pc base room hs ep :=
  ⟨h.blk.keep hk, h.good, h.len, h.epk, fun W hW => h.dok W (hW.keep hk)⟩
theorem EpS.comp {wr : World} {P m k : Nat} {A : Option Addr} {B : List UInt8} {c : Nat} {PA : Option Addr} {pc : Nat} {base : Int} {room : Nat} {hs : List Hd} {ep : Int} (h : EpS wr P m k A B c PA pc base room hs ep) (hk : k ≤ 6) (hS : ShaOk wr)
    {cs2 : Array Value} (hc : StA (stCells (.slice A B.length c) (.slice PA 0 pc) base (room : Int) (hs.length : Nat) (lastL 0 z32 hs) ep) cs2) {r : RowH} (hr : OkRow wr r) (h30 : r.l.length ≤ 30) (y : World) (hy : Keep wr y) :
    Calls Tryd.prog 14 #[.agg cs2, .slice r.A r.l.length r.c] y fun e w' => ∃ er ss', e = .returned (.tuple #[.agg ss', .int .i64 er]) ∧ CpS (fun W => Fr 0 (fun q => q = P ∨ (wr.heap.size ≤ q ∧ q < y.heap.size)) w' W) B room ep r.l cs2 er ss' ∧ Keep y w' := by
  have hP : P < wr.heap.size := h.blk.lt
  have hsz := hy.size
  have hgb := h.good.bnd
  have he := h.epk
  have h1 := compact_w A B c PA [] pc base (room : Int) (hs.length : Nat) (lastL 0 z32 hs) (lastL_len hs 0 z32 rfl) ep cs2 r.A r.l r.c y (fun q => q = P ∨ (wr.heap.size ≤ q ∧ q < y.heap.size)) (fun q e => e.elim (fun e => by omega) (fun e => e.2))
    (fun W hW => h.dok W (fun q a b c => (hW q a (by omega) (fun e => e.elim c (fun e => by omega))).trans (hy.block q b))) (hS.keep hy) h.good.san hc (by omega) (by omega) (hr.rd.keep hy) hr.ok
  rw [List.map_nil] at h1
  refine h1.mono ?_
  rintro e w' ⟨ss', g1, g2, g3, g4⟩
  have hiff : compE B [] base room ep r.l = 0 ↔ (r.l.length ≤ room ∧ 4 ≤ B.length / 32) := by
    constructor
    · intro e
      obtain ⟨q1, q2, q3⟩ := h.good.compE_yes e
      exact ⟨q1, q3⟩
    · intro ⟨q1, q3⟩
      exact h.good.compE_ok q3 q1 hr.ok (by omega)
  have hyes : compE B [] base room ep r.l = 0 → ∃ A' b' c' PA' pc', CpN (fun W => Fr 0 (fun q => q = P ∨ (wr.heap.size ≤ q ∧ q < y.heap.size)) w' W) B room ep r.l A' b' c' PA' pc' ss' := fun e => by
    obtain ⟨A', b', c', PA', vs, pc', hs', hC⟩ := g4 e
    obtain ⟨q1, q2, q3⟩ := h.good.compE_yes e
    obtain ⟨e1, e2, e3, e4, e5⟩ := h.good.comp q3 q1 hr.ok q2 hC
    subst e1
    exact ⟨A', b', c', PA', pc', e3, e4, e5, hC.dok⟩
  have hs4 : ss'.size = 38 ∧ ¬ ss' = #[] ∧ (Tryd.prog.info? 38).map (·.size) = some ss'.size ∧ ∀ v ∈ ss'.toList, v.oneCell' = true := by
    by_cases e : compE B [] base room ep r.l = 0
    · obtain ⟨A', b', c', PA', pc', hN⟩ := hyes e
      exact ⟨hN.sta.z, hN.sta.n, hN.sta.i, hN.sta.o⟩
    · rw [g3 e]; exact ⟨hc.z, hc.n, hc.i, hc.o⟩
  exact ⟨_, ss', g1, ⟨hs4.1, hs4.2.1, hs4.2.2.1, hs4.2.2.2, g3, hiff, hyes⟩, g2⟩
/-- The regions and slots take turns. -/
theorem CpN.turn {Q : World → Prop} {B : List UInt8} {room : Nat} {ep base : Int} {l hs : List Hd} {A' : Option Addr} {b' : List UInt8} {c' : Nat} {PA' : Option Addr} {pc' : Nat} {ss' : Array Value} (h : CpN Q B room ep l A' b' c' PA' pc' ss') (g : GoodS B [] ep base room hs) :
    (lookB b').2.2 = (slt B : Nat) ∧ (lookB B).2.2 ≠ (slt B : Nat) ∧ (0 < room → ((oth B room : Nat) : Int) ≠ base) ∧ b'.length = B.length := by
  have hl := h.new.look
  have hT := (look_told B).r
  have hb := g.baseE
  rw [bytesQ_nil g.san] at hb
  have hb' := h.good.baseE
  rw [bytesQ_nil h.good.san, hl] at hb'
  refine ⟨by rw [hl], ?_, fun hr => ?_, h.new.len⟩
  · unfold slt; split <;> omega
  · rw [hb', hb]
    unfold begS
    show 4 + (1 - (lookB B).2.1) * 4 * room ≠ 4 + (lookB B).2.1 * 4 * room
    rcases hT with e | e <;> rw [e] <;> simp <;> omega

set_option maxRecDepth 100000 in
set_option maxHeartbeats 8000000 in
theorem epochs_walk (x : Int) (AR : Option Addr) (rows : List RowH) (cr : Nat) (w : World) (hS : ShaOk w) (hx : -9223372036854775808 ≤ x ∧ x ≤ 9223372036854775807)
    (hR : Rd w AR (rows.map RowH.val)) (hrw : ∀ r ∈ rows, OkRow w r) (hrc : rows.length ≤ cr) (hrm : cr ≤ maxLen) :
    Calls Tryd.prog 4 #[.int .i64 x, .slice AR rows.length cr] w fun e w' => e = .returned (.bool true) ∧ Keep w w' := by
  unfold maxLen at hrm
  have HS := Lib.hid hS; have HR := Lib.hid hR; have Hrw := Lib.hid hrw
  obtain ⟨m, hm⟩ : ∃ m : Nat, x % 128 = (m : Int) := ⟨(x % 128).toNat, by omega⟩
  have hm127 : m ≤ 127 := by omega
  have hand : bits BinOp.and IntKind.i64 x 127 = (m : Int) := (i64_and127 x).trans hm
  clear hS hR hrw hm hx
  obtain ⟨zs, hz1, hz2, hz3⟩ := zst_letter
  go_enter Tryd.func4, Tryd.ntmps4
  go_wp2_with fail
  refine (awake_any w HS.out).mono ?_
  rintro e w1 ⟨rfl, k1⟩
  have HK1 := Lib.hid k1
  clear k1
  by_cases hq0 : 6 < rows.length
  · have hq0' : (6 : Int) < (rows.length : Int) := by omega
    go_wp2_with fail; go_ret; exact ⟨rfl, HK1.out⟩
  have hq0' : (rows.length : Int) ≤ 6 := by omega
  go_wp2_with fail
  refine (new_any (m : Int) m w1 (by omega)).mono ?_
  rintro e w2 ⟨A1, c1, rfl, own1, k2⟩
  have hd2 : DOk w2 A1 (newL m) c1 none [] 0 := DOk.own own1
  have HK2 := Lib.hid (keep_trans HK1.out k2)
  have C1 := sopen_w A1 (newL m) c1 none [] 0 w2 hd2 (HS.out.keep HK2.out) (by decide)
  rw [newL_len] at C1
  clear hd2 own1 k2
  go_wp2_with fail
  refine C1.mono ?_
  clear C1
  rintro e w4 ⟨ep, base, room, B, hs, A4, c4, cs, Ah, ch, rfl, R, hcs, hd4, own4, hok, k4⟩
  obtain ⟨G, hlk, hBl⟩ := R.good (newL_sane hm127)
  have hq00 : bytesQ (newL m) (List.map WriteR.pl []) = newL m := bytesQ_nil (newL_sane hm127)
  rw [newL_len] at hBl
  have hep : ep = 0 := by rw [R.epE, hq00, newL_look]
  have hrE : room = roomS (m : Int) := by rw [R.roomE, newL_len]; congr 1; omega
  subst hep
  have HG := Lib.hid G; have HBl := Lib.hid hBl; have HrE := Lib.hid hrE
  have hcz := hcs.z; have hcn := hcs.n; have hci := hcs.i
  have Hcs := Lib.hid hcs; have Hd4 := Lib.hid hd4; have HK4 := Lib.hid (keep_trans HK2.out k4); have Own4 := Lib.hid own4
  have hz24 : w2.heap.size ≤ w4.heap.size := k4.size
  have hzw2 : w.heap.size ≤ w2.heap.size := HK2.out.size
  have hst : (storeCells ⟨w4.heap.size, 0, none⟩ cs.toList 0).run Tryd.prog (w4.alloc (.cells zs 38)) = .ok () (w4.alloc (.cells cs 38)) := run_storeCells_new (P := Tryd.prog) w4 38 zs cs hci (hz1.trans hcz.symm) (by have := all_oneCell_toArray Hcs.out.o; rwa [Array.toArray_toList] at this)
  clear hcs hd4 own4 R k4 hok G hlk hBl hq00 hrE
  go_upto_region 7 with fail
  clear hst
  obtain ⟨w5, hw5⟩ : ∃ w5, w5 = w4.alloc (.cells cs 38) := ⟨_, rfl⟩
  have HC5 : Hid (Blk w5 w4.heap.size 38 (stCells (.slice A4 B.length c4) (.slice none 0 0) base (room : Int) (hs.length : Nat) (lastL 0 z32 hs) 0)) := by rw [hw5, ← Hcs.out.l]; exact Blk.new w4 _ cs.toList
  have k5 : Keep w4 w5 := by rw [hw5]; exact keep_new _ _
  rw [← hw5]
  clear hw5
  have HK5 := Lib.hid (keep_trans HK4.out k5)
  have hz45 : w4.heap.size < w5.heap.size := HC5.out.lt
  have L5 : Hid (EpS w5 w4.heap.size m 0 A4 B c4 none 0 base room hs 0) := ⟨HC5.out, HG.out, HBl.out, by decide, fun W hW => Hd4.out W (fun q a b c => (hW q (Nat.zero_le _) (by omega) (fun e => by omega)).trans (k5.block q b))⟩
  have hwP : w.heap.size ≤ w4.heap.size := by omega
  generalize w4.heap.size = P at *
  clear HG HBl Hcs Hd4 HK4 Own4 HC5 k5 hcz hcn hci hand
  go_wp2_with fail
  go_loopw [9, 10] (fun l i wr => ∃ (k : Nat) (lv : Value) (A2 : Option Addr) (B2 : List UInt8) (c2 : Nat) (PA2 : Option Addr) (pc2 : Nat) (base2 : Int) (hs2 : List Hd) (ep2 : Int), k ≤ rows.length ∧ i = .int .i64 k ∧ l = lv ∧
    Hid (EpS wr P m k A2 B2 c2 PA2 pc2 base2 room hs2 ep2) ∧ Hid (Keep w wr)) (fun _ i _ => rows.length - (intOf i).toNat)
  case atStart => exact ⟨0, .slice none 0 0, A4, B, c4, none, 0, base, hs, 0, Nat.zero_le _, rfl, rfl, L5, HK5⟩
  case round =>
    obtain ⟨k, lv, A2, B2, c2, PA2, pc2, base2, hs2, ep2, hk, rfl, rfl, HL, HKr⟩ := hrel
    clear L5 HK5
    have hPr : P < wr.heap.size := HL.out.blk.lt
    by_cases hlt : k < rows.length
    · obtain ⟨g, off, rfl, hg, hc⟩ := HR.out.at (k := k) (by simpa using hlt)
      have hcell := hc k (by simpa using hlt)
      rw [List.getElem_map] at hcell
      obtain ⟨r, hre⟩ : ∃ r, rows[k] = r := ⟨_, rfl⟩
      have hrok : OkRow w r := by rw [← hre]; exact Hrw.out _ (List.getElem_mem hlt)
      rw [hre] at hcell
      have Hcell := Lib.hid (show w.cell? ⟨g, off + k, none⟩ = some (.slice r.A r.l.length r.c) from hcell)
      have Hrok := Lib.hid hrok
      have hlc := hrok.lc; have hlm := hrok.cm
      unfold maxLen at hlm
      clear hc hcell hre hrok hg
      obtain ⟨rA, rl, rc⟩ := r
      simp only at hlc hlm Hcell
      have hcr := keep_cell HKr.out Hcell.out
      by_cases h30 : 30 < rl.length
      · have h30' : (30 : Int) < (rl.length : Int) := by omega
        clear h30
        go_wp2_with fail
        go_ret
        exact ⟨rfl, HKr.out⟩
      · have h30' : (rl.length : Int) ≤ 30 := by omega
        have hlR : rl.length ≤ 30 := by omega
        clear h30
        obtain ⟨cs2, hcs2⟩ : ∃ cs2 : Array Value, cs2.toList = stCells (.slice A2 B2.length c2) (.slice PA2 0 pc2) base2 (room : Int) (hs2.length : Nat) (lastL 0 z32 hs2) ep2 := ⟨_, rfl⟩
        have hcA := StA.of (lastL_len hs2 0 z32 rfl) hcs2
        have hcz2 := hcA.z; have hcn2 := hcA.n; have hci2 := hcA.i
        have HcA := Lib.hid hcA
        have HBP : Hid (Blk wr P 38 cs2.toList) := by rw [hcs2]; exact HL.out.blk
        have A1 : Hid (∀ y, Keep wr y → Calls Tryd.prog 14 #[.agg cs2, .slice rA rl.length rc] y fun e w' => ∃ er ss', e = .returned (.tuple #[.agg ss', .int .i64 er]) ∧ CpS (fun W => Fr 0 (fun q => q = P ∨ (wr.heap.size ≤ q ∧ q < y.heap.size)) w' W) B2 room ep2 rl cs2 er ss' ∧ Keep y w') := fun y hy =>
          HL.out.comp (by omega) (HS.out.keep HKr.out) HcA.out (r := ⟨rA, rl, rc⟩) (Hrok.out.keep HKr.out) hlR y hy
        clear hcA hcs2
        go_upto_region 12 with fail
        go_cut [11, 12] (fun s11 s12 wx => ∃ p er ss', s11 = .pointer (some ⟨p, 0, none⟩) ∧ s12 = .int .i64 er ∧ wr.heap.size ≤ p ∧ Hid (Blk wx p 38 ss'.toList) ∧ Hid (Keep wr wx) ∧ Hid (CpS (fun W => Fr 0 (fun q => q = P) wx W) B2 room ep2 rl cs2 er ss'))
        case first =>
          refine wp_region_tree (.take [0,1,2,3,4] (.fork 5 (.take [6,7,8] (.force [9] .done)) 9 (.force [5] (.take [6,7,8] .done)))) [10,11] (by kernel_rfl) (by kernel_rfl) (fun y0 hk => ?_)
          have Q := Lib.hid hk
          clear hk
          refine mt_take y0 (Below.refl _ _) ?_
          simp only [pick_cons, pick_nil, nth_zero, nth_succ]
          have HB0 := Lib.hid (HBP.out.keep Q.out)
          have hc0 := aft_cell (keep_cell Q.out hcr)
          (with_reducible refine wpQuiet_load_partgS P 0 cs2 (Eq.trans ?_ rfl) HB0.out.rangeS _ Tryd.underlying38 rfl hci2 rfl ?_)
          rfl
          simp only [Act.put, Array.set!_eq_setIfInBounds, List.setIfInBounds_toArray, List.set_cons_succ, List.set_cons_zero]
          repeat (go_big_quiet_step (fail))
          clear HB0 hc0
          refine wpQuiet_nil (mt_fork ?_ ?_)
          · simp only [pick_cons, pick_nil, nth_zero, nth_succ]
            refine fc_step rfl (fun K hK => ?_)
            go_simp
            (with_reducible refine (A1.out y0 Q.out).mono ?_)
            rintro e y1 ⟨er, ss1, rfl, hcp, hk⟩
            refine hK _ _ hk ?_
            clear hK K
            have HQ5 : wr.heap.size ≤ y0.heap.size := Q.out.size
            have Hprev := Q
            replace Q := Lib.hid (keep_trans Q.out hk)
            have hs_y1 : y0.heap.size ≤ y1.heap.size := hk.size
            have hdz := hcp.z; have hdn := hcp.n; have hdi := hcp.i
            have Hcp := Lib.hid hcp
            have HKK5 : Hid (Keep y1 y1) := Below.refl _ _
            have HQK : Hid (Keep wr y0) := Hprev
            have hYs : y0.heap.size ≤ y1.heap.size := hk.size
            clear hcp
            clear hk
            refine fc_nil (mt_take y1 (Below.refl _ _) ?_)
            simp only [pick_cons, pick_nil, nth_zero, nth_succ]
            repeat (go_big_quiet_step (fail))
            refine wpQuiet_nil (mt_force ?_)
            simp only [pick_cons, pick_nil, nth_zero, nth_succ]
            refine fc_step rfl (fun K hK => ?_)
            go_simp
            refine hK _ _ (keep_new _ _) ?_
            clear hK K
            obtain ⟨y2, hy⟩ : ∃ y2, y2 = y1.alloc (.cells zs 38) := ⟨_, rfl⟩
            have HP9 : Hid (Blk y2 y1.heap.size 38 zs.toList) := by rw [hy]; exact Blk.new y1 _ zs.toList
            have hk : Keep y1 y2 := by rw [hy]; exact keep_new _ _
            rw [← hy]
            clear hy
            have HP9s : y1.heap.size < y2.heap.size := HP9.out.lt
            have HP9n := Q.out.size
            replace Q := Lib.hid (keep_trans Q.out hk)
            have hs_y2 : y1.heap.size ≤ y2.heap.size := hk.size
            replace HKK5 := Lib.hid (keep_trans HKK5.out hk)
            clear hk
            generalize hp : y1.heap.size = p9 at *
            have HP9a : y1.heap.size ≤ p9 := Nat.le_of_eq hp
            have HP9b : p9 ≤ y1.heap.size := Nat.le_of_eq hp.symm
            clear hp
            refine fc_nil (mt_end ?_)
            obtain ⟨wa, hsta, hba, hga⟩ := run_store_blk (P := Tryd.prog) ss1.toList HP9.out (by simp [hz1, hdz]) Hcp.out.o
            have Hba := Lib.hid hba; have Hga := Lib.hid hga
            have hPl := HP9.out.lt; have hga1 := hga.size; have hQs := Q.out.size; have hKs := HKK5.out.size; have hQK := HQK.out.size
            clear hba hga
            go_wp2
            go_meet
            refine ⟨p9, er, ss1, rfl, rfl, by omega, Hba, Lib.hid (Q.out.grown Hga.out (by omega) (fun q hq => by injection hq with hq; omega)), Lib.hid (Hcp.out.to (cp_fr (by omega) (fun q h1 h2 h3 => ?_)))⟩
            exact (Hga.out.block q (by omega) (fun e => by have e2 : q = p9 := Option.some.inj e; omega)).trans (HKK5.out.block q h1)
          · simp only [pick_cons, pick_nil, nth_zero, nth_succ]
            refine fc_step rfl (fun K hK => ?_)
            go_simp
            refine hK _ _ (keep_new _ _) ?_
            clear hK K
            obtain ⟨y3, hy⟩ : ∃ y3, y3 = y0.alloc (.cells zs 38) := ⟨_, rfl⟩
            have HP9 : Hid (Blk y3 y0.heap.size 38 zs.toList) := by rw [hy]; exact Blk.new y0 _ zs.toList
            have hk : Keep y0 y3 := by rw [hy]; exact keep_new _ _
            rw [← hy]
            clear hy
            have HP9s : y0.heap.size < y3.heap.size := HP9.out.lt
            have HP9n := Q.out.size
            replace Q := Lib.hid (keep_trans Q.out hk)
            have hs_y3 : y0.heap.size ≤ y3.heap.size := hk.size
            clear hk
            generalize hp : y0.heap.size = p9 at *
            have HP9a : y0.heap.size ≤ p9 := Nat.le_of_eq hp
            have HP9b : p9 ≤ y0.heap.size := Nat.le_of_eq hp.symm
            clear hp
            refine fc_nil (mt_force ?_)
            simp only [pick_cons, pick_nil, nth_zero, nth_succ]
            refine fc_step rfl (fun K hK => ?_)
            go_simp
            (with_reducible refine (A1.out y3 Q.out).mono ?_)
            rintro e y4 ⟨er, ss1, rfl, hcp, hk⟩
            refine hK _ _ hk ?_
            clear hK K
            have HQ5 : wr.heap.size ≤ y3.heap.size := Q.out.size
            have Hprev := Q
            replace Q := Lib.hid (keep_trans Q.out hk)
            have hs_y4 : y3.heap.size ≤ y4.heap.size := hk.size
            replace HP9 := Lib.hid (HP9.out.keep hk)
            have hdz := hcp.z; have hdn := hcp.n; have hdi := hcp.i
            have Hcp := Lib.hid hcp
            have HKK5 : Hid (Keep y4 y4) := Below.refl _ _
            have HQK : Hid (Keep wr y3) := Hprev
            have hYs : y3.heap.size ≤ y4.heap.size := hk.size
            clear hcp
            clear hk
            refine fc_nil (mt_take y4 (Below.refl _ _) ?_)
            simp only [pick_cons, pick_nil, nth_zero, nth_succ]
            repeat (go_big_quiet_step (fail))
            refine wpQuiet_nil (mt_end ?_)
            obtain ⟨wa, hsta, hba, hga⟩ := run_store_blk (P := Tryd.prog) ss1.toList HP9.out (by simp [hz1, hdz]) Hcp.out.o
            have Hba := Lib.hid hba; have Hga := Lib.hid hga
            have hPl := HP9.out.lt; have hga1 := hga.size; have hQs := Q.out.size; have hKs := HKK5.out.size; have hQK := HQK.out.size
            clear hba hga
            go_wp2
            go_meet
            refine ⟨p9, er, ss1, rfl, rfl, by omega, Hba, Lib.hid (Q.out.grown Hga.out (by omega) (fun q hq => by injection hq with hq; omega)), Lib.hid (Hcp.out.to (cp_fr (by omega) (fun q h1 h2 h3 => ?_)))⟩
            exact (Hga.out.block q (by omega) (fun e => by have e2 : q = p9 := Option.some.inj e; omega)).trans (HKK5.out.block q h1)
        case rest =>
          obtain ⟨p, er, ss', rfl, rfl, hp1, HBp, Kwc, HC⟩ := hcut
          obtain ⟨w7, hw7⟩ : ∃ x : World, x = wc := ⟨_, rfl⟩
          subst hw7
          have HKc := Lib.hid (keep_trans HKr.out Kwc.out)
          have hpc : p < w7.heap.size := HBp.out.lt
          have HBPc := Lib.hid (HBP.out.keep Kwc.out)
          have hzwc : wr.heap.size ≤ w7.heap.size := Kwc.out.size
          have hdz := HC.out.z; have hdn := HC.out.n; have hdi := HC.out.i
          have hcc := keep_cell HKc.out Hcell.out
          have acc := aft_cell hcc
          have M1 : Hid (∀ y, Calls Tryd.prog 9 #[.int .i64 (m : Int)] y fun e w'' => e = .returned (.int .i64 room) ∧ y = w'') := fun y => by
            have h1 := room_any (m : Int) y (by omega)
            rw [← HrE.out] at h1; exact h1
          clear A1 HBP hcr
          by_cases hno : room < rl.length ∨ m < 4
          · have hne : er ≠ 0 := fun e => by
              have h1 := HC.out.iff_.1 e
              rw [HL.out.len] at h1
              omega
            have hss : ss' = cs2 := HC.out.no hne
            subst hss
            have Hno := Lib.hid hno
            have T1 : Hid (∀ y, Keep w7 y → Calls Tryd.prog 16 #[.agg ss'] y fun e w' => ∃ PA' pc' cs, e = .returned (.agg cs) ∧ (SoA (stCells (.slice A2 B2.length c2) (.slice PA' 0 pc') base2 (room : Int) (hs2.length : Nat) (lastL 0 z32 hs2) ep2) cs ∧ (∀ W, Keep w' W → DOk W A2 B2 c2 PA' [] pc')) ∧ Keep y w') := fun y hy => by
              refine (stored_any A2 B2 c2 PA2 pc2 base2 room (hs2.length : Nat) (lastL 0 z32 hs2) ep2 ss' y (HL.out.dok y (Fr.of_keep (keep_trans Kwc.out hy))) HcA.out (lastL_len _ _ _ rfl)).mono ?_
              rintro e w' ⟨PA', pc', cs, h1, h2, h3, h4⟩
              exact ⟨PA', pc', cs, h1, ⟨h2, h3⟩, h4⟩
            have L7 : Hid (EpS w7 P m (k + 1) A2 B2 c2 PA2 pc2 base2 room hs2 ep2) := ⟨HL.out.blk.keep Kwc.out, HL.out.good, HL.out.len, by have := HL.out.epk; omega, fun W hW => HL.out.dok W (hW.keep Kwc.out)⟩
            have He : (er == 0) = false := by simp [hne]
            clear hno hne HC HL
            go_upto_region 13 with fail
            go_cut [63] (fun v wx => v = .bool true ∧ Hid (Keep w7 wx))
            case first =>
              by_cases q1 : room < rl.length
              · have q1' : (room : Int) < (rl.length : Int) := by omega
                clear q1 Hno
                refine wp_region_aft (by kernel_rfl) (by kernel_rfl) w7 (Below.refl _ _) ?_
                repeat (go_big_quiet_step (first | (go_at_call 9; exact quiet_aft_same (M1.out _))))
                refine wpQuiet_nil ?_
                rintro _ ⟨y, rfl⟩
                have j := aft_keep w7 y
                generalize aft w7 y = wz at j ⊢
                clear acc
                go_wp2
                go_meet
                exact ⟨rfl, Lib.hid j⟩
              · have q1' : ¬ (room : Int) < (rl.length : Int) := by omega
                have q2 : (m : Int) < 4 := by have := Hno.out; omega
                clear q1 Hno
                refine wp_region_aft (by kernel_rfl) (by kernel_rfl) w7 (Below.refl _ _) ?_
                repeat (go_big_quiet_step (first | (go_at_call 9; exact quiet_aft_same (M1.out _))))
                refine wpQuiet_nil ?_
                rintro _ ⟨y, rfl⟩
                have j := aft_keep w7 y
                generalize aft w7 y = wz at j ⊢
                clear acc
                go_wp2
                go_meet
                exact ⟨rfl, Lib.hid j⟩
            case rest =>
              obtain ⟨rfl, K8⟩ := hcut
              clear acc
              have HKd := Lib.hid (keep_trans HKc.out K8.out)
              go_upto_region 14 with fail
              refine wp_region_tree (.take [0,1,2,3,5] (.force [4,6,7] (.take [8,9] .done))) [] (by kernel_rfl) (by kernel_rfl) (fun y0 k0 => ?_)
              have Kcy := Lib.hid (keep_trans K8.out k0)
              have HBp0 := Lib.hid (HBp.out.keep Kcy.out); have HBP0 := Lib.hid (HBPc.out.keep Kcy.out)
              clear k0
              refine mt_take y0 (Below.refl _ _) ?_
              simp only [pick_cons, pick_nil, nth_zero, nth_succ]
              iterate 3 (go_big_quiet_step (fail))
              (with_reducible refine wpQuiet_load_partgS p 0 ss' (Eq.trans ?_ rfl) HBp0.out.rangeS _ Tryd.underlying38 rfl hdi rfl ?_)
              rfl
              simp only [Act.put, Array.set!_eq_setIfInBounds, List.setIfInBounds_toArray, List.set_cons_succ, List.set_cons_zero]
              (with_reducible refine wpQuiet_load_partgS P 0 ss' (Eq.trans ?_ rfl) HBP0.out.rangeS _ Tryd.underlying38 rfl hdi rfl ?_)
              rfl
              simp only [Act.put, Array.set!_eq_setIfInBounds, List.setIfInBounds_toArray, List.set_cons_succ, List.set_cons_zero]
              repeat (go_big_quiet_step (fail))
              refine wpQuiet_nil ?_
              refine mt_force ?_
              simp only [pick_cons, pick_nil, nth_zero, nth_succ]
              refine fc_step rfl (fun K hK => ?_)
              go_simp
              (with_reducible refine (T1.out _ Kcy.out).mono ?_)
              rintro e y1 ⟨PB, qb, s1, rfl, hs1, k1⟩
              have Hs1 := Lib.hid hs1
              refine hK _ _ k1 ?_
              have Kcy1 := Lib.hid (keep_trans Kcy.out k1)
              clear hK K hs1 k1
              refine fc_step rfl (fun K hK => ?_)
              go_simp
              (with_reducible refine (T1.out _ Kcy1.out).mono ?_)
              rintro e y2 ⟨PC, qd, s2, rfl, hs2', k2⟩
              have Hs2 := Lib.hid hs2'; have K12 := Lib.hid k2
              refine hK _ _ k2 ?_
              have Kcy2 := Lib.hid (keep_trans Kcy1.out k2)
              clear hK K hs2' k2
              refine fc_step rfl (fun K hK => ?_)
              go_simp
              (with_reducible refine (ssame_self A2 B2 c2 PB qb PC qd base2 room (hs2.length : Nat) (lastL 0 z32 hs2) ep2 s1 s2 y2 (Hs1.out.2 y2 K12.out) (Hs2.out.2 y2 (Below.refl _ _)) Hs1.out.1 Hs2.out.1 (lastL_len _ _ _ rfl)).mono ?_)
              rintro e y3 ⟨rfl, k3⟩
              refine hK _ _ k3 ?_
              have Kcy3 := Lib.hid (keep_trans Kcy2.out k3)
              clear hK K k3 T1 Hs1 Hs2
              refine fc_nil ?_
              refine mt_take y3 (Below.refl _ _) ?_
              simp only [pick_cons, pick_nil, nth_zero, nth_succ]
              repeat (go_big_quiet_step (fail))
              refine wpQuiet_nil ?_
              refine mt_end ?_
              go_wp2
              go_roundw
              case rel => exact ⟨k + 1, _, A2, B2, c2, PA2, pc2, base2, hs2, ep2, by omega, by go_num, rfl, L7.out.keep Kcy3.out, Lib.hid (keep_trans HKc.out Kcy3.out)⟩
              case measure => simp [intOf]; omega
          · have hl1 : rl.length ≤ room := by omega
            have hm4 : 4 ≤ m := by omega
            have he : er = 0 := HC.out.iff_.2 ⟨hl1, by rw [HL.out.len]; omega⟩
            subst he
            obtain ⟨A5, B5, c5, PA5, pc5, hN⟩ := HC.out.yes rfl
            obtain ⟨t1, t2, t3, t4⟩ := hN.turn HL.out.good
            have S1 : Hid (∀ y, Keep w7 y → Calls Tryd.prog 17 #[DV A2 B2.length c2 PA2 0 pc2] y fun e w' => e = .returned (.int .i64 (lookB B2).2.2) ∧ Keep y w') := fun y hy => by
              have h1 := slot_any A2 B2 c2 PA2 [] pc2 y (HL.out.dok y (Fr.of_keep (keep_trans Kwc.out hy))) (HS.out.keep (keep_trans HKc.out hy))
              rw [bytesD_Q, List.map_nil, bytesQ_nil HL.out.good.san] at h1
              exact h1
            have S2 : Hid (∀ y, Keep w7 y → Calls Tryd.prog 17 #[DV A5 B5.length c5 PA5 0 pc5] y fun e w' => e = .returned (.int .i64 (slt B2 : Nat)) ∧ Keep y w') := fun y hy => by
              have h1 := slot_any A5 B5 c5 PA5 [] pc5 y (hN.dok y (Fr.of_keep hy)) (HS.out.keep (keep_trans HKc.out hy))
              rw [bytesD_Q, List.map_nil, bytesQ_nil hN.good.san, t1] at h1
              exact h1
            have HGN := Lib.hid hN.good; have HSN := Lib.hid hN.sta; have HDN := Lib.hid hN.dok
            have HB5l : Hid (B5.length = 32 * m) := t4.trans HL.out.len
            have hek := HL.out.epk
            have hgb := HL.out.good.bnd
            obtain ⟨g1, g2, g3, g4, g5, g6⟩ := hgb
            have HBt : Hid (Blk w7 p 38 (stCells (.slice A5 B5.length c5) (.slice PA5 0 pc5) (oth B2 room : Nat) (room : Int) (rl.length : Nat) (lastL 0 z32 rl) (ep2 + 1))) := by
              have h1 := HBp.out
              rw [hN.sta.l] at h1; exact h1
            have HBs := Lib.hid (HL.out.blk.keep Kwc.out)
            clear hN t1 t4 HC
            generalize (lookB B2).2.2 = la at *
            generalize slt B2 = sl at *
            generalize hbase : ((oth B2 room : Nat) : Int) = base5 at *
            clear hbase
            have e1 : (la == (sl : Int)) = false := by rw [beq_eq_false_iff_ne]; exact t2
            have e2 : decide ((sl : Int) < 0) = false := decide_eq_false (by omega)
            have q1' : ¬ (room : Int) < (rl.length : Int) := by omega
            have q2 : ¬ (m : Int) < 4 := by omega
            clear hno t2
            go_upto_region 13 with fail
            refine wp_region_aft (by kernel_rfl) (by kernel_rfl) w7 (Below.refl _ _) ?_
            repeat (go_big_quiet_step (first | (go_at_call 9; exact quiet_aft_same (M1.out _))))
            refine wpQuiet_nil ?_
            rintro _ ⟨y, rfl⟩
            have j := aft_keep w7 y
            generalize aft w7 y = wd at j ⊢
            have Kd := Lib.hid j
            clear acc j q1' q2
            obtain ⟨s0, s1, _, _, _, _⟩ := st_d (lastL_len hs2 0 z32 rfl) (HBs.out.keep Kd.out)
            go_upto_region 16 with fail
            go_wp2_with fail
            refine (S1.out _ Kd.out).mono ?_
            clear S1 s0 s1
            rintro e we ⟨rfl, ke⟩
            have Ke := Lib.hid (keep_trans Kd.out ke)
            clear ke
            obtain ⟨s0, s1, _, _, _, _⟩ := st_d (lastL_len rl 0 z32 rfl) (HBt.out.keep Ke.out)
            go_upto_region 17 with fail
            go_wp2_with fail
            refine (S2.out _ Ke.out).mono ?_
            clear S2 s0 s1
            rintro e wf ⟨rfl, kf⟩
            have Kf := Lib.hid (keep_trans Ke.out kf)
            clear kf
            go_upto_region 18 with fail
            obtain ⟨_, _, s2, _, _, s5⟩ := st_d (lastL_len hs2 0 z32 rfl) (HBs.out.keep Kf.out)
            obtain ⟨_, _, u2, _, _, u5⟩ := st_d (lastL_len rl 0 z32 rfl) (HBt.out.keep Kf.out)
            have as2 := aft_cell s2; have as5 := aft_cell s5; have au2 := aft_cell u2; have au5 := aft_cell u5
            clear s2 s5 u2 u5
            go_cut [114] (fun v wx => v = .bool false ∧ Hid (Keep wf wx))
            case first =>
              have e3 : (ep2 + 1 != ep2 + 1) = false := by simp
              by_cases hr0 : room = 0
              · have q3 : decide (0 < room) = false := decide_eq_false (by omega)
                clear hr0 t3
                refine wp_region_plainqT wf (Below.refl _ _) ?_
                try simp only [List.append_eq, List.cons_append, List.nil_append]
                repeat (go_big_quiet_step (first | (go_at_call 9; exact quiet_aft_same (M1.out _))))
                refine wpQuiet_nil ?_
                rintro _ ⟨y, rfl⟩
                have j := aft_keep wf y
                generalize aft wf y = wz at j ⊢
                clear as2 as5 au2 au5
                go_wp2
                go_meet
                exact ⟨rfl, Lib.hid j⟩
              · have q3 : decide (0 < room) = true := decide_eq_true (by omega)
                have e4 : (base5 == base2) = false := by rw [beq_eq_false_iff_ne]; exact t3 (by omega)
                clear hr0 t3
                refine wp_region_plainqT wf (Below.refl _ _) ?_
                try simp only [List.append_eq, List.cons_append, List.nil_append]
                repeat (go_big_quiet_step (first | (go_at_call 9; exact quiet_aft_same (M1.out _))))
                refine wpQuiet_nil ?_
                rintro _ ⟨y, rfl⟩
                have j := aft_keep wf y
                generalize aft wf y = wz at j ⊢
                clear as2 as5 au2 au5
                go_wp2
                go_meet
                exact ⟨rfl, Lib.hid j⟩
            case rest =>
              obtain ⟨rfl, Kg⟩ := hcut
              clear as2 as5 au2 au5 t3
              have Kc := Lib.hid (keep_trans Kf.out Kg.out)
              have HBtc := Lib.hid (HBt.out.keep Kc.out); have HBsc := Lib.hid (HBs.out.keep Kc.out); have HBpc := Lib.hid (HBp.out.keep Kc.out)
              have HKcc := Lib.hid (keep_trans HKc.out Kc.out)
              have hz7c : w7.heap.size ≤ wc.heap.size := Kc.out.size
              have hpP : p ≠ P := by omega
              obtain ⟨w8, hst8, hb8, hg8⟩ := run_store_blk (P := Tryd.prog) ss'.toList HBsc.out (by simp [hdz, stCells, lg_len (lastL_len hs2 0 z32 rfl)]) (by rw [HSN.out.l]; have h1 := HSN.out.o; rw [HSN.out.l] at h1; exact h1)
              have Hg8 := Lib.hid hg8
              have HB8 : Hid (Blk w8 P 38 (stCells (.slice A5 B5.length c5) (.slice PA5 0 pc5) base5 (room : Int) (rl.length : Nat) (lastL 0 z32 rl) (ep2 + 1))) := by rw [← HSN.out.l]; exact hb8
              have K8 : Hid (Keep w w8) := HKcc.out.grown hg8 HKcc.out.size (fun q hq => by injection hq with hq; omega)
              have hz8 : wc.heap.size ≤ w8.heap.size := hg8.size
              clear hb8 hg8 HBs HBt HBsc HBtc M1 e1 e2
              go_upto_region 21 with ((with_reducible refine load_arr p ss' (Eq.trans ?_ rfl) HBpc.out _ Tryd.underlying38 rfl hdi ?_); rfl)
              clear hst8
              have hcc8 := keep_cell K8.out Hcell.out
              go_upto_region 22 with fail
              have HD8 : Hid (∀ W, Fr 0 (fun q => q = P) w8 W → DOk W A5 B5 c5 PA5 [] pc5) := Lib.hid fun W hW => HDN.out W (fun q a b c => ((hW q a (by omega) c).trans (Hg8.out.block q (by omega) (fun e => c (Option.some.inj e)))).trans (Kc.out.block q b))
              obtain ⟨s0, s1, _, _, _, _⟩ := st_d (lastL_len rl 0 z32 rfl) HB8.out
              have hl32 : (lastL 0 z32 rl).length = 32 := lastL_len rl 0 z32 rfl
              have Hl32 := Lib.hid hl32
              have O1 : Calls Tryd.prog 12 #[DV A5 B5.length c5 PA5 0 pc5] w8 fun e w' => ∃ cs Ah ch, e = .returned (.tuple #[.agg cs, .slice Ah rl.length ch]) ∧ (∃ d0 d1 rm n last, last.length = 32 ∧ cs.toList = stCells d0 d1 base5 rm n last (ep2 + 1) ∧ cs.size = 38 ∧ (Tryd.prog.info? 38).map (·.size) = some cs.size ∧ ¬ cs = #[] ∧ ∀ v ∈ cs.toList, v.oneCell' = true) ∧ Rd w' Ah (rl.flatMap Hd.cells) ∧ Keep w8 w' := by
                refine (sopen_w A5 B5 c5 PA5 [] pc5 w8 (HD8.out w8 (fun _ _ _ _ => rfl)) (HS.out.keep K8.out) (by decide)).mono ?_
                rintro e w' ⟨ep', base', room', B', hs', A', c', cs', Ah', ch', rfl, R, hcs, _, own, _, hk⟩
                obtain ⟨i1, i2, i3⟩ := (HGN.out.weak rfl).again (.inr HGN.out.roomE) R
                have i4 := i3 HGN.out.roomE
                subst i1 i2 i4
                exact ⟨cs', Ah', ch', rfl, ⟨_, _, _, _, _, lastL_len _ _ _ rfl, hcs.l, hcs.z, hcs.i, hcs.n, hcs.o⟩, own_rd own, hk⟩
              clear hcc8 hl32
              go_wp2_with fail
              refine O1.mono ?_
              clear O1 s0 s1
              rintro e wb ⟨csb, Agb, cgb, rfl, ⟨e0, e1, rmb, nb, lb, hlb, hclb, hbz, hbi, hbn, hbo⟩, hrb, kb⟩
              have Hbo := Lib.hid hbo; have Hrb := Lib.hid hrb; have Hclb := Lib.hid hclb; have Krb := Lib.hid kb
              have hst : (storeCells ⟨wb.heap.size, 0, none⟩ csb.toList 0).run Tryd.prog (wb.alloc (.cells zs 38)) = .ok () (wb.alloc (.cells csb 38)) := run_storeCells_new (P := Tryd.prog) wb 38 zs csb hbi (hz1.trans hbz.symm) (by have := all_oneCell_toArray Hbo.out; rwa [Array.toArray_toList] at this)
              clear hbo hrb hclb kb
              go_upto_region 23 with fail
              clear hst
              obtain ⟨wx, hwx⟩ : ∃ wx, wx = wb.alloc (.cells csb 38) := ⟨_, rfl⟩
              have HE : Hid (Blk wx wb.heap.size 38 (stCells e0 e1 base5 rmb nb lb (ep2 + 1))) := by rw [hwx, ← Hclb.out]; exact Blk.new wb _ csb.toList
              have kx : Keep wb wx := by rw [hwx]; exact keep_new _ _
              rw [← hwx]
              clear hwx
              have Krx := Lib.hid (keep_trans Krb.out kx); have Hrx := Lib.hid (Hrb.out.keep kx)
              generalize wb.heap.size = E at *
              clear kx
              obtain ⟨_, _, x2, _, _, x5⟩ := st_d hlb HE.out
              obtain ⟨_, _, u2, _, _, u5⟩ := st_d Hl32.out (HB8.out.keep Krx.out)
              have ax2 := aft_cell x2; have ax5 := aft_cell x5; have at2 := aft_cell u2; have at5 := aft_cell u5
              have HKx := Lib.hid (keep_trans K8.out Krx.out)
              have Z1 : Hid (∀ y, Keep wx y → Calls Tryd.prog 18 #[.slice Agb rl.length cgb, .slice rA rl.length rc] y fun e w' => e = .returned (.bool true) ∧ Keep y w') := fun y hy => by
                have h1 := hsame_any Agb rl cgb rA rl rc y (Hrx.out.keep hy) (Hrok.out.rd.keep (keep_trans HKx.out hy)) Hrok.out.ok Hrok.out.ok (by omega) (by omega)
                rw [decide_eq_true (rfl : rl = rl)] at h1; exact h1
              clear x2 x5 u2 u5 hlb
              have e3 : (ep2 + 1 != ep2 + 1) = false := by simp
              have e4 : (base5 != base5) = false := by simp
              refine wp_region_plainqT wx (Below.refl _ _) ?_
              try simp only [List.append_eq, List.cons_append, List.nil_append]
              repeat (go_big_quiet_step (first | (go_at_call 18; exact quiet_aft (v := .bool true) (Z1.out (aft wx _) (aft_keep wx _)))))
              refine wpQuiet_nil ?_
              rintro _ ⟨y, rfl⟩
              have j := aft_keep wx y
              generalize aft wx y = wz at j ⊢
              clear ax2 ax5 at2 at5
              have HKz := Lib.hid (keep_trans HKx.out j); have K8z := Lib.hid (keep_trans Krx.out j)
              have L9 : Hid (EpS wz P m (k + 1) A5 B5 c5 PA5 pc5 base5 room rl (ep2 + 1)) := ⟨HB8.out.keep K8z.out, HGN.out, HB5l.out, by omega, fun W hW => HD8.out W (hW.keep K8z.out)⟩
              clear j Z1
              go_wp2
              go_roundw
              case rel => exact ⟨k + 1, _, A5, B5, c5, PA5, pc5, base5, rl, ep2 + 1, by omega, by go_num, rfl, L9, HKz⟩
              case measure => simp [intOf]; omega
    · have hnl : ¬ ((k : Int) < (rows.length : Int)) := by omega
      clear hlt
      go_wp2_with fail
      go_ret
      exact ⟨rfl, HKr.out⟩
end Go.Proofs.YtbomnldpmkedbaaDoor
