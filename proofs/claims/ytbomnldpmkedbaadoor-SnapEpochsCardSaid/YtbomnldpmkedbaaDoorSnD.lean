/- A store as a value; a store is opened. (printed by gen_snD.py) -/
import Derived.Test.YtbomnldpmkedbaaDoorSnC
import Derived.Test.YtbomnldpmkedbaaDoorJrnT
import Derived.Test.YtbomnldpmkedbaaDoorJrnO
set_option linter.unusedSimpArgs false
set_option linter.unusedVariables false
namespace Go.Proofs.YtbomnldpmkedbaaDoor
open Go.RowKit
attribute [local go_sem ↓] Go.wp_at_zero Go.wp_at_succ

/-- A store's cells. -/
def stCells (d0 d1 : Value) (base room n : Int) (last : List UInt8) (ep : Int) : List Value := lgCells d0 d1 base room n last ++ [.int .i64 ep]
/-- What a walk has to know of a store as a value. -/
structure StA (l : List Value) (cs : Array Value) : Prop where
  l : cs.toList = l
  z : cs.size = 38
  i : (Tryd.prog.info? 38).map (·.size) = some cs.size
  n : ¬ cs = #[]
  o : ∀ v ∈ cs.toList, v.oneCell' = true
theorem StA.of {A : Option Addr} {n c : Nat} {PA : Option Addr} {m pc : Nat} {base room k ep : Int} {last : List UInt8} {cs : Array Value} (hl : last.length = 32) (h : cs.toList = stCells (.slice A n c) (.slice PA m pc) base room k last ep) : StA (stCells (.slice A n c) (.slice PA m pc) base room k last ep) cs := by
  have hz : cs.size = 38 := by rw [← Array.length_toList, h]; unfold stCells; rw [List.length_append, lg_len hl]; rfl
  refine ⟨h, hz, by rw [hz]; kernel_rfl, (fun e => by rw [e] at hz; simp at hz), ?_⟩
  rw [h]
  intro v hv
  rcases List.mem_append.1 hv with hv | hv
  · exact one_lg _ _ _ _ _ _ rfl rfl v hv
  · rw [List.mem_singleton.1 hv]; rfl
noncomputable def zst : Array Value := match (Tryd.prog.info? 38).bind (·.zero) with | some (.agg c) => c | _ => #[]
theorem zst_size : zst.size = 38 := by kernel_rfl
theorem zst_zero (w : World) : (zeroValue 38).run Tryd.prog w = .ok (.agg zst) w := by kernel_rfl
theorem zst_letter : ∃ zs : Array Value, zs.size = 38 ∧ (∀ w, (zeroValue 38).run Tryd.prog w = .ok (.agg zs) w) ∧ ¬ zs = #[] :=
  ⟨zst, zst_size, zst_zero, fun h => by have := zst_size; rw [h] at this; cases this⟩
theorem built_st (s0 s1 : Value) (base room n : Int) {last : List UInt8} {lv : Array Value} (hl : last.length = 32) (hv : lv.toList = lgCells s0 s1 base room n last) (ep : Int) :
    Tryd.prog.built 38 [(0, .agg lv), (1, .int .i64 ep)] = some (stCells s0 s1 base room n last ep).toArray := by
  obtain rfl : lv = (lgCells s0 s1 base room n last).toArray := by rw [← hv]
  obtain ⟨a0, a1, a2, a3, a4, a5, a6, a7, a8, a9, b0, b1, b2, b3, b4, b5, b6, b7, b8, b9, c0, c1, c2, c3, c4, c5, c6, c7, c8, c9, d0, d1, rfl⟩ := list32 hl
  kernel_rfl
/-- A built store, as a letter. -/
theorem st_letter {A : Option Addr} {n c : Nat} {PA : Option Addr} {m pc : Nat} {base room k : Int} {last : List UInt8} {lv : Array Value} (hl : last.length = 32) (hv : lv.toList = lgCells (.slice A n c) (.slice PA m pc) base room k last) (ep : Int) :
    ∃ ss, StA (stCells (.slice A n c) (.slice PA m pc) base room k last ep) ss ∧ Tryd.prog.built 38 [(0, .agg lv), (1, .int .i64 ep)] = some ss :=
  ⟨_, StA.of hl rfl, built_st _ _ _ _ _ hl hv ep⟩
theorem st_d {d0 d1 : Value} {base room n ep : Int} {last : List UInt8} {w : World} {g : Nat} {t : TypeId} (hl : last.length = 32) (hb : Blk w g t (stCells d0 d1 base room n last ep)) :
    w.cell? ⟨g, 0, none⟩ = some d0 ∧ w.cell? ⟨g, 1, none⟩ = some d1 ∧ w.cell? ⟨g, 2, none⟩ = some (.int .i64 base) ∧ w.cell? ⟨g, 3, none⟩ = some (.int .i64 room) ∧ w.cell? ⟨g, 4, none⟩ = some (.int .i64 n) ∧ w.cell? ⟨g, 37, none⟩ = some (.int .i64 ep) :=
  ⟨(hb.cell 0).trans rfl, (hb.cell 1).trans rfl, (hb.cell 2).trans rfl, (hb.cell 3).trans rfl, (hb.cell 4).trans rfl, (hb.cell 37).trans (by unfold stCells; rw [List.getElem?_append_right (by rw [lg_len hl]; omega), lg_len hl]; rfl)⟩
theorem st_lg {d0 d1 : Value} {base room n ep : Int} {last : List UInt8} (hl : last.length = 32) : ((stCells d0 d1 base room n last ep).drop 0).take 37 = lgCells d0 d1 base room n last := by
  unfold stCells; rw [List.drop_zero, List.take_left' (lg_len hl)]
theorem roomS_le (n : Int) : roomS n ≤ 1024 := by unfold roomS; split <;> omega
theorem roomS_nat {n : Int} (h : 4 ≤ n) : 4 + 8 * (roomS n : Int) ≤ n := by unfold roomS; rw [if_neg (by omega)]; omega
/-- Where a region begins. -/
def begS (r : Int) (room : Nat) : Int := 4 + r * 4 * room
theorem begS_rng {r : Int} (hr : r = 0 ∨ r = 1) {m : Nat} (hm : m ≤ 1024) : 4 ≤ begS r m ∧ begS r m ≤ 4100 := by
  unfold begS
  rcases hr with rfl | rfl
  · omega
  · omega
/-- A frame over more. -/
theorem Fr.step {lo lo' : Nat} {X : Nat → Prop} {w w' W : World} (h : Fr lo X w' W) (hl : lo ≤ lo') (hs : w.heap.size ≤ w'.heap.size) (hb : ∀ k, lo' ≤ k → k < w.heap.size → ¬ X k → w'.heap[k]? = w.heap[k]?) : Fr lo' X w W :=
  fun k h1 h2 h3 => (h k (Nat.le_trans hl h1) (Nat.lt_of_lt_of_le h2 hs) h3).trans (hb k h1 h2 h3)
theorem Fr.keep {lo : Nat} {X : Nat → Prop} {w w' W : World} (h : Fr lo X w W) (hk : Keep w' w) : Fr lo X w' W :=
  fun k h1 h2 h3 => (h k h1 (Nat.lt_of_lt_of_le h2 hk.size) h3).trans (hk.block k h2)

/-- What a store that is opened is. -/
structure SOp (b : List UInt8) (ps : List WP) (ep : Int) (base : Int) (room : Nat) (B : List UInt8) (hs : List Hd) : Prop where
  epE : ep = (lookB (bytesQ b ps)).1
  baseE : base = begS (lookB (bytesQ b ps)).2.1 room
  roomE : room = roomS ((b.length / 32 : Nat) : Int)
  R : Reop b ps base room B hs

set_option maxRecDepth 100000 in
set_option maxHeartbeats 4000000 in
theorem sopen_w (A : Option Addr) (b : List UInt8) (c : Nat) (PA : Option Addr) (ws : List WriteR) (pc : Nat) (w : World) (h : DOk w A b c PA ws pc) (hS : ShaOk w) (hp : ws.length ≤ 300) :
    Calls Tryd.prog 12 #[DV A b.length c PA ws.length pc] w fun e w' => ∃ ep base room B hs A' c' cs Ah ch, e = .returned (.tuple #[.agg cs, .slice Ah hs.length ch]) ∧ SOp b (ws.map WriteR.pl) ep base room B hs ∧
      StA (stCells (.slice A' B.length c') (.slice none 0 0) base room (hs.length : Nat) (lastL 0 z32 hs) ep) cs ∧ (∀ W, Fr w.heap.size (fun k => (Value.slice Ah hs.length ch).ownBlock = some k) w' W → DOk W A' B c' none [] 0) ∧
      w'.ownsRow w.heap.size 65 68 (.slice Ah hs.length ch) hs.length (hs.flatMap Hd.cells) ∧ (∀ x ∈ hs, x.ok) ∧ Keep w w' := by
  have F1 : Hid (∀ w', Keep w w' → Calls Tryd.prog 21 #[DV A b.length c PA ws.length pc] w' fun e w'' => e = .returned (.tuple #[.int .i64 (lookB (bytesQ b (ws.map WriteR.pl))).1, .int .i64 (lookB (bytesQ b (ws.map WriteR.pl))).2.1]) ∧ Keep w' w'') := fun w' hk => by
    have h1 := find_any A b c PA ws pc w' (h.keep hk) (hS.keep hk)
    rw [bytesD_Q] at h1; exact h1
  have hT := look_told (bytesQ b (ws.map WriteR.pl))
  have hbc := h.bc; have hcm := h.cm
  unfold maxLen at hcm
  have R1 : Hid (∀ w' base room, Keep w w' → (-9223372036854775808 ≤ base ∧ base ≤ 9223372036854775807) → Calls Tryd.prog 31 #[DV A b.length c PA ws.length pc, .int .i64 base, .int .i64 room] w' fun e w'' => ∃ B hs A' c' cs Ah ch, e = .returned (.tuple #[.agg cs, .slice Ah hs.length ch]) ∧ Reop b (ws.map WriteR.pl) base room B hs ∧
      LogA (lgCells (.slice A' B.length c') (.slice none 0 0) base room (hs.length : Nat) (lastL 0 z32 hs)) cs ∧ (∀ W, Fr w'.heap.size (fun k => (Value.slice Ah hs.length ch).ownBlock = some k) w'' W → DOk W A' B c' none [] 0) ∧
      w''.ownsRow w'.heap.size 65 68 (.slice Ah hs.length ch) hs.length (hs.flatMap Hd.cells) ∧ (∀ x ∈ hs, x.ok) ∧ Keep w' w'') := fun w' base room hk hb => reop_w A b c PA ws pc base room w' (h.keep hk) (hS.keep hk) hb hp
  have HSO : Hid (∀ ep r room B hs, ep = (lookB (bytesQ b (ws.map WriteR.pl))).1 → r = (lookB (bytesQ b (ws.map WriteR.pl))).2.1 → room = roomS ((b.length / 32 : Nat) : Int) → Reop b (ws.map WriteR.pl) (begS r room) room B hs → SOp b (ws.map WriteR.pl) ep (begS r room) room B hs) := fun ep r room B hs h1 h2 h3 h4 => ⟨h1, by rw [h2], h3, h4⟩
  have hrm := roomS_le ((b.length / 32 : Nat) : Int)
  have M1 : Hid (∀ w', Calls Tryd.prog 9 #[.int .i64 ((b.length / 32 : Nat) : Int)] w' fun e w'' => e = .returned (.int .i64 (roomS ((b.length / 32 : Nat) : Int))) ∧ w' = w'') := fun w' => room_any _ w' (by omega)
  generalize hLe : lookB (bytesQ b (ws.map WriteR.pl)) = L at *
  obtain ⟨ep, r, sl⟩ := L
  generalize hRe : roomS ((b.length / 32 : Nat) : Int) = room at *
  have HRe := Lib.hid hRe
  have HSO2 : Hid (∀ B hs, Reop b (ws.map WriteR.pl) (begS r room) room B hs → SOp b (ws.map WriteR.pl) ep (begS r room) room B hs) := fun B hs h4 => HSO.out ep r room B hs rfl rfl rfl h4
  have hbeg := begS_rng hT.r hrm
  have hr := hT.r
  have hbeg2 : 0 ≤ r ∧ r ≤ 1 := by rcases hr with e | e <;> (simp only at e; omega)
  have E1 : Hid (∀ w', Calls Tryd.prog 32 #[.int .i64 r, .int .i64 (room : Int)] w' fun e w'' => e = .returned (.int .i64 (begS r room)) ∧ Keep w' w'') := fun w' => (begin_any r room w' hbeg2 (by omega)).mono fun e w'' ⟨h1, h2⟩ => ⟨h1, by rw [h2]; exact Below.refl _ _⟩
  obtain ⟨zs, hz1, hz2, hz3⟩ := zst_letter
  obtain ⟨zl, hl1, hl2, hl3⟩ := zlog_letter
  clear HSO hT hr hbeg2 hLe hRe h hS hp
  generalize hbg : begS r room = beg at *
  clear hbg
  generalize b.length = bl at *
  generalize ws.length = wl at *
  go_enter Tryd.func12, Tryd.ntmps12
  go_upto_region 1 with fail
  obtain ⟨w1, hw1⟩ : ∃ w1, w1 = (w.alloc (.cells #[.slice A bl c, .slice PA wl pc] 32)).alloc (.cells zs 38) := ⟨_, rfl⟩
  have HD1 : Hid (Blk w1 w.heap.size 32 [.slice A bl c, .slice PA wl pc]) := by rw [hw1]; exact (Blk.new w _ [.slice A bl c, .slice PA wl pc]).alloc _
  have HR1 : Hid (Blk w1 (w.heap.size + 1) 38 zs.toList) := by
    rw [hw1]
    have h1 := Blk.new (w.alloc (.cells #[.slice A bl c, .slice PA wl pc] 32)) 38 zs.toList
    rw [World.size_alloc] at h1
    exact h1
  have HK1 : Hid (Keep w w1) := by rw [hw1]; exact keep_trans (keep_new _ _) (keep_new _ _)
  have hz11 : w.heap.size + 2 ≤ w1.heap.size := by rw [hw1]; simp
  rw [← hw1]
  clear hw1
  have c0 := HD1.out.cell 0; have c1 := HD1.out.cell 1
  simp only [List.getElem?_cons_zero, List.getElem?_cons_succ] at c0 c1
  go_wp2_with fail
  refine (F1.out w1 HK1.out).mono ?_
  rintro e w2 ⟨rfl, k2⟩
  replace c0 := keep_cell k2 c0; replace c1 := keep_cell k2 c1
  have HK2 := Lib.hid (keep_trans HK1.out k2)
  have HR2 := Lib.hid (HR1.out.keep k2)
  have hz12 : w1.heap.size ≤ w2.heap.size := k2.size
  clear k2
  go_wp2_with fail
  refine (ssectors_any A bl c (.slice PA wl pc) w2 (by omega)).mono ?_
  rintro e w3 ⟨rfl, k3⟩
  replace c0 := keep_cell k3 c0; replace c1 := keep_cell k3 c1
  have HK3 := Lib.hid (keep_trans HK2.out k3)
  have HR3 := Lib.hid (HR2.out.keep k3)
  have hz23 : w2.heap.size ≤ w3.heap.size := k3.size
  clear k3
  go_wp2_with fail
  refine (M1.out w3).mono ?_
  rintro e _ ⟨rfl, rfl⟩
  have C0 := Lib.hid c0; have C1 := Lib.hid c1
  clear c0 c1 HD1
  go_upto_region 3 with fail
  go_cut [7, 8] (fun s7 s8 wx => ∃ p B hs A' c' cs Ah ch, s7 = .pointer (some ⟨p, 0, none⟩) ∧ s8 = .slice Ah hs.length ch ∧ w3.heap.size ≤ p ∧ Hid (Keep w3 wx) ∧ Hid (Reop b (ws.map WriteR.pl) beg room B hs) ∧ Hid (LogA (lgCells (.slice A' B.length c') (.slice none 0 0) beg room (hs.length : Nat) (lastL 0 z32 hs)) cs) ∧ Hid (Blk wx p 36 cs.toList) ∧
      Hid (∀ W, Fr w3.heap.size (fun k => (Value.slice Ah hs.length ch).ownBlock = some k) wx W → DOk W A' B c' none [] 0) ∧ Hid (wx.ownsRow w3.heap.size 65 68 (.slice Ah hs.length ch) hs.length (hs.flatMap Hd.cells)) ∧ Hid (∀ x ∈ hs, x.ok))
  case first =>
    refine wp_region_tree (.take [0,1,2,4] (.fork 3 (.fork 5 (.take [6,7,8] (.force [9] .done)) 9 (.force [5] (.take [6,7,8] .done))) 9 (.force [3,5] (.take [6,7,8] .done)))) [10,11] (by kernel_rfl) (by kernel_rfl) (fun y0 hk => ?_)
    have Q := Lib.hid hk
    clear hk
    refine mt_take y0 (Below.refl _ _) ?_
    simp only [pick_cons, pick_nil, nth_zero, nth_succ]
    have a0 := aft_cell (keep_cell Q.out C0.out); have a1 := aft_cell (keep_cell Q.out C1.out)
    iterate 4 (go_big_quiet_step (fail))
    clear a0 a1
    refine wpQuiet_nil (mt_fork ?_ ?_)
    · simp only [pick_cons, pick_nil, nth_zero, nth_succ]
      refine fc_step rfl (fun K hK => ?_)
      go_simp
      (with_reducible refine (E1.out y0).mono ?_)
      rintro e y1 ⟨rfl, hk⟩
      refine hK _ _ hk ?_
      clear hK K
      have HQ3 : w3.heap.size ≤ y0.heap.size := Q.out.size
      replace Q := Lib.hid (keep_trans Q.out hk)
      have hs_y1 : y0.heap.size ≤ y1.heap.size := hk.size
      clear hk
      refine fc_nil (mt_fork ?_ ?_)
      · simp only [pick_cons, pick_nil, nth_zero, nth_succ]
        refine fc_step rfl (fun K hK => ?_)
        go_simp
        (with_reducible refine (R1.out y1 beg room (keep_trans HK3.out Q.out) (by omega)).mono ?_)
        rintro e y2 ⟨B, hs, A5, c5, cs, Ah, ch, rfl, hR, hcs, hd, own, hok, hk⟩
        refine hK _ _ hk ?_
        clear hK K
        have HQ5 : w3.heap.size ≤ y1.heap.size := Q.out.size
        replace Q := Lib.hid (keep_trans Q.out hk)
        have hs_y2 : y1.heap.size ≤ y2.heap.size := hk.size
        have hcz := hcs.z; have hcn := hcs.n; have hci := hcs.i
        have HRo := Lib.hid hR; have Hcs := Lib.hid hcs; have Hok := Lib.hid hok
        have Hown := Lib.hid (own_lowH own HQ5)
        have HownN : Hid (∀ k, (Value.slice Ah hs.length ch).ownBlock = some k → y1.heap.size ≤ k ∧ k < y2.heap.size) := fun k e => own.lt k e
        have Hdk := Lib.hid hd
        have HKK5 : Hid (Keep y2 y2) := Below.refl _ _
        clear hR hcs hd own hok
        clear hk
        refine fc_nil (mt_take y2 (Below.refl _ _) ?_)
        simp only [pick_cons, pick_nil, nth_zero, nth_succ]
        repeat (go_big_quiet_step (fail))
        refine wpQuiet_nil (mt_force ?_)
        simp only [pick_cons, pick_nil, nth_zero, nth_succ]
        refine fc_step rfl (fun K hK => ?_)
        go_simp
        refine hK _ _ (keep_new _ _) ?_
        clear hK K
        obtain ⟨y3, hy⟩ : ∃ y3, y3 = y2.alloc (.cells zl 36) := ⟨_, rfl⟩
        have HP9 : Hid (Blk y3 y2.heap.size 36 zl.toList) := by rw [hy]; exact Blk.new y2 _ zl.toList
        have hk : Keep y2 y3 := by rw [hy]; exact keep_new _ _
        rw [← hy]
        clear hy
        have HP9s : y2.heap.size < y3.heap.size := HP9.out.lt
        have HP9n := Q.out.size
        replace Q := Lib.hid (keep_trans Q.out hk)
        have hs_y3 : y2.heap.size ≤ y3.heap.size := hk.size
        replace HKK5 := Lib.hid (keep_trans HKK5.out hk)
        replace Hown := Lib.hid (own_keep Hown.out hk)
        clear hk
        generalize hp : y2.heap.size = p9 at *
        have HP9a : y2.heap.size ≤ p9 := Nat.le_of_eq hp
        have HP9b : p9 ≤ y2.heap.size := Nat.le_of_eq hp.symm
        clear hp
        refine fc_nil (mt_end ?_)
        obtain ⟨wa, hsta, hba, hga⟩ := run_store_blk (P := Tryd.prog) cs.toList HP9.out (by simp [hl1, hcz]) Hcs.out.o
        have Hba := Lib.hid hba; have Hga := Lib.hid hga
        have hKs := HKK5.out.size; have hPl := HP9.out.lt; have hga1 := hga.size; have hQs := Q.out.size
        have hne : (Value.slice Ah hs.length ch).ownBlock ≠ some p9 := fun e => by have := HownN.out p9 e; omega
        clear hba hga
        go_wp2
        go_meet
        refine ⟨p9, B, hs, A5, c5, cs, Ah, ch, rfl, rfl, by omega, Lib.hid (Q.out.grown Hga.out (by omega) (fun q hq => by injection hq with hq; omega)), HRo, Hcs, Hba, Lib.hid (fun W hW => Hdk.out W (fun k h1 h2 h3 => ?_)), Lib.hid (Hown.out.kept Hga.out (.inr hne)), Hok⟩
        exact (hW k (by omega) (by omega) h3).trans ((Hga.out.block k (by omega) (fun e => by have e2 : k = p9 := Option.some.inj e; omega)).trans (HKK5.out.block k h2))
      · simp only [pick_cons, pick_nil, nth_zero, nth_succ]
        refine fc_step rfl (fun K hK => ?_)
        go_simp
        refine hK _ _ (keep_new _ _) ?_
        clear hK K
        obtain ⟨y4, hy⟩ : ∃ y4, y4 = y1.alloc (.cells zl 36) := ⟨_, rfl⟩
        have HP9 : Hid (Blk y4 y1.heap.size 36 zl.toList) := by rw [hy]; exact Blk.new y1 _ zl.toList
        have hk : Keep y1 y4 := by rw [hy]; exact keep_new _ _
        rw [← hy]
        clear hy
        have HP9s : y1.heap.size < y4.heap.size := HP9.out.lt
        have HP9n := Q.out.size
        replace Q := Lib.hid (keep_trans Q.out hk)
        have hs_y4 : y1.heap.size ≤ y4.heap.size := hk.size
        clear hk
        generalize hp : y1.heap.size = p9 at *
        have HP9a : y1.heap.size ≤ p9 := Nat.le_of_eq hp
        have HP9b : p9 ≤ y1.heap.size := Nat.le_of_eq hp.symm
        clear hp
        refine fc_nil (mt_force ?_)
        simp only [pick_cons, pick_nil, nth_zero, nth_succ]
        refine fc_step rfl (fun K hK => ?_)
        go_simp
        (with_reducible refine (R1.out y4 beg room (keep_trans HK3.out Q.out) (by omega)).mono ?_)
        rintro e y5 ⟨B, hs, A5, c5, cs, Ah, ch, rfl, hR, hcs, hd, own, hok, hk⟩
        refine hK _ _ hk ?_
        clear hK K
        have HQ5 : w3.heap.size ≤ y4.heap.size := Q.out.size
        replace Q := Lib.hid (keep_trans Q.out hk)
        have hs_y5 : y4.heap.size ≤ y5.heap.size := hk.size
        replace HP9 := Lib.hid (HP9.out.keep hk)
        have hcz := hcs.z; have hcn := hcs.n; have hci := hcs.i
        have HRo := Lib.hid hR; have Hcs := Lib.hid hcs; have Hok := Lib.hid hok
        have Hown := Lib.hid (own_lowH own HQ5)
        have HownN : Hid (∀ k, (Value.slice Ah hs.length ch).ownBlock = some k → y4.heap.size ≤ k ∧ k < y5.heap.size) := fun k e => own.lt k e
        have Hdk := Lib.hid hd
        have HKK5 : Hid (Keep y5 y5) := Below.refl _ _
        clear hR hcs hd own hok
        clear hk
        refine fc_nil (mt_take y5 (Below.refl _ _) ?_)
        simp only [pick_cons, pick_nil, nth_zero, nth_succ]
        repeat (go_big_quiet_step (fail))
        refine wpQuiet_nil (mt_end ?_)
        obtain ⟨wa, hsta, hba, hga⟩ := run_store_blk (P := Tryd.prog) cs.toList HP9.out (by simp [hl1, hcz]) Hcs.out.o
        have Hba := Lib.hid hba; have Hga := Lib.hid hga
        have hKs := HKK5.out.size; have hPl := HP9.out.lt; have hga1 := hga.size; have hQs := Q.out.size
        have hne : (Value.slice Ah hs.length ch).ownBlock ≠ some p9 := fun e => by have := HownN.out p9 e; omega
        clear hba hga
        go_wp2
        go_meet
        refine ⟨p9, B, hs, A5, c5, cs, Ah, ch, rfl, rfl, by omega, Lib.hid (Q.out.grown Hga.out (by omega) (fun q hq => by injection hq with hq; omega)), HRo, Hcs, Hba, Lib.hid (fun W hW => Hdk.out W (fun k h1 h2 h3 => ?_)), Lib.hid (Hown.out.kept Hga.out (.inr hne)), Hok⟩
        exact (hW k (by omega) (by omega) h3).trans ((Hga.out.block k (by omega) (fun e => by have e2 : k = p9 := Option.some.inj e; omega)).trans (HKK5.out.block k h2))
    · simp only [pick_cons, pick_nil, nth_zero, nth_succ]
      refine fc_step rfl (fun K hK => ?_)
      go_simp
      refine hK _ _ (keep_new _ _) ?_
      clear hK K
      obtain ⟨y6, hy⟩ : ∃ y6, y6 = y0.alloc (.cells zl 36) := ⟨_, rfl⟩
      have HP9 : Hid (Blk y6 y0.heap.size 36 zl.toList) := by rw [hy]; exact Blk.new y0 _ zl.toList
      have hk : Keep y0 y6 := by rw [hy]; exact keep_new _ _
      rw [← hy]
      clear hy
      have HP9s : y0.heap.size < y6.heap.size := HP9.out.lt
      have HP9n := Q.out.size
      replace Q := Lib.hid (keep_trans Q.out hk)
      have hs_y6 : y0.heap.size ≤ y6.heap.size := hk.size
      clear hk
      generalize hp : y0.heap.size = p9 at *
      have HP9a : y0.heap.size ≤ p9 := Nat.le_of_eq hp
      have HP9b : p9 ≤ y0.heap.size := Nat.le_of_eq hp.symm
      clear hp
      refine fc_nil (mt_force ?_)
      simp only [pick_cons, pick_nil, nth_zero, nth_succ]
      refine fc_step rfl (fun K hK => ?_)
      go_simp
      (with_reducible refine (E1.out y6).mono ?_)
      rintro e y7 ⟨rfl, hk⟩
      refine hK _ _ hk ?_
      clear hK K
      have HQ3 : w3.heap.size ≤ y6.heap.size := Q.out.size
      replace Q := Lib.hid (keep_trans Q.out hk)
      have hs_y7 : y6.heap.size ≤ y7.heap.size := hk.size
      replace HP9 := Lib.hid (HP9.out.keep hk)
      clear hk
      refine fc_step rfl (fun K hK => ?_)
      go_simp
      (with_reducible refine (R1.out y7 beg room (keep_trans HK3.out Q.out) (by omega)).mono ?_)
      rintro e y8 ⟨B, hs, A5, c5, cs, Ah, ch, rfl, hR, hcs, hd, own, hok, hk⟩
      refine hK _ _ hk ?_
      clear hK K
      have HQ5 : w3.heap.size ≤ y7.heap.size := Q.out.size
      replace Q := Lib.hid (keep_trans Q.out hk)
      have hs_y8 : y7.heap.size ≤ y8.heap.size := hk.size
      replace HP9 := Lib.hid (HP9.out.keep hk)
      have hcz := hcs.z; have hcn := hcs.n; have hci := hcs.i
      have HRo := Lib.hid hR; have Hcs := Lib.hid hcs; have Hok := Lib.hid hok
      have Hown := Lib.hid (own_lowH own HQ5)
      have HownN : Hid (∀ k, (Value.slice Ah hs.length ch).ownBlock = some k → y7.heap.size ≤ k ∧ k < y8.heap.size) := fun k e => own.lt k e
      have Hdk := Lib.hid hd
      have HKK5 : Hid (Keep y8 y8) := Below.refl _ _
      clear hR hcs hd own hok
      clear hk
      refine fc_nil (mt_take y8 (Below.refl _ _) ?_)
      simp only [pick_cons, pick_nil, nth_zero, nth_succ]
      repeat (go_big_quiet_step (fail))
      refine wpQuiet_nil (mt_end ?_)
      obtain ⟨wa, hsta, hba, hga⟩ := run_store_blk (P := Tryd.prog) cs.toList HP9.out (by simp [hl1, hcz]) Hcs.out.o
      have Hba := Lib.hid hba; have Hga := Lib.hid hga
      have hKs := HKK5.out.size; have hPl := HP9.out.lt; have hga1 := hga.size; have hQs := Q.out.size
      have hne : (Value.slice Ah hs.length ch).ownBlock ≠ some p9 := fun e => by have := HownN.out p9 e; omega
      clear hba hga
      go_wp2
      go_meet
      refine ⟨p9, B, hs, A5, c5, cs, Ah, ch, rfl, rfl, by omega, Lib.hid (Q.out.grown Hga.out (by omega) (fun q hq => by injection hq with hq; omega)), HRo, Hcs, Hba, Lib.hid (fun W hW => Hdk.out W (fun k h1 h2 h3 => ?_)), Lib.hid (Hown.out.kept Hga.out (.inr hne)), Hok⟩
      exact (hW k (by omega) (by omega) h3).trans ((Hga.out.block k (by omega) (fun e => by have e2 : k = p9 := Option.some.inj e; omega)).trans (HKK5.out.block k h2))
  case rest =>
    obtain ⟨p, B, hs, A5, c5, cs, Ah, ch, rfl, rfl, hp, Kc, HRo, Hcs, HBp, Hdk, Hown, Hok⟩ := hcut
    have hci := Hcs.out.i; have hcz := Hcs.out.z; have hcn := Hcs.out.n
    obtain ⟨ss, hss, hbu⟩ := st_letter (lastL_len hs 0 z32 rfl) Hcs.out.l ep
    have hsz := hss.z; have hsn := hss.n; have hsi := hss.i
    have Hss := Lib.hid hss; have Hbu := Lib.hid hbu
    have hKc := Kc.out.size
    obtain ⟨wa, hsta, hba, hga⟩ := run_store_blk (P := Tryd.prog) ss.toList (HR3.out.keep Kc.out) (by simp [hz1, hsz]) Hss.out.o
    have Hba := Lib.hid hba; have Hga := Lib.hid hga
    clear hss hbu hba hga
    go_wp2_with (first
      | ((with_reducible refine load_arr p cs (Eq.trans ?_ rfl) HBp.out _ Tryd.underlying36 rfl hci ?_); rfl)
      | ((with_reducible refine list_build [(0, .agg cs), (1, .int .i64 ep)] ss (Eq.trans ?_ rfl) Hbu.out ?_); rfl))
    have hb8 := Hba.out
    have hz33 : w1.heap.size ≤ w3.heap.size := by omega
    refine bodyPost_ret (v := .tuple #[.agg ss, .slice Ah hs.length ch]) (results_cell_tmp_row Tryd.results12 _ _ (w.heap.size + 1) _ _ _ _ rfl hb8 Tryd.underlying38 rfl (by rw [List.size_toArray, Array.length_toList]; exact hsi)) rfl ⟨ep, beg, room, B, hs, A5, c5, ss, Ah, ch, rfl, HSO2.out B hs HRo.out, Hss.out, fun W hW => Hdk.out W (fun k h1 h2 h3 => ?_), own_lowH (Hown.out.kept Hga.out (.inr (fun e => by have h1 := (Hown.out.lt _ e).1; omega))) (by omega), Hok.out, (keep_trans HK3.out Kc.out).grown Hga.out (by have := HK3.out.size; omega) (fun q hq => by injection hq with hq; omega)⟩
    have hga1 := Hga.out.size
    exact (hW k (by omega) (by omega) h3).trans (Hga.out.block k h2 (fun e => by have e2 : k = w.heap.size + 1 := Option.some.inj e; omega))
end Go.Proofs.YtbomnldpmkedbaaDoor
