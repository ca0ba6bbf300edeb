/- A header's bytes. -/
import Derived.Test.YteoilddiilegmaaDoorSha
import Derived.Lib.EndianBits
import Derived.Laws.ResultCell
set_option linter.unusedSimpArgs false
set_option linter.unusedVariables false
namespace Go.Proofs.YteoilddiilegmaaDoor
open Go.RowKit
attribute [local go_sem ↓] Go.wp_at_zero Go.wp_at_succ

theorem range_of {w : World} {g : Nat} {t : TypeId} {all : List Value} (hb : Blk w g t all) (off : Nat) (cs : List Value) (hs : (all.drop off).take cs.length = cs) : w.rangeAt g off cs := fun j v hv => by
  have hj : j < cs.length := (List.getElem?_eq_some_iff.1 hv).1
  rw [hb.cell]
  rw [← hs, List.getElem?_take_of_lt hj, List.getElem?_drop] at hv
  exact hv
theorem grown_set {w w' : World} {g o : Nat} {u : Value} (h : w.grownBy w' (some g)) : w.grownBy (w'.setCell ⟨g, o, none⟩ u) (some g) :=
  h.trans ⟨rfl, rfl, rfl, by simp, fun k _ hne => Below.heap_setCell w' _ u k (fun e => hne (by rw [e]))⟩
theorem grown_refl (w : World) (r : Option Nat) : w.grownBy w r := ⟨rfl, rfl, rfl, Nat.le_refl _, fun _ _ _ => rfl⟩

/-- A byte of a word, the lowest first. -/
def leE (x : UInt32) (k : Nat) : Int := (x.toNat : Int) / 2 ^ (8 * k) % 256
def layK (l : List UInt8) (off : Nat) (x : UInt32) : Nat → List UInt8
  | 0 => l
  | k + 1 => (layK l off x k).set (off + k) (w8 (leE x k))
theorem layK_len (l : List UInt8) (off : Nat) (x : UInt32) (k : Nat) : (layK l off x k).length = l.length := by
  induction k with
  | zero => rfl
  | succ k ih => rw [layK, List.length_set, ih]

set_option maxRecDepth 100000 in
set_option maxHeartbeats 1000000 in
theorem lay4_any (g off n c : Nat) (t : TypeId) (l : List UInt8) (x : UInt32) (w : World) (hb : Blk w g t (l.map u8v)) (hn : 4 ≤ n) (hl : off + 4 ≤ l.length) :
    Calls Tryd.prog 40 #[.slice (some ⟨g, off, none⟩) n c, u32v x] w fun e w' => e = .returned (.tuple #[]) ∧ Blk w' g t ((layK l off x 4).map u8v) ∧ w.grownBy w' (some g) := by
  have Hb := Lib.hid hb; clear hb
  go_enter Tryd.func40, Tryd.ntmps40
  go_wp2_with fail
  go_loopw [5] (fun i wr => ∃ k : Nat, k ≤ 4 ∧ i = .int .i64 k ∧ Blk wr g t ((layK l off x k).map u8v) ∧ w.grownBy wr (some g)) (fun i _ => 4 - (intOf i).toNat)
  case atStart => exact ⟨0, by omega, rfl, Hb.out, grown_refl _ _⟩
  case round =>
    obtain ⟨k, hk, rfl, hb, hg⟩ := hrel
    by_cases hlt : k < 4
    · have hx := w32_hi x
      obtain ⟨o, ho⟩ : ∃ o, (layK l off x k)[off + k]? = some o := ⟨_, List.getElem?_eq_getElem (by rw [layK_len]; omega)⟩
      have c0 := hb.cell (off + k); rw [List.getElem?_map, ho, Option.map_some] at c0
      have f0 := hb.frozen (off + k)
      have Hb2 := Lib.hid hb; have Hg := Lib.hid hg
      clear hb hg ho
      go_wp2
      go_roundw
      case rel =>
        refine ⟨k + 1, by omega, by go_num, ?_, grown_set Hg.out⟩
        rw [layK, set_map8 _ _ (leE x k) (by unfold leE; omega) (by unfold leE; omega)]
        exact Hb2.out.set_ _ _
      case measure => simp [intOf]; omega
    · have Hk := Lib.hid (show k = 4 by omega)
      have Hb2 := Lib.hid hb; have Hg := Lib.hid hg
      clear hb hg
      go_wp2
      refine bodyPost_end (v := .tuple #[]) (by simp [results, Tryd.results40]) rfl ⟨rfl, ?_, Hg.out⟩
      have h := Hb2.out
      rw [Hk.out] at h
      exact h

structure Hd where
  ver : UInt32
  prev : List UInt8
  root : List UInt8
  time : UInt32
  bits : UInt32
  nonce : UInt32
def Hd.ok (h : Hd) : Prop := h.prev.length = 32 ∧ h.root.length = 32
def Hd.cells (h : Hd) : List Value := u32v h.ver :: (h.prev.map u8v ++ (h.root.map u8v ++ [u32v h.time, u32v h.bits, u32v h.nonce]))
theorem Hd.len {h : Hd} (hk : h.ok) : h.cells.length = 68 := by simp [Hd.cells, hk.1, hk.2]
def le4 (x : UInt32) : List UInt8 := [w8 (leE x 0), w8 (leE x 1), w8 (leE x 2), w8 (leE x 3)]
/-- A header's bytes. -/
def hputL (h : Hd) : List UInt8 := le4 h.ver ++ (h.prev ++ (h.root ++ (le4 h.time ++ (le4 h.bits ++ le4 h.nonce))))
theorem hputL_len {h : Hd} (hk : h.ok) : (hputL h).length = 80 := by simp [hputL, le4, hk.1, hk.2]

theorem layK_mid (a m b : List UInt8) (x : UInt32) (off : Nat) (ha : a.length = off) (hm : m.length = 4) : layK (a ++ (m ++ b)) off x 4 = a ++ (le4 x ++ b) := by
  subst ha
  match m, hm with
  | [p, q, r, s], _ => simp [layK, le4, List.set_append_right]
theorem splice_mid {α : Type} (a m b d : List α) (off : Nat) (ha : a.length = off) (hm : m.length = d.length) : splice (a ++ (m ++ b)) off d = a ++ (d ++ b) := by
  subst ha
  unfold splice
  rw [List.take_left, ← hm, ← List.drop_drop, List.drop_left, List.drop_left]

section
variable {w : World} {g : Nat} {t : TypeId} {h : Hd}
theorem hd_cell0 (hb : Blk w g t h.cells) (hk : h.ok) : w.cell? ⟨g, 0, none⟩ = some (u32v h.ver) := (hb.cell 0).trans rfl
theorem hd_tail (hk : h.ok) (j : Nat) : h.cells[65 + j]? = [u32v h.time, u32v h.bits, u32v h.nonce][j]? := by
  unfold Hd.cells
  rw [show 65 + j = (64 + j) + 1 by omega, List.getElem?_cons_succ, List.getElem?_append_right (by simp [hk.1]; omega), List.getElem?_append_right (by simp [hk.1, hk.2]; omega)]
  congr 1
  simp [hk.1, hk.2]; omega
theorem hd_cell65 (hb : Blk w g t h.cells) (hk : h.ok) : w.cell? ⟨g, 65, none⟩ = some (u32v h.time) := (hb.cell 65).trans (hd_tail hk 0)
theorem hd_cell66 (hb : Blk w g t h.cells) (hk : h.ok) : w.cell? ⟨g, 66, none⟩ = some (u32v h.bits) := (hb.cell 66).trans (hd_tail hk 1)
theorem hd_cell67 (hb : Blk w g t h.cells) (hk : h.ok) : w.cell? ⟨g, 67, none⟩ = some (u32v h.nonce) := (hb.cell 67).trans (hd_tail hk 2)
theorem hd_prev (hb : Blk w g t h.cells) (hk : h.ok) : Rd w (some ⟨g, 1, none⟩) (h.prev.map u8v) := by
  have h1 := hb.rd.sub 1 32 (by rw [Hd.len hk]; omega)
  rw [Nat.zero_add] at h1
  have e : (h.cells.drop 1).take 32 = h.prev.map u8v := by
    unfold Hd.cells
    rw [List.drop_succ_cons, List.drop_zero, List.take_left' (by simp [hk.1])]
  rwa [e] at h1
theorem hd_root (hb : Blk w g t h.cells) (hk : h.ok) : Rd w (some ⟨g, 33, none⟩) (h.root.map u8v) := by
  have h1 := hb.rd.sub 33 32 (by rw [Hd.len hk]; omega)
  rw [Nat.zero_add] at h1
  have e : (h.cells.drop 33).take 32 = h.root.map u8v := by
    unfold Hd.cells
    rw [List.drop_succ_cons, List.drop_left' (by simp [hk.1]), List.take_left' (by simp [hk.2])]
  rwa [e] at h1
end
theorem splice_mapH {α β : Type} (f : α → β) (b : List α) (off : Nat) (d : List α) : splice (b.map f) off (d.map f) = (splice b off d).map f := by
  simp [splice, List.map_append, List.map_take, List.map_drop]
theorem hput_steps (h : Hd) (hk : h.ok) : layK (layK (layK (splice (splice (layK (List.replicate 80 (0 : UInt8)) 0 h.ver 4) 4 h.prev) 36 h.root) 68 h.time 4) 72 h.bits 4) 76 h.nonce 4 = hputL h := by
  have hr : ∀ n m : Nat, List.replicate (n + m) (0 : UInt8) = List.replicate n 0 ++ List.replicate m 0 := fun n m => (List.replicate_append_replicate ..).symm
  have z0 : List.replicate 80 (0 : UInt8) = [] ++ (List.replicate 4 0 ++ (List.replicate 32 0 ++ (List.replicate 32 0 ++ (List.replicate 4 0 ++ (List.replicate 4 0 ++ (List.replicate 4 0 ++ [])))))) := by rfl
  rw [z0, layK_mid [] _ _ h.ver 0 rfl (by simp)]
  have e1 : ∀ (a b c : List UInt8), [] ++ (a ++ (b ++ c)) = a ++ (b ++ c) := fun _ _ _ => rfl
  rw [List.nil_append, splice_mid (le4 h.ver) _ _ h.prev 4 rfl (by simp [hk.1])]
  rw [← List.append_assoc (le4 h.ver), splice_mid (le4 h.ver ++ h.prev) _ _ h.root 36 (by simp [le4, hk.1]) (by simp [hk.2])]
  rw [← List.append_assoc (le4 h.ver ++ h.prev), layK_mid (le4 h.ver ++ h.prev ++ h.root) _ _ h.time 68 (by simp [le4, hk.1, hk.2]) (by simp)]
  rw [← List.append_assoc (le4 h.ver ++ h.prev ++ h.root), layK_mid (le4 h.ver ++ h.prev ++ h.root ++ le4 h.time) _ _ h.bits 72 (by simp [le4, hk.1, hk.2]) (by simp)]
  rw [← List.append_assoc (le4 h.ver ++ h.prev ++ h.root ++ le4 h.time), layK_mid (le4 h.ver ++ h.prev ++ h.root ++ le4 h.time ++ le4 h.bits) _ _ h.nonce 76 (by simp [le4, hk.1, hk.2]) (by simp)]
  simp [hputL]

/-- What a walk has to know of a header as a value. -/
structure HdA (h : Hd) (cs : Array Value) : Prop where
  l : cs.toList = h.cells
  z : cs.size = 68
  i : (Tryd.prog.info? 30).map (·.size) = some cs.size
  n : ¬ cs = #[]
  o : ∀ v ∈ cs.toList, v.oneCell' = true
theorem Hd.one (h : Hd) : ∀ u ∈ h.cells, u.oneCell' = true := by
  intro u hu
  unfold Hd.cells at hu
  simp only [List.mem_cons, List.mem_append, List.not_mem_nil, or_false] at hu
  rcases hu with rfl | hu | hu | rfl | rfl | rfl
  · rfl
  · exact one_w8 _ u hu
  · exact one_w8 _ u hu
  · rfl
  · rfl
  · rfl
theorem HdA.of {h : Hd} (hk : h.ok) : HdA h h.cells.toArray := by
  have hz : h.cells.toArray.size = 68 := by rw [List.size_toArray]; exact Hd.len hk
  exact ⟨rfl, hz, by rw [hz]; kernel_rfl, fun e => by rw [e] at hz; simp at hz, h.one⟩

noncomputable def z80 : Array Value := match (Tryd.prog.info? 65).bind (·.zero) with | some (.agg c) => c | _ => #[]
theorem z80_size : z80.size = 80 := by kernel_rfl
theorem z80_zero (w : World) : (zeroValue 65).run Tryd.prog w = .ok (.agg z80) w := by kernel_rfl
theorem z80_list : z80.toList = (List.replicate 80 (0 : UInt8)).map u8v := by kernel_rfl

set_option maxRecDepth 100000 in
set_option maxHeartbeats 3000000 in
theorem array_any (h : Hd) (cs : Array Value) (w : World) (hk : h.ok) (hcs : HdA h cs) :
    Calls Tryd.prog 29 #[.agg cs] w fun e w' => e = .returned (.agg ((hputL h).map u8v).toArray) ∧ Keep w w' := by
  obtain ⟨zs, hzs⟩ : ∃ zs, zs = z80 := ⟨_, rfl⟩
  have hz1 : zs.size = 80 := by rw [hzs]; exact z80_size
  have hz2 : ∀ w, (zeroValue 65).run Tryd.prog w = .ok (.agg zs) w := fun w => by rw [hzs]; exact z80_zero w
  have hz3 : ¬ zs = #[] := fun h => by rw [h] at hz1; cases hz1
  have Hzl : Hid (zs.toList = (List.replicate 80 (0 : UInt8)).map u8v) := by rw [hzs]; exact z80_list
  have hcz := hcs.z; have hcn := hcs.n
  have Hcs := Lib.hid hcs; have Hk := Lib.hid hk
  clear hzs hcs hk
  go_enter Tryd.func29, Tryd.ntmps29
  go_wp2_with fail
  obtain ⟨w1, hw1⟩ : ∃ w1, w1 = ((w.alloc (.cells cs 30)).alloc (.cells zs 65)).alloc (.cells zs 65) := ⟨_, rfl⟩
  have hB : Blk w1 w.heap.size 30 h.cells := by
    rw [hw1]; exact (((show Blk _ w.heap.size _ h.cells by rw [← Hcs.out.l]; exact Blk.new w _ cs.toList).alloc _).alloc _)
  have hR : Blk w1 (w.heap.size + 1) 65 zs.toList := by
    rw [hw1]
    have h1 := Blk.new (w.alloc (.cells cs 30)) 65 zs.toList
    rw [World.size_alloc] at h1
    exact h1.alloc _
  have hO : Blk w1 (w.heap.size + 1 + 1) 65 ((List.replicate 80 (0 : UInt8)).map u8v) := by
    rw [hw1, ← Hzl.out]
    have h1 := Blk.new ((w.alloc (.cells cs 30)).alloc (.cells zs 65)) 65 zs.toList
    rw [World.size_alloc, World.size_alloc] at h1
    exact h1
  have kw1 : Keep w w1 := by rw [hw1]; exact keep_trans (keep_trans (keep_new _ _) (keep_new _ _)) (keep_new _ _)
  rw [← hw1]
  clear hw1
  have HB1 := Lib.hid hB; have HR1 := Lib.hid hR; have HO1 := Lib.hid hO; have HK1 := Lib.hid kw1
  have HL1 : Hid ((List.replicate 80 (0 : UInt8)).length = 80) := List.length_replicate
  generalize hl1 : List.replicate 80 (0 : UInt8) = l1 at HO1 HL1
  have El1 := Lib.hid hl1
  clear hB hR hO kw1 hl1
  refine wp_region_tree (.take [0,1,2] .done) [3] (by kernel_rfl) (by kernel_rfl) (fun v2 k2 => ?_)
  have b2 := Lib.hid (HB1.out.keep k2); have r2 := Lib.hid (HR1.out.keep k2); have o2 := Lib.hid (HO1.out.keep k2); have q2 := Lib.hid (keep_trans HK1.out k2)
  have c2 := hd_cell0 b2.out Hk.out
  have a2 := aft_cell c2
  refine mt_take v2 (Below.refl _ _) ?_
  simp only [pick_cons, pick_nil, nth_zero, nth_succ]
  repeat (go_big_quiet_step (fail))
  refine wpQuiet_nil (mt_end ?_)
  clear a2 c2
  go_wp2_with fail
  refine (lay4_any (w.heap.size + 1 + 1) 0 80 80 _ l1 h.ver v2 o2.out (by omega) (by rw [HL1.out]; omega)).mono ?_
  rintro e w2 ⟨rfl, ho2, hg2⟩
  have HO2 := Lib.hid ho2; have HL2 : Hid ((layK l1 0 h.ver 4).length = 80) := (layK_len _ _ _ _).trans HL1.out
  have HB2 := Lib.hid (b2.out.grown hg2 (fun e => by injection e with e; omega)); have HR2 := Lib.hid (r2.out.grown hg2 (fun e => by injection e with e; omega))
  have HK2 : Hid (Keep w w2) := q2.out.grown hg2 q2.out.size (fun q hq => by injection hq with hq; omega)
  clear ho2 hg2
  generalize hl2 : layK l1 0 h.ver 4 = l2 at HO2 HL2
  have El2 := Lib.hid hl2
  clear hl2 HB1 HR1 HO1 HK1 b2 r2 o2 q2 k2 HL1
  go_upto_region 3 with fail
  refine wp_region_tree (.take [0,1,2] .done) [3] (by kernel_rfl) (by kernel_rfl) (fun v3 k3 => ?_)
  have b3 := Lib.hid (HB2.out.keep k3); have r3 := Lib.hid (HR2.out.keep k3); have o3 := Lib.hid (HO2.out.keep k3); have q3 := Lib.hid (keep_trans HK2.out k3)
  refine mt_take v3 (Below.refl _ _) ?_
  simp only [pick_cons, pick_nil, nth_zero, nth_succ]
  repeat (go_big_quiet_step (fail))
  refine wpQuiet_nil (mt_end ?_)
  refine wpList_cpy byteW (by rfl) _ _ (by rfl) (w.heap.size + 1 + 1) 4 76 76 (by rfl) (some ⟨w.heap.size, 1, none⟩) 32 32 (h.prev.map u8v) (by rfl) (by rw [List.length_map]; exact Hk.out.1) (hd_prev b3.out Hk.out) (one_w8 _) (l2.map u8v) _ o3.out (by rw [List.length_map, HL2.out]; omega) ?_
  intro w3 ho3 hg3
  simp only [Act.put, Array.set!_eq_setIfInBounds, List.setIfInBounds_toArray, List.set_cons_succ, List.set_cons_zero]
  have HO3 : Hid (Blk w3 (w.heap.size + 1 + 1) 65 ((splice l2 4 h.prev).map u8v)) := by
    have h := ho3.out
    rw [List.take_of_length_le (by rw [List.length_map]; have := Hk.out.1; omega), splice_mapH] at h
    exact h
  have HL3 : Hid ((splice l2 4 h.prev).length = 80) := (length_splice _ _ _ (by rw [HL2.out]; have := Hk.out.1; omega)).trans HL2.out
  have HB3 := Lib.hid (b3.out.grown hg3 (fun e => by injection e with e; omega)); have HR3 := Lib.hid (r3.out.grown hg3 (fun e => by injection e with e; omega))
  have HK3 : Hid (Keep w w3) := q3.out.grown hg3 q3.out.size (fun q hq => by injection hq with hq; omega)
  clear ho3 hg3
  generalize hl3 : splice l2 4 h.prev = l3 at HO3 HL3
  have El3 := Lib.hid hl3
  clear hl3 HB2 HR2 HO2 HK2 b3 r3 o3 q3 k3 HL2
  go_upto_region 4 with fail
  refine wp_region_tree (.take [0,1,2] .done) [3] (by kernel_rfl) (by kernel_rfl) (fun v4 k4 => ?_)
  have b4 := Lib.hid (HB3.out.keep k4); have r4 := Lib.hid (HR3.out.keep k4); have o4 := Lib.hid (HO3.out.keep k4); have q4 := Lib.hid (keep_trans HK3.out k4)
  refine mt_take v4 (Below.refl _ _) ?_
  simp only [pick_cons, pick_nil, nth_zero, nth_succ]
  repeat (go_big_quiet_step (fail))
  refine wpQuiet_nil (mt_end ?_)
  refine wpList_cpy byteW (by rfl) _ _ (by rfl) (w.heap.size + 1 + 1) 36 44 44 (by rfl) (some ⟨w.heap.size, 33, none⟩) 32 32 (h.root.map u8v) (by rfl) (by rw [List.length_map]; exact Hk.out.2) (hd_root b4.out Hk.out) (one_w8 _) (l3.map u8v) _ o4.out (by rw [List.length_map, HL3.out]; omega) ?_
  intro w4 ho4 hg4
  simp only [Act.put, Array.set!_eq_setIfInBounds, List.setIfInBounds_toArray, List.set_cons_succ, List.set_cons_zero]
  have HO4 : Hid (Blk w4 (w.heap.size + 1 + 1) 65 ((splice l3 36 h.root).map u8v)) := by
    have h := ho4.out
    rw [List.take_of_length_le (by rw [List.length_map]; have := Hk.out.2; omega), splice_mapH] at h
    exact h
  have HL4 : Hid ((splice l3 36 h.root).length = 80) := (length_splice _ _ _ (by rw [HL3.out]; have := Hk.out.2; omega)).trans HL3.out
  have HB4 := Lib.hid (b4.out.grown hg4 (fun e => by injection e with e; omega)); have HR4 := Lib.hid (r4.out.grown hg4 (fun e => by injection e with e; omega))
  have HK4 : Hid (Keep w w4) := q4.out.grown hg4 q4.out.size (fun q hq => by injection hq with hq; omega)
  clear ho4 hg4
  generalize hl4 : splice l3 36 h.root = l4 at HO4 HL4
  have El4 := Lib.hid hl4
  clear hl4 HB3 HR3 HO3 HK3 b4 r4 o4 q4 k4 HL3
  go_upto_region 5 with fail
  refine wp_region_tree (.take [0,1,2] .done) [3] (by kernel_rfl) (by kernel_rfl) (fun v5 k5 => ?_)
  have b5 := Lib.hid (HB4.out.keep k5); have r5 := Lib.hid (HR4.out.keep k5); have o5 := Lib.hid (HO4.out.keep k5); have q5 := Lib.hid (keep_trans HK4.out k5)
  have c5 := hd_cell65 b5.out Hk.out
  have a5 := aft_cell c5
  refine mt_take v5 (Below.refl _ _) ?_
  simp only [pick_cons, pick_nil, nth_zero, nth_succ]
  repeat (go_big_quiet_step (fail))
  refine wpQuiet_nil (mt_end ?_)
  clear a5 c5
  go_wp2_with fail
  refine (lay4_any (w.heap.size + 1 + 1) 68 12 12 _ l4 h.time v5 o5.out (by omega) (by rw [HL4.out]; omega)).mono ?_
  rintro e w5 ⟨rfl, ho5, hg5⟩
  have HO5 := Lib.hid ho5; have HL5 : Hid ((layK l4 68 h.time 4).length = 80) := (layK_len _ _ _ _).trans HL4.out
  have HB5 := Lib.hid (b5.out.grown hg5 (fun e => by injection e with e; omega)); have HR5 := Lib.hid (r5.out.grown hg5 (fun e => by injection e with e; omega))
  have HK5 : Hid (Keep w w5) := q5.out.grown hg5 q5.out.size (fun q hq => by injection hq with hq; omega)
  clear ho5 hg5
  generalize hl5 : layK l4 68 h.time 4 = l5 at HO5 HL5
  have El5 := Lib.hid hl5
  clear hl5 HB4 HR4 HO4 HK4 b5 r5 o5 q5 k5 HL4
  go_upto_region 6 with fail
  refine wp_region_tree (.take [0,1,2] .done) [3] (by kernel_rfl) (by kernel_rfl) (fun v6 k6 => ?_)
  have b6 := Lib.hid (HB5.out.keep k6); have r6 := Lib.hid (HR5.out.keep k6); have o6 := Lib.hid (HO5.out.keep k6); have q6 := Lib.hid (keep_trans HK5.out k6)
  have c6 := hd_cell66 b6.out Hk.out
  have a6 := aft_cell c6
  refine mt_take v6 (Below.refl _ _) ?_
  simp only [pick_cons, pick_nil, nth_zero, nth_succ]
  repeat (go_big_quiet_step (fail))
  refine wpQuiet_nil (mt_end ?_)
  clear a6 c6
  go_wp2_with fail
  refine (lay4_any (w.heap.size + 1 + 1) 72 8 8 _ l5 h.bits v6 o6.out (by omega) (by rw [HL5.out]; omega)).mono ?_
  rintro e w6 ⟨rfl, ho6, hg6⟩
  have HO6 := Lib.hid ho6; have HL6 : Hid ((layK l5 72 h.bits 4).length = 80) := (layK_len _ _ _ _).trans HL5.out
  have HB6 := Lib.hid (b6.out.grown hg6 (fun e => by injection e with e; omega)); have HR6 := Lib.hid (r6.out.grown hg6 (fun e => by injection e with e; omega))
  have HK6 : Hid (Keep w w6) := q6.out.grown hg6 q6.out.size (fun q hq => by injection hq with hq; omega)
  clear ho6 hg6
  generalize hl6 : layK l5 72 h.bits 4 = l6 at HO6 HL6
  have El6 := Lib.hid hl6
  clear hl6 HB5 HR5 HO5 HK5 b6 r6 o6 q6 k6 HL5
  go_upto_region 7 with fail
  refine wp_region_tree (.take [0,1,2] .done) [3] (by kernel_rfl) (by kernel_rfl) (fun v7 k7 => ?_)
  have b7 := Lib.hid (HB6.out.keep k7); have r7 := Lib.hid (HR6.out.keep k7); have o7 := Lib.hid (HO6.out.keep k7); have q7 := Lib.hid (keep_trans HK6.out k7)
  have c7 := hd_cell67 b7.out Hk.out
  have a7 := aft_cell c7
  refine mt_take v7 (Below.refl _ _) ?_
  simp only [pick_cons, pick_nil, nth_zero, nth_succ]
  repeat (go_big_quiet_step (fail))
  refine wpQuiet_nil (mt_end ?_)
  clear a7 c7
  go_wp2_with fail
  refine (lay4_any (w.heap.size + 1 + 1) 76 4 4 _ l6 h.nonce v7 o7.out (by omega) (by rw [HL6.out]; omega)).mono ?_
  rintro e w7 ⟨rfl, ho7, hg7⟩
  have HO7 := Lib.hid ho7; have HL7 : Hid ((layK l6 76 h.nonce 4).length = 80) := (layK_len _ _ _ _).trans HL6.out
  have HB7 := Lib.hid (b7.out.grown hg7 (fun e => by injection e with e; omega)); have HR7 := Lib.hid (r7.out.grown hg7 (fun e => by injection e with e; omega))
  have HK7 : Hid (Keep w w7) := q7.out.grown hg7 q7.out.size (fun q hq => by injection hq with hq; omega)
  clear ho7 hg7
  generalize hl7 : layK l6 76 h.nonce 4 = l7 at HO7 HL7
  have El7 := Lib.hid hl7
  clear hl7 HB6 HR6 HO6 HK6 b7 r7 o7 q7 k7 HL6
  have hput : l7 = hputL h := by
    rw [← El7.out, ← El6.out, ← El5.out, ← El4.out, ← El3.out, ← El2.out, ← El1.out]
    exact hput_steps h Hk.out
  have HP := Lib.hid hput
  clear hput El7 El6 El5 El4 El3 El2 El1
  obtain ⟨ps, hps⟩ : ∃ ps : Array Value, ps.toList = l7.map u8v := ⟨(l7.map u8v).toArray, rfl⟩
  have hpz : ps.size = 80 := by rw [← Array.length_toList, hps, List.length_map, HL7.out]
  have hpn : ¬ ps = #[] := by intro h; rw [h] at hpz; simp at hpz
  have hpi : (Tryd.prog.info? 65).map (·.size) = some ps.size := by rw [hpz]; kernel_rfl
  have Ho7 : Hid (Blk w7 (w.heap.size + 1 + 1) 65 ps.toList) := by rw [hps]; exact HO7.out
  have Hps := Lib.hid hps
  obtain ⟨w8, hst, hb8, hg8⟩ := run_store_blk (P := Tryd.prog) ps.toList HR7.out (by simp [hz1, hpz]) (by rw [hps]; exact one_w8 _)
  have Hb8 := Lib.hid hb8; have Hg8 := Lib.hid hg8
  clear hps hb8 hg8
  go_upto_region 8 with fail
  go_wp2_with ((with_reducible refine load_arr (w.heap.size + 1 + 1) ps (Eq.trans ?_ rfl) Ho7.out (.array 80 5) Tryd.underlying65 (arr_row _ _) hpi ?_); rfl)
  have hb8 := Hb8.out
  refine bodyPost_ret (v := .agg ps) (results_cell_row Tryd.results29 _ _ (w.heap.size + 1) _ _ _ _ rfl hb8 Tryd.underlying65 rfl (by rw [List.size_toArray, Array.length_toList, hpz]; kernel_rfl)) rfl ⟨?_, HK7.out.grown Hg8.out HK7.out.size (fun q hq => by injection hq with hq; omega)⟩
  rw [← HP.out, ← Hps.out, Array.toArray_toList]
end Go.Proofs.YteoilddiilegmaaDoor

namespace Go.Proofs.YteoilddiilegmaaDoor
open Go.RowKit
attribute [local go_sem ↓] Go.wp_at_zero Go.wp_at_succ

theorem z80_letter : ∃ zs : Array Value, zs.size = 80 ∧ (∀ w, (zeroValue 65).run Tryd.prog w = .ok (.agg zs) w) ∧ ¬ zs = #[] :=
  ⟨z80, z80_size, z80_zero, fun h => by have := z80_size; rw [h] at this; cases this⟩

theorem results_cell_tmp_row {P : Program} {fn : Func} {p u : Tmp} {ty : TypeId} (h : fn.results = #[.cell p ty, .tmp u]) (tmps : Array Value) (w : World) (g : Nat) (t : TypeId) (cs : Array Value) (fr : Nat × Nat) (d : TypeDesc)
    (hp : tmps.getD p undef = .pointer (some ⟨g, 0, none⟩)) (hg : w.heap[g]? = some (.cells cs t fr))
    (hu : P.underlying ty = some d) (hd : (match d with | .struct _ | .array _ _ => true | _ => false) = true) (hi : (P.info? ty).map (·.size) = some cs.size) :
    (results fn tmps).run P w = .ok (.tuple #[.agg cs, tmps.getD u undef]) w := by
  rw [results_cell_tmp h, hp]
  simp [asAddr, run_loadVar_row w g t ty cs fr d hg hu hd hi]

noncomputable def zhead : Array Value := match (Tryd.prog.info? 30).bind (·.zero) with | some (.agg c) => c | _ => #[]
theorem zhead_size : zhead.size = 68 := by kernel_rfl
theorem zhead_zero (w : World) : (zeroValue 30).run Tryd.prog w = .ok (.agg zhead) w := by kernel_rfl
def z32 : List UInt8 := List.replicate 32 0
theorem zhead_list : zhead.toList = Hd.cells ⟨0, z32, z32, 0, 0, 0⟩ := by kernel_rfl
theorem zhead_letter : ∃ zs : Array Value, zs.size = 68 ∧ (∀ w, (zeroValue 30).run Tryd.prog w = .ok (.agg zs) w) ∧ ¬ zs = #[] ∧ zs.toList = Hd.cells ⟨0, z32, z32, 0, 0, 0⟩ :=
  ⟨zhead, zhead_size, zhead_zero, (fun h => by have := zhead_size; rw [h] at this; cases this), zhead_list⟩

theorem zhash_letter : ∃ zs : Array Value, zs.size = 32 ∧ (∀ w, (zeroValue 28).run Tryd.prog w = .ok (.agg zs) w) ∧ ¬ zs = #[] ∧ zs.toList = (List.replicate 32 (0 : UInt8)).map u8v :=
  ⟨zhash, zhash_size, zhash_zero, (fun h => by have := zhash_size; rw [h] at this; cases this), zhash_list⟩
end Go.Proofs.YteoilddiilegmaaDoor
