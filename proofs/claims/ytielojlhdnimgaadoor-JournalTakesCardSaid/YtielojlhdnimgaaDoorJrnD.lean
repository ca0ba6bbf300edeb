/- Parts of a variable loaded and stored; journal.records; what a reader is. -/
import Derived.Test.YtielojlhdnimgaaDoorJrnC
import Derived.Great.BuildSlice
set_option linter.unusedSimpArgs false
set_option linter.unusedVariables false
namespace Go.Proofs.YtielojlhdnimgaaDoor
open Go.RowKit
attribute [local go_sem ↓] Go.wp_at_zero Go.wp_at_succ

section
variable {P : Program}
theorem range_of {w : World} {g : Nat} {t : TypeId} {all : List Value} (hb : Blk w g t all) (off : Nat) (cs : List Value) (hs : (all.drop off).take cs.length = cs) : w.rangeAt g off cs := fun j v hv => by
  have hj : j < cs.length := (List.getElem?_eq_some_iff.1 hv).1
  rw [hb.cell]
  rw [← hs, List.getElem?_take_of_lt hj, List.getElem?_drop] at hv
  exact hv
/-- A part of a variable is loaded. -/
theorem load_part {w : World} {ops : Array Oper} {rest : List Oper} {a : Act} {Q : Exit → Act → World → Prop} {x : Operand} {dst : Option Tmp} {ty ty' : TypeId} {pos : String} {af : Array Edge}
    (g off : Nat) (cs : Array Value) (hx : a.eval x = .pointer (some ⟨g, off, none⟩)) (hr : w.rangeAt g off cs.toList) (d : TypeDesc) (hu : P.underlying ty = some d) (hd : d.isRow = true) (hi : (P.info? ty).map (·.size) = some cs.size)
    (h : wpList P ops Q rest (a.put dst (.agg cs)) w) : wpList P ops Q ({ dst := dst, op := .load ty x, type := ty', pos := pos, after := af, guard := none } :: rest) a w :=
  wpList_load_mid rfl ty x rfl g off hx cs.toList d hr hu hd (by simpa using hi) h
theorem wpQuiet_load_part {w0 : World} {ops : Array Oper} {rest : List Oper} {a : Act} {Q : Act → Prop} {x : Operand} {dst : Option Tmp} {ty ty' : TypeId} {pos : String} {af : Array Edge}
    (g off : Nat) (cs : Array Value) (hx : a.eval x = .pointer (some ⟨g, off, none⟩)) (hr : w0.rangeAt g off cs.toList) (d : TypeDesc) (hu : P.underlying ty = some d) (hd : d.isRow = true) (hi : (P.info? ty).map (·.size) = some cs.size)
    (h : wpQuiet P ops (fun w' => ∃ x, w' = aft w0 x) Q rest (a.put dst (.agg cs))) :
    wpQuiet P ops (fun w' => ∃ x, w' = aft w0 x) Q ({ dst := dst, op := .load ty x, type := ty', pos := pos, after := af, guard := none } :: rest) a := by
  refine BigFrame.wpQuiet_want (by simp [Region.wanted]) fun K hK => ⟨.agg cs, fun w hw => ?_, hK _ h⟩
  obtain ⟨y, rfl⟩ := hw
  unfold Oper.quietAt execOp
  have hl := run_loadVar_mid (P := P) (aft w0 y) g off ty cs.toList d (fun j v hv => keep_cell (aft_keep w0 y) (hr j v hv)) hu hd (by simpa using hi)
  simp only [hx, Instr.loadAt, Instr.sureAddr, Sem.run_bind, Sem.run_pure, Result.andThen_ok, hl, Array.toArray_toList]
  exact ⟨rfl, rfl⟩
/-- A part of a variable is stored. -/
theorem run_store_part {w : World} {g : Nat} {t : TypeId} {all : List Value} (off : Nat) (cs : List Value) (hb : Blk w g t all) (hl : off + cs.length ≤ all.length) (h1 : ∀ v ∈ cs, v.oneCell' = true) :
    ∃ w', (storeCells ⟨g, off, none⟩ cs 0).run P w = .ok () w' ∧ Blk w' g t (splice all off cs) ∧ w.grownBy w' (some g) := by
  have hrun := run_storeCells_at P g off t cs 0 all.toArray w hb (by simpa using hl) h1
  simp only [Nat.add_zero, List.toList_toArray] at hrun
  refine ⟨_, hrun, ?_, rfl, rfl, rfl, by simp [World.setRow], fun k _ hne => setRow_other w g k _ (fun e => hne (by rw [e]))⟩
  have h := setRow_heap w g all.toArray (all.take off ++ cs ++ all.drop (off + cs.length)).toArray t (0, 0) hb
  unfold Blk splice
  rw [← List.append_assoc]
  exact h
end

theorem foldl_set : ∀ (l : List Value) (k : Nat) (acc : Array Value), k + l.length = acc.size → (l.zipIdx k).foldl (fun cs x => cs.setIfInBounds (0 + x.2) x.1) acc = (acc.toList.take k ++ l).toArray
  | [], k, acc, h => by
    have : acc.toList.take k = acc.toList := List.take_of_length_le (by simp at h ⊢; omega)
    simp [this]
  | v :: r, k, acc, h => by
    rw [List.zipIdx_cons, List.foldl_cons, foldl_set r (k + 1) _ (by simp at h ⊢; omega)]
    have hk : k < acc.size := by simp at h; omega
    congr 1
    rw [Array.toList_setIfInBounds, Nat.zero_add, List.take_succ_eq_append_getElem (by simpa using hk), List.getElem_set_self, List.take_set_of_le (Nat.le_refl _)]
    simp
/-- A slice of one struct is built. -/
theorem wp_build1 {P : Program} {t e : TypeId} {zc : Array Value} {size bytes : Nat} (T : ElT P t e (.agg zc) size bytes) {o : Oper} {a : Act} {w : World} {K : Act → World → Prop} {Q : Exit → Act → World → Prop} (x : Operand) (ho : o.op = .buildSlice t 1 #[(0, x)])
    (cs : Array Value) (hz : cs.size = size) (hsm : size ≤ 1000) (hx : a.eval x = .agg cs)
    (h : K (a.put o.dst (.slice (some ⟨w.heap.size, 0, none⟩) 1 1)) (w.alloc (.cells cs e))) : o.wp P a w K Q := by
  obtain ⟨i, hi, hiz, his, _⟩ := T.info
  have hzc : zc.size = size := T.zs
  have hp := T.pos
  refine wp_buildSlice t e 1 _ ho cs i (.agg zc) T.und hi hiz (by rw [his]; omega) (by rw [his]; omega) ?_ h
  have hc : (Value.agg cs).cells = cs := rfl
  simp only [List.map_toArray, List.map_cons, List.map_nil, hx, Instr.fill, hc, his, hz, Nat.zero_mul, Nat.one_mul]
  rw [if_neg (by simp)]
  congr 1
  rw [← Array.foldl_toList, Array.toList_zipIdx]
  have hf := foldl_set cs.toList 0 ((Array.range size).map fun j => zc[j % zc.size]!) (by simp [hz])
  simp only [List.take_zero, List.nil_append, Array.toArray_toList] at hf
  exact hf

/-- How many records a room has. -/
def roomN (room : Int) : Nat := (min (max room 0) 1024).toNat
set_option maxHeartbeats 400000 in
theorem records_any (room : Int) (w : World) : Calls Tryd.prog 29 #[.int .i64 room] w fun e w' => e = .returned (.int .i64 (roomN room)) ∧ w = w' := by
  have e : (roomN room : Int) = min (max room 0) 1024 := by unfold roomN; omega
  have He := Lib.hid e; clear e
  go_enter Tryd.func29, Tryd.ntmps29
  go_wp2
  all_goals go_ret
  all_goals exact ⟨ret_int (by have h := He.out; omega), rfl⟩

/-- A reader's cells. -/
def rdCells (d0 d1 : Value) (base room n : Int) (last : List UInt8) (bs hv : Value) : List Value := [d0, d1, .int .i64 base, .int .i64 room, .int .i64 n] ++ (last.map u8v ++ [bs, hv])
section
variable {d0 d1 bs hv : Value} {base room n : Int} {last : List UInt8}
theorem rdCells_len (hl : last.length = 32) : (rdCells d0 d1 base room n last bs hv).length = 39 := by simp [rdCells, hl]
theorem rdCells_last (hl : last.length = 32) : ((rdCells d0 d1 base room n last bs hv).drop 5).take 32 = last.map u8v := by
  show (last.map u8v ++ [bs, hv]).take 32 = last.map u8v
  rw [List.take_left' (by simp [hl])]
theorem rdCells_37 (hl : last.length = 32) : (rdCells d0 d1 base room n last bs hv)[37]? = some bs := by
  unfold rdCells
  rw [List.getElem?_append_right (by simp), List.getElem?_append_right (by simp [hl])]; simp [hl]
theorem rdCells_38 (hl : last.length = 32) : (rdCells d0 d1 base room n last bs hv)[38]? = some hv := by
  unfold rdCells
  rw [List.getElem?_append_right (by simp), List.getElem?_append_right (by simp [hl])]; simp [hl]
theorem rdCells_setN (m : Int) : (rdCells d0 d1 base room n last bs hv).set 4 (.int .i64 m) = rdCells d0 d1 base room m last bs hv := rfl
theorem rdCells_setLast (hl : last.length = 32) {s : List UInt8} (hs : s.length = 32) : splice (rdCells d0 d1 base room n last bs hv) 5 (s.map u8v) = rdCells d0 d1 base room n s bs hv := by
  unfold rdCells
  exact splice_mid _ _ _ _ 5 rfl (by simp [hl, hs])
theorem rdCells_setH (hl : last.length = 32) (hv' : Value) : (rdCells d0 d1 base room n last bs hv).set 38 hv' = rdCells d0 d1 base room n last bs hv' := by
  unfold rdCells
  rw [List.set_append_right _ _ (by simp), List.set_append_right _ _ (by simp [hl])]
  simp [hl]
end

/-- A reader: its block, the headers that it has, the bytes that it reads. -/
structure RSt (w0 w : World) (G : Nat) (d0 d1 : Value) (bn : Nat) (room : Int) (k : Nat) (last : List UInt8) (A : Option Addr) (bs : List UInt8) (c : Nat) (hv : Value) (hs : List Hd) : Prop where
  kp : Keep w0 w
  gB : w0.heap.size ≤ G
  blk : Blk w G 79 (rdCells d0 d1 bn room k last (.slice A bs.length c) hv)
  own : w.ownsRow w0.heap.size 44 68 hv hs.length (hs.flatMap Hd.cells)
  oG : hv.ownBlock ≠ some G
  rdG : RdX (some G) w A (bs.map u8v)
  rdH : RdX hv.ownBlock w A (bs.map u8v)
theorem RSt.keep {w0 w w' : World} {G : Nat} {d0 d1 : Value} {bn : Nat} {room : Int} {k : Nat} {last : List UInt8} {A : Option Addr} {bs : List UInt8} {c : Nat} {hv : Value} {hs : List Hd} (h : RSt w0 w G d0 d1 bn room k last A bs c hv hs) (hk : Keep w w') : RSt w0 w' G d0 d1 bn room k last A bs c hv hs :=
  ⟨keep_trans h.kp hk, h.gB, h.blk.keep hk, own_keep h.own hk, h.oG, h.rdG.keep hk, h.rdH.keep hk⟩
/-- What the next one is. -/
def nxD (bn : Nat) (room : Int) (k : Nat) (last bs : List UInt8) : Bool × Hd × List UInt8 :=
  if k < roomN room ∧ (bn + 4 * k) * 32 + 128 ≤ bs.length then takeD last k ((bs.drop ((bn + 4 * k) * 32)).take 128) else (false, zHd, z32)
set_option maxRecDepth 100000 in
theorem headT : ElT Tryd.prog 26 44 (Value.agg zhead) 68 80 := ElT.mk' Tryd.underlying26 (by kernel_rfl) zhead_size (by omega)
end Go.Proofs.YtielojlhdnimgaaDoor
