/- Hashes and headers compared; loads behind a guard. -/
import Derived.Test.YteoilddiilegmaaDoorHdA
import Derived.Stop.BytesEq
set_option linter.unusedSimpArgs false
set_option linter.unusedVariables false
namespace Go.Proofs.YteoilddiilegmaaDoor
open Go.RowKit
attribute [local go_sem ↓] Go.wp_at_zero Go.wp_at_succ

theorem HashA.cell {l : List UInt8} {cs : Array Value} (h : HashA l cs) : cs = (l.map Extern.Stop.cell).toArray := h.e.symm
theorem u8_size (w : World) : (sizeOf 5).run Tryd.prog w = .ok 1 w := by kernel_rfl
theorem hash_eqIn (d : Nat) {l m : List UInt8} {cs ds : Array Value} (h : HashA l cs) (g : HashA m ds) (hl : l.length = 32) (hm : m.length = 32) (w : World) :
    (Op.equalIn (d + 2) 28 (.agg cs) (.agg ds)).run Tryd.prog w = .ok (l == m) w := by
  rw [h.cell, g.cell]
  exact run_equalIn_bytes w d _ 5 32 hash_under Tryd.underlying5 u8_size l m hl hm
theorem hash_eql {l m : List UInt8} {cs ds : Array Value} (h : HashA l cs) (g : HashA m ds) (hl : l.length = 32) (hm : m.length = 32) (w : World) :
    (Go.binOp .eql 28 (.agg cs) (.agg ds)).run Tryd.prog w = .ok (.bool (l == m)) w := by
  rw [run_eql_struct, show (10000 : Nat) = 9998 + 2 from rfl, hash_eqIn 9998 h g hl hm]
  rfl
theorem hash_guard : Tryd.prog.eqGuardType Tryd.prog.depth 28 = false := by kernel_rfl

/-- Are headers the same? -/
def hdEq (a b : Hd) : Bool := a.ver == b.ver && (a.prev == b.prev && (a.root == b.root && (a.time == b.time && (a.bits == b.bits && a.nonce == b.nonce))))
theorem hdEq_iff (a b : Hd) : hdEq a b = true ↔ a = b := by
  unfold hdEq
  simp only [Bool.and_eq_true, beq_iff_eq]
  constructor
  · rintro ⟨h1, h2, h3, h4, h5, h6⟩
    cases a; cases b
    simp only at h1 h2 h3 h4 h5 h6
    subst h1 h2 h3 h4 h5 h6
    rfl
  · rintro rfl; exact ⟨rfl, rfl, rfl, rfl, rfl, rfl⟩
instance hdDec : DecidableEq Hd := fun a b => decidable_of_iff _ (hdEq_iff a b)
theorem hd_guard : Tryd.prog.eqGuardType Tryd.prog.depth 30 = false := by kernel_rfl
theorem hd_stood : Tryd.prog.stoodInHeld 30 = false := by kernel_rfl
theorem hash_size (w : World) : (sizeOf 28).run Tryd.prog w = .ok 32 w := by kernel_rfl
theorem hash_agg (w : World) : (isAgg 28).run Tryd.prog w = .ok true w := by kernel_rfl
theorem part_hash (cs : Array Value) (off : Nat) (w : World) : (part 28 cs off).run Tryd.prog w = .ok (.agg (cs.extract off (off + 32))) w := by
  simp only [part, Sem.run_bind, hash_agg, hash_size, Result.andThen_ok, if_true, Sem.run_pure]
theorem u32_agg (w : World) : (isAgg 22).run Tryd.prog w = .ok false w := by kernel_rfl
theorem part_u32 {cs : Array Value} {off : Nat} {v : Value} (h : cs[off]? = some v) (w : World) : (part 22 cs off).run Tryd.prog w = .ok v w := by
  simp only [part, Sem.run_bind, u32_agg, Result.andThen_ok, Bool.false_eq_true, if_false, h, Sem.run_pure]
theorem eq_u32 (d : Nat) (x y : UInt32) (w : World) : (Op.equalIn (d + 1) 22 (u32v x) (u32v y)).run Tryd.prog w = .ok (x == y) w := by
  unfold u32v
  rw [run_equalIn_int w d _ .u32 .u32 _ _ Tryd.underlying22]
  congr 1
  rw [Bool.eq_iff_iff]
  simp [← UInt32.toNat_inj]
  exact Int.ofNat_inj
theorem part_of {cs : Array Value} {all : List Value} (hc : cs.toList = all) (off : Nat) {l : List UInt8} (hl : l.length = 32) (h : (all.drop off).take 32 = l.map u8v) : HashA l (cs.extract off (off + 32)) := by
  have e : cs.extract off (off + 32) = (l.map u8v).toArray := by
    apply Array.ext'
    rw [Array.toList_extract, List.extract_eq_take_drop, hc, Nat.add_sub_cancel_left, h]
  rw [e]; exact HashA.of hl
theorem HdA.parts {h : Hd} {cs : Array Value} (hA : HdA h cs) (hk : h.ok) : cs[0]? = some (u32v h.ver) ∧ HashA h.prev (cs.extract 1 33) ∧ HashA h.root (cs.extract 33 65) ∧ cs[65]? = some (u32v h.time) ∧ cs[66]? = some (u32v h.bits) ∧ cs[67]? = some (u32v h.nonce) := by
  have hg : ∀ k, cs[k]? = h.cells[k]? := fun k => by rw [← hA.l, Array.getElem?_toList]
  refine ⟨(hg 0).trans rfl, part_of hA.l 1 hk.1 ?_, part_of hA.l 33 hk.2 ?_, (hg 65).trans (hd_tail hk 0), (hg 66).trans (hd_tail hk 1), (hg 67).trans (hd_tail hk 2)⟩
  · unfold Hd.cells
    rw [List.drop_succ_cons, List.drop_zero, List.take_left' (by simp [hk.1])]
  · unfold Hd.cells
    rw [List.drop_succ_cons, List.drop_left' (by simp [hk.1]), List.take_left' (by simp [hk.2])]
def eqF (P : Program) (d : Nat) (xs ys : Array Value) : List (Bool × TypeId × Nat) → Sem Bool
  | [] => pure true
  | f :: fs =>
    if f.1 = true then do
      let a ← part f.2.1 xs f.2.2
      let b ← part f.2.1 ys f.2.2
      let r ← Op.equalIn d f.2.1 a b
      if (!r) = true then pure false else eqF P d xs ys fs
    else eqF P d xs ys fs
theorem eqF_of (P : Program) (d : Nat) (xs ys : Array Value) : ∀ fs : List Field, Op.eqFields d xs ys fs = eqF P d xs ys (fs.map fun f => (f.name != "_", f.type, f.offset))
  | [] => rfl
  | f :: fs => by
    rw [List.map_cons, Op.eqFields, eqF, eqF_of P d xs ys fs]
    simp
theorem eqF_step {P : Program} {d : Nat} {xs ys : Array Value} {t : TypeId} {o : Nat} {fs : List (Bool × TypeId × Nat)} {a b : Value} {r s : Bool} {w : World} (ha : (part t xs o).run P w = .ok a w) (hb : (part t ys o).run P w = .ok b w)
    (hr : (Op.equalIn d t a b).run P w = .ok r w) (hs : (eqF P d xs ys fs).run P w = .ok s w) : (eqF P d xs ys ((true, t, o) :: fs)).run P w = .ok (r && s) w := by
  rw [eqF, if_pos rfl]
  simp only [Sem.run_bind, ha, hb, hr, Result.andThen_ok]
  cases r
  · simp
  · simpa using hs
theorem hd_fields : ((Tryd.prog.fieldsOf 30).toList.map fun f => (f.name != "_", f.type, f.offset)) = [(true, 22, 0), (true, 28, 1), (true, 28, 33), (true, 22, 65), (true, 22, 66), (true, 22, 67)] := by kernel_rfl
theorem hd_struct : Tryd.prog.underlying 30 = some (.struct (Tryd.prog.fieldsOf 30)) := by kernel_rfl
theorem hd_eqIn (d : Nat) {h g : Hd} {cs ds : Array Value} (hc : HdA h cs) (hd : HdA g ds) (hk : h.ok) (gk : g.ok) (w : World) :
    (Op.equalIn (d + 3) 30 (.agg cs) (.agg ds)).run Tryd.prog w = .ok (hdEq h g) w := by
  obtain ⟨a0, a1, a2, a3, a4, a5⟩ := hc.parts hk
  obtain ⟨b0, b1, b2, b3, b4, b5⟩ := hd.parts gk
  rw [run_equalIn_agg w (d + 2) _ _ _ hd_struct hd_stood, eqF_of Tryd.prog, hd_fields]
  have e : hdEq h g = (h.ver == g.ver && (h.prev == g.prev && (h.root == g.root && (h.time == g.time && (h.bits == g.bits && (h.nonce == g.nonce && true)))))) := by rw [Bool.and_true]; rfl
  rw [e]
  refine eqF_step (part_u32 a0 w) (part_u32 b0 w) (eq_u32 _ _ _ w) (eqF_step (part_hash _ _ w) (part_hash _ _ w) (hash_eqIn d a1 b1 hk.1 gk.1 w) (eqF_step (part_hash _ _ w) (part_hash _ _ w) (hash_eqIn d a2 b2 hk.2 gk.2 w) (eqF_step (part_u32 a3 w) (part_u32 b3 w) (eq_u32 _ _ _ w) (eqF_step (part_u32 a4 w) (part_u32 b4 w) (eq_u32 _ _ _ w) (eqF_step (part_u32 a5 w) (part_u32 b5 w) (eq_u32 _ _ _ w) ?_)))))
  rw [eqF]; rfl
theorem hd_eql {h g : Hd} {cs ds : Array Value} (hc : HdA h cs) (hd : HdA g ds) (hk : h.ok) (gk : g.ok) (w : World) :
    (Go.binOp .eql 30 (.agg cs) (.agg ds)).run Tryd.prog w = .ok (.bool (hdEq h g)) w := by
  rw [run_eql_struct, show (10000 : Nat) = 9997 + 3 from rfl, hd_eqIn 9997 hc hd hk gk]
  rfl
theorem hd_neq {h g : Hd} {cs ds : Array Value} (hc : HdA h cs) (hd : HdA g ds) (hk : h.ok) (gk : g.ok) (w : World) :
    (Go.binOp .neq 30 (.agg cs) (.agg ds)).run Tryd.prog w = .ok (.bool (!hdEq h g)) w := by
  rw [run_neq_struct, show (10000 : Nat) = 9997 + 3 from rfl, hd_eqIn 9997 hc hd hk gk]
  rfl

/-- A part of a variable is loaded by an operation that is guarded. -/
theorem load_partg {P : Program} {w : World} {ops : Array Oper} {rest : List Oper} {a : Act} {Q : Exit → Act → World → Prop} {x : Operand} {dst : Option Tmp} {ty ty' : TypeId} {pos : String} {af : Array Edge} {gd : Option (Nat × Bool)}
    (g off : Nat) (cs : Array Value) (hx : a.eval x = .pointer (some ⟨g, off, none⟩)) (hr : w.rangeAt g off cs.toList) (d : TypeDesc) (hu : P.underlying ty = some d) (hd : d.isRow = true) (hi : (P.info? ty).map (·.size) = some cs.size)
    (hw : Region.wanted { dst := dst, op := .load ty x, type := ty', pos := pos, after := af, guard := gd } (yielded ops a.tmps) = true)
    (h : wpList P ops Q rest (a.put dst (.agg cs)) w) : wpList P ops Q ({ dst := dst, op := .load ty x, type := ty', pos := pos, after := af, guard := gd } :: rest) a w := by
  unfold wpList
  rw [if_pos hw]
  left
  exact wp_load_mid ty x rfl g off hx cs.toList d hr hu hd (by simpa using hi) h

theorem wpQuiet_load_partg {P : Program} {w0 : World} {ops : Array Oper} {rest : List Oper} {a : Act} {Q : Act → Prop} {x : Operand} {dst : Option Tmp} {ty ty' : TypeId} {pos : String} {af : Array Edge} {gd : Option (Nat × Bool)}
    (g off : Nat) (cs : Array Value) (hx : a.eval x = .pointer (some ⟨g, off, none⟩)) (hr : w0.rangeAt g off cs.toList) (d : TypeDesc) (hu : P.underlying ty = some d) (hd : d.isRow = true) (hi : (P.info? ty).map (·.size) = some cs.size)
    (hw : Region.wanted { dst := dst, op := .load ty x, type := ty', pos := pos, after := af, guard := gd } (yielded ops a.tmps) = true)
    (h : wpQuiet P ops (fun w' => ∃ x, w' = aft w0 x) Q rest (a.put dst (.agg cs))) :
    wpQuiet P ops (fun w' => ∃ x, w' = aft w0 x) Q ({ dst := dst, op := .load ty x, type := ty', pos := pos, after := af, guard := gd } :: rest) a := by
  refine BigFrame.wpQuiet_want hw fun K hK => ⟨.agg cs, fun w hw => ?_, hK _ h⟩
  obtain ⟨y, rfl⟩ := hw
  unfold Oper.quietAt execOp
  have hl := run_loadVar_mid (P := P) (aft w0 y) g off ty cs.toList d (fun j v hv => keep_cell (aft_keep w0 y) (hr j v hv)) hu hd (by simpa using hi)
  simp only [hx, Instr.loadAt, Instr.sureAddr, Sem.run_bind, Sem.run_pure, Result.andThen_ok, hl, Array.toArray_toList]
  exact ⟨rfl, rfl⟩
end Go.Proofs.YteoilddiilegmaaDoor
