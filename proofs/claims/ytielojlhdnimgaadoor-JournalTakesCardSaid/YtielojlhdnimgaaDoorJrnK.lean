/- Sums and headers compared; whether a log may be. -/
import Derived.Test.YtielojlhdnimgaaDoorJrnJ
import Derived.Stop.BytesEq
set_option linter.unusedSimpArgs false
set_option linter.unusedVariables false
namespace Go.Proofs.YtielojlhdnimgaaDoor
open Go.RowKit
attribute [local go_sem ↓] Go.wp_at_zero Go.wp_at_succ

theorem HashA.cell {l : List UInt8} {cs : Array Value} (h : HashA l cs) : cs = (l.map Extern.Stop.cell).toArray := h.e.symm
theorem u8_size (w : World) : (sizeOf 5).run Tryd.prog w = .ok 1 w := by kernel_rfl
theorem hash_eqIn (d : Nat) {l m : List UInt8} {cs ds : Array Value} (h : HashA l cs) (g : HashA m ds) (hl : l.length = 32) (hm : m.length = 32) (w : World) :
    (Op.equalIn (d + 2) 33 (.agg cs) (.agg ds)).run Tryd.prog w = .ok (l == m) w := by
  rw [h.cell, g.cell]
  exact run_equalIn_bytes w d _ 5 32 hash_under Tryd.underlying5 u8_size l m hl hm
theorem hash_eql {l m : List UInt8} {cs ds : Array Value} (h : HashA l cs) (g : HashA m ds) (hl : l.length = 32) (hm : m.length = 32) (w : World) :
    (Go.binOp .eql 33 (.agg cs) (.agg ds)).run Tryd.prog w = .ok (.bool (l == m)) w := by
  rw [run_eql_struct, show (10000 : Nat) = 9998 + 2 from rfl, hash_eqIn 9998 h g hl hm]
  rfl
theorem hash_guard : Tryd.prog.eqGuardType Tryd.prog.depth 33 = false := by kernel_rfl

/-- Are headers the same? -/
def hdEq (a b : Hd) : Bool := a.ver == b.ver && (a.prev == b.prev && (a.root == b.root && (a.time == b.time && (a.bits == b.bits && a.nonce == b.nonce))))
theorem hdEq_iff (a b : Hd) : hdEq a b = true ↔ a = b := by
  unfold hdEq
  simp only [Bool.and_eq_true, beq_iff_eq]
  constructor
  · rintro ⟨h1, h2, h3, h4, h5, h6⟩
    cases a; cases b
    simp only at h1 h2 h3 h4 h5 h6
    subst h1 h2 h3 h4 h5 h6
    rfl
  · rintro rfl; exact ⟨rfl, rfl, rfl, rfl, rfl, rfl⟩
instance hdDec : DecidableEq Hd := fun a b => decidable_of_iff _ (hdEq_iff a b)
theorem hd_guard : Tryd.prog.eqGuardType Tryd.prog.depth 44 = false := by kernel_rfl
theorem hd_stood : Tryd.prog.stoodInHeld 44 = false := by kernel_rfl
theorem hash_size (w : World) : (sizeOf 33).run Tryd.prog w = .ok 32 w := by kernel_rfl
theorem hash_agg (w : World) : (isAgg 33).run Tryd.prog w = .ok true w := by kernel_rfl
theorem part_hash (cs : Array Value) (off : Nat) (w : World) : (part 33 cs off).run Tryd.prog w = .ok (.agg (cs.extract off (off + 32))) w := by
  simp only [part, Sem.run_bind, hash_agg, hash_size, Result.andThen_ok, if_true, Sem.run_pure]
theorem u32_agg (w : World) : (isAgg 42).run Tryd.prog w = .ok false w := by kernel_rfl
theorem part_u32 {cs : Array Value} {off : Nat} {v : Value} (h : cs[off]? = some v) (w : World) : (part 42 cs off).run Tryd.prog w = .ok v w := by
  simp only [part, Sem.run_bind, u32_agg, Result.andThen_ok, Bool.false_eq_true, if_false, h, Sem.run_pure]
theorem eq_u32 (d : Nat) (x y : UInt32) (w : World) : (Op.equalIn (d + 1) 42 (u32v x) (u32v y)).run Tryd.prog w = .ok (x == y) w := by
  unfold u32v
  rw [run_equalIn_int w d _ .u32 .u32 _ _ Tryd.underlying42]
  congr 1
  rw [Bool.eq_iff_iff]
  simp [← UInt32.toNat_inj]
  exact Int.ofNat_inj
theorem part_of {cs : Array Value} {all : List Value} (hc : cs.toList = all) (off : Nat) {l : List UInt8} (hl : l.length = 32) (h : (all.drop off).take 32 = l.map u8v) : HashA l (cs.extract off (off + 32)) := by
  have e : cs.extract off (off + 32) = (l.map u8v).toArray := by
    apply Array.ext'
    rw [Array.toList_extract, List.extract_eq_take_drop, hc, Nat.add_sub_cancel_left, h]
  rw [e]; exact HashA.of hl
theorem HdA.parts {h : Hd} {cs : Array Value} (hA : HdA h cs) (hk : h.ok) : cs[0]? = some (u32v h.ver) ∧ HashA h.prev (cs.extract 1 33) ∧ HashA h.root (cs.extract 33 65) ∧ cs[65]? = some (u32v h.time) ∧ cs[66]? = some (u32v h.bits) ∧ cs[67]? = some (u32v h.nonce) := by
  have hg : ∀ k, cs[k]? = h.cells[k]? := fun k => by rw [← hA.l, Array.getElem?_toList]
  refine ⟨(hg 0).trans rfl, part_of hA.l 1 hk.1 ?_, part_of hA.l 33 hk.2 ?_, (hg 65).trans (hd_tail hk 0), (hg 66).trans (hd_tail hk 1), (hg 67).trans (hd_tail hk 2)⟩
  · unfold Hd.cells
    rw [List.drop_succ_cons, List.drop_zero, List.take_left' (by simp [hk.1])]
  · unfold Hd.cells
    rw [List.drop_succ_cons, List.drop_left' (by simp [hk.1]), List.take_left' (by simp [hk.2])]
def eqF (P : Program) (d : Nat) (xs ys : Array Value) : List (Bool × TypeId × Nat) → Sem Bool
  | [] => pure true
  | f :: fs =>
    if f.1 = true then do
      let a ← part f.2.1 xs f.2.2
      let b ← part f.2.1 ys f.2.2
      let r ← Op.equalIn d f.2.1 a b
      if (!r) = true then pure false else eqF P d xs ys fs
    else eqF P d xs ys fs
theorem eqF_of (P : Program) (d : Nat) (xs ys : Array Value) : ∀ fs : List Field, Op.eqFields d xs ys fs = eqF P d xs ys (fs.map fun f => (f.name != "_", f.type, f.offset))
  | [] => rfl
  | f :: fs => by
    rw [List.map_cons, Op.eqFields, eqF, eqF_of P d xs ys fs]
    simp
theorem eqF_step {P : Program} {d : Nat} {xs ys : Array Value} {t : TypeId} {o : Nat} {fs : List (Bool × TypeId × Nat)} {a b : Value} {r s : Bool} {w : World} (ha : (part t xs o).run P w = .ok a w) (hb : (part t ys o).run P w = .ok b w)
    (hr : (Op.equalIn d t a b).run P w = .ok r w) (hs : (eqF P d xs ys fs).run P w = .ok s w) : (eqF P d xs ys ((true, t, o) :: fs)).run P w = .ok (r && s) w := by
  rw [eqF, if_pos rfl]
  simp only [Sem.run_bind, ha, hb, hr, Result.andThen_ok]
  cases r
  · simp
  · simpa using hs
theorem hd_fields : ((Tryd.prog.fieldsOf 44).toList.map fun f => (f.name != "_", f.type, f.offset)) = [(true, 42, 0), (true, 33, 1), (true, 33, 33), (true, 42, 65), (true, 42, 66), (true, 42, 67)] := by kernel_rfl
theorem hd_struct : Tryd.prog.underlying 44 = some (.struct (Tryd.prog.fieldsOf 44)) := by kernel_rfl
theorem hd_eqIn (d : Nat) {h g : Hd} {cs ds : Array Value} (hc : HdA h cs) (hd : HdA g ds) (hk : h.ok) (gk : g.ok) (w : World) :
    (Op.equalIn (d + 3) 44 (.agg cs) (.agg ds)).run Tryd.prog w = .ok (hdEq h g) w := by
  obtain ⟨a0, a1, a2, a3, a4, a5⟩ := hc.parts hk
  obtain ⟨b0, b1, b2, b3, b4, b5⟩ := hd.parts gk
  rw [run_equalIn_agg w (d + 2) _ _ _ hd_struct hd_stood, eqF_of Tryd.prog, hd_fields]
  have e : hdEq h g = (h.ver == g.ver && (h.prev == g.prev && (h.root == g.root && (h.time == g.time && (h.bits == g.bits && (h.nonce == g.nonce && true)))))) := by rw [Bool.and_true]; rfl
  rw [e]
  refine eqF_step (part_u32 a0 w) (part_u32 b0 w) (eq_u32 _ _ _ w) (eqF_step (part_hash _ _ w) (part_hash _ _ w) (hash_eqIn d a1 b1 hk.1 gk.1 w) (eqF_step (part_hash _ _ w) (part_hash _ _ w) (hash_eqIn d a2 b2 hk.2 gk.2 w) (eqF_step (part_u32 a3 w) (part_u32 b3 w) (eq_u32 _ _ _ w) (eqF_step (part_u32 a4 w) (part_u32 b4 w) (eq_u32 _ _ _ w) (eqF_step (part_u32 a5 w) (part_u32 b5 w) (eq_u32 _ _ _ w) ?_)))))
  rw [eqF]; rfl
theorem hd_eql {h g : Hd} {cs ds : Array Value} (hc : HdA h cs) (hd : HdA g ds) (hk : h.ok) (gk : g.ok) (w : World) :
    (Go.binOp .eql 44 (.agg cs) (.agg ds)).run Tryd.prog w = .ok (.bool (hdEq h g)) w := by
  rw [run_eql_struct, show (10000 : Nat) = 9997 + 3 from rfl, hd_eqIn 9997 hc hd hk gk]
  rfl
theorem hd_neq {h g : Hd} {cs ds : Array Value} (hc : HdA h cs) (hd : HdA g ds) (hk : h.ok) (gk : g.ok) (w : World) :
    (Go.binOp .neq 44 (.agg cs) (.agg ds)).run Tryd.prog w = .ok (.bool (!hdEq h g)) w := by
  rw [run_neq_struct, show (10000 : Nat) = 9997 + 3 from rfl, hd_eqIn 9997 hc hd hk gk]
  rfl

/-- A part of a variable is loaded by an operation that is guarded. -/
theorem load_partg {P : Program} {w : World} {ops : Array Oper} {rest : List Oper} {a : Act} {Q : Exit → Act → World → Prop} {x : Operand} {dst : Option Tmp} {ty ty' : TypeId} {pos : String} {af : Array Edge} {gd : Option (Nat × Bool)}
    (g off : Nat) (cs : Array Value) (hx : a.eval x = .pointer (some ⟨g, off, none⟩)) (hr : w.rangeAt g off cs.toList) (d : TypeDesc) (hu : P.underlying ty = some d) (hd : d.isRow = true) (hi : (P.info? ty).map (·.size) = some cs.size)
    (hw : Region.wanted { dst := dst, op := .load ty x, type := ty', pos := pos, after := af, guard := gd } (yielded ops a.tmps) = true)
    (h : wpList P ops Q rest (a.put dst (.agg cs)) w) : wpList P ops Q ({ dst := dst, op := .load ty x, type := ty', pos := pos, after := af, guard := gd } :: rest) a w := by
  unfold wpList
  rw [if_pos hw]
  left
  exact wp_load_mid ty x rfl g off hx cs.toList d hr hu hd (by simpa using hi) h

set_option maxRecDepth 100000 in
set_option maxHeartbeats 3000000 in
theorem jsane_any (A : Option Addr) (b : List UInt8) (c : Nat) (PA : Option Addr) (ws : List WriteR) (pc : Nat) (base room n : Int) (last : List UInt8) (ls : Array Value) (w : World) (h : DOk w A b c PA ws pc) (hS : ShaOk w) (hb1 : -9223372036854775808 ≤ base ∧ base ≤ 9223372036854775807)
    (hls : LogA (lgCells (.slice A b.length c) (.slice PA ws.length pc) base room n last) ls) (hl : last.length = 32) :
    Calls Tryd.prog 18 #[.agg ls] w fun e w' => e = .returned (.bool (decide (((openL base room (bytesD b ws)).1 : Int) = n) && (openL base room (bytesD b ws)).2.1 == last)) ∧ Keep w w' := by
  have T1 : Hid (∀ w', Keep w w' → Calls Tryd.prog 28 #[.agg ls] w' fun e w'' => ∃ cs, e = .returned (.agg cs) ∧ LogA (lgCells (.slice A b.length c) (.slice PA ws.length pc) base room ((openL base room (bytesD b ws)).1 : Nat) (openL base room (bytesD b ws)).2.1) cs ∧ Keep w' w'') := fun w' hk => jtaken_any A b c PA ws pc base room n last ls w' (h.keep hk) (hS.keep hk) hb1 hls
  have hll : Hid ((openL base room (bytesD b ws)).2.1.length = 32) := openL_len _ _ _
  generalize openL base room (bytesD b ws) = OP at *
  obtain ⟨N, last', hs'⟩ := OP
  obtain ⟨zs, hz1, hz2, hz3⟩ := zlog_letter
  have hlz := hls.z; have hln := hls.n; have hli := hls.i
  have Hls := Lib.hid hls; have Hl := Lib.hid hl
  clear hls h hS hl
  generalize hbl : b.length = bl at *
  generalize hwl : ws.length = wl at *
  clear hbl hwl
  go_enter Tryd.func18, Tryd.ntmps18
  go_upto_region 1 with fail
  obtain ⟨w1, hw1⟩ : ∃ w1, w1 = w.alloc (.cells ls 35) := ⟨_, rfl⟩
  have HL1 : Hid (Blk w1 w.heap.size 35 ls.toList) := by rw [hw1]; exact Blk.new w _ ls.toList
  have HK1 : Hid (Keep w w1) := by rw [hw1]; exact keep_new _ _
  rw [← hw1]
  clear hw1
  go_wp2_with ((with_reducible refine load_arr w.heap.size ls (Eq.trans ?_ rfl) HL1.out _ Tryd.underlying35 rfl hli ?_); rfl)
  refine (T1.out w1 HK1.out).mono ?_
  rintro e w2 ⟨cs, rfl, hcs, k2⟩
  have hcz := hcs.z; have hcn := hcs.n; have hci := hcs.i
  have Hcs := Lib.hid hcs
  have HL2 := Lib.hid (HL1.out.keep k2); have HK2 := Lib.hid (keep_trans HK1.out k2)
  have hst : (storeCells ⟨w2.heap.size, 0, none⟩ cs.toList 0).run Tryd.prog (w2.alloc (.cells zs 35)) = .ok () (w2.alloc (.cells cs 35)) := run_storeCells_new (P := Tryd.prog) w2 35 zs cs hci (hz1.trans hcz.symm) (by have := all_oneCell_toArray Hcs.out.o; rwa [Array.toArray_toList] at this)
  clear hcs k2
  go_upto_region 2 with fail
  obtain ⟨w3, hw3⟩ : ∃ w3, w3 = w2.alloc (.cells cs 35) := ⟨_, rfl⟩
  have HC3 : Hid (Blk w3 w2.heap.size 35 (lgCells (.slice A bl c) (.slice PA wl pc) base room (N : Nat) last')) := by rw [hw3, ← Hcs.out.l]; exact Blk.new w2 _ cs.toList
  have k3 : Keep w2 w3 := by rw [hw3]; exact keep_new _ _
  rw [← hw3]
  clear hw3 hst
  have HL3 : Hid (Blk w3 w.heap.size 35 (lgCells (.slice A bl c) (.slice PA wl pc) base room n last)) := by rw [← Hls.out.l]; exact HL2.out.keep k3
  have HK3 := Lib.hid (keep_trans HK2.out k3)
  generalize w2.heap.size = C at *
  clear k3
  obtain ⟨p0, p1, p2, p3, c4⟩ := lg_d HC3.out
  clear p0 p1 p2 p3
  obtain ⟨p0, p1, p2, p3, d4⟩ := lg_d HL3.out
  clear p0 p1 p2 p3
  obtain ⟨lv, hlv⟩ : ∃ lv, HashA last' lv := ⟨_, HashA.of hll.out⟩
  obtain ⟨mv, hmv⟩ : ∃ mv, HashA last mv := ⟨_, HashA.of Hl.out⟩
  have hvz := hlv.z; have hvn := hlv.n; have hvi := hlv.i
  have hmz := hmv.z; have hmn := hmv.n; have hmi := hmv.i
  have HE : Hid (∀ w, (Go.binOp .eql 33 (.agg lv) (.agg mv)).run Tryd.prog w = .ok (.bool (last' == last)) w) := fun w => hash_eql hlv hmv hll.out Hl.out w
  have Hrg : Hid (w3.rangeAt C 5 lv.toList) := range_of HC3.out 5 lv.toList (by rw [hlv.l, List.length_map, hll.out]; exact lg_last hll.out)
  have Hrm : Hid (w3.rangeAt w.heap.size 5 mv.toList) := range_of HL3.out 5 mv.toList (by rw [hmv.l, List.length_map, Hl.out]; exact lg_last Hl.out)
  clear hlv hmv
  have he := HE.out
  have hgd := hash_guard
  by_cases hn : (N : Int) = n
  · subst hn
    go_wp2_with (first
      | ((with_reducible refine load_partg C 5 lv (Eq.trans ?_ rfl) Hrg.out (.array 32 5) hash_under (arr_row _ _) hvi (Eq.trans ?_ rfl) ?_); rfl; rfl)
      | ((with_reducible refine load_partg w.heap.size 5 mv (Eq.trans ?_ rfl) Hrm.out (.array 32 5) hash_under (arr_row _ _) hmi (Eq.trans ?_ rfl) ?_); rfl; rfl))
    exact bodyPost_ret (v := .bool (last' == last)) (by simp [results, Tryd.results18]) rfl ⟨by simp, HK3.out⟩
  · have hn2 : ((N : Int) == n) = false := by simpa using hn
    go_wp2_with fail
    exact bodyPost_ret (v := .bool false) (by simp [results, Tryd.results18]) rfl ⟨by simp [hn], HK3.out⟩
end Go.Proofs.YtielojlhdnimgaaDoor
