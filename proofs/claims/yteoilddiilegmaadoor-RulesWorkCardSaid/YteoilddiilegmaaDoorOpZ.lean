/- Headers, sums and rules that came in, opened; what the laid tables give (JrnZ without the disk). -/
import Derived.Test.YteoilddiilegmaaDoorRp
import Derived.Test.YteoilddiilegmaaDoorArg
import Derived.Test.YteoilddiilegmaaDoorCards
import Derived.Test.YteoilddiilegmaaDoorTie
import Derived.WalkKit
import Derived.ProofKit
import Derived.OpenShut
import Derived.Deep.DeepHandedRow
import Derived.Lib.LaidTab
set_option linter.unusedSimpArgs false
set_option linter.unusedVariables false
namespace Go.Proofs.YteoilddiilegmaaDoor
open Go.RowKit Go.ChangeShapes Go.WideShapes Go.ChangeAt Go.Deep

theorem cellsByte : Tryd.prog.cellsOf 5 = 1 := by kernel_rfl
theorem word_ofJ {x : Int} (h : 0 ≤ x ∧ x ≤ 4294967295) : ∃ t : UInt32, x = (t.toNat : Int) := ⟨w32 x, w32_of h.1 h.2⟩
theorem byte_ofJ {x : Int} (h : 0 ≤ x ∧ x ≤ 255) : ∃ t : UInt8, x = (t.toNat : Int) := ⟨w8 x, w8_of h.1 h.2⟩
theorem word_openJ {H : Type} {enc : TypeId × Value → H} {w : World} {spare : Nat → Bool} {held : Bool} {fuel : Nat} {cs : List Value} {x : DataW H × List MemPlace}
    (h : DataW.trod enc Tryd.prog w 0 spare held fuel 22 cs = some x) : ∃ t : UInt32, cs = [u32v t] := by
  obtain ⟨k, ek, _, wk⟩ := DataW.trod_int Tryd.underlying22 h
  obtain ⟨t, rfl⟩ := word_ofJ (x := k) (by simpa [Lit.wf, IntKind.min, IntKind.max, IntKind.signed, IntKind.bits] using wk)
  exact ⟨t, ek⟩
theorem cellsHeaderJ : Tryd.prog.cellsOf 30 = 68 := by kernel_rfl
theorem cellsHashJ : Tryd.prog.cellsOf 28 = 32 := by kernel_rfl
theorem cellsWordJ : Tryd.prog.cellsOf 22 = 1 := by kernel_rfl
theorem underHashJ : Tryd.prog.underlying 28 = some (.array 32 5) := by kernel_rfl
theorem hash_openJ {H : Type} {enc : TypeId × Value → H} {w : World} {spare : Nat → Bool} {held : Bool} {fuel : Nat} {cs : List Value} {x : DataW H × List MemPlace}
    (h : DataW.trod enc Tryd.prog w 0 spare held fuel 28 cs = some x) : ∃ l : List UInt8, cs = l.map u8v ∧ l.length = 32 := by
  obtain ⟨xs, m, _, _, h1, h2, h3⟩ := DataW.trod_array underHashJ h
  rw [cellsHashJ] at h1
  obtain ⟨l, rfl, _⟩ := list_choose (f := u8v) (p := fun _ => True) cs fun u hu => by
    obtain ⟨i, hi, rfl⟩ := List.mem_iff_getElem.1 hu
    have h4 := h3 i (by omega)
    rw [cellsByte, Nat.mul_one, List.getElem?_eq_getElem (by omega)] at h4
    obtain ⟨k, ek, _, wk⟩ := DataW.trod_int Tryd.underlying5 h4
    obtain ⟨t, rfl⟩ := byte_ofJ (x := k) (by simpa [Lit.wf, IntKind.min, IntKind.max, IntKind.signed, IntKind.bits] using wk)
    rw [List.drop_eq_getElem_cons hi, List.take_succ_cons, List.take_zero] at ek
    exact ⟨t, (List.cons.inj ek).1, trivial⟩
  exact ⟨l, rfl, by simpa using h1⟩
theorem header_openJ {H : Type} {enc : TypeId × Value → H} {w : World} {spare : Nat → Bool} {held : Bool} {fuel : Nat} {cs : List Value} {x : DataW H × List MemPlace}
    (h : DataW.trod enc Tryd.prog w 0 spare held fuel 30 cs = some x) : ∃ r : Hd, cs = r.cells ∧ r.ok := by
  obtain ⟨xs, n, _, _, hl, hx, F⟩ := DataW.trod_struct Tryd.underlying30 h
  rw [cellsHeaderJ] at hl
  have hx' : xs.length = 6 := hx
  have g : ∀ (i : Nat) (hi : i < 6), xs[i]? = some (xs[i]'(by omega)) := fun i hi => List.getElem?_eq_getElem (by omega)
  have f0 : DataW.trod enc Tryd.prog w 0 spare held n 22 ((cs.drop 0).take (Tryd.prog.cellsOf 22)) = some _ := (F 0 _ rfl).trans (g 0 (by omega))
  have f1 : DataW.trod enc Tryd.prog w 0 spare held n 28 ((cs.drop 1).take (Tryd.prog.cellsOf 28)) = some _ := (F 1 _ rfl).trans (g 1 (by omega))
  have f2 : DataW.trod enc Tryd.prog w 0 spare held n 28 ((cs.drop 33).take (Tryd.prog.cellsOf 28)) = some _ := (F 2 _ rfl).trans (g 2 (by omega))
  have f3 : DataW.trod enc Tryd.prog w 0 spare held n 22 ((cs.drop 65).take (Tryd.prog.cellsOf 22)) = some _ := (F 3 _ rfl).trans (g 3 (by omega))
  have f4 : DataW.trod enc Tryd.prog w 0 spare held n 22 ((cs.drop 66).take (Tryd.prog.cellsOf 22)) = some _ := (F 4 _ rfl).trans (g 4 (by omega))
  have f5 : DataW.trod enc Tryd.prog w 0 spare held n 22 ((cs.drop 67).take (Tryd.prog.cellsOf 22)) = some _ := (F 5 _ rfl).trans (g 5 (by omega))
  simp only [cellsWordJ, cellsHashJ] at f0 f1 f2 f3 f4 f5
  obtain ⟨a, ea⟩ := word_openJ f0
  obtain ⟨p, ep, hp⟩ := hash_openJ f1
  obtain ⟨q, eq, hq⟩ := hash_openJ f2
  obtain ⟨t, et⟩ := word_openJ f3
  obtain ⟨b, eb⟩ := word_openJ f4
  obtain ⟨c, ec⟩ := word_openJ f5
  have key : ∀ (l : List Value) (i k : Nat), l.drop i = (l.drop i).take k ++ l.drop (i + k) := fun l i k => by
    have h1 := (List.take_append_drop k (l.drop i)).symm
    rwa [List.drop_drop] at h1
  refine ⟨⟨a, p, q, t, b, c⟩, ?_, hp, hq⟩
  have e : cs = cs.drop 0 := rfl
  rw [e, key cs 0 1, ea, key cs (0 + 1) 32, ep, key cs (0 + 1 + 32) 32, eq, key cs (0 + 1 + 32 + 32) 1, et, key cs (0 + 1 + 32 + 32 + 1) 1, eb, key cs (0 + 1 + 32 + 32 + 1 + 1) 1, ec, List.drop_eq_nil_of_le (by omega)]
  simp [Hd.cells]
theorem heads_openJ {H : Type} {enc : TypeId × Value → H} {w : World} {spare : Nat → Bool} {held : Bool} {fuel : Nat} {cs : List Value} {x : DataW H × List MemPlace}
    (h : DataW.trod enc Tryd.prog w 0 spare held fuel 26 cs = some x) :
    ∃ (A : Option Addr) (l : List Hd) (c : Nat), cs = [.slice A l.length c] ∧ l.length ≤ c ∧ c ≤ maxLen ∧ Rd w A (l.flatMap Hd.cells) ∧ ∀ y ∈ l, y.ok := by
  obtain ⟨A, n, c, Cs, rfl, h1, h2, rfl, h3, h4⟩ := slice_open Tryd.underlying26 cellsHeaderJ (by omega) h
  obtain ⟨l, rfl, hok⟩ := list_choose (f := Hd.cells) (p := Hd.ok) Cs fun y hy => by
    obtain ⟨_, m, z, hz⟩ := h4 y hy
    exact header_openJ hz
  refine ⟨A, l, c, by simp, by simpa using h1, h2, ?_, hok⟩
  rwa [← List.flatMap_def] at h3

/-! The tables. -/
theorem gK : Tryd.prog.globalNamed "florin/sha2.constants" = some 3 := by kernel_rfl
theorem gH : Tryd.prog.globalNamed "florin/sha2.initials" = some 0 := by kernel_rfl
theorem gKT : (Tryd.prog.globals[3]?).map (·.type) = some 128 := by kernel_rfl
theorem gHT : (Tryd.prog.globals[0]?).map (·.type) = some 97 := by kernel_rfl
theorem cellsK : Tryd.prog.cellsOf 128 = 64 := by kernel_rfl
theorem cells8 : Tryd.prog.cellsOf 97 = 8 := by kernel_rfl
theorem tab_cell {W : World} {name : String} {l : List UInt32} {g : Nat} (h : Lib.TabIs Tryd.prog W name .u32 (l.map fun y => (y.toNat : Int))) (hg : Tryd.prog.globalNamed name = some g) (i : Nat) (y : UInt32) (hy : l[i]? = some y) :
    W.cell? ⟨g, i, none⟩ = some (u32v y) := by
  have hi : i < l.length := (List.getElem?_eq_some_iff.1 hy).1
  have h1 := h.cell hg i (by rw [List.length_map]; exact hi)
  rw [h1, List.getD_eq_getElem?_getD, List.getElem?_map, hy]
  rfl
theorem tab_tail {x : String × DataW Unit} {rest : List (String × DataW Unit)} {W : World} (h : laidMet Tryd.prog (x :: rest) W) : ∃ ps, DataW.LaidVars Tryd.prog W rest ps := by
  obtain ⟨ps, ⟨_, _, _, _, _, q, _, _, _, _, hq, _⟩, _⟩ := h
  exact ⟨q, hq⟩
theorem laid_eqK {H : Type} : (Rows.laid_florin_sha2_constants : DataW H) = Lib.tabData .u32 (kTab.map fun y => (y.toNat : Int)) := by kernel_rfl
theorem laid_eqH {H : Type} : (Rows.laid_florin_sha2_initials : DataW H) = Lib.tabData .u32 (hTab.map fun y => (y.toNat : Int)) := by kernel_rfl
theorem sha_ok {W : World} (h : laidMet Tryd.prog [("florin/sha2.constants", Rows.laid_florin_sha2_constants), ("florin/sha2.initials", Rows.laid_florin_sha2_initials)] W) : ShaOk W := by
  rw [laid_eqK, laid_eqH] at h
  have hK := Lib.tabIs_of_head gK gKT Tryd.underlying128 Tryd.underlying22 cellsWordJ cellsK h
  have hH : Lib.TabIs Tryd.prog W "florin/sha2.initials" .u32 (hTab.map fun y => (y.toNat : Int)) := by
    obtain ⟨qs, g', t', cs, fuel, p, q, hg', ht', hvar, hd, _, _⟩ := tab_tail h
    obtain rfl := Option.some.inj (gH.symm.trans hg')
    obtain rfl := Option.some.inj (gHT.symm.trans ht')
    unfold Lib.TabIs
    rw [hvar, ← Lib.cells_of_tab Tryd.underlying97 Tryd.underlying22 cellsWordJ cells8 hd]
  exact ⟨fun i y hy => tab_cell hK gK i y hy, fun i y hy => tab_cell hH gH i y hy⟩

def layTab (g : Nat) (cs : Array Value) (h : Array Obj) : Array Obj := h.modify g fun
  | .cells _ t frozen => .cells cs t frozen
  | o => o
/-- A world for the witness: the settled one, the two tables holding what is laid. -/
noncomputable def laidWorld (os : Os) : World :=
  { World.holding Tryd.prog os ⟨#[], #[], []⟩ with heap := layTab 0 (hTab.map u32v).toArray (layTab 3 (kTab.map u32v).toArray (World.holding Tryd.prog os ⟨#[], #[], []⟩).heap) }
theorem hda_of {r : Hd} {cs : Array Value} (ho : r.ok) (h : cs.toList = r.cells) : HdA r cs := by
  have e : cs = r.cells.toArray := by rw [← h]
  rw [e]; exact HdA.of ho
theorem hasha_of {l : List UInt8} {cs : Array Value} (hl : l.length = 32) (h : cs.toList = l.map u8v) : HashA l cs := by
  have e : cs = (l.map u8v).toArray := by rw [← h]
  rw [e]; exact HashA.of hl
theorem cellsCheckJ : Tryd.prog.cellsOf 70 = 33 := by kernel_rfl
theorem cellsIntJ : Tryd.prog.cellsOf 3 = 1 := by kernel_rfl
theorem check_openJ {H : Type} {enc : TypeId × Value → H} {w : World} {spare : Nat → Bool} {held : Bool} {fuel : Nat} {cs : List Value} {x : DataW H × List MemPlace}
    (h : DataW.trod enc Tryd.prog w 0 spare held fuel 70 cs = some x) : ∃ r : Int × List UInt8, cs = chkC r ∧ r.2.length = 32 := by
  obtain ⟨xs, n, _, _, hl, hx, F⟩ := DataW.trod_struct Tryd.underlying70 h
  rw [cellsCheckJ] at hl
  have hx' : xs.length = 2 := hx
  have g : ∀ (i : Nat) (hi : i < 2), xs[i]? = some (xs[i]'(by omega)) := fun i hi => List.getElem?_eq_getElem (by omega)
  have f0 : DataW.trod enc Tryd.prog w 0 spare held n 3 ((cs.drop 0).take (Tryd.prog.cellsOf 3)) = some _ := (F 0 _ rfl).trans (g 0 (by omega))
  have f1 : DataW.trod enc Tryd.prog w 0 spare held n 28 ((cs.drop 1).take (Tryd.prog.cellsOf 28)) = some _ := (F 1 _ rfl).trans (g 1 (by omega))
  simp only [cellsIntJ, cellsHashJ] at f0 f1
  obtain ⟨k, ek, _, _⟩ := DataW.trod_int Tryd.underlying3 f0
  obtain ⟨p, ep, hp⟩ := hash_openJ f1
  have key : ∀ (l : List Value) (i k : Nat), l.drop i = (l.drop i).take k ++ l.drop (i + k) := fun l i k => by
    have h1 := (List.take_append_drop k (l.drop i)).symm
    rwa [List.drop_drop] at h1
  refine ⟨⟨k, p⟩, ?_, hp⟩
  have e : cs = cs.drop 0 := rfl
  rw [e, key cs 0 1, ek, key cs (0 + 1) 32, ep, List.drop_eq_nil_of_le (by omega)]
  simp [chkC]
theorem checks_openJ {H : Type} {enc : TypeId × Value → H} {w : World} {spare : Nat → Bool} {held : Bool} {fuel : Nat} {cs : List Value} {x : DataW H × List MemPlace}
    (h : DataW.trod enc Tryd.prog w 0 spare held fuel 23 cs = some x) :
    ∃ (A : Option Addr) (l : List (Int × List UInt8)) (c : Nat), cs = [.slice A l.length c] ∧ Rd w A (l.flatMap chkC) ∧ ∀ y ∈ l, y.2.length = 32 := by
  obtain ⟨A, n, c, Cs, rfl, h1, h2, rfl, h3, h4⟩ := slice_open Tryd.underlying23 cellsCheckJ (by omega) h
  obtain ⟨l, rfl, hok⟩ := list_choose (f := chkC) (p := fun r => r.2.length = 32) Cs fun y hy => by
    obtain ⟨_, m, z, hz⟩ := h4 y hy
    exact check_openJ hz
  refine ⟨A, l, c, by simp, ?_, hok⟩
  rwa [← List.flatMap_def] at h3
theorem params_openJ {H : Type} {enc : TypeId × Value → H} {w : World} {spare : Nat → Bool} {held : Bool} {fuel : Nat} {cs : List Value} {x : DataW H × List MemPlace}
    (h : DataW.trod enc Tryd.prog w 0 spare held fuel 25 cs = some x) (hl : cs.length = 7) :
    ∃ (p : Par) (A : Option Addr) (c : Nat), Value.agg cs.toArray = parV p A c ∧ Rd w A (p.chks.flatMap chkC) ∧ ∀ y ∈ p.chks, y.2.length = 32 := by
  have F := fields_open Tryd.underlying25 (by kernel_rfl) h hl
  match cs, hl with
  | [c0, c1, c2, c3, c4, c5, c6], _ =>
    obtain ⟨v0, m0, y0, e0, t0⟩ := F 0 _ rfl
    obtain ⟨v1, m1, y1, e1, t1⟩ := F 1 _ rfl
    obtain ⟨v2, m2, y2, e2, t2⟩ := F 2 _ rfl
    obtain ⟨v3, m3, y3, e3, t3⟩ := F 3 _ rfl
    obtain ⟨v4, m4, y4, e4, t4⟩ := F 4 _ rfl
    obtain ⟨v5, m5, y5, e5, t5⟩ := F 5 _ rfl
    obtain ⟨v6, m6, y6, e6, t6⟩ := F 6 _ rfl
    simp only [List.getElem?_cons_zero, List.getElem?_cons_succ, Option.some.injEq] at e0 e1 e2 e3 e4 e5 e6
    subst e0 e1 e2 e3 e4 e5 e6
    obtain ⟨a, ea⟩ := word_openJ t0
    obtain ⟨k1, ek1, _, _⟩ := DataW.trod_int Tryd.underlying3 t1
    obtain ⟨k2, ek2, _, _⟩ := DataW.trod_int Tryd.underlying3 t2
    obtain ⟨k3, ek3, _, _⟩ := DataW.trod_int Tryd.underlying3 t3
    obtain ⟨k4, ek4, _, _⟩ := DataW.trod_int Tryd.underlying3 t4
    obtain ⟨k5, ek5, _, _⟩ := DataW.trod_int Tryd.underlying3 t5
    obtain ⟨A, l, c, ed, hr, ho⟩ := checks_openJ t6
    simp only [List.cons.injEq, and_true] at ea ek1 ek2 ek3 ek4 ek5 ed
    subst ea ek1 ek2 ek3 ek4 ek5 ed
    exact ⟨⟨a, k1, k2, k3, k4, k5, l⟩, A, c, rfl, hr, ho⟩
end Go.Proofs.YteoilddiilegmaaDoor
