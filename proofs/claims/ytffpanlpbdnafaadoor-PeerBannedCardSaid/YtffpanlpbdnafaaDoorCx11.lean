/- Texts merged by pack.py: OpB, OpY, MgO, OpR. -/
import Derived.Test.YtffpanlpbdnafaaDoorCx5
import Derived.Test.YtffpanlpbdnafaaDoorCx2
import Derived.WalkKit
import Derived.ProofKit
import Derived.OpenShut
import Derived.Test.YtffpanlpbdnafaaDoorCx6
import Derived.Test.YtffpanlpbdnafaaDoorCards
import Derived.Test.YtffpanlpbdnafaaDoorTie
import Derived.Deep.DeepHandedRow
import Derived.Lib.LaidTab
import Derived.Test.YtffpanlpbdnafaaDoorCx9
import Derived.Test.YtffpanlpbdnafaaDoorCx10
/- Numbers, hashes and headers that came in, opened. -/
set_option linter.unusedSimpArgs false
set_option linter.unusedVariables false
namespace Go.Proofs.YtffpanlpbdnafaaDoor
open Go.RowKit Go.ChangeShapes Go.WideShapes Go.ChangeAt Go.Deep

theorem cellsByte : Tryd.prog.cellsOf 5 = 1 := by kernel_rfl
theorem word_ofJ {x : Int} (h : 0 ≤ x ∧ x ≤ 4294967295) : ∃ t : UInt32, x = (t.toNat : Int) := ⟨w32 x, w32_of h.1 h.2⟩
theorem byte_ofJ {x : Int} (h : 0 ≤ x ∧ x ≤ 255) : ∃ t : UInt8, x = (t.toNat : Int) := ⟨w8 x, w8_of h.1 h.2⟩
theorem word_openJ {H : Type} {enc : TypeId × Value → H} {w : World} {spare : Nat → Bool} {held : Bool} {fuel : Nat} {cs : List Value} {x : DataW H × List MemPlace}
    (h : DataW.trod enc Tryd.prog w 0 spare held fuel 22 cs = some x) : ∃ t : UInt32, cs = [u32v t] := by
  obtain ⟨k, ek, _, wk⟩ := DataW.trod_int Tryd.underlying22 h
  obtain ⟨t, rfl⟩ := word_ofJ (x := k) (by simpa [Lit.wf, IntKind.min, IntKind.max, IntKind.signed, IntKind.bits] using wk)
  exact ⟨t, ek⟩
theorem cellsHeaderJ : Tryd.prog.cellsOf 42 = 68 := by kernel_rfl
theorem cellsHashJ : Tryd.prog.cellsOf 39 = 32 := by kernel_rfl
theorem cellsWordJ : Tryd.prog.cellsOf 22 = 1 := by kernel_rfl
theorem underHashJ : Tryd.prog.underlying 39 = some (.array 32 5) := by kernel_rfl
theorem hash_openJ {H : Type} {enc : TypeId × Value → H} {w : World} {spare : Nat → Bool} {held : Bool} {fuel : Nat} {cs : List Value} {x : DataW H × List MemPlace}
    (h : DataW.trod enc Tryd.prog w 0 spare held fuel 39 cs = some x) : ∃ l : List UInt8, cs = l.map u8v ∧ l.length = 32 := by
  obtain ⟨xs, m, _, _, h1, h2, h3⟩ := DataW.trod_array underHashJ h
  rw [cellsHashJ] at h1
  obtain ⟨l, rfl, _⟩ := list_choose (f := u8v) (p := fun _ => True) cs fun u hu => by
    obtain ⟨i, hi, rfl⟩ := List.mem_iff_getElem.1 hu
    have h4 := h3 i (by omega)
    rw [cellsByte, Nat.mul_one, List.getElem?_eq_getElem (by omega)] at h4
    obtain ⟨k, ek, _, wk⟩ := DataW.trod_int Tryd.underlying5 h4
    obtain ⟨t, rfl⟩ := byte_ofJ (x := k) (by simpa [Lit.wf, IntKind.min, IntKind.max, IntKind.signed, IntKind.bits] using wk)
    rw [List.drop_eq_getElem_cons hi, List.take_succ_cons, List.take_zero] at ek
    exact ⟨t, (List.cons.inj ek).1, trivial⟩
  exact ⟨l, rfl, by simpa using h1⟩
theorem header_openJ {H : Type} {enc : TypeId × Value → H} {w : World} {spare : Nat → Bool} {held : Bool} {fuel : Nat} {cs : List Value} {x : DataW H × List MemPlace}
    (h : DataW.trod enc Tryd.prog w 0 spare held fuel 42 cs = some x) : ∃ r : Hd, cs = r.cells ∧ r.ok := by
  obtain ⟨xs, n, _, _, hl, hx, F⟩ := DataW.trod_struct Tryd.underlying42 h
  rw [cellsHeaderJ] at hl
  have hx' : xs.length = 6 := hx
  have g : ∀ (i : Nat) (hi : i < 6), xs[i]? = some (xs[i]'(by omega)) := fun i hi => List.getElem?_eq_getElem (by omega)
  have f0 : DataW.trod enc Tryd.prog w 0 spare held n 22 ((cs.drop 0).take (Tryd.prog.cellsOf 22)) = some _ := (F 0 _ rfl).trans (g 0 (by omega))
  have f1 : DataW.trod enc Tryd.prog w 0 spare held n 39 ((cs.drop 1).take (Tryd.prog.cellsOf 39)) = some _ := (F 1 _ rfl).trans (g 1 (by omega))
  have f2 : DataW.trod enc Tryd.prog w 0 spare held n 39 ((cs.drop 33).take (Tryd.prog.cellsOf 39)) = some _ := (F 2 _ rfl).trans (g 2 (by omega))
  have f3 : DataW.trod enc Tryd.prog w 0 spare held n 22 ((cs.drop 65).take (Tryd.prog.cellsOf 22)) = some _ := (F 3 _ rfl).trans (g 3 (by omega))
  have f4 : DataW.trod enc Tryd.prog w 0 spare held n 22 ((cs.drop 66).take (Tryd.prog.cellsOf 22)) = some _ := (F 4 _ rfl).trans (g 4 (by omega))
  have f5 : DataW.trod enc Tryd.prog w 0 spare held n 22 ((cs.drop 67).take (Tryd.prog.cellsOf 22)) = some _ := (F 5 _ rfl).trans (g 5 (by omega))
  simp only [cellsWordJ, cellsHashJ] at f0 f1 f2 f3 f4 f5
  obtain ⟨a, ea⟩ := word_openJ f0
  obtain ⟨p, ep, hp⟩ := hash_openJ f1
  obtain ⟨q, eq, hq⟩ := hash_openJ f2
  obtain ⟨t, et⟩ := word_openJ f3
  obtain ⟨b, eb⟩ := word_openJ f4
  obtain ⟨c, ec⟩ := word_openJ f5
  have key : ∀ (l : List Value) (i k : Nat), l.drop i = (l.drop i).take k ++ l.drop (i + k) := fun l i k => by
    have h1 := (List.take_append_drop k (l.drop i)).symm
    rwa [List.drop_drop] at h1
  refine ⟨⟨a, p, q, t, b, c⟩, ?_, hp, hq⟩
  have e : cs = cs.drop 0 := rfl
  rw [e, key cs 0 1, ea, key cs (0 + 1) 32, ep, key cs (0 + 1 + 32) 32, eq, key cs (0 + 1 + 32 + 32) 1, et, key cs (0 + 1 + 32 + 32 + 1) 1, eb, key cs (0 + 1 + 32 + 32 + 1 + 1) 1, ec, List.drop_eq_nil_of_le (by omega)]
  simp [Hd.cells]
theorem heads_openJ {H : Type} {enc : TypeId × Value → H} {w : World} {spare : Nat → Bool} {held : Bool} {fuel : Nat} {cs : List Value} {x : DataW H × List MemPlace}
    (h : DataW.trod enc Tryd.prog w 0 spare held fuel 36 cs = some x) :
    ∃ (A : Option Addr) (l : List Hd) (c : Nat), cs = [.slice A l.length c] ∧ l.length ≤ c ∧ c ≤ maxLen ∧ Rd w A (l.flatMap Hd.cells) ∧ ∀ y ∈ l, y.ok := by
  obtain ⟨A, n, c, Cs, rfl, h1, h2, rfl, h3, h4⟩ := slice_open Tryd.underlying36 cellsHeaderJ (by omega) h
  obtain ⟨l, rfl, hok⟩ := list_choose (f := Hd.cells) (p := Hd.ok) Cs fun y hy => by
    obtain ⟨_, m, z, hz⟩ := h4 y hy
    exact header_openJ hz
  refine ⟨A, l, c, by simp, by simpa using h1, h2, ?_, hok⟩
  rwa [← List.flatMap_def] at h3

theorem hda_of {r : Hd} {cs : Array Value} (ho : r.ok) (h : cs.toList = r.cells) : HdA r cs := by
  have e : cs = r.cells.toArray := by rw [← h]
  rw [e]; exact HdA.of ho
theorem hasha_of {l : List UInt8} {cs : Array Value} (hl : l.length = 32) (h : cs.toList = l.map u8v) : HashA l cs := by
  have e : cs = (l.map u8v).toArray := by rw [← h]
  rw [e]; exact HashA.of hl
end Go.Proofs.YtffpanlpbdnafaaDoor

/- What the laid tables give where two of Go's own tables are laid as well (chapters 22, 24). -/
set_option linter.unusedSimpArgs false
set_option linter.unusedVariables false
namespace Go.Proofs.YtffpanlpbdnafaaDoor
open Go.RowKit Go.ChangeShapes Go.WideShapes Go.ChangeAt Go.Deep

/-! The tables. -/
theorem gK : Tryd.prog.globalNamed "florin/sha2.constants" = some 3 := by kernel_rfl
theorem gH : Tryd.prog.globalNamed "florin/sha2.initials" = some 0 := by kernel_rfl
theorem gKT : (Tryd.prog.globals[3]?).map (·.type) = some 199 := by kernel_rfl
theorem gHT : (Tryd.prog.globals[0]?).map (·.type) = some 171 := by kernel_rfl
theorem cellsK : Tryd.prog.cellsOf 199 = 64 := by kernel_rfl
theorem cells8 : Tryd.prog.cellsOf 171 = 8 := by kernel_rfl
theorem tab_cell {W : World} {name : String} {l : List UInt32} {g : Nat} (h : Lib.TabIs Tryd.prog W name .u32 (l.map fun y => (y.toNat : Int))) (hg : Tryd.prog.globalNamed name = some g) (i : Nat) (y : UInt32) (hy : l[i]? = some y) :
    W.cell? ⟨g, i, none⟩ = some (u32v y) := by
  have hi : i < l.length := (List.getElem?_eq_some_iff.1 hy).1
  have h1 := h.cell hg i (by rw [List.length_map]; exact hi)
  rw [h1, List.getD_eq_getElem?_getD, List.getElem?_map, hy]
  rfl
theorem tab_tail {x : String × DataW Unit} {rest : List (String × DataW Unit)} {W : World} (h : laidMet Tryd.prog (x :: rest) W) : ∃ ps, DataW.LaidVars Tryd.prog W rest ps := by
  obtain ⟨ps, ⟨_, _, _, _, _, q, _, _, _, _, hq, _⟩, _⟩ := h
  exact ⟨q, hq⟩
theorem laid_eqK {H : Type} : (Rows.laid_florin_sha2_constants : DataW H) = Lib.tabData .u32 (kTab.map fun y => (y.toNat : Int)) := by kernel_rfl
theorem laid_eqH {H : Type} : (Rows.laid_florin_sha2_initials : DataW H) = Lib.tabData .u32 (hTab.map fun y => (y.toNat : Int)) := by kernel_rfl
theorem laid_word {W : World} {name : String} {l : List UInt32} {g n : Nat} {d : DataW Unit} {rest : List (String × DataW Unit)} {at_ : TypeId} (hd0 : d = Lib.tabData .u32 (l.map fun y => (y.toNat : Int))) (hg : Tryd.prog.globalNamed name = some g) (hT : (Tryd.prog.globals[g]?).map (·.type) = some at_)
    (ha : Tryd.prog.underlying at_ = some (.array n 22)) (hc : Tryd.prog.cellsOf at_ = n) (h : ∃ ps, DataW.LaidVars Tryd.prog W ((name, d) :: rest) ps) : Lib.TabIs Tryd.prog W name .u32 (l.map fun y => (y.toNat : Int)) := by
  subst hd0
  obtain ⟨qs, g', t', cs, fuel, p, q, hg', ht', hvar, hd, _, _⟩ := h
  obtain rfl := Option.some.inj (hg.symm.trans hg')
  obtain rfl := Option.some.inj (hT.symm.trans ht')
  unfold Lib.TabIs
  rw [hvar, ← Lib.cells_of_tab ha Tryd.underlying22 cellsWordJ hc hd]
theorem vars_tail {x : String × DataW Unit} {rest : List (String × DataW Unit)} {W : World} (h : ∃ ps, DataW.LaidVars Tryd.prog W (x :: rest) ps) : ∃ ps, DataW.LaidVars Tryd.prog W rest ps := by
  obtain ⟨ps, _, _, _, _, _, q, _, _, _, _, hq, _⟩ := h
  exact ⟨q, hq⟩
theorem sha_ok {W : World} {d3 d4 : DataW Unit} (h : laidMet Tryd.prog [("unicode/utf8.acceptRanges", d3), ("florin/sha2.constants", Rows.laid_florin_sha2_constants), ("florin/sha2.initials", Rows.laid_florin_sha2_initials), ("unicode/utf8.first", d4)] W) : ShaOk W := by
  have h1 := tab_tail h
  have hK := laid_word (l := kTab) laid_eqK gK gKT Tryd.underlying199 cellsK h1
  have hH := laid_word (l := hTab) laid_eqH gH gHT Tryd.underlying171 cells8 (vars_tail h1)
  exact ⟨fun i y hy => tab_cell hK gK i y hy, fun i y hy => tab_cell hH gH i y hy⟩

def layTab (g : Nat) (cs : Array Value) (h : Array Obj) : Array Obj := h.modify g fun
  | .cells _ t frozen => .cells cs t frozen
  | o => o
def accT : List Value := [128, 191, 160, 191, 128, 159, 144, 191, 128, 143, 0, 0, 0, 0, 0, 0, 0, 0, 0, 0, 0, 0, 0, 0, 0, 0, 0, 0, 0, 0, 0, 0].map (Value.int .u8)
def fstT : List Value := Go.Pinned.utf8FirstZ.map fun n : Nat => Value.int .u8 (n : Int)
/-- A world for the witness: the settled one, the four tables holding what is laid. -/
noncomputable def laidWorld (os : Os) : World :=
  { World.holding Tryd.prog os ⟨#[], #[], []⟩ with heap := layTab 1 fstT.toArray (layTab 2 accT.toArray (layTab 0 (hTab.map u32v).toArray (layTab 3 (kTab.map u32v).toArray (World.holding Tryd.prog os ⟨#[], #[], []⟩).heap))) }
end Go.Proofs.YtffpanlpbdnafaaDoor

/- Messages and transactions that came in, opened. (printed by gen_mgo.py) -/
set_option linter.unusedSimpArgs false
set_option linter.unusedVariables false
namespace Go.Proofs.YtffpanlpbdnafaaDoor
open Go.RowKit Go.ChangeShapes Go.WideShapes Go.ChangeAt Go.Deep

theorem u64_openJ {H : Type} {enc : TypeId × Value → H} {w : World} {spare : Nat → Bool} {held : Bool} {fuel : Nat} {cs : List Value} {x : DataW H × List MemPlace}
    (h : DataW.trod enc Tryd.prog w 0 spare held fuel 25 cs = some x) : ∃ n : Nat, cs = [u64v n] ∧ n < 2 ^ 64 := by
  obtain ⟨k, ek, _, wk⟩ := DataW.trod_int Tryd.underlying25 h
  have hb : 0 ≤ k ∧ k ≤ 18446744073709551615 := by simpa [Lit.wf, IntKind.min, IntKind.max, IntKind.signed, IntKind.bits] using wk
  refine ⟨k.toNat, ?_, by omega⟩
  rw [ek]; congr 1
  show Value.int .u64 k = Value.int .u64 ((k.toNat : Nat) : Int)
  rw [show ((k.toNat : Nat) : Int) = k by omega]
theorem int_openJ {H : Type} {enc : TypeId × Value → H} {w : World} {spare : Nat → Bool} {held : Bool} {fuel : Nat} {cs : List Value} {x : DataW H × List MemPlace}
    (h : DataW.trod enc Tryd.prog w 0 spare held fuel 3 cs = some x) : ∃ n : Int, cs = [.int .i64 n] ∧ -9223372036854775808 ≤ n ∧ n ≤ 9223372036854775807 := by
  obtain ⟨k, ek, _, wk⟩ := DataW.trod_int Tryd.underlying3 h
  exact ⟨k, ek, by simpa [Lit.wf, IntKind.min, IntKind.max, IntKind.signed, IntKind.bits] using wk⟩
theorem byteS_openJ {H : Type} {enc : TypeId × Value → H} {w : World} {spare : Nat → Bool} {held : Bool} {fuel : Nat} {cs : List Value} {x : DataW H × List MemPlace}
    (h : DataW.trod enc Tryd.prog w 0 spare held fuel 26 cs = some x) : ∃ (A : Option Addr) (l : List UInt8) (c : Nat), cs = [.slice A l.length c] ∧ l.length ≤ c ∧ c ≤ maxLen ∧ Rd w A (l.map u8v) :=
  bytes_open Tryd.underlying26 Tryd.underlying5 cellsByte h
theorem hashs_openJ {H : Type} {enc : TypeId × Value → H} {w : World} {spare : Nat → Bool} {held : Bool} {fuel : Nat} {cs : List Value} {x : DataW H × List MemPlace}
    (h : DataW.trod enc Tryd.prog w 0 spare held fuel 37 cs = some x) : ∃ (A : Option Addr) (l : List (List UInt8)) (c : Nat), cs = [.slice A l.length c] ∧ l.length ≤ c ∧ c ≤ maxLen ∧ Rd w A (hsL l) ∧ ∀ y ∈ l, y.length = 32 := by
  obtain ⟨A, n, c, Cs, rfl, h1, h2, rfl, h3, h4⟩ := slice_open Tryd.underlying37 cellsHashJ (by omega) h
  obtain ⟨l, rfl, hok⟩ := list_choose (f := fun z : List UInt8 => z.map u8v) (p := fun z => z.length = 32) Cs fun y hy => by
    obtain ⟨_, m, z, hz⟩ := h4 y hy
    exact hash_openJ hz
  refine ⟨A, l, c, by simp, by simpa using h1, h2, ?_, hok⟩
  rwa [← List.flatMap_def] at h3
theorem key_openJ (l : List Value) (i k : Nat) : l.drop i = (l.drop i).take k ++ l.drop (i + k) := by
  have h1 := (List.take_append_drop k (l.drop i)).symm
  rwa [List.drop_drop] at h1

theorem cells_ritem : Tryd.prog.cellsOf 97 = 33 := by kernel_rfl
theorem cells_ritem_0 : Tryd.prog.cellsOf 22 = 1 := by kernel_rfl
theorem cells_ritem_1 : Tryd.prog.cellsOf 39 = 32 := by kernel_rfl
theorem ritem_openJ {H : Type} {enc : TypeId × Value → H} {w : World} {spare : Nat → Bool} {held : Bool} {fuel : Nat} {cs : List Value} {x : DataW H × List MemPlace}
    (h : DataW.trod enc Tryd.prog w 0 spare held fuel 97 cs = some x) : ∃ r : Itm, cs = r.cells ∧ r.ok := by
  obtain ⟨xs, n, _, _, hl, hx, F⟩ := DataW.trod_struct Tryd.underlying97 h
  rw [cells_ritem] at hl
  have hx' : xs.length = 2 := hx
  have g : ∀ (i : Nat) (hi : i < 2), xs[i]? = some (xs[i]'(by omega)) := fun i hi => List.getElem?_eq_getElem (by omega)
  have f0 : DataW.trod enc Tryd.prog w 0 spare held n 22 ((cs.drop 0).take (Tryd.prog.cellsOf 22)) = some _ := (F 0 _ rfl).trans (g 0 (by omega))
  have f1 : DataW.trod enc Tryd.prog w 0 spare held n 39 ((cs.drop 1).take (Tryd.prog.cellsOf 39)) = some _ := (F 1 _ rfl).trans (g 1 (by omega))
  rw [cells_ritem_0] at f0
  rw [cells_ritem_1] at f1
  obtain ⟨t, e0⟩ := word_openJ f0
  obtain ⟨l, e1, hl⟩ := hash_openJ f1
  have e : cs = cs.drop 0 := rfl
  have hcs : cs = u32v t :: l.map u8v := by
    rw [e, key_openJ cs 0 1, e0, key_openJ cs (0 + 1) 32, e1, List.drop_eq_nil_of_le (by omega)]
    simp
  exact ⟨⟨t, l⟩, hcs, hl⟩

theorem cells_rin : Tryd.prog.cellsOf 119 = 35 := by kernel_rfl
theorem cells_rin_0 : Tryd.prog.cellsOf 39 = 32 := by kernel_rfl
theorem cells_rin_1 : Tryd.prog.cellsOf 22 = 1 := by kernel_rfl
theorem cells_rin_2 : Tryd.prog.cellsOf 26 = 1 := by kernel_rfl
theorem cells_rin_3 : Tryd.prog.cellsOf 22 = 1 := by kernel_rfl
theorem rin_openJ {H : Type} {enc : TypeId × Value → H} {w : World} {spare : Nat → Bool} {held : Bool} {fuel : Nat} {cs : List Value} {x : DataW H × List MemPlace}
    (h : DataW.trod enc Tryd.prog w 0 spare held fuel 119 cs = some x) : ∃ r : InR, cs = r.cells ∧ r.at w := by
  obtain ⟨xs, n, _, _, hl, hx, F⟩ := DataW.trod_struct Tryd.underlying119 h
  rw [cells_rin] at hl
  have hx' : xs.length = 4 := hx
  have g : ∀ (i : Nat) (hi : i < 4), xs[i]? = some (xs[i]'(by omega)) := fun i hi => List.getElem?_eq_getElem (by omega)
  have f0 : DataW.trod enc Tryd.prog w 0 spare held n 39 ((cs.drop 0).take (Tryd.prog.cellsOf 39)) = some _ := (F 0 _ rfl).trans (g 0 (by omega))
  have f1 : DataW.trod enc Tryd.prog w 0 spare held n 22 ((cs.drop 32).take (Tryd.prog.cellsOf 22)) = some _ := (F 1 _ rfl).trans (g 1 (by omega))
  have f2 : DataW.trod enc Tryd.prog w 0 spare held n 26 ((cs.drop 33).take (Tryd.prog.cellsOf 26)) = some _ := (F 2 _ rfl).trans (g 2 (by omega))
  have f3 : DataW.trod enc Tryd.prog w 0 spare held n 22 ((cs.drop 34).take (Tryd.prog.cellsOf 22)) = some _ := (F 3 _ rfl).trans (g 3 (by omega))
  rw [cells_rin_0] at f0
  rw [cells_rin_1] at f1
  rw [cells_rin_2] at f2
  rw [cells_rin_3] at f3
  obtain ⟨p, e0, hp⟩ := hash_openJ f0
  obtain ⟨t, e1⟩ := word_openJ f1
  obtain ⟨A, l, c, e2, h1, h2, h3⟩ := byteS_openJ f2
  obtain ⟨s, e3⟩ := word_openJ f3
  have e : cs = cs.drop 0 := rfl
  have hcs : cs = p.map u8v ++ [u32v t, .slice A l.length c, u32v s] := by
    rw [e, key_openJ cs 0 32, e0, key_openJ cs (0 + 32) 1, e1, key_openJ cs (0 + 32 + 1) 1, e2, key_openJ cs (0 + 32 + 1 + 1) 1, e3, List.drop_eq_nil_of_le (by omega)]
    simp
  exact ⟨⟨p, t, A, l, c, s⟩, hcs, hp, ⟨h1, h2⟩, h3⟩

theorem cells_rout : Tryd.prog.cellsOf 121 = 2 := by kernel_rfl
theorem cells_rout_0 : Tryd.prog.cellsOf 25 = 1 := by kernel_rfl
theorem cells_rout_1 : Tryd.prog.cellsOf 26 = 1 := by kernel_rfl
theorem rout_openJ {H : Type} {enc : TypeId × Value → H} {w : World} {spare : Nat → Bool} {held : Bool} {fuel : Nat} {cs : List Value} {x : DataW H × List MemPlace}
    (h : DataW.trod enc Tryd.prog w 0 spare held fuel 121 cs = some x) : ∃ r : OutR, cs = r.cells ∧ r.at w := by
  obtain ⟨xs, n, _, _, hl, hx, F⟩ := DataW.trod_struct Tryd.underlying121 h
  rw [cells_rout] at hl
  have hx' : xs.length = 2 := hx
  have g : ∀ (i : Nat) (hi : i < 2), xs[i]? = some (xs[i]'(by omega)) := fun i hi => List.getElem?_eq_getElem (by omega)
  have f0 : DataW.trod enc Tryd.prog w 0 spare held n 25 ((cs.drop 0).take (Tryd.prog.cellsOf 25)) = some _ := (F 0 _ rfl).trans (g 0 (by omega))
  have f1 : DataW.trod enc Tryd.prog w 0 spare held n 26 ((cs.drop 1).take (Tryd.prog.cellsOf 26)) = some _ := (F 1 _ rfl).trans (g 1 (by omega))
  rw [cells_rout_0] at f0
  rw [cells_rout_1] at f1
  obtain ⟨n1, e0, hn⟩ := u64_openJ f0
  obtain ⟨A, l, c, e1, h1, h2, h3⟩ := byteS_openJ f1
  have e : cs = cs.drop 0 := rfl
  have hcs : cs = [u64v n1, .slice A l.length c] := by
    rw [e, key_openJ cs 0 1, e0, key_openJ cs (0 + 1) 1, e1, List.drop_eq_nil_of_le (by omega)]
    simp
  exact ⟨⟨n1, A, l, c⟩, hcs, hn, ⟨h1, h2⟩, h3⟩

theorem ritems_openJ {H : Type} {enc : TypeId × Value → H} {w : World} {spare : Nat → Bool} {held : Bool} {fuel : Nat} {cs : List Value} {x : DataW H × List MemPlace}
    (h : DataW.trod enc Tryd.prog w 0 spare held fuel 56 cs = some x) : ∃ (A : Option Addr) (l : List Itm) (c : Nat), cs = [.slice A l.length c] ∧ l.length ≤ c ∧ c ≤ maxLen ∧ Rd w A (l.flatMap Itm.cells) ∧ ∀ y ∈ l, y.ok := by
  obtain ⟨A, n, c, Cs, rfl, h1, h2, rfl, h3, h4⟩ := slice_open Tryd.underlying56 cells_ritem (by omega) h
  obtain ⟨l, rfl, hok⟩ := list_choose (f := Itm.cells) (p := fun y => y.ok) Cs fun y hy => by
    obtain ⟨_, m, z, hz⟩ := h4 y hy
    exact ritem_openJ hz
  refine ⟨A, l, c, by simp, by simpa using h1, h2, ?_, hok⟩
  rwa [← List.flatMap_def] at h3

theorem rins_openJ {H : Type} {enc : TypeId × Value → H} {w : World} {spare : Nat → Bool} {held : Bool} {fuel : Nat} {cs : List Value} {x : DataW H × List MemPlace}
    (h : DataW.trod enc Tryd.prog w 0 spare held fuel 58 cs = some x) : ∃ (A : Option Addr) (l : List InR) (c : Nat), cs = [.slice A l.length c] ∧ l.length ≤ c ∧ c ≤ maxLen ∧ Rd w A (l.flatMap InR.cells) ∧ ∀ y ∈ l, y.at w := by
  obtain ⟨A, n, c, Cs, rfl, h1, h2, rfl, h3, h4⟩ := slice_open Tryd.underlying58 cells_rin (by omega) h
  obtain ⟨l, rfl, hok⟩ := list_choose (f := InR.cells) (p := fun y => y.at w) Cs fun y hy => by
    obtain ⟨_, m, z, hz⟩ := h4 y hy
    exact rin_openJ hz
  refine ⟨A, l, c, by simp, by simpa using h1, h2, ?_, hok⟩
  rwa [← List.flatMap_def] at h3

theorem routs_openJ {H : Type} {enc : TypeId × Value → H} {w : World} {spare : Nat → Bool} {held : Bool} {fuel : Nat} {cs : List Value} {x : DataW H × List MemPlace}
    (h : DataW.trod enc Tryd.prog w 0 spare held fuel 59 cs = some x) : ∃ (A : Option Addr) (l : List OutR) (c : Nat), cs = [.slice A l.length c] ∧ l.length ≤ c ∧ c ≤ maxLen ∧ Rd w A (l.flatMap OutR.cells) ∧ ∀ y ∈ l, y.at w := by
  obtain ⟨A, n, c, Cs, rfl, h1, h2, rfl, h3, h4⟩ := slice_open Tryd.underlying59 cells_rout (by omega) h
  obtain ⟨l, rfl, hok⟩ := list_choose (f := OutR.cells) (p := fun y => y.at w) Cs fun y hy => by
    obtain ⟨_, m, z, hz⟩ := h4 y hy
    exact rout_openJ hz
  refine ⟨A, l, c, by simp, by simpa using h1, h2, ?_, hok⟩
  rwa [← List.flatMap_def] at h3

theorem cells_rtx : Tryd.prog.cellsOf 61 = 4 := by kernel_rfl
theorem cells_rtx_0 : Tryd.prog.cellsOf 22 = 1 := by kernel_rfl
theorem cells_rtx_1 : Tryd.prog.cellsOf 58 = 1 := by kernel_rfl
theorem cells_rtx_2 : Tryd.prog.cellsOf 59 = 1 := by kernel_rfl
theorem cells_rtx_3 : Tryd.prog.cellsOf 22 = 1 := by kernel_rfl
theorem rtx_openJ {H : Type} {enc : TypeId × Value → H} {w : World} {spare : Nat → Bool} {held : Bool} {fuel : Nat} {cs : List Value} {x : DataW H × List MemPlace}
    (h : DataW.trod enc Tryd.prog w 0 spare held fuel 61 cs = some x) : ∃ t : TxR, cs = t.cells ∧ t.at w := by
  obtain ⟨xs, n, _, _, hl, hx, F⟩ := DataW.trod_struct Tryd.underlying61 h
  rw [cells_rtx] at hl
  have hx' : xs.length = 4 := hx
  have g : ∀ (i : Nat) (hi : i < 4), xs[i]? = some (xs[i]'(by omega)) := fun i hi => List.getElem?_eq_getElem (by omega)
  have f0 : DataW.trod enc Tryd.prog w 0 spare held n 22 ((cs.drop 0).take (Tryd.prog.cellsOf 22)) = some _ := (F 0 _ rfl).trans (g 0 (by omega))
  have f1 : DataW.trod enc Tryd.prog w 0 spare held n 58 ((cs.drop 1).take (Tryd.prog.cellsOf 58)) = some _ := (F 1 _ rfl).trans (g 1 (by omega))
  have f2 : DataW.trod enc Tryd.prog w 0 spare held n 59 ((cs.drop 2).take (Tryd.prog.cellsOf 59)) = some _ := (F 2 _ rfl).trans (g 2 (by omega))
  have f3 : DataW.trod enc Tryd.prog w 0 spare held n 22 ((cs.drop 3).take (Tryd.prog.cellsOf 22)) = some _ := (F 3 _ rfl).trans (g 3 (by omega))
  rw [cells_rtx_0] at f0
  rw [cells_rtx_1] at f1
  rw [cells_rtx_2] at f2
  rw [cells_rtx_3] at f3
  obtain ⟨v, e0⟩ := word_openJ f0
  obtain ⟨A, l, c, e1, h1, h2, h3, h4⟩ := rins_openJ f1
  obtain ⟨B, r, d, e2, g1, g2, g3, g4⟩ := routs_openJ f2
  obtain ⟨k, e3⟩ := word_openJ f3
  have e : cs = cs.drop 0 := rfl
  have hcs : cs = [u32v v, .slice A l.length c, .slice B r.length d, u32v k] := by
    rw [e, key_openJ cs 0 1, e0, key_openJ cs (0 + 1) 1, e1, key_openJ cs (0 + 1 + 1) 1, e2, key_openJ cs (0 + 1 + 1 + 1) 1, e3, List.drop_eq_nil_of_le (by omega)]
    simp
  exact ⟨⟨v, A, l, c, B, r, d, k⟩, hcs, ⟨h3, g3, ⟨h1, h2⟩, ⟨g1, g2⟩, h4, g4⟩⟩

theorem cells_rblock : Tryd.prog.cellsOf 57 = 71 := by kernel_rfl
theorem cells_rblock_0 : Tryd.prog.cellsOf 42 = 68 := by kernel_rfl
theorem cells_rblock_1 : Tryd.prog.cellsOf 22 = 1 := by kernel_rfl
theorem cells_rblock_2 : Tryd.prog.cellsOf 37 = 1 := by kernel_rfl
theorem cells_rblock_3 : Tryd.prog.cellsOf 26 = 1 := by kernel_rfl
theorem rblock_openJ {H : Type} {enc : TypeId × Value → H} {w : World} {spare : Nat → Bool} {held : Bool} {fuel : Nat} {cs : List Value} {x : DataW H × List MemPlace}
    (h : DataW.trod enc Tryd.prog w 0 spare held fuel 57 cs = some x) : ∃ (r : Hd) (t : UInt32) (A : Option Addr) (l : List (List UInt8)) (c : Nat) (B : Option Addr) (f : List UInt8) (d : Nat), cs = r.cells ++ [u32v t, .slice A l.length c, .slice B f.length d] ∧ r.ok ∧ (l.length ≤ c ∧ c ≤ maxLen) ∧ Rd w A (hsL l) ∧ (∀ y ∈ l, y.length = 32) ∧ (f.length ≤ d ∧ d ≤ maxLen) ∧ Rd w B (f.map u8v) := by
  obtain ⟨xs, n, _, _, hl, hx, F⟩ := DataW.trod_struct Tryd.underlying57 h
  rw [cells_rblock] at hl
  have hx' : xs.length = 4 := hx
  have g : ∀ (i : Nat) (hi : i < 4), xs[i]? = some (xs[i]'(by omega)) := fun i hi => List.getElem?_eq_getElem (by omega)
  have f0 : DataW.trod enc Tryd.prog w 0 spare held n 42 ((cs.drop 0).take (Tryd.prog.cellsOf 42)) = some _ := (F 0 _ rfl).trans (g 0 (by omega))
  have f1 : DataW.trod enc Tryd.prog w 0 spare held n 22 ((cs.drop 68).take (Tryd.prog.cellsOf 22)) = some _ := (F 1 _ rfl).trans (g 1 (by omega))
  have f2 : DataW.trod enc Tryd.prog w 0 spare held n 37 ((cs.drop 69).take (Tryd.prog.cellsOf 37)) = some _ := (F 2 _ rfl).trans (g 2 (by omega))
  have f3 : DataW.trod enc Tryd.prog w 0 spare held n 26 ((cs.drop 70).take (Tryd.prog.cellsOf 26)) = some _ := (F 3 _ rfl).trans (g 3 (by omega))
  rw [cells_rblock_0] at f0
  rw [cells_rblock_1] at f1
  rw [cells_rblock_2] at f2
  rw [cells_rblock_3] at f3
  obtain ⟨r, e0, hr⟩ := header_openJ f0
  obtain ⟨t, e1⟩ := word_openJ f1
  obtain ⟨A, l, c, e2, h1, h2, h3, h4⟩ := hashs_openJ f2
  obtain ⟨B, f, d, e3, g1, g2, g3⟩ := byteS_openJ f3
  have e : cs = cs.drop 0 := rfl
  have hcs : cs = r.cells ++ [u32v t, .slice A l.length c, .slice B f.length d] := by
    rw [e, key_openJ cs 0 68, e0, key_openJ cs (0 + 68) 1, e1, key_openJ cs (0 + 68 + 1) 1, e2, key_openJ cs (0 + 68 + 1 + 1) 1, e3, List.drop_eq_nil_of_le (by omega)]
    simp
  exact ⟨r, t, A, l, c, B, f, d, hcs, hr, ⟨h1, h2⟩, h3, h4, ⟨g1, g2⟩, g3⟩

theorem cells_rmsg : Tryd.prog.cellsOf 63 = 114 := by kernel_rfl
theorem cells_rmsg_0 : Tryd.prog.cellsOf 3 = 1 := by kernel_rfl
theorem cells_rmsg_1 : Tryd.prog.cellsOf 22 = 1 := by kernel_rfl
theorem cells_rmsg_2 : Tryd.prog.cellsOf 25 = 1 := by kernel_rfl
theorem cells_rmsg_3 : Tryd.prog.cellsOf 22 = 1 := by kernel_rfl
theorem cells_rmsg_4 : Tryd.prog.cellsOf 36 = 1 := by kernel_rfl
theorem cells_rmsg_5 : Tryd.prog.cellsOf 37 = 1 := by kernel_rfl
theorem cells_rmsg_6 : Tryd.prog.cellsOf 39 = 32 := by kernel_rfl
theorem cells_rmsg_7 : Tryd.prog.cellsOf 56 = 1 := by kernel_rfl
theorem cells_rmsg_8 : Tryd.prog.cellsOf 57 = 71 := by kernel_rfl
theorem cells_rmsg_9 : Tryd.prog.cellsOf 61 = 4 := by kernel_rfl
theorem rmsg_openJ {H : Type} {enc : TypeId × Value → H} {w : World} {spare : Nat → Bool} {held : Bool} {fuel : Nat} {cs : List Value} {x : DataW H × List MemPlace}
    (h : DataW.trod enc Tryd.prog w 0 spare held fuel 63 cs = some x) : ∃ m : MsgR, cs = m.cells ∧ m.at_ w := by
  obtain ⟨xs, n, _, _, hl, hx, F⟩ := DataW.trod_struct Tryd.underlying63 h
  rw [cells_rmsg] at hl
  have hx' : xs.length = 10 := hx
  have g : ∀ (i : Nat) (hi : i < 10), xs[i]? = some (xs[i]'(by omega)) := fun i hi => List.getElem?_eq_getElem (by omega)
  have f0 : DataW.trod enc Tryd.prog w 0 spare held n 3 ((cs.drop 0).take (Tryd.prog.cellsOf 3)) = some _ := (F 0 _ rfl).trans (g 0 (by omega))
  have f1 : DataW.trod enc Tryd.prog w 0 spare held n 22 ((cs.drop 1).take (Tryd.prog.cellsOf 22)) = some _ := (F 1 _ rfl).trans (g 1 (by omega))
  have f2 : DataW.trod enc Tryd.prog w 0 spare held n 25 ((cs.drop 2).take (Tryd.prog.cellsOf 25)) = some _ := (F 2 _ rfl).trans (g 2 (by omega))
  have f3 : DataW.trod enc Tryd.prog w 0 spare held n 22 ((cs.drop 3).take (Tryd.prog.cellsOf 22)) = some _ := (F 3 _ rfl).trans (g 3 (by omega))
  have f4 : DataW.trod enc Tryd.prog w 0 spare held n 36 ((cs.drop 4).take (Tryd.prog.cellsOf 36)) = some _ := (F 4 _ rfl).trans (g 4 (by omega))
  have f5 : DataW.trod enc Tryd.prog w 0 spare held n 37 ((cs.drop 5).take (Tryd.prog.cellsOf 37)) = some _ := (F 5 _ rfl).trans (g 5 (by omega))
  have f6 : DataW.trod enc Tryd.prog w 0 spare held n 39 ((cs.drop 6).take (Tryd.prog.cellsOf 39)) = some _ := (F 6 _ rfl).trans (g 6 (by omega))
  have f7 : DataW.trod enc Tryd.prog w 0 spare held n 56 ((cs.drop 38).take (Tryd.prog.cellsOf 56)) = some _ := (F 7 _ rfl).trans (g 7 (by omega))
  have f8 : DataW.trod enc Tryd.prog w 0 spare held n 57 ((cs.drop 39).take (Tryd.prog.cellsOf 57)) = some _ := (F 8 _ rfl).trans (g 8 (by omega))
  have f9 : DataW.trod enc Tryd.prog w 0 spare held n 61 ((cs.drop 110).take (Tryd.prog.cellsOf 61)) = some _ := (F 9 _ rfl).trans (g 9 (by omega))
  rw [cells_rmsg_0] at f0
  rw [cells_rmsg_1] at f1
  rw [cells_rmsg_2] at f2
  rw [cells_rmsg_3] at f3
  rw [cells_rmsg_4] at f4
  rw [cells_rmsg_5] at f5
  rw [cells_rmsg_6] at f6
  rw [cells_rmsg_7] at f7
  rw [cells_rmsg_8] at f8
  rw [cells_rmsg_9] at f9
  obtain ⟨k, e0, k0, k1⟩ := int_openJ f0
  obtain ⟨p, e1⟩ := word_openJ f1
  obtain ⟨nn, e2, hn⟩ := u64_openJ f2
  obtain ⟨hh, e3⟩ := word_openJ f3
  obtain ⟨hA, hs, hc, e4, a1, a2, a3, a4⟩ := heads_openJ f4
  obtain ⟨lA, ls, lc, e5, b1, b2, b3, b4⟩ := hashs_openJ f5
  obtain ⟨stop, e6, hst⟩ := hash_openJ f6
  obtain ⟨iA, is, ic, e7, c1, c2, c3, c4⟩ := ritems_openJ f7
  obtain ⟨bh, total, sA, shs, sc, fA, fs, fc, e8, d1, d2, d3, d4, d5, d6⟩ := rblock_openJ f8
  obtain ⟨t, e9, ht⟩ := rtx_openJ f9
  have e : cs = cs.drop 0 := rfl
  have hcs : cs = MsgR.cells ⟨k, p, nn, hh, hA, hs, hc, lA, ls, lc, stop, iA, is, ic, bh, total, sA, shs, sc, fA, fs, fc, t⟩ := by
    unfold MsgR.cells MsgR.blk TxR.cells
    rw [e, key_openJ cs 0 1, e0, key_openJ cs (0 + 1) 1, e1, key_openJ cs (0 + 1 + 1) 1, e2, key_openJ cs (0 + 1 + 1 + 1) 1, e3, key_openJ cs (0 + 1 + 1 + 1 + 1) 1, e4, key_openJ cs (0 + 1 + 1 + 1 + 1 + 1) 1, e5, key_openJ cs (0 + 1 + 1 + 1 + 1 + 1 + 1) 32, e6, key_openJ cs (0 + 1 + 1 + 1 + 1 + 1 + 1 + 32) 1, e7, key_openJ cs (0 + 1 + 1 + 1 + 1 + 1 + 1 + 32 + 1) 71, e8, key_openJ cs (0 + 1 + 1 + 1 + 1 + 1 + 1 + 32 + 1 + 71) 4, e9, List.drop_eq_nil_of_le (by omega)]
    simp [TxR.cells]
  exact ⟨⟨k, p, nn, hh, hA, hs, hc, lA, ls, lc, stop, iA, is, ic, bh, total, sA, shs, sc, fA, fs, fc, t⟩, hcs, ⟨⟨⟨k0, k1⟩, hn, hst, d1, a4, b4, c4, d4⟩, a3, ⟨a1, a2⟩, b3, ⟨b1, b2⟩, c3, ⟨c1, c2⟩, d3, d2, d6, d5, ht⟩⟩

end Go.Proofs.YtffpanlpbdnafaaDoor

/- Peers that came in, opened (printed by gen_opr.py). -/
set_option linter.unusedSimpArgs false
set_option linter.unusedVariables false
namespace Go.Proofs.YtffpanlpbdnafaaDoor
open Go.RowKit Go.ChangeShapes Go.WideShapes Go.ChangeAt Go.Deep
theorem errno_openJ {H : Type} {enc : TypeId × Value → H} {w : World} {spare : Nat → Bool} {held : Bool} {fuel : Nat} {cs : List Value} {x : DataW H × List MemPlace}
    (h : DataW.trod enc Tryd.prog w 0 spare held fuel 27 cs = some x) : ∃ n : Int, cs = [.int .i64 n] ∧ -9223372036854775808 ≤ n ∧ n ≤ 9223372036854775807 := by
  obtain ⟨k, ek, _, wk⟩ := DataW.trod_int Tryd.underlying27 h
  exact ⟨k, ek, by simpa [Lit.wf, IntKind.min, IntKind.max, IntKind.signed, IntKind.bits] using wk⟩
theorem truth_openJ {H : Type} {enc : TypeId × Value → H} {w : World} {spare : Nat → Bool} {held : Bool} {fuel : Nat} {cs : List Value} {x : DataW H × List MemPlace}
    (h : DataW.trod enc Tryd.prog w 0 spare held fuel 4 cs = some x) : ∃ b : Bool, cs = [.bool b] := by
  obtain ⟨b, e, _⟩ := DataW.trod_bool Tryd.underlying4 h
  exact ⟨b, e⟩
theorem cells_rbuf : Tryd.prog.cellsOf 81 = 4 := by kernel_rfl
theorem cells_rbuf_0 : Tryd.prog.cellsOf 22 = 1 := by kernel_rfl
theorem cells_rbuf_1 : Tryd.prog.cellsOf 3 = 1 := by kernel_rfl
theorem cells_rbuf_2 : Tryd.prog.cellsOf 26 = 1 := by kernel_rfl
theorem cells_rbuf_3 : Tryd.prog.cellsOf 27 = 1 := by kernel_rfl
theorem rbuf_openJ {H : Type} {enc : TypeId × Value → H} {w : World} {spare : Nat → Bool} {held : Bool} {fuel : Nat} {cs : List Value} {x : DataW H × List MemPlace}
    (h : DataW.trod enc Tryd.prog w 0 spare held fuel 81 cs = some x) : ∃ (g : UInt32) (n : Int) (A : Option Addr) (l : List UInt8) (c : Nat) (b : Int), cs = [u32v g, iv n, .slice A l.length c, iv b] ∧ l.length ≤ c ∧ c ≤ maxLen ∧ Rd w A (l.map u8v) := by
  obtain ⟨xs, n, _, _, hl, hx, F⟩ := DataW.trod_struct Tryd.underlying81 h
  rw [cells_rbuf] at hl
  have hx' : xs.length = 4 := hx
  have g : ∀ (i : Nat) (hi : i < 4), xs[i]? = some (xs[i]'(by omega)) := fun i hi => List.getElem?_eq_getElem (by omega)
  have f0 : DataW.trod enc Tryd.prog w 0 spare held n 22 ((cs.drop 0).take (Tryd.prog.cellsOf 22)) = some _ := (F 0 _ rfl).trans (g 0 (by omega))
  have f1 : DataW.trod enc Tryd.prog w 0 spare held n 3 ((cs.drop 1).take (Tryd.prog.cellsOf 3)) = some _ := (F 1 _ rfl).trans (g 1 (by omega))
  have f2 : DataW.trod enc Tryd.prog w 0 spare held n 26 ((cs.drop 2).take (Tryd.prog.cellsOf 26)) = some _ := (F 2 _ rfl).trans (g 2 (by omega))
  have f3 : DataW.trod enc Tryd.prog w 0 spare held n 27 ((cs.drop 3).take (Tryd.prog.cellsOf 27)) = some _ := (F 3 _ rfl).trans (g 3 (by omega))
  rw [cells_rbuf_0] at f0
  rw [cells_rbuf_1] at f1
  rw [cells_rbuf_2] at f2
  rw [cells_rbuf_3] at f3
  obtain ⟨g0, e0⟩ := word_openJ f0
  obtain ⟨n0, e1, _, _⟩ := int_openJ f1
  obtain ⟨A, l, c, e2, h1, h2, h3⟩ := byteS_openJ f2
  obtain ⟨b0, e3, _, _⟩ := errno_openJ f3
  have e : cs = cs.drop 0 := rfl
  have hcs : cs = [u32v g0, .int .i64 n0, .slice A l.length c, .int .i64 b0] := by
    rw [e, key_openJ cs 0 1, e0, key_openJ cs (0 + 1) 1, e1, key_openJ cs (0 + 1 + 1) 1, e2, key_openJ cs (0 + 1 + 1 + 1) 1, e3, List.drop_eq_nil_of_le (by omega)]
    simp
  exact ⟨g0, n0, A, l, c, b0, hcs, h1, h2, h3⟩
theorem cells_rpeer : Tryd.prog.cellsOf 83 = 10 := by kernel_rfl
theorem cells_rpeer_0 : Tryd.prog.cellsOf 3 = 1 := by kernel_rfl
theorem cells_rpeer_1 : Tryd.prog.cellsOf 25 = 1 := by kernel_rfl
theorem cells_rpeer_2 : Tryd.prog.cellsOf 22 = 1 := by kernel_rfl
theorem cells_rpeer_3 : Tryd.prog.cellsOf 4 = 1 := by kernel_rfl
theorem cells_rpeer_4 : Tryd.prog.cellsOf 3 = 1 := by kernel_rfl
theorem cells_rpeer_5 : Tryd.prog.cellsOf 3 = 1 := by kernel_rfl
theorem cells_rpeer_6 : Tryd.prog.cellsOf 81 = 4 := by kernel_rfl
theorem rpeer_openJ {H : Type} {enc : TypeId × Value → H} {w : World} {spare : Nat → Bool} {held : Bool} {fuel : Nat} {cs : List Value} {x : DataW H × List MemPlace}
    (h : DataW.trod enc Tryd.prog w 0 spare held fuel 83 cs = some x) : ∃ p : PeR, cs = p.cells ∧ (p.rs.length ≤ p.rc ∧ p.rc ≤ maxLen) ∧ Rd w p.rA (p.rs.map u8v) := by
  obtain ⟨xs, n, _, _, hl, hx, F⟩ := DataW.trod_struct Tryd.underlying83 h
  rw [cells_rpeer] at hl
  have hx' : xs.length = 7 := hx
  have g : ∀ (i : Nat) (hi : i < 7), xs[i]? = some (xs[i]'(by omega)) := fun i hi => List.getElem?_eq_getElem (by omega)
  have f0 : DataW.trod enc Tryd.prog w 0 spare held n 3 ((cs.drop 0).take (Tryd.prog.cellsOf 3)) = some _ := (F 0 _ rfl).trans (g 0 (by omega))
  have f1 : DataW.trod enc Tryd.prog w 0 spare held n 25 ((cs.drop 1).take (Tryd.prog.cellsOf 25)) = some _ := (F 1 _ rfl).trans (g 1 (by omega))
  have f2 : DataW.trod enc Tryd.prog w 0 spare held n 22 ((cs.drop 2).take (Tryd.prog.cellsOf 22)) = some _ := (F 2 _ rfl).trans (g 2 (by omega))
  have f3 : DataW.trod enc Tryd.prog w 0 spare held n 4 ((cs.drop 3).take (Tryd.prog.cellsOf 4)) = some _ := (F 3 _ rfl).trans (g 3 (by omega))
  have f4 : DataW.trod enc Tryd.prog w 0 spare held n 3 ((cs.drop 4).take (Tryd.prog.cellsOf 3)) = some _ := (F 4 _ rfl).trans (g 4 (by omega))
  have f5 : DataW.trod enc Tryd.prog w 0 spare held n 3 ((cs.drop 5).take (Tryd.prog.cellsOf 3)) = some _ := (F 5 _ rfl).trans (g 5 (by omega))
  have f6 : DataW.trod enc Tryd.prog w 0 spare held n 81 ((cs.drop 6).take (Tryd.prog.cellsOf 81)) = some _ := (F 6 _ rfl).trans (g 6 (by omega))
  rw [cells_rpeer_0] at f0
  rw [cells_rpeer_1] at f1
  rw [cells_rpeer_2] at f2
  rw [cells_rpeer_3] at f3
  rw [cells_rpeer_4] at f4
  rw [cells_rpeer_5] at f5
  rw [cells_rpeer_6] at f6
  obtain ⟨st, e0, _, _⟩ := int_openJ f0
  obtain ⟨no, e1, _⟩ := u64_openJ f1
  obtain ⟨he, e2⟩ := word_openJ f2
  obtain ⟨ak, e3⟩ := truth_openJ f3
  obtain ⟨un, e4, _, _⟩ := int_openJ f4
  obtain ⟨mi, e5, _, _⟩ := int_openJ f5
  obtain ⟨g0, n0, A, l, c, b0, e6, h1, h2, h3⟩ := rbuf_openJ f6
  have e : cs = cs.drop 0 := rfl
  have hcs : cs = [.int .i64 st, u64v no, u32v he, .bool ak, .int .i64 un, .int .i64 mi, u32v g0, iv n0, .slice A l.length c, iv b0] := by
    rw [e, key_openJ cs 0 1, e0, key_openJ cs (0 + 1) 1, e1, key_openJ cs (0 + 1 + 1) 1, e2, key_openJ cs (0 + 1 + 1 + 1) 1, e3, key_openJ cs (0 + 1 + 1 + 1 + 1) 1, e4, key_openJ cs (0 + 1 + 1 + 1 + 1 + 1) 1, e5, key_openJ cs (0 + 1 + 1 + 1 + 1 + 1 + 1) 4, e6, List.drop_eq_nil_of_le (by omega)]
    simp
  exact ⟨⟨st, no, he, ak, un, mi, g0, n0, A, l, c, b0⟩, hcs, ⟨h1, h2⟩, h3⟩
end Go.Proofs.YtffpanlpbdnafaaDoor
