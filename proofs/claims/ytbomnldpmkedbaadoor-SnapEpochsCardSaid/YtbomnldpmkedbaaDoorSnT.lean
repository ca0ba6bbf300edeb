/- Stores that are opened and take more, whatever the disk is. -/
import Derived.Test.YtbomnldpmkedbaaDoorSnU
set_option linter.unusedSimpArgs false
set_option linter.unusedVariables false
namespace Go.Proofs.YtbomnldpmkedbaaDoor
open Go.RowKit

/-- A store that fits its disk, but for its room. -/
structure GoodW (b : List UInt8) (ps : List WP) (ep base : Int) (room : Nat) (hs : List Hd) (L0 : Int × Int × Int) : Prop where
  san : saneP b.length ps = true
  look : lookB (bytesQ b ps) = L0
  epE : ep = L0.1
  baseE : base = begS L0.2.1 room
  rm : room ≤ 1024
  inv : LogInv b ps base room hs
section
variable {b : List UInt8} {ps : List WP} {ep base : Int} {room : Nat} {hs : List Hd} {L0 : Int × Int × Int}
theorem GoodW.bnd (g : GoodW b ps ep base room hs L0) : 4 ≤ base ∧ base ≤ 4100 ∧ 0 ≤ ep ∧ ep ≤ 2147483647 ∧ hs.length ≤ room ∧ room ≤ 1024 := by
  have hT := look_told (bytesQ b ps)
  rw [g.look] at hT
  have h2 := begS_rng hT.r g.rm
  have h6 := g.inv.fnd.fit
  rw [roomN_nat g.rm] at h6
  have h3 := hT.e
  have h4 := g.epE
  have h5 := g.baseE
  exact ⟨by omega, by omega, by omega, by omega, h6, g.rm⟩
theorem GoodW.good (g : GoodW b ps ep base room hs L0) (hr : room = roomS ((b.length / 32 : Nat) : Int)) : GoodS b ps ep base room hs :=
  ⟨g.san, by rw [g.look]; exact g.epE, by rw [g.look]; exact g.baseE, hr, g.inv⟩
theorem GoodS.weak (g : GoodS b ps ep base room hs) (hL : lookB (bytesQ b ps) = L0) : GoodW b ps ep base room hs L0 :=
  ⟨g.san, hL, by rw [← hL]; exact g.epE, by rw [← hL]; exact g.baseE, by rw [g.roomE]; exact roomS_le _, g.inv⟩
/-- Opened. -/
theorem SOp.goodW {B : List UInt8} (h : SOp b ps ep base room B hs) : GoodW B [] ep base room hs (lookB (bytesQ b ps)) ∧ (saneP b.length ps = true → B.length = b.length) ∧ (¬ saneP b.length ps = true → B = []) := by
  by_cases hs0 : saneP b.length ps = true
  · obtain ⟨g, h1, h2⟩ := h.good hs0
    refine ⟨g.weak ?_, fun _ => h2, fun e => absurd hs0 e⟩
    rw [bytesQ_nil g.san]; exact h1
  · obtain ⟨h1, h2, h3, h4⟩ := h.bad hs0
    subst h1 h2 h3 h4
    have hq : bytesQ b ps = [] := if_neg hs0
    have hq2 : bytesQ ([] : List UInt8) [] = [] := rfl
    exact ⟨⟨rfl, by rw [hq2, hq], h.epE, h.baseE, by rw [h.roomE]; exact roomS_le _, h.R.inv⟩, fun e => absurd e hs0, fun _ => rfl⟩
theorem GoodW.app {h : Hd} {qs : List WP} (g : GoodW b ps ep base room hs L0) (hi : LogInv b qs base room (hs ++ [h])) (ha : AppR b base hs h ps qs) (hk : h.ok) : GoodW b qs ep base room (hs ++ [h]) L0 := by
  have hb := g.bnd
  have hl : lookB (bytesQ b qs) = lookB (bytesQ b ps) := by
    refine look_same (by rw [bytesQ_len b qs ha.san, bytesQ_len b ps ha.san0]) (fun m hm => ?_)
    have hq : ps.length + 4 ≤ 100000 := by
      have e1 := ((saneP_iff _ _).1 ha.san).1.2.2
      rw [ha.eq, List.length_append] at e1
      simpa [layWs] using e1
    have hfit := ha.fit
    rw [ha.eq, bytesQ_lay ha.san0 (by omega) (by rw [recB_len _ _ hk]; omega) hq m (by omega), if_neg (by omega)]
  exact ⟨ha.san, hl.trans g.look, g.epE, g.baseE, g.rm, hi⟩
theorem GoodW.sync (g : GoodW b ps ep base room hs L0) : GoodW (bytesQ b ps) [] ep base room hs L0 := by
  have e := bytesQ_idem b ps
  exact ⟨bytesQ_sane b ps, by rw [e]; exact g.look, g.epE, g.baseE, g.rm, g.inv.sync⟩
/-- Opened again: the same is there. -/
theorem GoodW.again (g : GoodW b ps ep base room hs L0) (hr : b = [] ∨ room = roomS ((b.length / 32 : Nat) : Int)) {ep' base' : Int} {room' : Nat} {B : List UInt8} {hs' : List Hd} (h : SOp b ps ep' base' room' B hs') : hs' = hs ∧ ep' = ep ∧ (room = roomS ((b.length / 32 : Nat) : Int) → base' = base) := by
  have e1 : ep' = ep := by rw [h.epE, g.look]; exact g.epE.symm
  rcases hr with hr | hr
  · subst hr
    have hb := g.bnd
    have hz : (bytesQ ([] : List UInt8) ps).length = 0 := by rw [bytesQ_len _ _ g.san]; rfl
    have h1 : hs = [] := g.inv.fnd.none (.inr (by rw [hz]; omega))
    have h2 : base' = begS L0.2.1 room' := by rw [h.baseE, g.look]
    have hT := look_told (bytesQ ([] : List UInt8) ps)
    rw [g.look] at hT
    have h3 := begS_rng hT.r (m := room') (by rw [h.roomE]; exact roomS_le _)
    have h4 : hs' = [] := h.R.fnd.none (.inr (by rw [hz]; omega))
    refine ⟨by rw [h1, h4], e1, fun hr => ?_⟩
    rw [h2, g.baseE, hr, h.roomE]
  · have h2 : base' = base := by rw [h.baseE, g.look, g.baseE, h.roomE, hr]
    have h3 : room' = room := by rw [h.roomE, hr]
    have h4 := h.R.fnd
    rw [h2, h3] at h4
    exact ⟨h4.uniq g.inv.fnd, e1, fun _ => h2⟩
end

/-- A store in a box, and what holds of it. -/
structure SgS (X : Nat → Prop) (wr : World) (P : Nat) (B : List UInt8) (ep base : Int) (room : Nat) (L0 : Int × Int × Int) (hs : List Hd) (m : Nat) (A : Option Addr) (c : Nat) (PA : Option Addr) (ws : List WriteR) (pc : Nat) : Prop where
  blk : Blk wr P 38 (stCells (.slice A B.length c) (.slice PA ws.length pc) base (room : Int) (hs.length : Nat) (lastL 0 z32 hs) ep)
  good : GoodW B (ws.map WriteR.pl) ep base room hs L0
  len : ws.length ≤ m
  dok : ∀ W, Fr 0 X wr W → DOk W A B c PA ws pc
/-- What comes of one more, in a box of its own. -/
structure SaP (X : Nat → Prop) (B : List UInt8) (ep base : Int) (room : Nat) (hs : List Hd) (h : Hd) (ws : List WriteR) (p : Nat) (er : Int) (wx : World) (A : Option Addr) (c : Nat) (PA : Option Addr) (vs : List WriteR) (pc : Nat) (n : Int) (last : List UInt8) (ds : Array Value) : Prop where
  blk : Blk wx p 38 ds.toList
  sta : StA (stCells (.slice A B.length c) (.slice PA vs.length pc) base room n last ep) ds
  app : AppU B (ws.map WriteR.pl) (vs.map WriteR.pl) base room hs h er n last
  dok : ∀ W, Fr 0 X wx W → DOk W A B c PA vs pc
theorem app_frS {X : Nat → Prop} {wr x w' wx : World} {A : Option Addr} {b : List UInt8} {c : Nat} {PA : Option Addr} {ws : List WriteR} {pc : Nat} (hd : ∀ W, MidF (Fr 0 X wr) x w' W → DOk W A b c PA ws pc)
    (hk : Keep wr x) (hX : ∀ k, X k → k < wr.heap.size) (h1 : x.heap.size ≤ w'.heap.size) (h2 : w'.heap.size ≤ wx.heap.size) (h3 : ∀ k, k < wr.heap.size → ¬ X k → wx.heap[k]? = wr.heap[k]?) (h4 : ∀ k, x.heap.size ≤ k → k < w'.heap.size → wx.heap[k]? = w'.heap[k]?) :
    ∀ W, Fr 0 X wx W → DOk W A b c PA ws pc := fun W hW => hd W ⟨fun k _ q2 q3 => (hW k (Nat.zero_le _) (by have := hk.size; omega) q3).trans (h3 k q2 q3), fun k q1 q2 => (hW k (Nat.zero_le _) (by omega) (fun q => by have := hX k q; have := hk.size; omega)).trans (h4 k q1 q2)⟩
theorem Blk.rangeS {w : World} {g : Nat} {t : TypeId} {l : List Value} (hb : Blk w g t l) : w.rangeAt g 0 l := range_of hb 0 l (by rw [List.drop_zero, List.take_length])
theorem wpQuiet_load_partgS {P : Program} {w0 : World} {ops : Array Oper} {rest : List Oper} {a : Act} {Q : Act → Prop} {x : Operand} {dst : Option Tmp} {ty ty' : TypeId} {pos : String} {af : Array Edge} {gd : Option (Nat × Bool)}
    (g off : Nat) (cs : Array Value) (hx : a.eval x = .pointer (some ⟨g, off, none⟩)) (hr : w0.rangeAt g off cs.toList) (d : TypeDesc) (hu : P.underlying ty = some d) (hd : d.isRow = true) (hi : (P.info? ty).map (·.size) = some cs.size)
    (hw : Region.wanted { dst := dst, op := .load ty x, type := ty', pos := pos, after := af, guard := gd } (yielded ops a.tmps) = true)
    (h : wpQuiet P ops (fun w' => ∃ x, w' = aft w0 x) Q rest (a.put dst (.agg cs))) :
    wpQuiet P ops (fun w' => ∃ x, w' = aft w0 x) Q ({ dst := dst, op := .load ty x, type := ty', pos := pos, after := af, guard := gd } :: rest) a := by
  refine BigFrame.wpQuiet_want hw fun K hK => ⟨.agg cs, fun w hw => ?_, hK _ h⟩
  obtain ⟨y, rfl⟩ := hw
  unfold Oper.quietAt execOp
  have hl := run_loadVar_mid (P := P) (aft w0 y) g off ty cs.toList d (fun j v hv => keep_cell (aft_keep w0 y) (hr j v hv)) hu hd (by simpa using hi)
  simp only [hx, Instr.loadAt, Instr.sureAddr, Sem.run_bind, Sem.run_pure, Result.andThen_ok, hl, Array.toArray_toList]
  exact ⟨rfl, rfl⟩
theorem wpList_of_quietT {P : Program} {ops : Array Oper} {C : World → Prop} {N : Act → Prop} {Q : Exit → Act → World → Prop} (hN : ∀ a w, C w → N a → Q .normal a w) : ∀ (l : List Oper) (a : Act) (w : World), C w → wpQuiet P ops C N l a → wpList P ops Q l a w
  | [], a, w, hC, h => hN a w hC h
  | o :: l, a, w, hC, h => by
    unfold wpQuiet at h
    unfold wpList
    split at h
    · rename_i hw
      rw [if_pos hw]
      exact .inl (Oper.wp_of_quiet hC (fun a' w' hw' hk => wpList_of_quietT hN l a' w' hw' hk) h)
    · rename_i hw
      rw [if_neg hw]
      exact wpList_of_quietT hN l _ w hC h
/-- A region in one order, whose operations only read, and whose callees leave what was there: guards and all. -/
theorem wp_region_plainqT {P : Program} {id : Nat} {Q : Exit → Act → World → Prop} {a : Act} {w : World} {l : List Oper} (w0 : World) (hw : Keep w0 w)
    (h : wpQuiet P l.toArray (fun w' => ∃ x, w' = aft w0 x) (fun a' => ∀ w', (∃ x, w' = aft w0 x) → Q .normal a' w') l a) : (Code.region id l.toArray false).wp P Q a w :=
  wp_region_lit (wpList_of_quietT (fun a' w' hw' h => h w' hw') l a w ⟨_, aft_of hw⟩ h)
end Go.Proofs.YtbomnldpmkedbaaDoor
