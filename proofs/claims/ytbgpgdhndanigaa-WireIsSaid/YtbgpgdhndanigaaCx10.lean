/- Texts merged by pack.py: Rft. -/
import Derived.Test.YtbgpgdhndanigaaCx9
import Derived.Test.YtbgpgdhndanigaaCx6
/- florinref09.items, florinref09.Fits: what the document says of fitting is what the program's Fits says. (printed by gen_rft.py) -/
set_option linter.unusedSimpArgs false
set_option linter.unusedVariables false
namespace Go.Proofs.Ytbgpgdhndanigaa
open Go.RowKit
attribute [local go_sem ↓] Go.wp_at_zero Go.wp_at_succ
theorem hash_inR {l m : List UInt8} {cs ds : Array Value} (h : HashA l cs) (g : HashA m ds) (hl : l.length = 32) (hm : m.length = 32) (w : World) :
  (Op.equalIn 10000 27 (.agg cs) (.agg ds)).run Try.prog w = .ok (l == m) w:=by
 rw [show (10000 : Nat) = 9998 + 2 from rfl,hash_eqIn 9998 h g hl hm]
theorem rft_tr0 : ∀ p5 p6 p4 p7 : Bool,(p5 = false) ∨ (p5 = true∧p6 = false) ∨ (p5 = true∧p6 = true∧p4 = false) ∨ (p5 = true∧p6 = true∧p4 = true∧p7 = false) ∨ (p5 = true∧p6 = true∧p4 = true∧p7 = true):=by decide
theorem rft_tr1 : ∀ p8 p9 p10 p11 : Bool,(p8 = false) ∨ (p8 = true∧p9 = false) ∨ (p8 = true∧p9 = true∧p10 = false) ∨ (p8 = true∧p9 = true∧p10 = true∧p11 = false) ∨ (p8 = true∧p9 = true∧p10 = true∧p11 = true):=by decide
theorem rft_tr2 : ∀ p1 p2 p3 : Bool,(p1 = false) ∨ (p1 = true∧p3 = false) ∨ (p1 = true∧p3 = true):=by decide
theorem rft_tr3 : ∀ p1 p2 p3 : Bool,(p2 = false) ∨ (p2 = true∧p3 = false) ∨ (p2 = true∧p3 = true):=by decide
theorem rft_tr4 : ∀ p5 p6 p4 p7 : Bool,(p5 = false) ∨ (p5 = true∧p7 = false) ∨ (p5 = true∧p7 = true):=by decide
theorem rft_tr5 : ∀ p1 p2 p3 : Bool,(p1 = false) ∨ (p1 = true∧p2 = false) ∨ (p1 = true∧p2 = true∧p3 = false) ∨ (p1 = true∧p2 = true∧p3 = true):=by decide
theorem rft_tr6 : ∀ p5 p6 p4 p7 : Bool,(p6 = false) ∨ (p6 = true∧p4 = false) ∨ (p6 = true∧p4 = true∧p7 = false) ∨ (p6 = true∧p4 = true∧p7 = true):=by decide
theorem rft_tr7 : ∀ p5 p6 p4 p7 : Bool,(p5 = false) ∨ (p5 = true∧p6 = false) ∨ (p5 = true∧p6 = true∧p4 = false) ∨ (p5 = true∧p6 = true∧p4 = true):=by decide
theorem hd_inN {h g : Hd} {cs ds : Array Value} (hc : HdA h cs) (hd : HdA g ds) (hk : h.ok) (gk : g.ok) (w : World) :
  (Op.equalIn 10000 30 (.agg cs) (.agg ds)).run Try.prog w = .ok (hdEq h g) w:=by
 rw [show (10000 : Nat) = 9997 + 3 from rfl,hd_eqIn 9997 hc hd hk gk]
def bigM (m : MsgR) : Bool:=m.kind < 0 || 10 < m.kind || 101 < m.ls.length || 2000 < m.hs.length || 50000 < m.is.length || 4096 < m.shs.length || 1024 < m.fs.length
theorem fits_ref (m : MsgR) : fitsB m = (!bigM m
  && !((!(m.kind == 0) && !(m.kind == 4) && !((m.proto.toNat : Int) == 0)) || (!(m.kind == 0) && !(m.kind == 2) && !(m.kind == 3) && !((m.nonce : Int) == 0)) || (!(m.kind == 0) && !((m.height.toNat : Int) == 0)))
  && !((!(m.kind == 5) && !((m.hs.length : Int) == 0)) || (!(m.kind == 4) && (!((m.ls.length : Int) == 0) || !(m.stop == z32))) || (!(decide (6 ≤ m.kind) && decide (m.kind ≤ 8)) && !((m.is.length : Int) == 0)))
  && !(!(m.kind == 9) && (!(hdEq m.bh zHdr) || !((m.total.toNat : Int) == 0) || !((m.shs.length : Int) == 0) || !((m.fs.length : Int) == 0)))
  && (if (m.kind == 10) = true then saneT m.t else ((m.t.ver.toNat : Int) == 0) && ((m.t.lock.toNat : Int) == 0) && ((m.t.ins.length : Int) == 0) && ((m.t.outs.length : Int) == 0))):=by
 have hz : hdEq zHdr zHdr = true:=by decide
 by_cases hb : bigM m = true
 ·rw [hb]
  simp only [Bool.not_true,Bool.false_and]
  unfold fitsB
  rw [decide_eq_false_iff_not]
  intro q
  simp [bigM] at hb
  omega
 ·rw [Bool.not_eq_true] at hb
  rw [hb]
  have hb2 : 0 ≤ m.kind∧m.kind < 11∧m.ls.length ≤ 101∧m.hs.length ≤ 2000∧m.is.length ≤ 50000∧m.shs.length ≤ 4096∧m.fs.length ≤ 1024:=by
   simp [bigM] at hb
   omega
  obtain ⟨h0,h1,h2,h3,h4,h5,h6⟩:=hb2
  unfold fitsB
  have hk : m.kind = 0 ∨ m.kind = 1 ∨ m.kind = 2 ∨ m.kind = 3 ∨ m.kind = 4 ∨ m.kind = 5 ∨ m.kind = 6 ∨ m.kind = 7 ∨ m.kind = 8 ∨ m.kind = 9 ∨ m.kind = 10:=by omega
  clear hb
  rw [Bool.eq_iff_iff]
  rw [decide_eq_true_eq]
  have ho : (0 ≤ m.kind∧m.kind < 11∧m.ls.length ≤ 101∧m.hs.length ≤ 2000∧m.is.length ≤ 50000∧m.shs.length ≤ 4096∧m.fs.length ≤ 1024∧(m.kind = 10 → saneT m.t = true)∧nothingB (othersM m) = true) ↔ ((m.kind = 10 → saneT m.t = true)∧nothingB (othersM m) = true):=⟨fun q => q.2.2.2.2.2.2.2,fun q => ⟨h0,h1,h2,h3,h4,h5,h6,q⟩⟩
  rw [ho]
  clear ho h0 h1 h2 h3 h4 h5 h6
  unfold nothingB othersM
  rcases hk with hk | hk | hk | hk | hk | hk | hk | hk | hk | hk | hk
  all_goals simp [hk,hz,txZ]
  all_goals grind
set_option maxRecDepth 100000 in
theorem ritems_any (k : Int) (w : World) :
  Calls Try.prog 36 #[.int .i64 k] w fun e w' => e = .returned (.bool (decide (6 ≤ k) && decide (k ≤ 8)))∧Keep w w':=by
 have HK : Hid (Keep w w):=Lib.hid (Below.refl _ _)
 cases h1 : decide (6 ≤ k) with
 | false =>
   have d1 : ¬ (6 : Int) ≤ k:=of_decide_eq_false h1
   go_enter Try.func36,Try.ntmps36
   go_wp2
   exact bodyPost_ret (v:=.bool false) (by simp [results,Try.results36]) rfl ⟨rfl,HK.out⟩
 | true =>
   have d1 : (6 : Int) ≤ k:=of_decide_eq_true h1
   cases h2 : decide (k ≤ 8) with
   | false =>
     have d2 : ¬ k ≤ (8 : Int):=of_decide_eq_false h2
     go_enter Try.func36,Try.ntmps36
     go_wp2
     exact bodyPost_ret (v:=.bool false) (by simp [results,Try.results36]) rfl ⟨rfl,HK.out⟩
   | true =>
     have d2 : k ≤ (8 : Int):=of_decide_eq_true h2
     go_enter Try.func36,Try.ntmps36
     go_wp2
     exact bodyPost_ret (v:=.bool true) (by simp [results,Try.results36]) rfl ⟨rfl,HK.out⟩
structure FtC (m : MsgR) (ss hv : Array Value) (g : Nat) (w : World) : Prop where
 ck : w.cell? ⟨g,0,none⟩ = some (.int .i64 m.kind)
 c1 : w.cell? ⟨g,1,none⟩ = some (u32v m.proto)
 c2 : w.cell? ⟨g,2,none⟩ = some (u64v m.nonce)
 c3 : w.cell? ⟨g,3,none⟩ = some (u32v m.height)
 c5 : w.cell? ⟨g,4,none⟩ = some (.slice m.hA m.hs.length m.hc)
 c6 : w.cell? ⟨g,5,none⟩ = some (.slice m.lA m.ls.length m.lc)
 c7 : w.cell? ⟨g,38,none⟩ = some (.slice m.iA m.is.length m.ic)
 c9 : w.cell? ⟨g,107,none⟩ = some (u32v m.total)
 c10 : w.cell? ⟨g,108,none⟩ = some (.slice m.sA m.shs.length m.sc)
 c11 : w.cell? ⟨g,109,none⟩ = some (.slice m.fA m.fs.length m.fc)
 c12 : w.cell? ⟨g,110,none⟩ = some (u32v m.t.ver)
 c13 : w.cell? ⟨g,111,none⟩ = some (.slice m.t.iA m.t.ins.length m.t.ic)
 c14 : w.cell? ⟨g,112,none⟩ = some (.slice m.t.oA m.t.outs.length m.t.oc)
 c15 : w.cell? ⟨g,113,none⟩ = some (u32v m.t.lock)
 rs : w.rangeAt g 6 ss.toList
 rh : w.rangeAt g 39 hv.toList
theorem FtC.of {m : MsgR} {ss hv : Array Value} {g : Nat} {w : World} (HB : Blk w g 39 m.cells) (HK : m.ok) (HS : HashA m.stop ss) (HH : HdA m.bh hv) : FtC m ss hv g w where
 ck:=(HB.cell 0).trans rfl
 c1:=(HB.cell 1).trans rfl
 c2:=(HB.cell 2).trans rfl
 c3:=(HB.cell 3).trans rfl
 c5:=(HB.cell 4).trans rfl
 c6:=(HB.cell 5).trans rfl
 c7:=(HB.cell 38).trans ((MsgR.tail_get HK 0).trans rfl)
 c9:=(HB.cell 107).trans ((MsgR.blk_tail HK 0 (by omega)).trans rfl)
 c10:=(HB.cell 108).trans ((MsgR.blk_tail HK 1 (by omega)).trans rfl)
 c11:=(HB.cell 109).trans ((MsgR.blk_tail HK 2 (by omega)).trans rfl)
 c12:=(HB.cell 110).trans ((MsgR.tx_get HK 0).trans rfl)
 c13:=(HB.cell 111).trans ((MsgR.tx_get HK 1).trans rfl)
 c14:=(HB.cell 112).trans ((MsgR.tx_get HK 2).trans rfl)
 c15:=(HB.cell 113).trans ((MsgR.tx_get HK 3).trans rfl)
 rs:=range_of HB 6 ss.toList (by rw [HS.l,MsgR.cells6,List.drop_left' (show m.hd6.length = 6 from rfl),List.take_left' rfl])
 rh:=range_of HB 39 hv.toList (by
  rw [HH.l,MsgR.cells39,List.drop_left' (MsgR.hd39_len HK.s)]
  unfold MsgR.blk
  rw [List.append_assoc,List.take_left' rfl])
theorem FtC.keep {m : MsgR} {ss hv : Array Value} {g : Nat} {w w' : World} (h : FtC m ss hv g w) (k : Keep w w') : FtC m ss hv g w' where
 ck:=keep_cell k h.ck
 c1:=keep_cell k h.c1
 c2:=keep_cell k h.c2
 c3:=keep_cell k h.c3
 c5:=keep_cell k h.c5
 c6:=keep_cell k h.c6
 c7:=keep_cell k h.c7
 c9:=keep_cell k h.c9
 c10:=keep_cell k h.c10
 c11:=keep_cell k h.c11
 c12:=keep_cell k h.c12
 c13:=keep_cell k h.c13
 c14:=keep_cell k h.c14
 c15:=keep_cell k h.c15
 rs:=fun j v hv => keep_cell k (h.rs j v hv)
 rh:=fun j v hv => keep_cell k (h.rh j v hv)
structure FtL (m : MsgR) (k0 k2 k3 k4 k5 k9 k10 ki p1 p2 p3 p4 p5 p6 p7 p8 p9 p10 p11 p12 p13 p14 p15 : Bool) : Prop where
 ek0 : (m.kind == 0) = k0
 ek2 : (m.kind == 2) = k2
 ek3 : (m.kind == 3) = k3
 ek4 : (m.kind == 4) = k4
 ek5 : (m.kind == 5) = k5
 ek9 : (m.kind == 9) = k9
 ek10 : (m.kind == 10) = k10
 eki : (decide (6 ≤ m.kind) && decide (m.kind ≤ 8)) = ki
 ep1 : ((m.proto.toNat : Int) == 0) = p1
 ep2 : ((m.nonce : Int) == 0) = p2
 ep3 : ((m.height.toNat : Int) == 0) = p3
 ep4 : (m.stop == z32) = p4
 ep5 : ((m.hs.length : Int) == 0) = p5
 ep6 : ((m.ls.length : Int) == 0) = p6
 ep7 : ((m.is.length : Int) == 0) = p7
 ep8 : (hdEq m.bh zHdr) = p8
 ep9 : ((m.total.toNat : Int) == 0) = p9
 ep10 : ((m.shs.length : Int) == 0) = p10
 ep11 : ((m.fs.length : Int) == 0) = p11
 ep12 : ((m.t.ver.toNat : Int) == 0) = p12
 ep13 : ((m.t.ins.length : Int) == 0) = p13
 ep14 : ((m.t.outs.length : Int) == 0) = p14
 ep15 : ((m.t.lock.toNat : Int) == 0) = p15
 nk0 : (m.kind != 0) = !k0
 nk2 : (m.kind != 2) = !k2
 nk3 : (m.kind != 3) = !k3
 nk4 : (m.kind != 4) = !k4
 nk5 : (m.kind != 5) = !k5
 nk9 : (m.kind != 9) = !k9
 nk10 : (m.kind != 10) = !k10
 np1 : ((m.proto.toNat : Int) != 0) = !p1
 np2 : ((m.nonce : Int) != 0) = !p2
 np3 : ((m.height.toNat : Int) != 0) = !p3
 np5 : ((m.hs.length : Int) != 0) = !p5
 np6 : ((m.ls.length : Int) != 0) = !p6
 np7 : ((m.is.length : Int) != 0) = !p7
 np9 : ((m.total.toNat : Int) != 0) = !p9
 np10 : ((m.shs.length : Int) != 0) = !p10
 np11 : ((m.fs.length : Int) != 0) = !p11
 np12 : ((m.t.ver.toNat : Int) != 0) = !p12
 np13 : ((m.t.ins.length : Int) != 0) = !p13
 np14 : ((m.t.outs.length : Int) != 0) = !p14
 np15 : ((m.t.lock.toNat : Int) != 0) = !p15
end Go.Proofs.Ytbgpgdhndanigaa
