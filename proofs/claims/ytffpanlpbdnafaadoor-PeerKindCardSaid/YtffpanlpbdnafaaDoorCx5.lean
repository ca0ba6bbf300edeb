/- Texts merged by pack.py: Vv, Vw, Vx, Vy, Vz, Ia, Ib, Ic, Id. -/
import Derived.Test.YtffpanlpbdnafaaDoorCx4
/- wire.Fits. (printed by gen_vv.py) -/
set_option linter.unusedSimpArgs false
set_option linter.unusedVariables false
namespace Go.Proofs.YtffpanlpbdnafaaDoor
open Go.RowKit
attribute [local go_sem ↓] Go.wp_at_zero Go.wp_at_succ
set_option maxRecDepth 100000 in
set_option maxHeartbeats 4000000 in
theorem tsane_all (t : TxR) (w : World) (h : t.at w) :
  Calls Tryd.prog 34 #[.agg #[u32v t.ver,.slice t.iA t.ins.length t.ic,.slice t.oA t.outs.length t.oc,u32v t.lock]] w fun e w' => e = .returned (.bool (saneT t))∧Keep w w':=by
 by_cases hn : t.ins.length ≤ 1000000
 ·by_cases hm : t.outs.length ≤ 1000000
  ·exact tsane_any t w h hn hm
  ·by_cases g0 : t.ins.length < 1 ∨ 1000 < t.ins.length
   ·have hv : saneT t = false:=by unfold saneT;rw [decide_eq_false_iff_not];omega
    rw [hv]
    have HK : Hid (Keep w w):=Lib.hid (Below.refl _ _)
    by_cases g1 : t.ins.length < 1
    ·have d1 : (t.ins.length : Int) < 1:=by omega
     clear h hn hm g0 g1 hv
     go_enter Tryd.func34,Tryd.ntmps34
     go_wp2
     exact bodyPost_ret (v:=.bool false) (by simp [results,Tryd.results34]) rfl ⟨rfl,(HK.out).alloc (Nat.le_refl _) _⟩
    ·have d1 : ¬ (t.ins.length : Int) < 1:=by omega
     have d2 : (1000 : Int) < t.ins.length:=by omega
     clear h hn hm g0 g1 hv
     go_enter Tryd.func34,Tryd.ntmps34
     go_wp2
     exact bodyPost_ret (v:=.bool false) (by simp [results,Tryd.results34]) rfl ⟨rfl,(HK.out).alloc (Nat.le_refl _) _⟩
   ·have hv : saneT t = false:=by unfold saneT;rw [decide_eq_false_iff_not];omega
    rw [hv]
    have HK : Hid (Keep w w):=Lib.hid (Below.refl _ _)
    have d1 : ¬ (t.ins.length : Int) < 1:=by omega
    have d2 : ¬ (1000 : Int) < t.ins.length:=by omega
    have d3 : (1000 : Int) < t.outs.length:=by omega
    clear h hn hm g0 hv
    go_enter Tryd.func34,Tryd.ntmps34
    go_wp2
    exact bodyPost_ret (v:=.bool false) (by simp [results,Tryd.results34]) rfl ⟨rfl,(HK.out).alloc (Nat.le_refl _) _⟩
 ·have hv : saneT t = false:=by unfold saneT;rw [decide_eq_false_iff_not];omega
  rw [hv]
  have HK : Hid (Keep w w):=Lib.hid (Below.refl _ _)
  have d1 : ¬ (t.ins.length : Int) < 1:=by omega
  have d2 : (1000 : Int) < t.ins.length:=by omega
  clear h hn hv
  go_enter Tryd.func34,Tryd.ntmps34
  go_wp2
  exact bodyPost_ret (v:=.bool false) (by simp [results,Tryd.results34]) rfl ⟨rfl,(HK.out).alloc (Nat.le_refl _) _⟩
def fitsB (m : MsgR) : Bool:=decide (0 ≤ m.kind∧m.kind < 11∧m.ls.length ≤ 101∧m.hs.length ≤ 2000∧m.is.length ≤ 50000∧m.shs.length ≤ 4096∧m.fs.length ≤ 1024∧(m.kind = 10 → saneT m.t = true)∧nothingB (othersM m) = true)
set_option maxRecDepth 100000 in
set_option maxHeartbeats 8000000 in
theorem fits_any (m : MsgR) (cs : Array Value) (hA : MsA m cs) (hk : m.ok) (w : World) (ht : m.t.at w) :
  Calls Tryd.prog 16 #[.agg cs] w fun e w' => e = .returned (.bool (fitsB m))∧Keep w w':=by
 have hcn:=hA.n;have hcz:=hA.z;have hci:=hA.i
 have OT : Hid (∀ y,Calls Tryd.prog 36 #[.agg cs] y fun e w' => ∃ ds,e = .returned (.agg ds)∧MsA (othersM m) ds∧Keep y w'):=Lib.hid fun y => others_any m cs hA hk y
 have NO : Hid (∀ ds y,MsA (othersM m) ds → Calls Tryd.prog 35 #[.agg ds] y fun e w' => e = .returned (.bool (nothingB (othersM m)))∧Keep y w'):=Lib.hid fun ds y h => nothing_any _ ds h (othersM_ok hk) y
 have TS : Hid (∀ y,Keep w y → Calls Tryd.prog 34 #[.agg #[u32v m.t.ver,.slice m.t.iA m.t.ins.length m.t.ic,.slice m.t.oA m.t.outs.length m.t.oc,u32v m.t.lock]] y fun e w' => e = .returned (.bool (saneT m.t))∧Keep y w'):=Lib.hid fun y h => tsane_all _ y (ht.keep h)
 have HF : Hid (fitsB m = decide (0 ≤ m.kind∧m.kind < 11∧m.ls.length ≤ 101∧m.hs.length ≤ 2000∧m.is.length ≤ 50000∧m.shs.length ≤ 4096∧m.fs.length ≤ 1024∧(m.kind = 10 → saneT m.t = true)∧nothingB (othersM m) = true)):=Lib.hid rfl
 generalize fitsB m = R at *
 generalize saneT m.t = ST at *
 generalize nothingB (othersM m) = NT at *
 have HA:=Lib.hid hA;have HK:=Lib.hid hk
 clear hA hk ht
 go_enter Tryd.func16,Tryd.ntmps16
 go_upto_region 1 with fail
 obtain ⟨w1,hw1⟩ : ∃ w1,w1 = w.alloc (.cells cs 50):=⟨_,rfl⟩
 have HB1 : Hid (Blk w1 w.heap.size 50 m.cells):=by rw [hw1,← HA.out.l];exact Blk.new w _ cs.toList
 have HBc : Hid (Blk w1 w.heap.size 50 cs.toList):=by rw [hw1];exact Blk.new w _ cs.toList
 have HK1 : Hid (Keep w w1):=by rw [hw1];exact keep_new _ _
 rw [← hw1]
 clear hw1
 have rk : w1.cell? ⟨w.heap.size,0,none⟩ = some (.int .i64 m.kind):=(HB1.out.cell 0).trans rfl
 have rh : w1.cell? ⟨w.heap.size,4,none⟩ = some (.slice m.hA m.hs.length m.hc):=(HB1.out.cell 4).trans rfl
 have rl : w1.cell? ⟨w.heap.size,5,none⟩ = some (.slice m.lA m.ls.length m.lc):=(HB1.out.cell 5).trans rfl
 have ri : w1.cell? ⟨w.heap.size,38,none⟩ = some (.slice m.iA m.is.length m.ic):=(HB1.out.cell 38).trans ((MsgR.tail_get HK.out 0).trans rfl)
 have rs : w1.cell? ⟨w.heap.size,108,none⟩ = some (.slice m.sA m.shs.length m.sc):=(HB1.out.cell 108).trans ((MsgR.blk_tail HK.out 1 (by omega)).trans rfl)
 have rf : w1.cell? ⟨w.heap.size,109,none⟩ = some (.slice m.fA m.fs.length m.fc):=(HB1.out.cell 109).trans ((MsgR.blk_tail HK.out 2 (by omega)).trans rfl)
 have rt0 : w1.cell? ⟨w.heap.size,110,none⟩ = some (u32v m.t.ver):=(HB1.out.cell 110).trans ((MsgR.tx_get HK.out 0).trans rfl)
 have rt1 : w1.cell? ⟨w.heap.size,111,none⟩ = some (.slice m.t.iA m.t.ins.length m.t.ic):=(HB1.out.cell 111).trans ((MsgR.tx_get HK.out 1).trans rfl)
 have rt2 : w1.cell? ⟨w.heap.size,112,none⟩ = some (.slice m.t.oA m.t.outs.length m.t.oc):=(HB1.out.cell 112).trans ((MsgR.tx_get HK.out 2).trans rfl)
 have rt3 : w1.cell? ⟨w.heap.size,113,none⟩ = some (u32v m.t.lock):=(HB1.out.cell 113).trans ((MsgR.tx_get HK.out 3).trans rfl)
 by_cases c0 : m.kind < 0
 ·have hv : R = false:=by rw [HF.out,decide_eq_false_iff_not];omega
  subst hv
  have d0 : m.kind < 0:=by omega
  clear HF OT NO TS c0
  go_wp2
  exact bodyPost_ret (v:=.bool false) (by simp [results,Tryd.results16]) rfl ⟨rfl,HK1.out⟩
 have d0 : ¬ m.kind < 0:=by omega
 by_cases c1 : 11 ≤ m.kind
 ·have hv : R = false:=by rw [HF.out,decide_eq_false_iff_not];omega
  subst hv
  have d1 : (11 : Int) ≤ m.kind:=by omega
  clear HF OT NO TS c0 c1
  go_wp2
  exact bodyPost_ret (v:=.bool false) (by simp [results,Tryd.results16]) rfl ⟨rfl,HK1.out⟩
 have d1 : ¬ (11 : Int) ≤ m.kind:=by omega
 by_cases c2 : 101 < m.ls.length
 ·have hv : R = false:=by rw [HF.out,decide_eq_false_iff_not];omega
  subst hv
  have d2 : (101 : Int) < m.ls.length:=by omega
  clear HF OT NO TS c0 c1 c2
  go_wp2
  exact bodyPost_ret (v:=.bool false) (by simp [results,Tryd.results16]) rfl ⟨rfl,HK1.out⟩
 have d2 : ¬ (101 : Int) < m.ls.length:=by omega
 by_cases c3 : 2000 < m.hs.length
 ·have hv : R = false:=by rw [HF.out,decide_eq_false_iff_not];omega
  subst hv
  have d3 : (2000 : Int) < m.hs.length:=by omega
  clear HF OT NO TS c0 c1 c2 c3
  go_wp2
  exact bodyPost_ret (v:=.bool false) (by simp [results,Tryd.results16]) rfl ⟨rfl,HK1.out⟩
 have d3 : ¬ (2000 : Int) < m.hs.length:=by omega
 by_cases c4 : 50000 < m.is.length
 ·have hv : R = false:=by rw [HF.out,decide_eq_false_iff_not];omega
  subst hv
  have d4 : (50000 : Int) < m.is.length:=by omega
  clear HF OT NO TS c0 c1 c2 c3 c4
  go_wp2
  exact bodyPost_ret (v:=.bool false) (by simp [results,Tryd.results16]) rfl ⟨rfl,HK1.out⟩
 have d4 : ¬ (50000 : Int) < m.is.length:=by omega
 by_cases c5 : 4096 < m.shs.length
 ·have hv : R = false:=by rw [HF.out,decide_eq_false_iff_not];omega
  subst hv
  have d5 : (4096 : Int) < m.shs.length:=by omega
  clear HF OT NO TS c0 c1 c2 c3 c4 c5
  go_wp2
  exact bodyPost_ret (v:=.bool false) (by simp [results,Tryd.results16]) rfl ⟨rfl,HK1.out⟩
 have d5 : ¬ (4096 : Int) < m.shs.length:=by omega
 by_cases c6 : 1024 < m.fs.length
 ·have hv : R = false:=by rw [HF.out,decide_eq_false_iff_not];omega
  subst hv
  have d6 : (1024 : Int) < m.fs.length:=by omega
  clear HF OT NO TS c0 c1 c2 c3 c4 c5 c6
  go_wp2
  exact bodyPost_ret (v:=.bool false) (by simp [results,Tryd.results16]) rfl ⟨rfl,HK1.out⟩
 have d6 : ¬ (1024 : Int) < m.fs.length:=by omega
 by_cases hk10 : m.kind = 10
 ·have d8 : (m.kind == 10) = true:=by rw [beq_iff_eq];exact hk10
  cases ST with
  | false =>
    have hv : R = false:=by rw [HF.out,decide_eq_false_iff_not];intro q;exact absurd (q.2.2.2.2.2.2.2.1 hk10) (by decide)
    subst hv
    clear HF OT NO hk10 c0 c1 c2 c3 c4 c5 c6
    go_wp2_with (go_at_call 34;refine (TS.out _ HK1.out).mono ?_;rintro e w2 ⟨rfl,k2⟩;have HK2:=Lib.hid (keep_trans HK1.out k2);clear k2)
    exact bodyPost_ret (v:=.bool false) (by simp [results,Tryd.results16]) rfl ⟨rfl,HK2.out⟩
  | true =>
    have hv : R = NT:=by
     rw [HF.out]
     cases NT with
     | false => rw [decide_eq_false_iff_not];intro q;exact absurd q.2.2.2.2.2.2.2.2 (by decide)
     | true => rw [decide_eq_true_eq];exact ⟨by omega,by omega,by omega,by omega,by omega,by omega,by omega,fun _ => rfl,rfl⟩
    subst hv
    clear HF hk10 c0 c1 c2 c3 c4 c5 c6
    go_upto_region 9 with (go_at_call 34;refine (TS.out _ HK1.out).mono ?_;rintro e w2 ⟨rfl,k2⟩;have HK2:=Lib.hid (keep_trans HK1.out k2);have HB2:=Lib.hid (HBc.out.keep k2);clear k2)
    go_wp2_with (first | ((with_reducible refine load_arr w.heap.size cs (Eq.trans ?_ rfl) HB2.out _ Tryd.underlying50 rfl hci ?_);rfl) | (go_at_call 36;refine (OT.out _).mono ?_;rintro e w3 ⟨ds,rfl,hds,k3⟩;have hdn:=hds.n;have hdz:=hds.z;have HDS:=Lib.hid hds;have HK3:=Lib.hid (keep_trans HK2.out k3);clear hds k3) | (go_at_call 35;refine (NO.out _ _ HDS.out).mono ?_;rintro e w4 ⟨rfl,k4⟩;have HK4:=Lib.hid (keep_trans HK3.out k4);clear k4))
    exact bodyPost_ret (v:=.bool _) (by simp [results,Tryd.results16]) rfl ⟨rfl,HK4.out⟩
 ·have d8 : (m.kind == 10) = false:=by rw [beq_eq_false_iff_ne];exact hk10
  have hv : R = NT:=by
   rw [HF.out]
   cases NT with
   | false => rw [decide_eq_false_iff_not];intro q;exact absurd q.2.2.2.2.2.2.2.2 (by decide)
   | true => rw [decide_eq_true_eq];exact ⟨by omega,by omega,by omega,by omega,by omega,by omega,by omega,fun q => absurd q hk10,rfl⟩
  subst hv
  clear HF hk10 c0 c1 c2 c3 c4 c5 c6
  go_upto_region 9 with fail
  go_wp2_with (first | ((with_reducible refine load_arr w.heap.size cs (Eq.trans ?_ rfl) HBc.out _ Tryd.underlying50 rfl hci ?_);rfl) | (go_at_call 36;refine (OT.out _).mono ?_;rintro e w3 ⟨ds,rfl,hds,k3⟩;have hdn:=hds.n;have hdz:=hds.z;have HDS:=Lib.hid hds;have HK3:=Lib.hid (keep_trans HK1.out k3);clear hds k3) | (go_at_call 35;refine (NO.out _ _ HDS.out).mono ?_;rintro e w4 ⟨rfl,k4⟩;have HK4:=Lib.hid (keep_trans HK3.out k4);clear k4))
  exact bodyPost_ret (v:=.bool _) (by simp [results,Tryd.results16]) rfl ⟨rfl,HK4.out⟩
end Go.Proofs.YtffpanlpbdnafaaDoor
/- wire.parts. (printed by gen_vw.py) -/
set_option linter.unusedSimpArgs false
set_option linter.unusedVariables false
namespace Go.Proofs.YtffpanlpbdnafaaDoor
open Go.RowKit
attribute [local go_sem ↓] Go.wp_at_zero Go.wp_at_succ
inductive PV where
 | u32 (x : UInt32)
 | u64 (n : Nat)
 | hsh (A : Option Addr) (l : List (List UInt8)) (c most : Nat)
 | h32 (s : List UInt8)
 | heads (A : Option Addr) (l : List Hd) (c : Nat)
 | items (A : Option Addr) (l : List Itm) (c : Nat)
 | head (h : Hd)
 | bytes (A : Option Addr) (l : List UInt8) (c : Nat)
 | tx (t : TxR)
def PV.val : PV → Value
 | .u32 x => .iface 22 (u32v x)
 | .u64 n => .iface 25 (u64v n)
 | .hsh A l c most => .iface 143 (.agg #[.slice A l.length c,u64v most])
 | .h32 s => .iface 39 (.agg (s.map u8v).toArray)
 | .heads A l c => .iface 36 (.slice A l.length c)
 | .items A l c => .iface 40 (.slice A l.length c)
 | .head h => .iface 42 (.agg h.cells.toArray)
 | .bytes A l c => .iface 26 (.slice A l.length c)
 | .tx t => .iface 48 (.agg t.cells.toArray)
def partsM (m : MsgR) : List PV :=
 if m.kind = 0 then [.u32 m.proto,.u64 m.nonce,.u32 m.height]
 else if m.kind = 2 ∨ m.kind = 3 then [.u64 m.nonce]
 else if m.kind = 4 then [.u32 m.proto,.hsh m.lA m.ls m.lc 101,.h32 m.stop]
 else if m.kind = 5 then [.heads m.hA m.hs m.hc]
 else if m.kind = 6 ∨ m.kind = 7 ∨ m.kind = 8 then [.items m.iA m.is m.ic]
 else if m.kind = 9 then [.head m.bh,.u32 m.total,.hsh m.sA m.shs m.sc 4096,.bytes m.fA m.fs m.fc]
 else if m.kind = 10 then [.tx m.t]
 else []
set_option maxRecDepth 100000 in
set_option maxHeartbeats 8000000 in
theorem parts_any (m : MsgR) (cs : Array Value) (hA : MsA m cs) (hk : m.ok) (w : World) :
  Calls Tryd.prog 52 #[.agg cs] w fun e w' => ∃ A,e = .returned (.slice A (partsM m).length (partsM m).length)∧Rd w' A ((partsM m).map PV.val)∧Keep w w':=by
 obtain ⟨ss,hss⟩ : ∃ ss,HashA m.stop ss:=⟨_,HashA.of hk.s⟩
 obtain ⟨hv,hhv⟩ : ∃ hv,HdA m.bh hv:=⟨_,HdA.of hk.b⟩
 have hsn:=hss.n;have hsz:=hss.z;have hsi:=hss.i
 have hvn:=hhv.n;have hvz:=hhv.z;have hvi:=hhv.i
 have HS:=Lib.hid hss;have HH:=Lib.hid hhv
 have hHV : hv = m.bh.cells.toArray:=by have q:=hhv.l;rw [← q,Array.toArray_toList]
 have HHV:=Lib.hid hHV
 have hcn:=hA.n;have hcz:=hA.z;have hci:=hA.i
 have HA:=Lib.hid hA;have HK:=Lib.hid hk
 clear hA hk hss hhv hHV
 have HD : Hid (partsM m = if m.kind = 0 then [.u32 m.proto,.u64 m.nonce,.u32 m.height]
  else if m.kind = 2 ∨ m.kind = 3 then [.u64 m.nonce]
  else if m.kind = 4 then [.u32 m.proto,.hsh m.lA m.ls m.lc 101,.h32 m.stop]
  else if m.kind = 5 then [.heads m.hA m.hs m.hc]
  else if m.kind = 6 ∨ m.kind = 7 ∨ m.kind = 8 then [.items m.iA m.is m.ic]
  else if m.kind = 9 then [.head m.bh,.u32 m.total,.hsh m.sA m.shs m.sc 4096,.bytes m.fA m.fs m.fc]
  else if m.kind = 10 then [.tx m.t]
  else []):=Lib.hid rfl
 generalize partsM m = M at *
 go_enter Tryd.func52,Tryd.ntmps52
 go_upto_region 1 with fail
 obtain ⟨w1,hw1⟩ : ∃ w1,w1 = w.alloc (.cells cs 50):=⟨_,rfl⟩
 have HB1 : Hid (Blk w1 w.heap.size 50 m.cells):=by rw [hw1,← HA.out.l];exact Blk.new w _ cs.toList
 have HK1 : Hid (Keep w w1):=by rw [hw1];exact keep_new _ _
 rw [← hw1]
 clear hw1
 have RS : Hid (w1.rangeAt w.heap.size 6 ss.toList):=Lib.hid (range_of HB1.out 6 ss.toList (by
  rw [HS.out.l,MsgR.cells6,List.drop_left' (show m.hd6.length = 6 from rfl),List.take_left' rfl]))
 have RH : Hid (w1.rangeAt w.heap.size 39 hv.toList):=Lib.hid (range_of HB1.out 39 hv.toList (by
  rw [HH.out.l,MsgR.cells39,List.drop_left' (MsgR.hd39_len HK.out.s)]
  unfold MsgR.blk
  rw [List.append_assoc,List.take_left' rfl]))
 have r0 : w1.cell? ⟨w.heap.size,0,none⟩ = some (.int .i64 m.kind):=(HB1.out.cell 0).trans rfl
 by_cases h0 : m.kind = 0
 ·have HM : Hid (M = [.u32 m.proto,.u64 m.nonce,.u32 m.height]):=Lib.hid (HD.out.trans (by repeat (first | rw [if_pos (by omega)] | rw [if_neg (by omega)])))
  have d0 : (m.kind == 0) = true:=by rw [beq_iff_eq];exact h0
  have r1 : w1.cell? ⟨w.heap.size,1,none⟩ = some (u32v m.proto):=(HB1.out.cell 1).trans rfl
  have r2 : w1.cell? ⟨w.heap.size,2,none⟩ = some (u64v m.nonce):=(HB1.out.cell 2).trans rfl
  have r3 : w1.cell? ⟨w.heap.size,3,none⟩ = some (u32v m.height):=(HB1.out.cell 3).trans rfl
  have hml : M.length = 3:=by rw [HM.out];rfl
  have HML:=Lib.hid hml
  clear hml HD h0
  go_wp2_with (fail)
  refine bodyPost_ret (v:=.slice (some ⟨w1.heap.size,0,none⟩) 3 3) (by simp [results,Tryd.results52]) rfl ⟨some ⟨w1.heap.size,0,none⟩,by rw [HML.out],?_,keep_trans HK1.out (keep_new _ _)⟩
  rw [HM.out]
  simp only [List.map_cons,List.map_nil,PV.val]
  exact Rd.new w1 _ _
 by_cases h2 : m.kind = 2
 ·have HM : Hid (M = [.u64 m.nonce]):=Lib.hid (HD.out.trans (by repeat (first | rw [if_pos (by omega)] | rw [if_neg (by omega)])))
  have d0 : (m.kind == 0) = false:=by rw [beq_eq_false_iff_ne];exact h0
  have d2 : (m.kind == 2) = true:=by rw [beq_iff_eq];exact h2
  have r2 : w1.cell? ⟨w.heap.size,2,none⟩ = some (u64v m.nonce):=(HB1.out.cell 2).trans rfl
  have hml : M.length = 1:=by rw [HM.out];rfl
  have HML:=Lib.hid hml
  clear hml HD h0 h2
  go_wp2_with (fail)
  refine bodyPost_ret (v:=.slice (some ⟨w1.heap.size,0,none⟩) 1 1) (by simp [results,Tryd.results52]) rfl ⟨some ⟨w1.heap.size,0,none⟩,by rw [HML.out],?_,keep_trans HK1.out (keep_new _ _)⟩
  rw [HM.out]
  simp only [List.map_cons,List.map_nil,PV.val]
  exact Rd.new w1 _ _
 by_cases h3 : m.kind = 3
 ·have HM : Hid (M = [.u64 m.nonce]):=Lib.hid (HD.out.trans (by repeat (first | rw [if_pos (by omega)] | rw [if_neg (by omega)])))
  have d0 : (m.kind == 0) = false:=by rw [beq_eq_false_iff_ne];exact h0
  have d2 : (m.kind == 2) = false:=by rw [beq_eq_false_iff_ne];exact h2
  have d3 : (m.kind == 3) = true:=by rw [beq_iff_eq];exact h3
  have r2 : w1.cell? ⟨w.heap.size,2,none⟩ = some (u64v m.nonce):=(HB1.out.cell 2).trans rfl
  have hml : M.length = 1:=by rw [HM.out];rfl
  have HML:=Lib.hid hml
  clear hml HD h0 h2 h3
  go_wp2_with (fail)
  refine bodyPost_ret (v:=.slice (some ⟨w1.heap.size,0,none⟩) 1 1) (by simp [results,Tryd.results52]) rfl ⟨some ⟨w1.heap.size,0,none⟩,by rw [HML.out],?_,keep_trans HK1.out (keep_new _ _)⟩
  rw [HM.out]
  simp only [List.map_cons,List.map_nil,PV.val]
  exact Rd.new w1 _ _
 by_cases h4 : m.kind = 4
 ·have HM : Hid (M = [.u32 m.proto,.hsh m.lA m.ls m.lc 101,.h32 m.stop]):=Lib.hid (HD.out.trans (by repeat (first | rw [if_pos (by omega)] | rw [if_neg (by omega)])))
  have d0 : (m.kind == 0) = false:=by rw [beq_eq_false_iff_ne];exact h0
  have d2 : (m.kind == 2) = false:=by rw [beq_eq_false_iff_ne];exact h2
  have d3 : (m.kind == 3) = false:=by rw [beq_eq_false_iff_ne];exact h3
  have d4 : (m.kind == 4) = true:=by rw [beq_iff_eq];exact h4
  have r1 : w1.cell? ⟨w.heap.size,1,none⟩ = some (u32v m.proto):=(HB1.out.cell 1).trans rfl
  have r5 : w1.cell? ⟨w.heap.size,5,none⟩ = some (.slice m.lA m.ls.length m.lc):=(HB1.out.cell 5).trans rfl
  have hml : M.length = 3:=by rw [HM.out];rfl
  have HML:=Lib.hid hml
  clear hml HD h0 h2 h3 h4
  go_wp2_with (((with_reducible refine load_partg w.heap.size 6 ss (Eq.trans ?_ rfl) RS.out _ hash_under rfl hsi rfl ?_);rfl))
  refine bodyPost_ret (v:=.slice (some ⟨w1.heap.size,0,none⟩) 3 3) (by simp [results,Tryd.results52]) rfl ⟨some ⟨w1.heap.size,0,none⟩,by rw [HML.out],?_,keep_trans HK1.out (keep_new _ _)⟩
  rw [HM.out]
  simp only [List.map_cons,List.map_nil,PV.val];rw [HS.out.e]
  exact Rd.new w1 _ _
 by_cases h5 : m.kind = 5
 ·have HM : Hid (M = [.heads m.hA m.hs m.hc]):=Lib.hid (HD.out.trans (by repeat (first | rw [if_pos (by omega)] | rw [if_neg (by omega)])))
  have d0 : (m.kind == 0) = false:=by rw [beq_eq_false_iff_ne];exact h0
  have d2 : (m.kind == 2) = false:=by rw [beq_eq_false_iff_ne];exact h2
  have d3 : (m.kind == 3) = false:=by rw [beq_eq_false_iff_ne];exact h3
  have d4 : (m.kind == 4) = false:=by rw [beq_eq_false_iff_ne];exact h4
  have d5 : (m.kind == 5) = true:=by rw [beq_iff_eq];exact h5
  have r4 : w1.cell? ⟨w.heap.size,4,none⟩ = some (.slice m.hA m.hs.length m.hc):=(HB1.out.cell 4).trans rfl
  have hml : M.length = 1:=by rw [HM.out];rfl
  have HML:=Lib.hid hml
  clear hml HD h0 h2 h3 h4 h5
  go_wp2_with (fail)
  refine bodyPost_ret (v:=.slice (some ⟨w1.heap.size,0,none⟩) 1 1) (by simp [results,Tryd.results52]) rfl ⟨some ⟨w1.heap.size,0,none⟩,by rw [HML.out],?_,keep_trans HK1.out (keep_new _ _)⟩
  rw [HM.out]
  simp only [List.map_cons,List.map_nil,PV.val]
  exact Rd.new w1 _ _
 by_cases h6 : m.kind = 6
 ·have HM : Hid (M = [.items m.iA m.is m.ic]):=Lib.hid (HD.out.trans (by repeat (first | rw [if_pos (by omega)] | rw [if_neg (by omega)])))
  have d0 : (m.kind == 0) = false:=by rw [beq_eq_false_iff_ne];exact h0
  have d2 : (m.kind == 2) = false:=by rw [beq_eq_false_iff_ne];exact h2
  have d3 : (m.kind == 3) = false:=by rw [beq_eq_false_iff_ne];exact h3
  have d4 : (m.kind == 4) = false:=by rw [beq_eq_false_iff_ne];exact h4
  have d5 : (m.kind == 5) = false:=by rw [beq_eq_false_iff_ne];exact h5
  have d6 : (m.kind == 6) = true:=by rw [beq_iff_eq];exact h6
  have r38 : w1.cell? ⟨w.heap.size,38,none⟩ = some (.slice m.iA m.is.length m.ic):=(HB1.out.cell 38).trans ((MsgR.tail_get HK.out 0).trans rfl)
  have hml : M.length = 1:=by rw [HM.out];rfl
  have HML:=Lib.hid hml
  clear hml HD h0 h2 h3 h4 h5 h6
  go_wp2_with (fail)
  refine bodyPost_ret (v:=.slice (some ⟨w1.heap.size,0,none⟩) 1 1) (by simp [results,Tryd.results52]) rfl ⟨some ⟨w1.heap.size,0,none⟩,by rw [HML.out],?_,keep_trans HK1.out (keep_new _ _)⟩
  rw [HM.out]
  simp only [List.map_cons,List.map_nil,PV.val]
  exact Rd.new w1 _ _
 by_cases h7 : m.kind = 7
 ·have HM : Hid (M = [.items m.iA m.is m.ic]):=Lib.hid (HD.out.trans (by repeat (first | rw [if_pos (by omega)] | rw [if_neg (by omega)])))
  have d0 : (m.kind == 0) = false:=by rw [beq_eq_false_iff_ne];exact h0
  have d2 : (m.kind == 2) = false:=by rw [beq_eq_false_iff_ne];exact h2
  have d3 : (m.kind == 3) = false:=by rw [beq_eq_false_iff_ne];exact h3
  have d4 : (m.kind == 4) = false:=by rw [beq_eq_false_iff_ne];exact h4
  have d5 : (m.kind == 5) = false:=by rw [beq_eq_false_iff_ne];exact h5
  have d6 : (m.kind == 6) = false:=by rw [beq_eq_false_iff_ne];exact h6
  have d7 : (m.kind == 7) = true:=by rw [beq_iff_eq];exact h7
  have r38 : w1.cell? ⟨w.heap.size,38,none⟩ = some (.slice m.iA m.is.length m.ic):=(HB1.out.cell 38).trans ((MsgR.tail_get HK.out 0).trans rfl)
  have hml : M.length = 1:=by rw [HM.out];rfl
  have HML:=Lib.hid hml
  clear hml HD h0 h2 h3 h4 h5 h6 h7
  go_wp2_with (fail)
  refine bodyPost_ret (v:=.slice (some ⟨w1.heap.size,0,none⟩) 1 1) (by simp [results,Tryd.results52]) rfl ⟨some ⟨w1.heap.size,0,none⟩,by rw [HML.out],?_,keep_trans HK1.out (keep_new _ _)⟩
  rw [HM.out]
  simp only [List.map_cons,List.map_nil,PV.val]
  exact Rd.new w1 _ _
 by_cases h8 : m.kind = 8
 ·have HM : Hid (M = [.items m.iA m.is m.ic]):=Lib.hid (HD.out.trans (by repeat (first | rw [if_pos (by omega)] | rw [if_neg (by omega)])))
  have d0 : (m.kind == 0) = false:=by rw [beq_eq_false_iff_ne];exact h0
  have d2 : (m.kind == 2) = false:=by rw [beq_eq_false_iff_ne];exact h2
  have d3 : (m.kind == 3) = false:=by rw [beq_eq_false_iff_ne];exact h3
  have d4 : (m.kind == 4) = false:=by rw [beq_eq_false_iff_ne];exact h4
  have d5 : (m.kind == 5) = false:=by rw [beq_eq_false_iff_ne];exact h5
  have d6 : (m.kind == 6) = false:=by rw [beq_eq_false_iff_ne];exact h6
  have d7 : (m.kind == 7) = false:=by rw [beq_eq_false_iff_ne];exact h7
  have d8 : (m.kind == 8) = true:=by rw [beq_iff_eq];exact h8
  have r38 : w1.cell? ⟨w.heap.size,38,none⟩ = some (.slice m.iA m.is.length m.ic):=(HB1.out.cell 38).trans ((MsgR.tail_get HK.out 0).trans rfl)
  have hml : M.length = 1:=by rw [HM.out];rfl
  have HML:=Lib.hid hml
  clear hml HD h0 h2 h3 h4 h5 h6 h7 h8
  go_wp2_with (fail)
  refine bodyPost_ret (v:=.slice (some ⟨w1.heap.size,0,none⟩) 1 1) (by simp [results,Tryd.results52]) rfl ⟨some ⟨w1.heap.size,0,none⟩,by rw [HML.out],?_,keep_trans HK1.out (keep_new _ _)⟩
  rw [HM.out]
  simp only [List.map_cons,List.map_nil,PV.val]
  exact Rd.new w1 _ _
 by_cases h9 : m.kind = 9
 ·have HM : Hid (M = [.head m.bh,.u32 m.total,.hsh m.sA m.shs m.sc 4096,.bytes m.fA m.fs m.fc]):=Lib.hid (HD.out.trans (by repeat (first | rw [if_pos (by omega)] | rw [if_neg (by omega)])))
  have d0 : (m.kind == 0) = false:=by rw [beq_eq_false_iff_ne];exact h0
  have d2 : (m.kind == 2) = false:=by rw [beq_eq_false_iff_ne];exact h2
  have d3 : (m.kind == 3) = false:=by rw [beq_eq_false_iff_ne];exact h3
  have d4 : (m.kind == 4) = false:=by rw [beq_eq_false_iff_ne];exact h4
  have d5 : (m.kind == 5) = false:=by rw [beq_eq_false_iff_ne];exact h5
  have d6 : (m.kind == 6) = false:=by rw [beq_eq_false_iff_ne];exact h6
  have d7 : (m.kind == 7) = false:=by rw [beq_eq_false_iff_ne];exact h7
  have d8 : (m.kind == 8) = false:=by rw [beq_eq_false_iff_ne];exact h8
  have d9 : (m.kind == 9) = true:=by rw [beq_iff_eq];exact h9
  have r107 : w1.cell? ⟨w.heap.size,107,none⟩ = some (u32v m.total):=(HB1.out.cell 107).trans ((MsgR.blk_tail HK.out 0 (by omega)).trans rfl)
  have r108 : w1.cell? ⟨w.heap.size,108,none⟩ = some (.slice m.sA m.shs.length m.sc):=(HB1.out.cell 108).trans ((MsgR.blk_tail HK.out 1 (by omega)).trans rfl)
  have r109 : w1.cell? ⟨w.heap.size,109,none⟩ = some (.slice m.fA m.fs.length m.fc):=(HB1.out.cell 109).trans ((MsgR.blk_tail HK.out 2 (by omega)).trans rfl)
  have hml : M.length = 4:=by rw [HM.out];rfl
  have HML:=Lib.hid hml
  clear hml HD h0 h2 h3 h4 h5 h6 h7 h8 h9
  go_wp2_with (((with_reducible refine load_partg w.heap.size 39 hv (Eq.trans ?_ rfl) RH.out _ Tryd.underlying42 rfl hvi rfl ?_);rfl))
  refine bodyPost_ret (v:=.slice (some ⟨w1.heap.size,0,none⟩) 4 4) (by simp [results,Tryd.results52]) rfl ⟨some ⟨w1.heap.size,0,none⟩,by rw [HML.out],?_,keep_trans HK1.out (keep_new _ _)⟩
  rw [HM.out]
  simp only [List.map_cons,List.map_nil,PV.val];rw [← HHV.out]
  exact Rd.new w1 _ _
 by_cases h10 : m.kind = 10
 ·have HM : Hid (M = [.tx m.t]):=Lib.hid (HD.out.trans (by repeat (first | rw [if_pos (by omega)] | rw [if_neg (by omega)])))
  have d0 : (m.kind == 0) = false:=by rw [beq_eq_false_iff_ne];exact h0
  have d2 : (m.kind == 2) = false:=by rw [beq_eq_false_iff_ne];exact h2
  have d3 : (m.kind == 3) = false:=by rw [beq_eq_false_iff_ne];exact h3
  have d4 : (m.kind == 4) = false:=by rw [beq_eq_false_iff_ne];exact h4
  have d5 : (m.kind == 5) = false:=by rw [beq_eq_false_iff_ne];exact h5
  have d6 : (m.kind == 6) = false:=by rw [beq_eq_false_iff_ne];exact h6
  have d7 : (m.kind == 7) = false:=by rw [beq_eq_false_iff_ne];exact h7
  have d8 : (m.kind == 8) = false:=by rw [beq_eq_false_iff_ne];exact h8
  have d9 : (m.kind == 9) = false:=by rw [beq_eq_false_iff_ne];exact h9
  have d10 : (m.kind == 10) = true:=by rw [beq_iff_eq];exact h10
  have r110 : w1.cell? ⟨w.heap.size,110,none⟩ = some (u32v m.t.ver):=(HB1.out.cell 110).trans ((MsgR.tx_get HK.out 0).trans rfl)
  have r111 : w1.cell? ⟨w.heap.size,111,none⟩ = some (.slice m.t.iA m.t.ins.length m.t.ic):=(HB1.out.cell 111).trans ((MsgR.tx_get HK.out 1).trans rfl)
  have r112 : w1.cell? ⟨w.heap.size,112,none⟩ = some (.slice m.t.oA m.t.outs.length m.t.oc):=(HB1.out.cell 112).trans ((MsgR.tx_get HK.out 2).trans rfl)
  have r113 : w1.cell? ⟨w.heap.size,113,none⟩ = some (u32v m.t.lock):=(HB1.out.cell 113).trans ((MsgR.tx_get HK.out 3).trans rfl)
  have hml : M.length = 1:=by rw [HM.out];rfl
  have HML:=Lib.hid hml
  clear hml HD h0 h2 h3 h4 h5 h6 h7 h8 h9 h10
  go_wp2_with (fail)
  refine bodyPost_ret (v:=.slice (some ⟨w1.heap.size,0,none⟩) 1 1) (by simp [results,Tryd.results52]) rfl ⟨some ⟨w1.heap.size,0,none⟩,by rw [HML.out],?_,keep_trans HK1.out (keep_new _ _)⟩
  rw [HM.out]
  simp only [List.map_cons,List.map_nil,PV.val]
  exact Rd.new w1 _ _
 have HM : Hid (M = []):=Lib.hid (HD.out.trans (by repeat (first | rw [if_pos (by omega)] | rw [if_neg (by omega)])))
 have d0 : (m.kind == 0) = false:=by rw [beq_eq_false_iff_ne];exact h0
 have d2 : (m.kind == 2) = false:=by rw [beq_eq_false_iff_ne];exact h2
 have d3 : (m.kind == 3) = false:=by rw [beq_eq_false_iff_ne];exact h3
 have d4 : (m.kind == 4) = false:=by rw [beq_eq_false_iff_ne];exact h4
 have d5 : (m.kind == 5) = false:=by rw [beq_eq_false_iff_ne];exact h5
 have d6 : (m.kind == 6) = false:=by rw [beq_eq_false_iff_ne];exact h6
 have d7 : (m.kind == 7) = false:=by rw [beq_eq_false_iff_ne];exact h7
 have d8 : (m.kind == 8) = false:=by rw [beq_eq_false_iff_ne];exact h8
 have d9 : (m.kind == 9) = false:=by rw [beq_eq_false_iff_ne];exact h9
 have d10 : (m.kind == 10) = false:=by rw [beq_eq_false_iff_ne];exact h10
 clear HD h0 h2 h3 h4 h5 h6 h7 h8 h9 h10
 go_wp2
 exact bodyPost_ret (v:=.slice none 0 0) (by simp [results,Tryd.results52]) rfl ⟨none,by rw [HM.out];rfl,by rw [HM.out];exact Rd.nil _ _,HK1.out⟩
end Go.Proofs.YtffpanlpbdnafaaDoor
/- wire.lay: numbers. (printed by gen_vx.py) -/
set_option linter.unusedSimpArgs false
set_option linter.unusedVariables false
namespace Go.Proofs.YtffpanlpbdnafaaDoor
open Go.RowKit
attribute [local go_sem ↓] Go.wp_at_zero Go.wp_at_succ
theorem run_assert_no {P : Program} {t a : TypeId} {d : TypeDesc} {z : Value} (hu : P.underlying a = some d) (hd : (match d with | .interface _ => true | _ => false) = false) (hne : t ≠ a) (hz : ∀ w,(zeroValue a).run P w = .ok z w) (v : Value) (xT : TypeId) (w : World) :
  (Instr.typeAssert (.iface t v) xT a true).run P w = .ok (.tuple #[z,.bool false]) w:=by
 unfold Instr.typeAssert
 cases d <;> first | (simp at hd;done) | simp [run_underlying hu,hne,hz,Sem.run_bind,Result.andThen]
theorem run_assert_yes {P : Program} {a : TypeId} {d : TypeDesc} (hu : P.underlying a = some d) (hd : (match d with | .interface _ => true | _ => false) = false) (v : Value) (xT : TypeId) (w : World) :
  (Instr.typeAssert (.iface a v) xT a true).run P w = .ok (.tuple #[v,.bool true]) w:=by
 unfold Instr.typeAssert
 cases d <;> first | (simp at hd;done) | simp [run_underlying hu,Sem.run_bind,Result.andThen]
theorem run_assert_must {P : Program} {a : TypeId} {d : TypeDesc} (hu : P.underlying a = some d) (hd : (match d with | .interface _ => true | _ => false) = false) (v : Value) (xT : TypeId) (w : World) :
  (Instr.typeAssert (.iface a v) xT a false).run P w = .ok v w:=by
 unfold Instr.typeAssert
 cases d <;> first | (simp at hd;done) | simp [run_underlying hu,Sem.run_bind,Result.andThen]
theorem zu32 (w : World) : (zeroValue 22).run Tryd.prog w = .ok (.int .u32 0) w:=by kernel_rfl
def layL : PV → List UInt8
 | .u32 x => loN x.toNat 4
 | .u64 n => loN n 8
 | .hsh _ l _ _ => cptL l.length ++ l.flatten
 | .h32 s => s
 | .heads _ l _ => hpall l
 | .items _ l _ => cptL l.length ++ l.flatMap fun x => loN x.ty.toNat 4 ++ x.h
 | .head h => hputL h
 | .bytes _ l _ => cptL l.length ++ l
 | .tx t => if saneT t = true then txL t else []
set_option maxRecDepth 100000 in
set_option maxHeartbeats 4000000 in
theorem lay_u32 (B : Nat) (v : Value) (N : Nat) (xs : List Value) (w : World) (own : w.ownsRow B 5 1 v N xs) (hB : B ≤ w.heap.size) (hN : N ≤ 900000000) (x : UInt32) :
  Calls Tryd.prog 53 #[v,.iface 22 (u32v x)] w (Apd B v (N + 4) (xs ++ (loN x.toNat 4).map u8v) w):=by
 obtain ⟨zh,hzA,hz0⟩:=zhash_letter32
 have hzn:=hzA.n;have hzz:=hzA.z
 have HZ:=Lib.hid hzA
 have HO:=Lib.hid own;have HB:=Lib.hid hB
 clear own hzA
 have hx32:=x.toNat_lt
 have WN : Hid (∀ y,w.heap.size ≤ y.heap.size → y.ownsRow B 5 1 v N xs → Calls Tryd.prog 63 #[v,u64v x.toNat,iv 4] y (Apd B v (N + 4) (xs ++ (loN x.toNat 4).map u8v) y)):=Lib.hid fun y h1 h2 => wnum_any B v N xs x.toNat 4 y h2 (by have:=HB.out;omega) (by omega) (by omega)
 generalize loN x.toNat 4 = T at *
 unfold Apd
 go_enter Tryd.func53,Tryd.ntmps53
 have NH : ∀ y,(Instr.typeAssert (.iface 22 (u32v x)) 20 39 true).run Tryd.prog y = .ok (.tuple #[.agg zh,.bool false]) y:=run_assert_no hash_under rfl (by decide) hz0 _ _
 have Y1 : ∀ y,(Instr.typeAssert (.iface 22 (u32v x)) 20 22 true).run Tryd.prog y = .ok (.tuple #[u32v x,.bool true]) y:=run_assert_yes Tryd.underlying22 rfl _ _
 have hst : ∀ y : World,(storeCells ⟨y.heap.size,0,none⟩ zh.toList 0).run Tryd.prog (y.alloc (.cells zh 39)) = .ok () (y.alloc (.cells zh 39)):=fun y => run_storeCells_new (P:=Tryd.prog) y 39 zh zh HZ.out.i rfl (by have:=all_oneCell_toArray HZ.out.o;simpa using this)
 go_upto_region 4 with fail
 go_wp2_with (go_at_call 63;refine (WN.out _ (by simp) (HO.out.alloc _)).mono ?_;rintro e w2 ⟨v2,rfl,own2,gr2⟩)
 exact bodyPost_ret (v:=v2) (by simp [results,Tryd.results53]) rfl ⟨_,rfl,own2,Gr.trans (Gr.of_keep (keep_new _ _) _) gr2⟩
set_option maxRecDepth 100000 in
set_option maxHeartbeats 4000000 in
theorem lay_u64 (B : Nat) (v : Value) (N : Nat) (xs : List Value) (w : World) (own : w.ownsRow B 5 1 v N xs) (hB : B ≤ w.heap.size) (hN : N ≤ 900000000) (n : Nat) (hn : n < 2 ^ 64) :
  Calls Tryd.prog 53 #[v,.iface 25 (u64v n)] w (Apd B v (N + 8) (xs ++ (loN n 8).map u8v) w):=by
 obtain ⟨zh,hzA,hz0⟩:=zhash_letter32
 have hzn:=hzA.n;have hzz:=hzA.z
 have HZ:=Lib.hid hzA
 have HO:=Lib.hid own;have HB:=Lib.hid hB
 clear own hzA
 have WN : Hid (∀ y,w.heap.size ≤ y.heap.size → y.ownsRow B 5 1 v N xs → Calls Tryd.prog 63 #[v,u64v n,iv 8] y (Apd B v (N + 8) (xs ++ (loN n 8).map u8v) y)):=Lib.hid fun y h1 h2 => wnum_any B v N xs n 8 y h2 (by have:=HB.out;omega) (by omega) (by omega)
 generalize loN n 8 = T at *
 unfold Apd
 go_enter Tryd.func53,Tryd.ntmps53
 have NH : ∀ y,(Instr.typeAssert (.iface 25 (u64v n)) 20 39 true).run Tryd.prog y = .ok (.tuple #[.agg zh,.bool false]) y:=run_assert_no hash_under rfl (by decide) hz0 _ _
 have N1 : ∀ y,(Instr.typeAssert (.iface 25 (u64v n)) 20 22 true).run Tryd.prog y = .ok (.tuple #[.int .u32 0,.bool false]) y:=run_assert_no Tryd.underlying22 rfl (by decide) zu32 _ _
 have Y1 : ∀ y,(Instr.typeAssert (.iface 25 (u64v n)) 20 25 true).run Tryd.prog y = .ok (.tuple #[u64v n,.bool true]) y:=run_assert_yes Tryd.underlying25 rfl _ _
 have hst : ∀ y : World,(storeCells ⟨y.heap.size,0,none⟩ zh.toList 0).run Tryd.prog (y.alloc (.cells zh 39)) = .ok () (y.alloc (.cells zh 39)):=fun y => run_storeCells_new (P:=Tryd.prog) y 39 zh zh HZ.out.i rfl (by have:=all_oneCell_toArray HZ.out.o;simpa using this)
 go_upto_region 4 with fail
 go_wp2_with (go_at_call 63;refine (WN.out _ (by simp) (HO.out.alloc _)).mono ?_;rintro e w2 ⟨v2,rfl,own2,gr2⟩)
 exact bodyPost_ret (v:=v2) (by simp [results,Tryd.results53]) rfl ⟨_,rfl,own2,Gr.trans (Gr.of_keep (keep_new _ _) _) gr2⟩
end Go.Proofs.YtffpanlpbdnafaaDoor
/- wire.lay: bytes, a hash, a header, headers, a transaction. (printed by gen_vy.py) -/
set_option linter.unusedSimpArgs false
set_option linter.unusedVariables false
namespace Go.Proofs.YtffpanlpbdnafaaDoor
open Go.RowKit
attribute [local go_sem ↓] Go.wp_at_zero Go.wp_at_succ
theorem zu64 (w : World) : (zeroValue 25).run Tryd.prog w = .ok (.int .u64 0) w:=by kernel_rfl
theorem zhashes (w : World) : (zeroValue 143).run Tryd.prog w = .ok (.agg #[.slice none 0 0,.int .u64 0]) w:=by kernel_rfl
theorem zitems (w : World) : (zeroValue 40).run Tryd.prog w = .ok (.slice none 0 0) w:=by kernel_rfl
theorem zbytes (w : World) : (zeroValue 26).run Tryd.prog w = .ok (.slice none 0 0) w:=by kernel_rfl
theorem zheads (w : World) : (zeroValue 36).run Tryd.prog w = .ok (.slice none 0 0) w:=by kernel_rfl
theorem Gr.old {w0 a b : World} {u v : Value} {e : TypeId} {size n : Nat} {xs : List Value} (h : Gr a u b v) (ho : a.ownsRow w0.heap.size e size u n xs) (k : Keep w0 a) : Keep w0 b :=
 Below.trans k (h.below ho k.size)
set_option maxRecDepth 100000 in
set_option maxHeartbeats 4000000 in
theorem lay_bytes (w0 : World) (v : Value) (N : Nat) (xs : List Value) (A : Option Addr) (l : List UInt8) (c : Nat) (w : World) (hk0 : Keep w0 w) (own : w.ownsRow w0.heap.size 5 1 v N xs) (hN : N ≤ 900000000) (hl : l.length ≤ 50000) (hr : Rd w0 A (l.map u8v)) :
  Calls Tryd.prog 53 #[v,.iface 26 (.slice A l.length c)] w (Apd w0.heap.size v (N + sizN l.length + l.length) (xs ++ (cptL l.length).map u8v ++ l.map u8v) w):=by
 obtain ⟨zh,hzA,hz0⟩:=zhash_letter32
 have hzn:=hzA.n;have hzz:=hzA.z
 have HZ:=Lib.hid hzA
 have HO:=Lib.hid own;have HK:=Lib.hid hk0;have HR:=Lib.hid hr
 have hs:=siz_le l.length
 have WC : Hid (∀ y,w.heap.size ≤ y.heap.size → y.ownsRow w0.heap.size 5 1 v N xs → Calls Tryd.prog 64 #[v,iv l.length] y (Apd w0.heap.size v (N + sizN l.length) (xs ++ (cptL l.length).map u8v) y)):=Lib.hid fun y h1 h2 => wcount_any w0.heap.size v N xs l.length y h2 (by have:=HK.out.size;omega) (by omega) (by omega)
 clear own hzA hk0 hr
 obtain ⟨CL,hCL⟩ : ∃ CL,cptL l.length = CL:=⟨_,rfl⟩
 obtain ⟨SN,hSN⟩ : ∃ SN,sizN l.length = SN:=⟨_,rfl⟩
 rw [hCL,hSN] at WC
 rw [hSN] at hs
 rw [hCL,hSN]
 clear hCL hSN
 unfold Apd
 go_enter Tryd.func53,Tryd.ntmps53
 have NH : ∀ y,(Instr.typeAssert (.iface 26 (.slice A l.length c)) 20 39 true).run Tryd.prog y = .ok (.tuple #[.agg zh,.bool false]) y:=run_assert_no hash_under rfl (by decide) hz0 _ _
 have N0 : ∀ y,(Instr.typeAssert (.iface 26 (.slice A l.length c)) 20 22 true).run Tryd.prog y = .ok (.tuple #[.int .u32 0,.bool false]) y:=run_assert_no Tryd.underlying22 rfl (by decide) zu32 _ _
 have N1 : ∀ y,(Instr.typeAssert (.iface 26 (.slice A l.length c)) 20 25 true).run Tryd.prog y = .ok (.tuple #[.int .u64 0,.bool false]) y:=run_assert_no Tryd.underlying25 rfl (by decide) zu64 _ _
 have N2 : ∀ y,(Instr.typeAssert (.iface 26 (.slice A l.length c)) 20 143 true).run Tryd.prog y = .ok (.tuple #[.agg #[.slice none 0 0,.int .u64 0],.bool false]) y:=run_assert_no Tryd.underlying143 rfl (by decide) zhashes _ _
 have N3 : ∀ y,(Instr.typeAssert (.iface 26 (.slice A l.length c)) 20 40 true).run Tryd.prog y = .ok (.tuple #[.slice none 0 0,.bool false]) y:=run_assert_no Tryd.underlying40 rfl (by decide) zitems _ _
 have Y1 : ∀ y,(Instr.typeAssert (.iface 26 (.slice A l.length c)) 20 26 true).run Tryd.prog y = .ok (.tuple #[.slice A l.length c,.bool true]) y:=run_assert_yes Tryd.underlying26 rfl _ _
 have hst : ∀ y : World,(storeCells ⟨y.heap.size,0,none⟩ zh.toList 0).run Tryd.prog (y.alloc (.cells zh 39)) = .ok () (y.alloc (.cells zh 39)):=fun y => run_storeCells_new (P:=Tryd.prog) y 39 zh zh HZ.out.i rfl (by have:=all_oneCell_toArray HZ.out.o;simpa using this)
 go_upto_region 4 with fail
 go_upto_region 31 with (go_at_call 64;refine (WC.out _ (by simp) (HO.out.alloc _)).mono ?_;rintro e w2 ⟨v2,rfl,own2,gr2⟩;obtain ⟨A2,c2,rfl,-,-,-⟩:=own_form own2;have Own2:=Lib.hid own2;have Gr2:=Lib.hid (Gr.trans (Gr.of_keep (keep_new _ _) _) gr2);have HK2:=Lib.hid (gr2.old (HO.out.alloc _) (keep_trans HK.out (keep_new _ _)));clear own2 gr2)
 have hsz2:=HK2.out.size
 go_wp2_with (at_builtin;refine wpList_app byteT (by rfl) _ _ (by rfl) w0.heap.size _ _ _ (by rfl) Own2.out _ l.length c (l.map u8v) (by rfl) (by simp) (HR.out.keep HK2.out) (one_bytes l) (by omega) (by unfold maxLen;omega) (by omega) ?_;intro v3 w3 own3 hg3 hat3;have Own3:=Lib.hid own3;have Gr3:=Lib.hid (Gr2.out.app hg3 hat3);clear own3 hg3 hat3)
 exact bodyPost_ret (v:=v3) (by simp [results,Tryd.results53]) rfl ⟨_,rfl,Own3.out,Gr3.out⟩
set_option maxRecDepth 100000 in
set_option maxHeartbeats 4000000 in
theorem lay_h32 (w0 : World) (v : Value) (N : Nat) (xs : List Value) (s : List UInt8) (ss : Array Value) (w : World) (hk0 : Keep w0 w) (own : w.ownsRow w0.heap.size 5 1 v N xs) (hN : N ≤ 900000000) (hs : HashA s ss) (hl : s.length = 32) :
  Calls Tryd.prog 53 #[v,.iface 39 (.agg ss)] w (Apd w0.heap.size v (N + 32) (xs ++ (s).map u8v) w):=by
 obtain ⟨zh,hzA,hz0⟩:=zhash_letter32
 obtain ⟨zd,hzD,hd0⟩:=zhead_letterA
 have hzn:=hzA.n;have hzz:=hzA.z
 have hdn:=hzD.n;have hdz:=hzD.z
 have HZ:=Lib.hid hzA;have HZD:=Lib.hid hzD
 have HO:=Lib.hid own;have HK:=Lib.hid hk0
 have hs0:=hk0.size
 clear own hzA hzD hk0
 have hsn:=hs.n;have hsz:=hs.z;have hsi:=hs.i
 have HS:=Lib.hid hs
 clear hs
 unfold Apd
 go_enter Tryd.func53,Tryd.ntmps53
 have YH : ∀ y,(Instr.typeAssert (.iface 39 (.agg ss)) 20 39 true).run Tryd.prog y = .ok (.tuple #[.agg ss,.bool true]) y:=run_assert_yes hash_under rfl _ _
 have hst : ∀ y : World,(storeCells ⟨y.heap.size,0,none⟩ ss.toList 0).run Tryd.prog (y.alloc (.cells zh 39)) = .ok () (y.alloc (.cells ss 39)):=fun y => run_storeCells_new (P:=Tryd.prog) y 39 zh ss HS.out.i (hzz.trans hsz.symm) (by have:=all_oneCell_toArray HS.out.o;simpa using this)
 have RD : Hid (Rd (w.alloc (.cells ss 39)) (some ⟨w.heap.size,0,none⟩) (s.map u8v)):=Lib.hid (by have q:=Rd.new w ss.toList 39;rw [HS.out.l] at q;simpa [← HS.out.e] using q)
 go_upto_region 2 with fail
 go_wp2_with (at_builtin;refine wpList_app byteT (by rfl) _ _ (by rfl) w0.heap.size _ _ _ (by rfl) (HO.out.alloc _) _ 32 32 (s.map u8v) (by rfl) (by simp [hl]) RD.out (one_bytes s) (by omega) (by unfold maxLen;omega) (by simp;omega) ?_;intro v3 w3 own3 hg3 hat3;have Own3:=Lib.hid own3;have Gr3:=Lib.hid ((Gr.trans (Gr.of_keep (keep_new _ _) _) (Gr.refl _ _)).app hg3 hat3);clear own3 hg3 hat3)
 exact bodyPost_ret (v:=v3) (by simp [results,Tryd.results53]) rfl ⟨_,rfl,Own3.out,Gr3.out⟩
set_option maxRecDepth 100000 in
set_option maxHeartbeats 4000000 in
theorem lay_head (w0 : World) (v : Value) (N : Nat) (xs : List Value) (h : Hd) (hv : Array Value) (w : World) (hk0 : Keep w0 w) (own : w.ownsRow w0.heap.size 5 1 v N xs) (hN : N ≤ 900000000) (hh : HdA h hv) (hk : h.ok) :
  Calls Tryd.prog 53 #[v,.iface 42 (.agg hv)] w (Apd w0.heap.size v (N + 80) (xs ++ (hputL h).map u8v) w):=by
 obtain ⟨zh,hzA,hz0⟩:=zhash_letter32
 obtain ⟨zd,hzD,hd0⟩:=zhead_letterA
 have hzn:=hzA.n;have hzz:=hzA.z
 have hdn:=hzD.n;have hdz:=hzD.z
 have HZ:=Lib.hid hzA;have HZD:=Lib.hid hzD
 have HO:=Lib.hid own;have HK:=Lib.hid hk0
 have hs0:=hk0.size
 clear own hzA hzD hk0
 have hvn:=hh.n;have hvz:=hh.z;have hvi:=hh.i
 have HH:=Lib.hid hh
 have hpl:=hputL_len hk
 have HP : Hid (∀ y,Calls Tryd.prog 65 #[.agg hv] y fun e w' => ∃ A,e = .returned (.slice A 80 80)∧Rd w' A ((hputL h).map u8v)∧Keep y w'):=Lib.hid fun y => hput_any h hv y hk HH.out
 clear hh
 generalize hputL h = hp at *
 unfold Apd
 go_enter Tryd.func53,Tryd.ntmps53
 have NH : ∀ y,(Instr.typeAssert (.iface 42 (.agg hv)) 20 39 true).run Tryd.prog y = .ok (.tuple #[.agg zh,.bool false]) y:=run_assert_no hash_under rfl (by decide) hz0 _ _
 have N0 : ∀ y,(Instr.typeAssert (.iface 42 (.agg hv)) 20 22 true).run Tryd.prog y = .ok (.tuple #[.int .u32 0,.bool false]) y:=run_assert_no Tryd.underlying22 rfl (by decide) zu32 _ _
 have N1 : ∀ y,(Instr.typeAssert (.iface 42 (.agg hv)) 20 25 true).run Tryd.prog y = .ok (.tuple #[.int .u64 0,.bool false]) y:=run_assert_no Tryd.underlying25 rfl (by decide) zu64 _ _
 have N2 : ∀ y,(Instr.typeAssert (.iface 42 (.agg hv)) 20 143 true).run Tryd.prog y = .ok (.tuple #[.agg #[.slice none 0 0,.int .u64 0],.bool false]) y:=run_assert_no Tryd.underlying143 rfl (by decide) zhashes _ _
 have N3 : ∀ y,(Instr.typeAssert (.iface 42 (.agg hv)) 20 40 true).run Tryd.prog y = .ok (.tuple #[.slice none 0 0,.bool false]) y:=run_assert_no Tryd.underlying40 rfl (by decide) zitems _ _
 have N4 : ∀ y,(Instr.typeAssert (.iface 42 (.agg hv)) 20 26 true).run Tryd.prog y = .ok (.tuple #[.slice none 0 0,.bool false]) y:=run_assert_no Tryd.underlying26 rfl (by decide) zbytes _ _
 have Y1 : ∀ y,(Instr.typeAssert (.iface 42 (.agg hv)) 20 42 true).run Tryd.prog y = .ok (.tuple #[.agg hv,.bool true]) y:=run_assert_yes Tryd.underlying42 rfl _ _
 have hst : ∀ y : World,(storeCells ⟨y.heap.size,0,none⟩ zh.toList 0).run Tryd.prog (y.alloc (.cells zh 39)) = .ok () (y.alloc (.cells zh 39)):=fun y => run_storeCells_new (P:=Tryd.prog) y 39 zh zh HZ.out.i rfl (by have:=all_oneCell_toArray HZ.out.o;simpa using this)
 have hst2 : (storeCells ⟨w.heap.size + 1,0,none⟩ hv.toList 0).run Tryd.prog ((w.alloc (.cells zh 39)).alloc (.cells zd 42)) = .ok () ((w.alloc (.cells zh 39)).alloc (.cells hv 42)):=by
  have q:=run_storeCells_new (P:=Tryd.prog) (w.alloc (.cells zh 39)) 42 zd hv hvi (hdz.trans hvz.symm) (by have:=all_oneCell_toArray HH.out.o;simpa using this)
  rw [World.size_alloc] at q
  exact q
 go_upto_region 34 with fail
 obtain ⟨w1,hw1⟩ : ∃ w1,w1 = (w.alloc (.cells zh 39)).alloc (.cells hv 42):=⟨_,rfl⟩
 have HB1 : Hid (Blk w1 (w.heap.size + 1) 42 hv.toList):=by
  rw [hw1]
  have h2:=Blk.new (w.alloc (.cells zh 39)) 42 hv.toList
  rw [World.size_alloc] at h2
  exact Lib.hid h2
 have k1 : Keep w w1:=by rw [hw1];exact keep_trans (keep_new _ _) (keep_new _ _)
 have HK1:=Lib.hid k1
 rw [← hw1]
 clear hw1 hst hst2 k1
 go_wp2_with (first | ((with_reducible refine load_arr (w.heap.size + 1) hv (Eq.trans ?_ rfl) HB1.out _ Tryd.underlying42 rfl hvi ?_);rfl) | (go_at_call 65;refine (HP.out _).mono ?_;rintro e w2 ⟨A2,rfl,r2,k2⟩;have RD2:=Lib.hid r2;have HK2:=Lib.hid (keep_trans HK1.out k2);have hs2:=HK2.out.size;clear r2 k2) | (at_builtin;refine wpList_app byteT (by rfl) _ _ (by rfl) w0.heap.size _ _ _ (by rfl) (own_keep HO.out HK2.out) _ 80 80 (hp.map u8v) (by rfl) (by simp [hpl]) RD2.out (one_bytes hp) (by omega) (by unfold maxLen;omega) (by omega) ?_;intro v3 w3 own3 hg3 hat3;have Own3:=Lib.hid own3;have Gr3:=Lib.hid ((Gr.of_keep HK2.out _).app hg3 hat3);clear own3 hg3 hat3))
 exact bodyPost_ret (v:=v3) (by simp [results,Tryd.results53]) rfl ⟨_,rfl,Own3.out,Gr3.out⟩
set_option maxRecDepth 100000 in
set_option maxHeartbeats 4000000 in
theorem lay_heads (w0 : World) (v : Value) (N : Nat) (xs : List Value) (A : Option Addr) (l : List Hd) (c : Nat) (w : World) (hk0 : Keep w0 w) (own : w.ownsRow w0.heap.size 5 1 v N xs) (hN : N ≤ 900000000) (hl : l.length ≤ 2000) (hk : ∀ h ∈ l,h.ok) (hr : Rd w0 A (l.flatMap Hd.cells)) :
  Calls Tryd.prog 53 #[v,.iface 36 (.slice A l.length c)] w (Apd w0.heap.size v (N + (hpall l).length) (xs ++ (hpall l).map u8v) w):=by
 obtain ⟨zh,hzA,hz0⟩:=zhash_letter32
 obtain ⟨zd,hzD,hd0⟩:=zhead_letterA
 have hzn:=hzA.n;have hzz:=hzA.z
 have hdn:=hzD.n;have hdz:=hzD.z
 have HZ:=Lib.hid hzA;have HZD:=Lib.hid hzD
 have HO:=Lib.hid own;have HK:=Lib.hid hk0
 have hs0:=hk0.size
 clear own hzA hzD hk0
 have HLEN : (hpall l).length ≤ 200000:=by unfold hpall;rw [List.length_append,cpt_len,hpa_len l hk];have:=siz_le l.length;omega
 have HR:=Lib.hid hr
 have HP : Hid (∀ y,Keep w0 y → Calls Tryd.prog 66 #[.slice A l.length c] y fun e w' => ∃ v,e = .returned (.tuple #[v,iv 0])∧w'.ownsRow y.heap.size 5 1 v (hpall l).length ((hpall l).map u8v)∧Keep y w'):=Lib.hid fun y hy => hpall_any A l c y hl hk (HR.out.keep hy)
 clear hr hk
 generalize hpall l = hp at *
 unfold Apd
 go_enter Tryd.func53,Tryd.ntmps53
 have NH : ∀ y,(Instr.typeAssert (.iface 36 (.slice A l.length c)) 20 39 true).run Tryd.prog y = .ok (.tuple #[.agg zh,.bool false]) y:=run_assert_no hash_under rfl (by decide) hz0 _ _
 have N0 : ∀ y,(Instr.typeAssert (.iface 36 (.slice A l.length c)) 20 22 true).run Tryd.prog y = .ok (.tuple #[.int .u32 0,.bool false]) y:=run_assert_no Tryd.underlying22 rfl (by decide) zu32 _ _
 have N1 : ∀ y,(Instr.typeAssert (.iface 36 (.slice A l.length c)) 20 25 true).run Tryd.prog y = .ok (.tuple #[.int .u64 0,.bool false]) y:=run_assert_no Tryd.underlying25 rfl (by decide) zu64 _ _
 have N2 : ∀ y,(Instr.typeAssert (.iface 36 (.slice A l.length c)) 20 143 true).run Tryd.prog y = .ok (.tuple #[.agg #[.slice none 0 0,.int .u64 0],.bool false]) y:=run_assert_no Tryd.underlying143 rfl (by decide) zhashes _ _
 have N3 : ∀ y,(Instr.typeAssert (.iface 36 (.slice A l.length c)) 20 40 true).run Tryd.prog y = .ok (.tuple #[.slice none 0 0,.bool false]) y:=run_assert_no Tryd.underlying40 rfl (by decide) zitems _ _
 have N4 : ∀ y,(Instr.typeAssert (.iface 36 (.slice A l.length c)) 20 26 true).run Tryd.prog y = .ok (.tuple #[.slice none 0 0,.bool false]) y:=run_assert_no Tryd.underlying26 rfl (by decide) zbytes _ _
 have N5 : ∀ y,(Instr.typeAssert (.iface 36 (.slice A l.length c)) 20 42 true).run Tryd.prog y = .ok (.tuple #[.agg zd,.bool false]) y:=run_assert_no Tryd.underlying42 rfl (by decide) hd0 _ _
 have Y1 : ∀ y,(Instr.typeAssert (.iface 36 (.slice A l.length c)) 20 36 true).run Tryd.prog y = .ok (.tuple #[.slice A l.length c,.bool true]) y:=run_assert_yes Tryd.underlying36 rfl _ _
 have hst : ∀ y : World,(storeCells ⟨y.heap.size,0,none⟩ zh.toList 0).run Tryd.prog (y.alloc (.cells zh 39)) = .ok () (y.alloc (.cells zh 39)):=fun y => run_storeCells_new (P:=Tryd.prog) y 39 zh zh HZ.out.i rfl (by have:=all_oneCell_toArray HZ.out.o;simpa using this)
 go_upto_region 37 with fail
 have k1 : Keep w (w.alloc (.cells zh 39)):=keep_new _ _
 have HK1:=Lib.hid k1
 clear k1 hst
 go_wp2_with (first | (go_at_call 66;refine (HP.out _ (keep_trans HK.out HK1.out)).mono ?_;rintro e w2 ⟨v2,rfl,o2,k2⟩;obtain ⟨A2,c2,rfl,-,-,-⟩:=own_form o2;have RD2:=Lib.hid (own_rd o2);have HK2:=Lib.hid (keep_trans HK1.out k2);have hs2:=HK2.out.size;clear o2 k2) | (at_builtin;refine wpList_app byteT (by rfl) _ _ (by rfl) w0.heap.size _ _ _ (by rfl) (own_keep HO.out HK2.out) _ _ _ (hp.map u8v) (by rfl) (by simp) RD2.out (one_bytes hp) (by omega) (by unfold maxLen;omega) (by omega) ?_;intro v3 w3 own3 hg3 hat3;have Own3:=Lib.hid own3;have Gr3:=Lib.hid ((Gr.of_keep HK2.out _).app hg3 hat3);clear own3 hg3 hat3))
 exact bodyPost_ret (v:=v3) (by simp [results,Tryd.results53]) rfl ⟨_,rfl,Own3.out,Gr3.out⟩
set_option maxRecDepth 100000 in
set_option maxHeartbeats 4000000 in
theorem lay_tx (w0 : World) (v : Value) (N : Nat) (xs : List Value) (t : TxR) (w : World) (hk0 : Keep w0 w) (own : w.ownsRow w0.heap.size 5 1 v N xs) (hN : N ≤ 900000000) (ht : t.at w0) (hs : saneT t = true) (hT : (txL t).length ≤ 90000000) :
  Calls Tryd.prog 53 #[v,.iface 48 (.agg #[u32v t.ver,.slice t.iA t.ins.length t.ic,.slice t.oA t.outs.length t.oc,u32v t.lock])] w (Apd w0.heap.size v (N + (txL t).length) (xs ++ (txL t).map u8v) w):=by
 obtain ⟨zh,hzA,hz0⟩:=zhash_letter32
 obtain ⟨zd,hzD,hd0⟩:=zhead_letterA
 have hzn:=hzA.n;have hzz:=hzA.z
 have hdn:=hzD.n;have hdz:=hzD.z
 have HZ:=Lib.hid hzA;have HZD:=Lib.hid hzD
 have HO:=Lib.hid own;have HK:=Lib.hid hk0
 have hs0:=hk0.size
 clear own hzA hzD hk0
 have hns : t.ins.length ≤ 1000∧t.outs.length ≤ 1000:=by unfold saneT at hs;rw [decide_eq_true_eq] at hs;exact ⟨hs.2.1,hs.2.2.1⟩
 have HP : Hid (∀ y,Keep w0 y → Calls Tryd.prog 67 #[.agg #[u32v t.ver,.slice t.iA t.ins.length t.ic,.slice t.oA t.outs.length t.oc,u32v t.lock]] y fun e w' => ∃ v,e = .returned (.tuple #[v,iv 0])∧w'.ownsRow y.heap.size 5 1 v (txL t).length ((txL t).map u8v)∧Keep y w'):=Lib.hid fun y hy => by
  have q:=tput_any t y (ht.keep hy) (by omega) (by omega)
  rw [if_pos hs,if_pos hs] at q
  exact q
 clear ht hs
 generalize txL t = hp at *
 unfold Apd
 go_enter Tryd.func53,Tryd.ntmps53
 have NH : ∀ y,(Instr.typeAssert (.iface 48 (.agg #[u32v t.ver,.slice t.iA t.ins.length t.ic,.slice t.oA t.outs.length t.oc,u32v t.lock])) 20 39 true).run Tryd.prog y = .ok (.tuple #[.agg zh,.bool false]) y:=run_assert_no hash_under rfl (by decide) hz0 _ _
 have N0 : ∀ y,(Instr.typeAssert (.iface 48 (.agg #[u32v t.ver,.slice t.iA t.ins.length t.ic,.slice t.oA t.outs.length t.oc,u32v t.lock])) 20 22 true).run Tryd.prog y = .ok (.tuple #[.int .u32 0,.bool false]) y:=run_assert_no Tryd.underlying22 rfl (by decide) zu32 _ _
 have N1 : ∀ y,(Instr.typeAssert (.iface 48 (.agg #[u32v t.ver,.slice t.iA t.ins.length t.ic,.slice t.oA t.outs.length t.oc,u32v t.lock])) 20 25 true).run Tryd.prog y = .ok (.tuple #[.int .u64 0,.bool false]) y:=run_assert_no Tryd.underlying25 rfl (by decide) zu64 _ _
 have N2 : ∀ y,(Instr.typeAssert (.iface 48 (.agg #[u32v t.ver,.slice t.iA t.ins.length t.ic,.slice t.oA t.outs.length t.oc,u32v t.lock])) 20 143 true).run Tryd.prog y = .ok (.tuple #[.agg #[.slice none 0 0,.int .u64 0],.bool false]) y:=run_assert_no Tryd.underlying143 rfl (by decide) zhashes _ _
 have N3 : ∀ y,(Instr.typeAssert (.iface 48 (.agg #[u32v t.ver,.slice t.iA t.ins.length t.ic,.slice t.oA t.outs.length t.oc,u32v t.lock])) 20 40 true).run Tryd.prog y = .ok (.tuple #[.slice none 0 0,.bool false]) y:=run_assert_no Tryd.underlying40 rfl (by decide) zitems _ _
 have N4 : ∀ y,(Instr.typeAssert (.iface 48 (.agg #[u32v t.ver,.slice t.iA t.ins.length t.ic,.slice t.oA t.outs.length t.oc,u32v t.lock])) 20 26 true).run Tryd.prog y = .ok (.tuple #[.slice none 0 0,.bool false]) y:=run_assert_no Tryd.underlying26 rfl (by decide) zbytes _ _
 have N5 : ∀ y,(Instr.typeAssert (.iface 48 (.agg #[u32v t.ver,.slice t.iA t.ins.length t.ic,.slice t.oA t.outs.length t.oc,u32v t.lock])) 20 42 true).run Tryd.prog y = .ok (.tuple #[.agg zd,.bool false]) y:=run_assert_no Tryd.underlying42 rfl (by decide) hd0 _ _
 have N6 : ∀ y,(Instr.typeAssert (.iface 48 (.agg #[u32v t.ver,.slice t.iA t.ins.length t.ic,.slice t.oA t.outs.length t.oc,u32v t.lock])) 20 36 true).run Tryd.prog y = .ok (.tuple #[.slice none 0 0,.bool false]) y:=run_assert_no Tryd.underlying36 rfl (by decide) zheads _ _
 have Y1 : ∀ y,(Instr.typeAssert (.iface 48 (.agg #[u32v t.ver,.slice t.iA t.ins.length t.ic,.slice t.oA t.outs.length t.oc,u32v t.lock])) 20 48 true).run Tryd.prog y = .ok (.tuple #[.agg #[u32v t.ver,.slice t.iA t.ins.length t.ic,.slice t.oA t.outs.length t.oc,u32v t.lock],.bool true]) y:=run_assert_yes Tryd.underlying48 rfl _ _
 have hst : ∀ y : World,(storeCells ⟨y.heap.size,0,none⟩ zh.toList 0).run Tryd.prog (y.alloc (.cells zh 39)) = .ok () (y.alloc (.cells zh 39)):=fun y => run_storeCells_new (P:=Tryd.prog) y 39 zh zh HZ.out.i rfl (by have:=all_oneCell_toArray HZ.out.o;simpa using this)
 go_upto_region 40 with fail
 clear hst
 go_upto_region 41 with fail
 obtain ⟨w1,hw1⟩ : ∃ w1,w1 = (w.alloc (.cells zh 39)).alloc (.cells #[u32v t.ver,.slice t.iA t.ins.length t.ic,.slice t.oA t.outs.length t.oc,u32v t.lock] 48):=⟨_,rfl⟩
 have HB1 : Hid (Blk w1 (w.heap.size + 1) 48 [u32v t.ver,.slice t.iA t.ins.length t.ic,.slice t.oA t.outs.length t.oc,u32v t.lock]):=by
  rw [hw1]
  have h2:=Blk.new (w.alloc (.cells zh 39)) 48 [u32v t.ver,.slice t.iA t.ins.length t.ic,.slice t.oA t.outs.length t.oc,u32v t.lock]
  rw [World.size_alloc] at h2
  exact Lib.hid h2
 have k1 : Keep w w1:=by rw [hw1];exact keep_trans (keep_new _ _) (keep_new _ _)
 have HK1:=Lib.hid k1
 have b0:=HB1.out.cell 0;have b1:=HB1.out.cell 1;have b2:=HB1.out.cell 2;have b3:=HB1.out.cell 3
 simp only [List.getElem?_cons_succ,List.getElem?_cons_zero] at b0 b1 b2 b3
 unfold u32v at hw1
 rw [← hw1]
 clear hw1 k1
 go_wp2_with (first | (go_at_call 67;refine (HP.out _ (keep_trans HK.out HK1.out)).mono ?_;rintro e w2 ⟨v2,rfl,o2,k2⟩;obtain ⟨A2,c2,rfl,-,-,-⟩:=own_form o2;have RD2:=Lib.hid (own_rd o2);have HK2:=Lib.hid (keep_trans HK1.out k2);have hs2:=HK2.out.size;clear o2 k2) | (at_builtin;refine wpList_app byteT (by rfl) _ _ (by rfl) w0.heap.size _ _ _ (by rfl) (own_keep HO.out HK2.out) _ _ _ (hp.map u8v) (by rfl) (by simp) RD2.out (one_bytes hp) (by omega) (by unfold maxLen;omega) (by omega) ?_;intro v3 w3 own3 hg3 hat3;have Own3:=Lib.hid own3;have Gr3:=Lib.hid ((Gr.of_keep HK2.out _).app hg3 hat3);clear own3 hg3 hat3))
 exact bodyPost_ret (v:=v3) (by simp [results,Tryd.results53]) rfl ⟨_,rfl,Own3.out,Gr3.out⟩
end Go.Proofs.YtffpanlpbdnafaaDoor
/- wire.lay: hashes. (printed by gen_vz.py) -/
set_option linter.unusedSimpArgs false
set_option linter.unusedVariables false
namespace Go.Proofs.YtffpanlpbdnafaaDoor
open Go.RowKit
attribute [local go_sem ↓] Go.wp_at_zero Go.wp_at_succ
set_option maxRecDepth 100000 in
set_option maxHeartbeats 4000000 in
theorem lay_hsh (w0 : World) (v : Value) (N : Nat) (xs : List Value) (A : Option Addr) (l : List (List UInt8)) (c most : Nat) (w : World) (hk0 : Keep w0 w) (own : w.ownsRow w0.heap.size 5 1 v N xs) (hN : N ≤ 900000000) (hl : l.length ≤ 4096) (hs : ∀ s ∈ l,s.length = 32) (hr : Rd w0 A (hsL l)) :
  Calls Tryd.prog 53 #[v,.iface 143 (.agg #[.slice A l.length c,u64v most])] w (Apd w0.heap.size v (N + sizN l.length + 32 * l.length) (xs ++ (cptL l.length ++ l.flatten).map u8v) w):=by
 obtain ⟨zh,hzA,hz0⟩:=zhash_letter32
 obtain ⟨zd,hzD,hd0⟩:=zhead_letterA
 have hzn:=hzA.n;have hzz:=hzA.z
 have hdn:=hzD.n;have hdz:=hzD.z
 have HZ:=Lib.hid hzA;have HZD:=Lib.hid hzD
 have HO:=Lib.hid own;have HK:=Lib.hid hk0
 have hs0:=hk0.size
 clear own hzA hzD hk0
 have HR:=Lib.hid hr;have HSL:=Lib.hid hs
 have hsz:=siz_le l.length
 have WC : Hid (∀ y,w.heap.size ≤ y.heap.size → y.ownsRow w0.heap.size 5 1 v N xs → Calls Tryd.prog 64 #[v,iv l.length] y (Apd w0.heap.size v (N + sizN l.length) (xs ++ (cptL l.length).map u8v) y)):=Lib.hid fun y h1 h2 => wcount_any w0.heap.size v N xs l.length y h2 (by have:=HK.out.size;omega) (by omega) (by omega)
 clear hr hs
 rw [List.map_append,← List.append_assoc]
 obtain ⟨ys,hys⟩ : ∃ ys,xs ++ (cptL l.length).map u8v = ys:=⟨_,rfl⟩
 obtain ⟨M,hM⟩ : ∃ M,N + sizN l.length = M:=⟨_,rfl⟩
 rw [hys,hM] at WC
 rw [hys,hM]
 have hM9 : M ≤ 900000009:=by omega
 clear hys hM hsz
 unfold Apd
 go_enter Tryd.func53,Tryd.ntmps53
 have NH : ∀ y,(Instr.typeAssert (.iface 143 (.agg #[.slice A l.length c,u64v most])) 20 39 true).run Tryd.prog y = .ok (.tuple #[.agg zh,.bool false]) y:=run_assert_no hash_under rfl (by decide) hz0 _ _
 have N0 : ∀ y,(Instr.typeAssert (.iface 143 (.agg #[.slice A l.length c,u64v most])) 20 22 true).run Tryd.prog y = .ok (.tuple #[.int .u32 0,.bool false]) y:=run_assert_no Tryd.underlying22 rfl (by decide) zu32 _ _
 have N1 : ∀ y,(Instr.typeAssert (.iface 143 (.agg #[.slice A l.length c,u64v most])) 20 25 true).run Tryd.prog y = .ok (.tuple #[.int .u64 0,.bool false]) y:=run_assert_no Tryd.underlying25 rfl (by decide) zu64 _ _
 have Y1 : ∀ y,(Instr.typeAssert (.iface 143 (.agg #[.slice A l.length c,u64v most])) 20 143 true).run Tryd.prog y = .ok (.tuple #[.agg #[.slice A l.length c,u64v most],.bool true]) y:=run_assert_yes Tryd.underlying143 rfl _ _
 have hst : ∀ y : World,(storeCells ⟨y.heap.size,0,none⟩ zh.toList 0).run Tryd.prog (y.alloc (.cells zh 39)) = .ok () (y.alloc (.cells zh 39)):=fun y => run_storeCells_new (P:=Tryd.prog) y 39 zh zh HZ.out.i rfl (by have:=all_oneCell_toArray HZ.out.o;simpa using this)
 go_upto_region 4 with fail
 clear hst
 go_upto_region 13 with fail
 obtain ⟨w1,hw1⟩ : ∃ w1,w1 = (w.alloc (.cells zh 39)).alloc (.cells #[.slice A l.length c,u64v most] 143):=⟨_,rfl⟩
 have HB1 : Hid (Blk w1 (w.heap.size + 1) 143 [.slice A l.length c,u64v most]):=by
  rw [hw1]
  have h2:=Blk.new (w.alloc (.cells zh 39)) 143 [.slice A l.length c,u64v most]
  rw [World.size_alloc] at h2
  exact Lib.hid h2
 have k1 : Keep w w1:=by rw [hw1];exact keep_trans (keep_new _ _) (keep_new _ _)
 have HK1:=Lib.hid k1
 have HO1:=Lib.hid (own_keep HO.out k1)
 have hvb : ∀ g,v.ownBlock = some g → g < w.heap.size:=fun g q => (HO.out.lt g q).2
 unfold u64v at hw1
 rw [← hw1]
 clear hw1 k1 HO
 have b0:=HB1.out.cell 0
 simp only [List.getElem?_cons_zero] at b0
 have hs1:=HK1.out.size
 go_upto_region 14 with (go_at_call 64;refine (WC.out _ hs1 HO1.out).mono ?_;rintro e w2 ⟨v2,rfl,own2,gr2⟩;have HB2 : Hid (Blk w2 (w.heap.size + 1) 143 [.slice A l.length c,u64v most]):=Lib.hid (HB1.out.grown gr2.g (fun q => by have:=hvb _ q;omega));have b0:=HB2.out.cell 0;simp only [List.getElem?_cons_zero] at b0;have Own2:=Lib.hid own2;have HK2:=Lib.hid (gr2.old HO1.out (keep_trans HK.out HK1.out));have Gr2:=Lib.hid (Gr.trans (Gr.of_keep HK1.out _) gr2);clear own2 gr2)
 have Own0 : Hid (w2.ownsRow w0.heap.size 5 1 v2 (M + 32 * 0) (ys ++ ((l.take 0).flatten).map u8v)):=Lib.hid (own_eq Own2.out (by omega) (by simp))
 clear Own2 WC
 go_wp2_with fail
 go_loopw [0,57] (fun x i wr => ∃ k : Nat,k ≤ l.length∧i = .int .i64 k∧Hid (wr.ownsRow w0.heap.size 5 1 x (M + 32 * k) (ys ++ ((l.take k).flatten).map u8v))∧Hid (Gr w v wr x)∧Hid (Keep w0 wr)) (fun _ i _ => l.length - (intOf i).toNat)
 case atStart => exact ⟨0,Nat.zero_le _,rfl,Own0,Gr2,HK2⟩
 case round =>
  obtain ⟨k,hk,rfl,Own1,Gr1,KR⟩:=hrel
  clear Own0 Gr2
  by_cases hlt : k < l.length
  ·have d1 : (k : Int) < l.length:=by omega
   obtain ⟨g,off,hA,hgb,hrg⟩:=hash_at (HR.out.keep KR.out) HSL.out hlt
   have hkl:=HSL.out _ (List.getElem_mem hlt)
   have HT : Hid (((l.take (k + 1)).flatten).map u8v = ((l.take k).flatten).map u8v ++ (l[k]).map u8v):=Lib.hid (by rw [List.take_succ_eq_append_getElem hlt,List.flatten_append,List.map_append];simp only [List.flatten_cons,List.flatten_nil,List.append_nil])
   generalize l[k] = hh at *
   obtain ⟨ss,hss⟩ : ∃ ss,HashA hh ss:=⟨_,HashA.of hkl⟩
   have hsn:=hss.n;have hssz:=hss.z;have hsi:=hss.i
   have HS:=Lib.hid hss
   have RX : Hid (wr.rangeAt g (off + k * 32) ss.toList):=Lib.hid (by rw [hss.l];exact hrg)
   obtain ⟨n,hn⟩ : ∃ n,l.length = n:=⟨_,rfl⟩
   rw [hn] at d1 hl hk hlt b0 ⊢
   have hst : (storeCells ⟨wr.heap.size,0,none⟩ ss.toList 0).run Tryd.prog (wr.alloc (.cells zh 39)) = .ok () (wr.alloc (.cells ss 39)):=run_storeCells_new (P:=Tryd.prog) wr 39 zh ss hsi (hzz.trans hssz.symm) (by have:=all_oneCell_toArray HS.out.o;simpa using this)
   have RD : Hid (Rd (wr.alloc (.cells ss 39)) (some ⟨wr.heap.size,0,none⟩) (hh.map u8v)):=Lib.hid (by have q:=Rd.new wr ss.toList 39;rw [HS.out.l] at q;simpa [← HS.out.e] using q)
   have hs0r:=KR.out.size
   subst hA
   clear hss hrg hgb
   go_wp2_with (first | ((with_reducible refine load_partg g (off + k * 32) ss (Eq.trans ?_ rfl) RX.out _ hash_under rfl hsi rfl ?_);rfl) | (at_builtin;refine wpList_app byteT (by rfl) _ _ (by rfl) w0.heap.size _ _ _ (by rfl) (Own1.out.alloc _) _ 32 32 (hh.map u8v) (by rfl) (by simp [hkl]) RD.out (one_bytes hh) (by omega) (by unfold maxLen;omega) (by simp;omega) ?_;intro v3 w3 own3 hg3 hat3;have Own3:=Lib.hid own3;have Gr3:=Lib.hid ((Gr1.out.alloc _).app hg3 hat3);have K3:=Lib.hid (Gr.old (w0:=w0) (Gr.app (Gr.refl _ _) hg3 hat3) (Own1.out.alloc _) (keep_trans KR.out (keep_new _ _)));clear own3 hg3 hat3))
   go_roundw
   case rel => exact ⟨k + 1,by omega,by go_num,Lib.hid (own_eq Own3.out (by omega) (by rw [HT.out,List.append_assoc])),Gr3,K3⟩
   case measure => simp [intOf];omega
  ·obtain rfl : k = l.length:=by omega
   have d1 : ¬ ((l.length : Nat) : Int) < l.length:=by omega
   have OwnF:=Own1.out
   rw [List.take_length] at OwnF
   have OwnH:=Lib.hid OwnF
   clear OwnF
   go_wp2
   exact bodyPost_ret (by simp [results,Tryd.results53]) rfl ⟨_,rfl,(by first | exact OwnH.out | (rw [← List.map_flatten];exact OwnH.out)),Gr1.out⟩
end Go.Proofs.YtffpanlpbdnafaaDoor
/- wire.lay: items. (printed by gen_ia.py) -/
set_option linter.unusedSimpArgs false
set_option linter.unusedVariables false
namespace Go.Proofs.YtffpanlpbdnafaaDoor
open Go.RowKit
attribute [local go_sem ↓] Go.wp_at_zero Go.wp_at_succ
theorem item_at {w : World} {A : Option Addr} {l : List Itm} (hr : Rd w A (l.flatMap Itm.cells)) (hk : ∀ x ∈ l,x.ok) {k : Nat} (h : k < l.length) :
  ∃ b off,A = some ⟨b,off,none⟩∧b < w.heap.size∧w.rangeAt b (off + k * 33) l[k].cells:=by
 have hlen : ∀ a ∈ l,a.cells.length = 33:=fun a ha => Itm.len (hk a ha)
 obtain ⟨b,off,rfl,hb,F⟩:=hr.at (k:=k * 33) (by rw [flatMap_len' _ 33 _ hlen];omega)
 refine ⟨b,off,rfl,hb,fun j v hv => ?_⟩
 have hj : j < 33:=by rw [← hlen l[k] (List.getElem_mem h)];exact (List.getElem?_eq_some_iff.1 hv).1
 have hg:=flatMap_get' Itm.cells 33 l hlen k j h hj
 have hlt : k * 33 + j < (l.flatMap Itm.cells).length:=by rw [flatMap_len' _ 33 _ hlen];omega
 have hc:=F (k * 33 + j) hlt
 rw [Nat.add_assoc,hc,← hv,← hg,List.getElem?_eq_getElem hlt]
def itL (x : Itm) : List UInt8:=loN x.ty.toNat 4 ++ x.h
set_option maxRecDepth 100000 in
set_option maxHeartbeats 4000000 in
theorem lay_items (w0 : World) (v : Value) (N : Nat) (xs : List Value) (A : Option Addr) (l : List Itm) (c : Nat) (w : World) (hk0 : Keep w0 w) (own : w.ownsRow w0.heap.size 5 1 v N xs) (hN : N ≤ 900000000) (hl : l.length ≤ 50000) (hs : ∀ x ∈ l,x.ok) (hr : Rd w0 A (l.flatMap Itm.cells)) :
  Calls Tryd.prog 53 #[v,.iface 40 (.slice A l.length c)] w (Apd w0.heap.size v (N + sizN l.length + 36 * l.length) (xs ++ (cptL l.length ++ l.flatMap itL).map u8v) w):=by
 obtain ⟨zh,hzA,hz0⟩:=zhash_letter32
 obtain ⟨zd,hzD,hd0⟩:=zhead_letterA
 have hzn:=hzA.n;have hzz:=hzA.z
 have hdn:=hzD.n;have hdz:=hzD.z
 have HZ:=Lib.hid hzA;have HZD:=Lib.hid hzD
 have HO:=Lib.hid own;have HK:=Lib.hid hk0
 have hs0:=hk0.size
 clear own hzA hzD hk0
 obtain ⟨zi,hiz,hi0,hin⟩:=zitem_letter
 have HR:=Lib.hid hr;have HSL:=Lib.hid hs
 have hsz:=siz_le l.length
 have WC : Hid (∀ y,w.heap.size ≤ y.heap.size → y.ownsRow w0.heap.size 5 1 v N xs → Calls Tryd.prog 64 #[v,iv l.length] y (Apd w0.heap.size v (N + sizN l.length) (xs ++ (cptL l.length).map u8v) y)):=Lib.hid fun y h1 h2 => wcount_any w0.heap.size v N xs l.length y h2 (by have:=HK.out.size;omega) (by omega) (by omega)
 clear hr hs
 rw [List.map_append,← List.append_assoc]
 obtain ⟨ys,hys⟩ : ∃ ys,xs ++ (cptL l.length).map u8v = ys:=⟨_,rfl⟩
 obtain ⟨M,hM⟩ : ∃ M,N + sizN l.length = M:=⟨_,rfl⟩
 rw [hys,hM] at WC
 rw [hys,hM]
 have hM9 : M ≤ 900000009:=by omega
 clear hys hM hsz
 unfold Apd
 go_enter Tryd.func53,Tryd.ntmps53
 have NH : ∀ y,(Instr.typeAssert (.iface 40 (.slice A l.length c)) 20 39 true).run Tryd.prog y = .ok (.tuple #[.agg zh,.bool false]) y:=run_assert_no hash_under rfl (by decide) hz0 _ _
 have N0 : ∀ y,(Instr.typeAssert (.iface 40 (.slice A l.length c)) 20 22 true).run Tryd.prog y = .ok (.tuple #[.int .u32 0,.bool false]) y:=run_assert_no Tryd.underlying22 rfl (by decide) zu32 _ _
 have N1 : ∀ y,(Instr.typeAssert (.iface 40 (.slice A l.length c)) 20 25 true).run Tryd.prog y = .ok (.tuple #[.int .u64 0,.bool false]) y:=run_assert_no Tryd.underlying25 rfl (by decide) zu64 _ _
 have N2 : ∀ y,(Instr.typeAssert (.iface 40 (.slice A l.length c)) 20 143 true).run Tryd.prog y = .ok (.tuple #[.agg #[.slice none 0 0,.int .u64 0],.bool false]) y:=run_assert_no Tryd.underlying143 rfl (by decide) zhashes _ _
 have Y1 : ∀ y,(Instr.typeAssert (.iface 40 (.slice A l.length c)) 20 40 true).run Tryd.prog y = .ok (.tuple #[.slice A l.length c,.bool true]) y:=run_assert_yes Tryd.underlying40 rfl _ _
 have hst : ∀ y : World,(storeCells ⟨y.heap.size,0,none⟩ zh.toList 0).run Tryd.prog (y.alloc (.cells zh 39)) = .ok () (y.alloc (.cells zh 39)):=fun y => run_storeCells_new (P:=Tryd.prog) y 39 zh zh HZ.out.i rfl (by have:=all_oneCell_toArray HZ.out.o;simpa using this)
 go_upto_region 4 with fail
 clear hst
 go_upto_region 21 with fail
 obtain ⟨w1,hw1⟩ : ∃ w1,w1 = w.alloc (.cells zh 39):=⟨_,rfl⟩
 have k1 : Keep w w1:=by rw [hw1];exact keep_new _ _
 have HK1:=Lib.hid k1
 have HO1:=Lib.hid (own_keep HO.out k1)
 rw [← hw1]
 clear hw1 k1 HO
 have hs1:=HK1.out.size
 go_upto_region 22 with (go_at_call 64;refine (WC.out _ hs1 HO1.out).mono ?_;rintro e w2 ⟨v2,rfl,own2,gr2⟩;have Own2:=Lib.hid own2;have HK2:=Lib.hid (gr2.old HO1.out (keep_trans HK.out HK1.out));have Gr2:=Lib.hid (Gr.trans (Gr.of_keep HK1.out _) gr2);clear own2 gr2)
 have Own0 : Hid (w2.ownsRow w0.heap.size 5 1 v2 (M + 36 * 0) (ys ++ ((l.take 0).flatMap itL).map u8v)):=Lib.hid (own_eq Own2.out (by omega) (by simp))
 clear Own2 WC
 go_wp2_with fail
 go_loopw [0,74] (fun x i wr => ∃ k : Nat,k ≤ l.length∧i = .int .i64 k∧Hid (wr.ownsRow w0.heap.size 5 1 x (M + 36 * k) (ys ++ ((l.take k).flatMap itL).map u8v))∧Hid (Gr w v wr x)∧Hid (Keep w0 wr)) (fun _ i _ => l.length - (intOf i).toNat)
 case atStart => exact ⟨0,Nat.zero_le _,rfl,Own0,Gr2,HK2⟩
 case round =>
  obtain ⟨k,hk,rfl,Own1,Gr1,KR⟩:=hrel
  clear Own0 Gr2
  by_cases hlt : k < l.length
  ·have d1 : (k : Int) < l.length:=by omega
   obtain ⟨g,off,hA,hgb,hrg⟩:=item_at (HR.out.keep KR.out) HSL.out hlt
   have hkl:=HSL.out _ (List.getElem_mem hlt)
   have HT : Hid (((l.take (k + 1)).flatMap itL).map u8v = ((l.take k).flatMap itL).map u8v ++ (loN (l[k]).ty.toNat 4).map u8v ++ ((l[k]).h).map u8v):=Lib.hid (by rw [List.take_succ_eq_append_getElem hlt,List.flatMap_append,List.map_append];simp only [List.flatMap_cons,List.flatMap_nil,List.append_nil,itL,List.map_append,List.append_assoc])
   generalize l[k] = it at *
   obtain ⟨ts,hts⟩ : ∃ ts,ItA it ts:=⟨_,ItA.of hkl⟩
   have htn:=hts.n;have htz:=hts.z;have hti:=hts.i
   have hhl : it.h.length = 32:=hkl
   have HS:=Lib.hid hts
   have RX : Hid (wr.rangeAt g (off + k * 33) ts.toList):=Lib.hid (by rw [hts.l];exact hrg)
   obtain ⟨n,hn⟩ : ∃ n,l.length = n:=⟨_,rfl⟩
   rw [hn] at d1 hl hk hlt ⊢
   have hst : (storeCells ⟨wr.heap.size,0,none⟩ ts.toList 0).run Tryd.prog (wr.alloc (.cells zi 98)) = .ok () (wr.alloc (.cells ts 98)):=run_storeCells_new (P:=Tryd.prog) wr 98 zi ts hti (hiz.trans htz.symm) (by have:=all_oneCell_toArray HS.out.o;simpa using this)
   subst hA
   clear hts hrg hgb
   go_upto_region 25 with ((with_reducible refine load_partg g (off + k * 33) ts (Eq.trans ?_ rfl) RX.out _ Tryd.underlying98 rfl hti rfl ?_);rfl)
   obtain ⟨w5,hw5⟩ : ∃ w5,w5 = wr.alloc (.cells ts 98):=⟨_,rfl⟩
   have HB5 : Hid (Blk w5 wr.heap.size 98 it.cells):=by rw [hw5,← HS.out.l];exact Lib.hid (Blk.new wr _ ts.toList)
   have k5 : Keep wr w5:=by rw [hw5];exact keep_new _ _
   have K5:=Lib.hid (keep_trans KR.out k5);have Own5:=Lib.hid (own_keep Own1.out k5);have Gr5:=Lib.hid (Gr1.out.keep k5)
   have hgx : ∀ q,Value.ownBlock _ = some q → q < wr.heap.size:=fun q e => (Own1.out.lt q e).2
   rw [← hw5]
   clear hw5 hst k5 RX Own1 Gr1
   generalize wr.heap.size = gi at *
   have i0 : w5.cell? ⟨gi,0,none⟩ = some (u32v it.ty):=(HB5.out.cell 0).trans rfl
   have ht32:=it.ty.toNat_lt
   have hs5:=K5.out.size
   have WN:=Lib.hid (wnum_any w0.heap.size _ _ _ it.ty.toNat 4 w5 Own5.out hs5 (by omega) (by omega))
   go_upto_region 26 with (go_at_call 63;refine WN.out.mono ?_;rintro e w6 ⟨v6,rfl,own6,gr6⟩;have HB6:=Lib.hid (HB5.out.grown gr6.g (fun q => by have:=hgx _ q;omega));have K6:=Lib.hid (gr6.old Own5.out K5.out);have Own6:=Lib.hid own6;have Gr6:=Lib.hid (Gr5.out.trans gr6);clear own6 gr6)
   have hs6:=K6.out.size
   have RD : Hid (Rd w6 (some ⟨gi,1,none⟩) (it.h.map u8v)):=Lib.hid (.inr ⟨gi,1,rfl,fun j hj => by rw [HB6.out.cell,show 1 + j = j + 1 by omega];unfold Itm.cells;rw [List.getElem?_cons_succ,List.getElem?_eq_getElem hj]⟩)
   clear i0 WN HB5 HB6
   go_wp2_with (at_builtin;refine wpList_app byteT (by rfl) _ _ (by rfl) w0.heap.size _ _ _ (by rfl) Own6.out _ 32 32 (it.h.map u8v) (by rfl) (by simp [hhl]) RD.out (one_bytes it.h) (by omega) (by unfold maxLen;omega) (by omega) ?_;intro v7 w7 own7 hg7 hat7;have Own7:=Lib.hid own7;have Gr7:=Lib.hid (Gr6.out.app hg7 hat7);have K7:=Lib.hid (Gr.old (w0:=w0) (Gr.app (Gr.refl _ _) hg7 hat7) Own6.out K6.out);clear own7 hg7 hat7)
   go_roundw
   case rel => exact ⟨k + 1,by omega,by go_num,Lib.hid (own_eq Own7.out (by omega) (by rw [HT.out];simp only [List.append_assoc])),Gr7,K7⟩
   case measure => simp [intOf];omega
  ·obtain rfl : k = l.length:=by omega
   have d1 : ¬ ((l.length : Nat) : Int) < l.length:=by omega
   have OwnF:=Own1.out
   rw [List.take_length] at OwnF
   have OwnH:=Lib.hid OwnF
   clear OwnF
   go_wp2
   exact bodyPost_ret (by simp [results,Tryd.results53]) rfl ⟨_,rfl,(by first | exact OwnH.out | (rw [← List.map_flatMap];exact OwnH.out)),Gr1.out⟩
end Go.Proofs.YtffpanlpbdnafaaDoor
/- wire.lay: whatever the part. (printed by gen_ib.py) -/
set_option linter.unusedSimpArgs false
set_option linter.unusedVariables false
namespace Go.Proofs.YtffpanlpbdnafaaDoor
open Go.RowKit
def PV.fit (w : World) : PV → Prop
 | .u32 _ => True
 | .u64 n => n < 2 ^ 64
 | .hsh A l _ _ => l.length ≤ 4096∧(∀ s ∈ l,s.length = 32)∧Rd w A (hsL l)
 | .h32 s => s.length = 32
 | .heads A l _ => l.length ≤ 2000∧(∀ h ∈ l,h.ok)∧Rd w A (l.flatMap Hd.cells)
 | .items A l _ => l.length ≤ 50000∧(∀ x ∈ l,x.ok)∧Rd w A (l.flatMap Itm.cells)
 | .head h => h.ok
 | .bytes A l _ => l.length ≤ 50000∧Rd w A (l.map u8v)
 | .tx t => t.at w∧saneT t = true∧(txL t).length ≤ 90000000
theorem itL_len {l : List Itm} (h : ∀ x ∈ l,x.ok) : (l.flatMap itL).length = 36 * l.length:=by
 induction l with
 | nil => rfl
 | cons x l ih =>
   rw [List.flatMap_cons,List.length_append,ih (fun y hy => h y (List.mem_cons_of_mem _ hy)),List.length_cons]
   have : (itL x).length = 36:=by unfold itL;rw [List.length_append,lo_len,h x List.mem_cons_self]
   omega
theorem flat32_len {l : List (List UInt8)} (h : ∀ x ∈ l,x.length = 32) : l.flatten.length = 32 * l.length:=by
 induction l with
 | nil => rfl
 | cons x l ih =>
   rw [List.flatten_cons,List.length_append,ih (fun y hy => h y (List.mem_cons_of_mem _ hy)),List.length_cons,h x List.mem_cons_self]
   omega
theorem lay_any (w0 : World) (v : Value) (N : Nat) (xs : List Value) (p : PV) (w : World) (hk0 : Keep w0 w) (own : w.ownsRow w0.heap.size 5 1 v N xs) (hN : N ≤ 900000000) (hp : p.fit w0) :
  Calls Tryd.prog 53 #[v,p.val] w (Apd w0.heap.size v (N + (layL p).length) (xs ++ (layL p).map u8v) w):=by
 cases p with
 | u32 x => exact lay_u32 w0.heap.size v N xs w own hk0.size hN x
 | u64 n => exact lay_u64 w0.heap.size v N xs w own hk0.size hN n hp
 | hsh A l c most =>
   have q:=lay_hsh w0 v N xs A l c most w hk0 own hN hp.1 hp.2.1 hp.2.2
   rw [Nat.add_assoc,← flat32_len hp.2.1,← cpt_len,← List.length_append] at q
   exact q
 | h32 s =>
   have q:=lay_h32 w0 v N xs s _ w hk0 own hN (HashA.of hp) hp
   have e : (layL (.h32 s)).length = 32:=hp
   rw [e];exact q
 | heads A l c => exact lay_heads w0 v N xs A l c w hk0 own hN hp.1 hp.2.1 hp.2.2
 | items A l c =>
   have q:=lay_items w0 v N xs A l c w hk0 own hN hp.1 hp.2.1 hp.2.2
   rw [Nat.add_assoc,← itL_len hp.2.1,← cpt_len,← List.length_append] at q
   exact q
 | head h =>
   have q:=lay_head w0 v N xs h _ w hk0 own hN (HdA.of hp) hp
   have e : (layL (.head h)).length = 80:=hputL_len hp
   rw [e];exact q
 | bytes A l c =>
   have q:=lay_bytes w0 v N xs A l c w hk0 own hN hp.1 hp.2
   rw [Nat.add_assoc,← cpt_len,← List.length_append,List.append_assoc,← List.map_append] at q
   exact q
 | tx t =>
   have q:=lay_tx w0 v N xs t w hk0 own hN hp.1 hp.2.1 hp.2.2
   have e : layL (.tx t) = txL t:=if_pos hp.2.1
   rw [e];exact q
end Go.Proofs.YtffpanlpbdnafaaDoor
/- What wire.Put answers; the parts of a message that fits. -/
set_option linter.unusedSimpArgs false
set_option linter.unusedVariables false
namespace Go.Proofs.YtffpanlpbdnafaaDoor
open Go.RowKit
theorem txL_le {t : TxR} {w : World} (h : t.at w) (hs : saneT t = true) : (txL t).length ≤ 30000000:=by
 unfold saneT at hs
 rw [decide_eq_true_eq] at hs
 obtain ⟨h1,h2,h3,h4,h5⟩:=hs
 have a:=fm_le inL 10100 t.ins fun x hx => inL_le (h.is x hx).p (h4 x hx)
 have b:=fm_le outL 10100 t.outs fun x hx => outL_le (h5 x hx)
 have c:=siz_le t.ins.length
 have d:=siz_le t.outs.length
 unfold txL
 simp only [List.length_append,lo_len,cpt_len]
 omega
theorem parts_fit {m : MsgR} {w : World} (h : m.at_ w) (hf : fitsB m = true) : ∀ p ∈ partsM m,p.fit w:=by
 unfold fitsB at hf
 rw [decide_eq_true_eq] at hf
 obtain ⟨k0,k1,hl,hh,hi,hs,hb,ht,-⟩:=hf
 intro p hp
 unfold partsM at hp
 have o:=h.o
 have f1 : (PV.hsh m.lA m.ls m.lc 101).fit w:=⟨by omega,o.l,h.l⟩
 have f2 : (PV.heads m.hA m.hs m.hc).fit w:=⟨hh,o.h,h.h⟩
 have f3 : (PV.items m.iA m.is m.ic).fit w:=⟨hi,o.i,h.i⟩
 have f4 : (PV.hsh m.sA m.shs m.sc 4096).fit w:=⟨hs,o.z,h.s⟩
 have f5 : (PV.bytes m.fA m.fs m.fc).fit w:=⟨by omega,h.f⟩
 have f6 : (PV.u64 m.nonce).fit w:=o.n
 have f7 : (PV.h32 m.stop).fit w:=o.s
 have f8 : (PV.head m.bh).fit w:=o.b
 split at hp
 ·simp only [List.mem_cons,List.not_mem_nil,or_false] at hp
  rcases hp with rfl | rfl | rfl <;> first | trivial | assumption
 split at hp
 ·simp only [List.mem_cons,List.not_mem_nil,or_false] at hp
  subst hp;exact f6
 split at hp
 ·simp only [List.mem_cons,List.not_mem_nil,or_false] at hp
  rcases hp with rfl | rfl | rfl <;> first | trivial | assumption
 split at hp
 ·simp only [List.mem_cons,List.not_mem_nil,or_false] at hp
  subst hp;exact f2
 split at hp
 ·simp only [List.mem_cons,List.not_mem_nil,or_false] at hp
  subst hp;exact f3
 split at hp
 ·simp only [List.mem_cons,List.not_mem_nil,or_false] at hp
  rcases hp with rfl | rfl | rfl | rfl <;> first | trivial | assumption
 split at hp
 ·rename_i hk
  simp only [List.mem_cons,List.not_mem_nil,or_false] at hp
  subst hp
  exact ⟨h.t,ht hk,Nat.le_trans (txL_le h.t (ht hk)) (by omega)⟩
 ·cases hp
theorem parts_len (m : MsgR) : (partsM m).length ≤ 4:=by
 unfold partsM
 repeat' split
 all_goals simp
theorem layL_le {p : PV} {w : World} (h : p.fit w) : (layL p).length ≤ 90000000:=by
 cases p with
 | u32 x => show (loN x.toNat 4).length ≤ _;rw [lo_len];omega
 | u64 n => show (loN n 8).length ≤ _;rw [lo_len];omega
 | hsh A l c most => show (cptL l.length ++ l.flatten).length ≤ _;rw [List.length_append,flat32_len h.2.1,cpt_len];have:=siz_le l.length;have:=h.1;omega
 | h32 s => show s.length ≤ _;rw [show s.length = 32 from h];omega
 | heads A l c => show (hpall l).length ≤ _;unfold hpall;rw [List.length_append,cpt_len,hpa_len l h.2.1];have:=siz_le l.length;have:=h.1;omega
 | items A l c => show (cptL l.length ++ l.flatMap itL).length ≤ _;rw [List.length_append,itL_len h.2.1,cpt_len];have:=siz_le l.length;have:=h.1;omega
 | head x => show (hputL x).length ≤ _;rw [hputL_len h];omega
 | bytes A l c => show (cptL l.length ++ l).length ≤ _;rw [List.length_append,cpt_len];have:=siz_le l.length;have:=h.1;omega
 | tx t => show (if saneT t = true then txL t else []).length ≤ _;rw [if_pos h.2.1];exact h.2.2
def putL (m : MsgR) : List UInt8:=if fitsB m = true then (partsM m).flatMap layL else []
end Go.Proofs.YtffpanlpbdnafaaDoor
/- wire.Put. -/
set_option linter.unusedSimpArgs false
set_option linter.unusedVariables false
namespace Go.Proofs.YtffpanlpbdnafaaDoor
open Go.RowKit
attribute [local go_sem ↓] Go.wp_at_zero Go.wp_at_succ
set_option maxRecDepth 100000 in
set_option maxHeartbeats 4000000 in
theorem put_any (m : MsgR) (cs : Array Value) (hA : MsA m cs) (w : World) (h : m.at_ w) :
  Calls Tryd.prog 31 #[.agg cs] w fun e w' => ∃ v,e = .returned (.tuple #[v,iv (if fitsB m = true then 0 else 2)])∧w'.ownsRow w.heap.size 5 1 v (putL m).length ((putL m).map u8v)∧Keep w w':=by
 have hcn:=hA.n;have hcz:=hA.z;have hci:=hA.i
 have FT : Hid (∀ y,Keep w y → Calls Tryd.prog 16 #[.agg cs] y fun e w' => e = .returned (.bool (fitsB m))∧Keep y w'):=Lib.hid fun y hy => fits_any m cs hA h.o y (h.t.keep hy)
 have PT : Hid (∀ y,Calls Tryd.prog 52 #[.agg cs] y fun e w' => ∃ A,e = .returned (.slice A (partsM m).length (partsM m).length)∧Rd w' A ((partsM m).map PV.val)∧Keep y w'):=Lib.hid fun y => parts_any m cs hA h.o y
 have PF : Hid (fitsB m = true → ∀ y,Keep w y → ∀ p ∈ partsM m,p.fit y):=Lib.hid fun hf y hy => parts_fit (h.keep hy) hf
 have hpl:=parts_len m
 have HP : Hid (putL m = if fitsB m = true then (partsM m).flatMap layL else []):=Lib.hid rfl
 generalize putL m = R at *
 generalize fitsB m = FB at *
 generalize partsM m = ps at *
 clear h
 go_enter Tryd.func31,Tryd.ntmps31
 go_upto_region 1 with fail
 obtain ⟨w1,hw1⟩ : ∃ w1,w1 = w.alloc (.cells cs 50):=⟨_,rfl⟩
 have HBc : Hid (Blk w1 w.heap.size 50 cs.toList):=by rw [hw1];exact Blk.new w _ cs.toList
 have HK1 : Hid (Keep w w1):=by rw [hw1];exact keep_new _ _
 rw [← hw1]
 clear hw1
 cases FB with
 | false =>
   have hR:=HP.out
   rw [if_neg (by decide)] at hR
   subst hR
   clear PF PT HP
   go_wp2_with (first | ((with_reducible refine load_arr w.heap.size cs (Eq.trans ?_ rfl) HBc.out _ Tryd.underlying50 rfl hci ?_);rfl) | (go_at_call 16;refine (FT.out _ HK1.out).mono ?_;rintro e w2 ⟨rfl,k2⟩;have HK2:=Lib.hid (keep_trans HK1.out k2);clear k2))
   exact bodyPost_ret (v:=.tuple #[.slice none 0 0,iv 2]) (by simp [results,Tryd.results31]) rfl ⟨_,rfl,World.ownsRow_nil _ _ _ _,HK2.out⟩
 | true =>
   have hR:=HP.out
   rw [if_pos rfl] at hR
   have HPF:=Lib.hid (PF.out rfl)
   have HRR:=Lib.hid hR
   clear PF HP hR
   go_upto_region 3 with (first | ((with_reducible refine load_arr w.heap.size cs (Eq.trans ?_ rfl) HBc.out _ Tryd.underlying50 rfl hci ?_);rfl) | (go_at_call 16;refine (FT.out _ HK1.out).mono ?_;rintro e w2 ⟨rfl,k2⟩;have HK2:=Lib.hid (keep_trans HK1.out k2);have HB2:=Lib.hid (HBc.out.keep k2);clear k2))
   clear FT HBc
   go_upto_region 5 with (first | ((with_reducible refine load_arr w.heap.size cs (Eq.trans ?_ rfl) HB2.out _ Tryd.underlying50 rfl hci ?_);rfl) | (go_at_call 52;refine (PT.out _).mono ?_;rintro e w3 ⟨A,rfl,r3,k3⟩;have HK3:=Lib.hid (keep_trans HK2.out k3);have RP:=Lib.hid r3;clear k3 r3))
   have HF3:=Lib.hid (HPF.out _ HK3.out)
   obtain ⟨n,hn⟩ : ∃ n,ps.length = n:=⟨_,rfl⟩
   have HN:=Lib.hid hn
   rw [hn] at hpl
   simp only [hn]
   clear hn HPF PT HB2
   have Own0 : Hid (w3.ownsRow w3.heap.size 5 1 (.slice none 0 0) ((ps.take 0).flatMap layL).length (((ps.take 0).flatMap layL).map u8v)):=Lib.hid (World.ownsRow_nil _ _ _ _)
   have K0 : Hid (Keep w3 w3):=Lib.hid (Below.refl _ _)
   go_wp2_with fail
   go_loopw [4,13] (fun x i wr => ∃ k : Nat,k ≤ n∧i = .int .i64 k∧Hid (wr.ownsRow w3.heap.size 5 1 x ((ps.take k).flatMap layL).length (((ps.take k).flatMap layL).map u8v))∧Hid (Keep w3 wr)) (fun _ i _ => n - (intOf i).toNat)
   case atStart => exact ⟨0,Nat.zero_le _,rfl,Own0,K0⟩
   case round =>
    obtain ⟨k,hk,rfl,Own1,KR⟩:=hrel
    clear Own0 K0
    by_cases hlt : k < n
    ·have d1 : (k : Int) < n:=by omega
     have hkl : k < ps.length:=by rw [HN.out];exact hlt
     obtain ⟨g,off,hA',hgb,F⟩:=(RP.out.keep KR.out).at (k:=k) (by rw [List.length_map];exact hkl)
     have c0 : wr.cell? ⟨g,off + k,none⟩ = some (ps[k].val):=by rw [F k (by rw [List.length_map];exact hkl),List.getElem_map]
     have hpf:=HF3.out ps[k] (List.getElem_mem hkl)
     have hb:=fm_le layL 90000000 (ps.take k) fun x hx => layL_le (HF3.out x (List.mem_of_mem_take hx))
     have hb2 : (ps.take k).length ≤ 4:=by rw [List.length_take];omega
     have HT : Hid ((ps.take (k + 1)).flatMap layL = (ps.take k).flatMap layL ++ layL ps[k]):=Lib.hid (by rw [List.take_succ_eq_append_getElem hkl,List.flatMap_append];simp only [List.flatMap_cons,List.flatMap_nil,List.append_nil])
     have LY:=Lib.hid (lay_any w3 _ _ _ ps[k] wr KR.out Own1.out (by omega) hpf)
     generalize ps[k] = p at *
     subst hA'
     clear hgb F hb hb2 hpf
     generalize p.val = pv at *
     go_wp2_with (go_at_call 53;refine LY.out.mono ?_;rintro e w4 ⟨v4,rfl,own4,gr4⟩;have Own4:=Lib.hid own4;have K4:=Lib.hid (gr4.old Own1.out KR.out);clear own4 gr4)
     go_roundw
     case rel => exact ⟨k + 1,by omega,by go_num,Lib.hid (own_eq Own4.out (by rw [HT.out,List.length_append]) (by rw [HT.out,List.map_append])),K4⟩
     case measure => simp [intOf];omega
    ·obtain rfl : k = n:=by omega
     have d1 : ¬ (k : Int) < k:=by omega
     have OwnF:=Own1.out
     rw [show ps.take k = ps from by rw [← HN.out];exact List.take_length,← HRR.out] at OwnF
     have OwnH:=Lib.hid OwnF
     clear OwnF Own1
     obtain ⟨Av,cv,rfl,-,-,-⟩:=own_form OwnH.out
     go_wp2
     exact bodyPost_ret (v:=.tuple #[.slice Av R.length cv,iv 0]) (by simp [results,Tryd.results31]) rfl ⟨_,rfl,own_base OwnH.out HK3.out.size,keep_trans HK3.out KR.out⟩
end Go.Proofs.YtffpanlpbdnafaaDoor
