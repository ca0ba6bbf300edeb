/- Texts merged by pack.py: Ik, Il, In, Hgp, Pb, Pd. -/
import Derived.Test.YtbgpgdhndanigaaCx7
import Derived.Test.YtbgpgdhndanigaaCx3
import Derived.Test.YtbgpgdhndanigaaCx5
import Derived.Deep.CutBlock
/- wire.take: whatever the part. -/
set_option linter.unusedSimpArgs false
set_option linter.unusedVariables false
namespace Go.Proofs.Ytbgpgdhndanigaa
open Go.RowKit
theorem hshs_ok {b : List UInt8} {a : Nat} : ∀ {n : Nat},a + n * 32 ≤ b.length → ∀ s ∈ hshs b a n,s.length = 32:=fun {n} h s hs => by
 unfold hshs at hs
 obtain ⟨i,hi,rfl⟩:=List.mem_map.1 hs
 rw [List.mem_range] at hi
 rw [List.length_take,List.length_drop]
 have : (i + 1) * 32 ≤ n * 32:=Nat.mul_le_mul_right _ hi
 omega
theorem ths_ok (b : List UInt8) (most : Nat) : ∀ s ∈ (thsN b most).1,s.length = 32:=by
 unfold thsN
 split
 ·split
  ·intro s hs;cases hs
  ·exact hshs_ok (by omega)
 ·intro s hs;cases hs
theorem itms_ok {b : List UInt8} {a : Nat} : ∀ {n : Nat},a + n * 36 ≤ b.length → ∀ s ∈ itms b a n,s.ok:=fun {n} h s hs => by
 unfold itms at hs
 obtain ⟨i,hi,rfl⟩:=List.mem_map.1 hs
 rw [List.mem_range] at hi
 unfold Itm.ok itmOf
 rw [List.length_take,List.length_drop]
 have : (i + 1) * 36 ≤ n * 36:=Nat.mul_le_mul_right _ hi
 omega
theorem tit_ok (b : List UInt8) : ∀ s ∈ (titN b).1,s.ok:=by
 unfold titN
 split
 ·split
  ·intro s hs;cases hs
  ·exact itms_ok (by omega)
 ·intro s hs;cases hs
theorem hgal_ok (b : List UInt8) : ∀ n a,∀ h ∈ (hgal b n a).1,h.ok
 | 0,a => by unfold hgal;split <;> (intro h hh;cases hh)
 | n + 1,a => by
   unfold hgal
   split
   ·intro h hh;cases hh
   ·split
    ·split
     ·intro h hh
      rcases List.mem_cons.1 hh with rfl | q
      ·exact hgetL_ok (by rw [List.length_take,List.length_drop];omega)
      ·exact hgal_ok b n _ h q
     ·intro h hh;cases hh
    ·intro h hh;cases hh
theorem hgall_ok (b : List UInt8) : ∀ h ∈ (hgall b).1,h.ok:=by
 unfold hgall
 split
 ·exact hgal_ok b _ _
 ·intro h hh;cases hh
theorem take_any (p : PV) (hp : p.like) (A : Option Addr) (b : List UInt8) (c : Nat) (w : World) (hl : b.length ≤ 1000000000) (hc : b.length ≤ c) (hcm : c ≤ maxLen) (hr : Rd w A (b.map u8v)) :
  Calls Try.prog 29 #[p.val,.slice A b.length c] w fun e w' => ∃ v,e = .returned (.tuple #[v,iv (p.tak b).2.1,iv (p.tak b).2.2])∧((p.tak b).2.2 = 0 → ∃ q : PV,v = q.val∧q.pl = (p.tak b).1∧q.at_ w'∧∀ W,MidF (fun _ => True) w w' W → q.at_ W)∧Keep w w':=by
 cases p with
 | u32 x =>
   refine (take_u32 x A b c w hl hc hr).mono ?_
   rintro e w' ⟨rfl,k⟩
   exact ⟨_,rfl,fun _ => ⟨.u32 _,rfl,rfl,trivial,fun _ _ => trivial⟩,k⟩
 | u64 x =>
   refine (take_u64 x A b c w hl hc hr).mono ?_
   rintro e w' ⟨rfl,k⟩
   have q : (if b.length < 8 then 0 else numN b 8) < 2 ^ 64:=by
    have:=numN_lt b 8
    split <;> omega
   exact ⟨_,rfl,fun _ => ⟨.u64 _,rfl,rfl,q,fun _ _ => q⟩,k⟩
 | hsh A0 l c0 most =>
   refine (take_hsh A0 l.length c0 most A b c w hl hc hcm hp hr).mono ?_
   rintro e w' ⟨v,rfl,o,k⟩
   obtain ⟨A',c',rfl,h1,h2,h3⟩:=own_form o
   exact ⟨_,rfl,fun _ => ⟨.hsh A' (thsN b most).1 c' most,rfl,rfl,⟨ths_ok b most,⟨h1,h2⟩,h3⟩,fun W hm => ⟨ths_ok b most,⟨h1,h2⟩,own_mid o (Nat.le_refl _) hm⟩⟩,k⟩
 | h32 s =>
   by_cases h : b.length < 32
   ·refine (take_h32_short s _ (HashA.of hp) A b.length c w h).mono ?_
    rintro e w' ⟨rfl,k⟩
    refine ⟨.nilIface,?_,fun q => ?_,k⟩
    ·show _ = Ending.returned (.tuple #[_,iv ((if b.length < 32 then 0 else 32 : Nat)),iv (if b.length < 32 then 1 else 0)])
     rw [if_pos h,if_pos h];rfl
    ·replace q : (if b.length < 32 then (1 : Int) else 0) = 0:=q
     rw [if_pos h] at q;cases q
   ·have hl32 : (b.take 32).length = 32:=by rw [List.length_take];omega
    refine (take_h32 s _ (HashA.of hp) A b c w (by omega) hl hc hcm hr).mono ?_
    rintro e w' ⟨rfl,k⟩
    refine ⟨.iface 27 (.agg ((b.take 32).map u8v).toArray),?_,fun q => ⟨.h32 (b.take 32),rfl,rfl,hl32,fun _ _ => hl32⟩,k⟩
    ·show _ = Ending.returned (.tuple #[_,iv ((if b.length < 32 then 0 else 32 : Nat)),iv (if b.length < 32 then 1 else 0)])
     rw [if_neg h,if_neg h];rfl
 | heads A0 l c0 =>
   refine (take_heads A0 l.length c0 A b c w hl hc hcm hr).mono ?_
   rintro e w' ⟨v,rfl,o,k⟩
   obtain ⟨A',c',rfl,h1,h2,h3⟩:=own_form o
   exact ⟨_,rfl,fun _ => ⟨.heads A' (hgall b).1 c',rfl,rfl,⟨hgall_ok b,⟨h1,h2⟩,h3⟩,fun W hm => ⟨hgall_ok b,⟨h1,h2⟩,own_mid o (Nat.le_refl _) hm⟩⟩,k⟩
 | items A0 l c0 =>
   refine (take_items A0 l.length c0 A b c w hl hc hcm hr).mono ?_
   rintro e w' ⟨v,rfl,o,k⟩
   obtain ⟨A',c',rfl,h1,h2,h3⟩:=own_form o
   exact ⟨_,rfl,fun _ => ⟨.items A' (titN b).1 c',rfl,rfl,⟨tit_ok b,⟨h1,h2⟩,h3⟩,fun W hm => ⟨tit_ok b,⟨h1,h2⟩,own_mid o (Nat.le_refl _) hm⟩⟩,k⟩
 | head h =>
   refine (take_head h _ (HdA.of hp) A b c w hl hc hcm hr).mono ?_
   rintro e w' ⟨x,cs,rfl,hx,hh,k⟩
   refine ⟨_,rfl,fun q => ?_,k⟩
   replace q : (if b.length < 80 then (1 : Int) else 0) = 0:=q
   by_cases h8 : b.length < 80
   ·rw [if_pos h8] at q;cases q
   ·obtain rfl:=hh h8
    have hok : (hgetL (b.take 80)).ok:=hgetL_ok (by rw [List.length_take];omega)
    refine ⟨.head (hgetL (b.take 80)),?_,rfl,hok,fun _ _ => hok⟩
    have e : cs = (hgetL (b.take 80)).cells.toArray:=by rw [← hx.l,Array.toArray_toList]
    rw [e];rfl
 | bytes A0 l c0 =>
   refine (take_bytes A0 l.length c0 A b c w hl hc hcm hr).mono ?_
   rintro e w' ⟨v,rfl,o,k⟩
   obtain ⟨A',c',rfl,h1,h2,h3⟩:=own_form o
   exact ⟨_,rfl,fun _ => ⟨.bytes A' (bytN b 1024).1 c',rfl,rfl,⟨⟨h1,h2⟩,h3⟩,fun W hm => ⟨⟨h1,h2⟩,own_mid o (Nat.le_refl _) hm⟩⟩,k⟩
 | tx s =>
   refine (take_tx s A b c w hl hc hcm hr).mono ?_
   rintro e w' ⟨t,rfl,h1,h2,h3,h4,k⟩
   refine ⟨_,rfl,fun _ => ⟨.tx t,rfl,?_,h2⟩,k⟩
   show PV.tx t.pl = PV.tx (tgetN b).1
   rw [h1]
end Go.Proofs.Ytbgpgdhndanigaa
/- wire.message. (printed by gen_il.py) -/
set_option linter.unusedSimpArgs false
set_option linter.unusedVariables false
namespace Go.Proofs.Ytbgpgdhndanigaa
open Go.RowKit
attribute [local go_sem ↓] Go.wp_at_zero Go.wp_at_succ
theorem hsh_field (A : Option Addr) (n c most : Nat) (y : World) : (Instr.field 103 (.agg #[.slice A n c,u64v most]) 0).run Try.prog y = .ok (.slice A n c) y:=by kernel_rfl
theorem msg_built (k : Int) : Try.prog.built 49 [(0,.int .i64 k)] = some (msgZ k).cells.toArray:=by kernel_rfl
namespace MsgR
theorem set38s {m : MsgR} (h : m.ok) (A : Option Addr) (l : List Itm) (c : Nat) : m.cells.set 38 (.slice A l.length c) = cells { m with iA:=A,is:=l,ic:=c }:=by
 unfold cells
 rw [List.set_append_right _ _ (by simp),List.set_append_right _ _ (by simp [h.s])]
 simp [h.s,blk]
theorem set_txs {m : MsgR} (h : m.ok) (t : TxR) : (((m.cells.set 110 (u32v t.ver)).set 111 (.slice t.iA t.ins.length t.ic)).set 112 (.slice t.oA t.outs.length t.oc)).set 113 (u32v t.lock) = cells { m with t:=t }:=by
 rw [cells110,setp m h _ 0,setp m h _ 1,setp m h _ 2,setp m h _ 3,cells110];rfl
theorem len2 {m : MsgR} (hs : m.stop.length = 32) (hb : m.bh.ok) : m.cells.length = 114:=by
 unfold cells;simp [hs,blk_len hb,TxR.cells]
theorem set_blk {m : MsgR} (hs : m.stop.length = 32) (hb : m.bh.ok) (k : Nat) (v : Value) (hk : k < 71) : m.cells.set (k + 39) v = m.hd39 ++ (m.blk.set k v ++ m.t.cells):=by
 rw [cells39,List.set_append_right _ _ (by rw [hd39_len hs];omega),hd39_len hs,show k + 39 - 39 = k by omega,List.set_append_left _ _ (by rw [blk_len hb];omega)]
theorem set107 {m : MsgR} (hs : m.stop.length = 32) (hb : m.bh.ok) (x : UInt32) : m.cells.set 107 (u32v x) = cells { m with total:=x }:=by
 rw [show (107 : Nat) = 68 + 39 from rfl,set_blk hs hb _ _ (by omega),cells39]
 unfold blk
 rw [List.set_append_right _ _ (by rw [Hd.len hb];omega),Hd.len hb];rfl
theorem set108 {m : MsgR} (hs : m.stop.length = 32) (hb : m.bh.ok) (A : Option Addr) (l : List (List UInt8)) (c : Nat) : m.cells.set 108 (.slice A l.length c) = cells { m with sA:=A,shs:=l,sc:=c }:=by
 rw [show (108 : Nat) = 69 + 39 from rfl,set_blk hs hb _ _ (by omega),cells39]
 unfold blk
 rw [List.set_append_right _ _ (by rw [Hd.len hb];omega),Hd.len hb];rfl
theorem set109 {m : MsgR} (hs : m.stop.length = 32) (hb : m.bh.ok) (A : Option Addr) (l : List UInt8) (c : Nat) : m.cells.set 109 (.slice A l.length c) = cells { m with fA:=A,fs:=l,fc:=c }:=by
 rw [show (109 : Nat) = 70 + 39 from rfl,set_blk hs hb _ _ (by omega),cells39]
 unfold blk
 rw [List.set_append_right _ _ (by rw [Hd.len hb];omega),Hd.len hb];rfl
theorem splice_stop2 {m : MsgR} (hs : m.stop.length = 32) {l : List UInt8} (hl : l.length = 32) : splice m.cells 6 (l.map u8v) = cells { m with stop:=l }:=by
 rw [cells6,splice3 (show m.hd6.length = 6 from rfl) (by rw [List.length_map,List.length_map,hs,hl])];rfl
theorem splice_bh {m : MsgR} (hs : m.stop.length = 32) (hb : m.bh.ok) {x : Hd} (hx : x.ok) : splice m.cells 39 x.cells = cells { m with bh:=x }:=by
 have e : m.cells = m.hd39 ++ (m.bh.cells ++ ([u32v m.total,.slice m.sA m.shs.length m.sc,.slice m.fA m.fs.length m.fc] ++ m.t.cells)):=by rw [cells39];unfold blk;rw [List.append_assoc]
 rw [e,splice3 (hd39_len hs) (by rw [Hd.len hx,Hd.len hb]),cells39]
 unfold blk
 rw [List.append_assoc];rfl
end MsgR
set_option maxRecDepth 100000 in
set_option maxHeartbeats 4000000 in
theorem message_0 (p : UInt32) (n : Nat) (h : UInt32) (A : Option Addr) (c : Nat) (w : World) (hM : MsgR.ok { msgZ 0 with proto:=p,nonce:=n,height:=h }) (hr : Rd w A (([.u32 p,.u64 n,.u32 h] : List PV).map PV.val)) :
  Calls Try.prog 30 #[.int .i64 0,.slice A 3 c] w fun e w' => ∃ ds,e = .returned (.agg ds)∧MsA { msgZ 0 with proto:=p,nonce:=n,height:=h } ds∧Keep w w':=by
 obtain ⟨ys,hyz,hyA⟩:=zmsg_letter
 obtain ⟨ks,hks⟩ : ∃ ks : Array Value,ks = (msgZ 0).cells.toArray:=⟨_,rfl⟩
 have hkA : MsA (msgZ 0) ks:=by rw [hks];exact MsA.of (msgZ_ok _ (by omega))
 have HBu : Hid (Try.prog.built 49 [(0,.int .i64 0)] = some ks):=Lib.hid (by rw [hks];exact msg_built _)
 clear hks
 have hyn:=hyA.n;have hkn:=hkA.n;have hkz:=hkA.z;have hyzz:=hyA.z
 have HY:=Lib.hid hyA;have HKS:=Lib.hid hkA
 have HMO:=Lib.hid hM
 have HZO:=Lib.hid (msgZ_ok 0 (by omega))
 have HS : Hid ((msgZ 0).stop.length = 32):=Lib.hid rfl
 have HB : Hid ((msgZ 0).bh.ok):=Lib.hid ⟨rfl,rfl⟩
 have hst : (storeCells ⟨w.heap.size + 1,0,none⟩ ks.toList 0).run Try.prog ((w.alloc (.cells ys 49)).alloc (.cells ys 49)) = .ok () ((w.alloc (.cells ys 49)).alloc (.cells ks 49)):=by
  have q:=run_storeCells_new (P:=Try.prog) (w.alloc (.cells ys 49)) 49 ys ks HKS.out.i (hyA.z.trans hkA.z.symm) (by have:=all_oneCell_toArray HKS.out.o;simpa using this)
  rw [World.size_alloc] at q
  exact q
 clear hyA hkA hM hyzz
 generalize hMM : { msgZ 0 with proto:=p,nonce:=n,height:=h } = M at *
 have HMM:=Lib.hid hMM
 clear hMM
 obtain ⟨g,off,rfl,hgb,hcell⟩:=hr.at (k:=0) (by simp)
 have c0 : w.cell? ⟨g,off,none⟩ = some (.iface 22 (u32v p)):=hcell 0 (by simp)
 have c1 : w.cell? ⟨g,off + 1,none⟩ = some (.iface 23 (u64v n)):=hcell 1 (by simp)
 have c2 : w.cell? ⟨g,off + 2,none⟩ = some (.iface 22 (u32v h)):=hcell 2 (by simp)
 clear hr hcell
 have Y0 : ∀ y,(Instr.typeAssert (.iface 22 (u32v p)) 20 22 false).run Try.prog y = .ok (u32v p) y:=run_assert_must Try.underlying22 rfl _ _
 have Y1 : ∀ y,(Instr.typeAssert (.iface 23 (u64v n)) 20 23 false).run Try.prog y = .ok (u64v n) y:=run_assert_must Try.underlying23 rfl _ _
 have Y2 : ∀ y,(Instr.typeAssert (.iface 22 (u32v h)) 20 22 false).run Try.prog y = .ok (u32v h) y:=run_assert_must Try.underlying22 rfl _ _
 go_enter Try.func30,Try.ntmps30
 go_upto_region 2 with ((with_reducible refine list_bldg [(0,.int .i64 0)] ks (Eq.trans ?_ rfl) HBu.out (Eq.trans ?_ rfl) ?_);rfl;rfl)
 obtain ⟨w1,hw1⟩ : ∃ w1,w1 = (w.alloc (.cells ys 49)).alloc (.cells ks 49):=⟨_,rfl⟩
 have HR1 : Hid (Blk w1 w.heap.size 49 ys.toList):=by rw [hw1];exact Lib.hid ((Blk.new w _ ys.toList).alloc _)
 have HX1 : Hid (Blk w1 (w.heap.size + 1) 49 (msgZ 0).cells):=by
  rw [hw1,← HKS.out.l]
  have h2:=Blk.new (w.alloc (.cells ys 49)) 49 ks.toList
  rw [World.size_alloc] at h2
  exact Lib.hid h2
 have HK1 : Hid (Keep w w1):=by rw [hw1];exact Lib.hid (keep_trans (keep_new _ _) (keep_new _ _))
 rw [← hw1]
 clear hw1 hst
 replace c0:=keep_cell HK1.out c0
 replace c1:=keep_cell HK1.out c1
 replace c2:=keep_cell HK1.out c2
 go_upto_region 4 with fail
 letI iM : G.Mk:=⟨some (w.heap.size + 1)⟩
 refine G.wp_region_tree (.take [0,1,2,3,4,5,6,7,8,9,10,11,12] (.force [13] (.take [14] (.force [15] (.take [16] (.force [17] .done)))))) [] (by kernel_rfl) (by kernel_rfl) (fun wa1 ka => ?_)
 have hneG : G.Mk.m ≠ some g:=fun q => by have e : w.heap.size + 1 = g:=Option.some.inj q;omega
 have HXa:=Lib.hid (HX1.out.keep ka);have HRa:=Lib.hid (HR1.out.keep ka);have HKa:=Lib.hid (keep_trans HK1.out ka)
 replace c0:=keep_cell ka c0
 have b0:=G.aftG_cell c0 hneG
 replace c1:=keep_cell ka c1
 have b1:=G.aftG_cell c1 hneG
 replace c2:=keep_cell ka c2
 have b2:=G.aftG_cell c2 hneG
 clear ka HX1 HR1 HK1
 refine G.mt_take wa1 (G.Gr.refl _) ?_
 simp only [pick_cons,pick_nil,nth_zero,nth_succ]
 repeat (go_big_quiet_step (fail))
 refine wpQuiet_nil (G.mt_force ?_)
 clear b0 b1 b2 hneG
 simp only [pick_cons,pick_nil,nth_zero,nth_succ]
 refine G.fc_step rfl (fun K hK => ?_)
 have z0 : ∃ v,wa1.cell? ⟨w.heap.size + 1,1,none⟩ = some v:=⟨_,(HXa.out.cell 1).trans (List.getElem?_eq_getElem (by rw [MsgR.len2 (m:=(msgZ 0)) HS.out HB.out];omega))⟩
 obtain ⟨v0,z0⟩:=z0
 have y0:=HXa.out.frozen 1
 go_simp
 refine hK _ _ (show G.Gr wa1 _ from grown_set (grown_refl wa1 _)) ?_
 clear hK K z0 y0
 obtain ⟨wb10,hwb⟩ : ∃ wb,wb = wa1.setCell ⟨w.heap.size + 1,1,none⟩ (u32v p):=⟨_,rfl⟩
 have HXb10 : Hid (Blk wb10 (w.heap.size + 1) 49 (MsgR.cells { msgZ 0 with proto:=p })):=by
  rw [hwb]
  have q:=HXa.out.set_ 1 (u32v p)
  exact Lib.hid q
 have HRb10 : Hid (Blk wb10 w.heap.size 49 ys.toList):=by rw [hwb];exact Lib.hid (HRa.out.far (by simp) _)
 have HKb10 : Hid (Keep w wb10):=by rw [hwb];exact Lib.hid (Below.setCell HKa.out (by simp) _)
 rw [← hwb]
 clear hwb HXa HRa HKa
 refine G.fc_nil (G.mt_take _ (G.Gr.refl _) ?_)
 simp only [pick_cons,pick_nil,nth_zero,nth_succ]
 repeat (go_big_quiet_step (fail))
 refine wpQuiet_nil (G.mt_force ?_)
 simp only [pick_cons,pick_nil,nth_zero,nth_succ]
 refine G.fc_step rfl (fun K hK => ?_)
 have z0 : ∃ v,wb10.cell? ⟨w.heap.size + 1,2,none⟩ = some v:=⟨_,(HXb10.out.cell 2).trans (List.getElem?_eq_getElem (by rw [MsgR.len2 (m:={ msgZ 0 with proto:=p }) HS.out HB.out];omega))⟩
 obtain ⟨v0,z0⟩:=z0
 have y0:=HXb10.out.frozen 2
 go_simp
 refine hK _ _ (show G.Gr wb10 _ from grown_set (grown_refl wb10 _)) ?_
 clear hK K z0 y0
 obtain ⟨wb11,hwb⟩ : ∃ wb,wb = wb10.setCell ⟨w.heap.size + 1,2,none⟩ (u64v n):=⟨_,rfl⟩
 have HXb11 : Hid (Blk wb11 (w.heap.size + 1) 49 (MsgR.cells { msgZ 0 with proto:=p,nonce:=n })):=by
  rw [hwb]
  have q:=HXb10.out.set_ 2 (u64v n)
  exact Lib.hid q
 have HRb11 : Hid (Blk wb11 w.heap.size 49 ys.toList):=by rw [hwb];exact Lib.hid (HRb10.out.far (by simp) _)
 have HKb11 : Hid (Keep w wb11):=by rw [hwb];exact Lib.hid (Below.setCell HKb10.out (by simp) _)
 rw [← hwb]
 clear hwb HXb10 HRb10 HKb10
 refine G.fc_nil (G.mt_take _ (G.Gr.refl _) ?_)
 simp only [pick_cons,pick_nil,nth_zero,nth_succ]
 repeat (go_big_quiet_step (fail))
 refine wpQuiet_nil (G.mt_force ?_)
 simp only [pick_cons,pick_nil,nth_zero,nth_succ]
 refine G.fc_step rfl (fun K hK => ?_)
 have z0 : ∃ v,wb11.cell? ⟨w.heap.size + 1,3,none⟩ = some v:=⟨_,(HXb11.out.cell 3).trans (List.getElem?_eq_getElem (by rw [MsgR.len2 (m:={ msgZ 0 with proto:=p,nonce:=n }) HS.out HB.out];omega))⟩
 obtain ⟨v0,z0⟩:=z0
 have y0:=HXb11.out.frozen 3
 go_simp
 refine hK _ _ (show G.Gr wb11 _ from grown_set (grown_refl wb11 _)) ?_
 clear hK K z0 y0
 obtain ⟨wb12,hwb⟩ : ∃ wb,wb = wb11.setCell ⟨w.heap.size + 1,3,none⟩ (u32v h):=⟨_,rfl⟩
 have HXb12 : Hid (Blk wb12 (w.heap.size + 1) 49 (MsgR.cells { msgZ 0 with proto:=p,nonce:=n,height:=h })):=by
  rw [hwb]
  have q:=HXb11.out.set_ 3 (u32v h)
  exact Lib.hid q
 have HRb12 : Hid (Blk wb12 w.heap.size 49 ys.toList):=by rw [hwb];exact Lib.hid (HRb11.out.far (by simp) _)
 have HKb12 : Hid (Keep w wb12):=by rw [hwb];exact Lib.hid (Below.setCell HKb11.out (by simp) _)
 rw [← hwb]
 clear hwb HXb11 HRb11 HKb11
 refine G.fc_nil (G.mt_end ?_)
 clear iM
 go_upto_region 21 with fail
 obtain ⟨wx,hwx⟩ : ∃ wx,wx = wb12:=⟨_,rfl⟩
 have HX : Hid (Blk wx (w.heap.size + 1) 49 M.cells):=by rw [hwx,← HMM.out];exact HXb12
 have HRX : Hid (Blk wx w.heap.size 49 ys.toList):=by rw [hwx];exact HRb12
 have HKX : Hid (Keep w wx):=by rw [hwx];exact HKb12
 rw [← hwx]
 clear hwx HXb12 HRb12 HKb12
 obtain ⟨ds,hds⟩ : ∃ ds,MsA M ds:=⟨_,MsA.of HMO.out⟩
 have hdz:=hds.z;have hdn:=hds.n;have hdi:=hds.i
 have HDS:=Lib.hid hds
 have HBx : Hid (Blk wx (w.heap.size + 1) 49 ds.toList):=by rw [HDS.out.l];exact HX.out
 obtain ⟨w8,hst8,hb8,hg8⟩:=run_store_blk (P:=Try.prog) ds.toList HRX.out (by rw [Array.length_toList,Array.length_toList,hdz,HY.out.z]) HDS.out.o
 have Hb8:=Lib.hid hb8;have Hg8:=Lib.hid hg8
 clear hds hb8 hg8 HX HRX
 go_wp2_with ((with_reducible refine load_arr (w.heap.size + 1) ds (Eq.trans ?_ rfl) HBx.out _ Try.underlying49 rfl hdi ?_);rfl)
 have hb8:=Hb8.out
 exact bodyPost_ret (v:=.agg ds) (results_cell_row Try.results30 _ _ w.heap.size _ _ _ _ rfl hb8 Try.underlying49 rfl (by rw [List.size_toArray,Array.length_toList];exact hdi)) rfl ⟨ds,rfl,HDS.out,HKX.out.grown Hg8.out HKX.out.size (fun q hq => by injection hq with hq;omega)⟩
set_option maxRecDepth 100000 in
set_option maxHeartbeats 4000000 in
theorem message_2 (n : Nat) (A : Option Addr) (c : Nat) (w : World) (hM : MsgR.ok { msgZ 2 with nonce:=n }) (hr : Rd w A (([.u64 n] : List PV).map PV.val)) :
  Calls Try.prog 30 #[.int .i64 2,.slice A 1 c] w fun e w' => ∃ ds,e = .returned (.agg ds)∧MsA { msgZ 2 with nonce:=n } ds∧Keep w w':=by
 obtain ⟨ys,hyz,hyA⟩:=zmsg_letter
 obtain ⟨ks,hks⟩ : ∃ ks : Array Value,ks = (msgZ 2).cells.toArray:=⟨_,rfl⟩
 have hkA : MsA (msgZ 2) ks:=by rw [hks];exact MsA.of (msgZ_ok _ (by omega))
 have HBu : Hid (Try.prog.built 49 [(0,.int .i64 2)] = some ks):=Lib.hid (by rw [hks];exact msg_built _)
 clear hks
 have hyn:=hyA.n;have hkn:=hkA.n;have hkz:=hkA.z;have hyzz:=hyA.z
 have HY:=Lib.hid hyA;have HKS:=Lib.hid hkA
 have HMO:=Lib.hid hM
 have HZO:=Lib.hid (msgZ_ok 2 (by omega))
 have HS : Hid ((msgZ 2).stop.length = 32):=Lib.hid rfl
 have HB : Hid ((msgZ 2).bh.ok):=Lib.hid ⟨rfl,rfl⟩
 have hst : (storeCells ⟨w.heap.size + 1,0,none⟩ ks.toList 0).run Try.prog ((w.alloc (.cells ys 49)).alloc (.cells ys 49)) = .ok () ((w.alloc (.cells ys 49)).alloc (.cells ks 49)):=by
  have q:=run_storeCells_new (P:=Try.prog) (w.alloc (.cells ys 49)) 49 ys ks HKS.out.i (hyA.z.trans hkA.z.symm) (by have:=all_oneCell_toArray HKS.out.o;simpa using this)
  rw [World.size_alloc] at q
  exact q
 clear hyA hkA hM hyzz
 generalize hMM : { msgZ 2 with nonce:=n } = M at *
 have HMM:=Lib.hid hMM
 clear hMM
 obtain ⟨g,off,rfl,hgb,hcell⟩:=hr.at (k:=0) (by simp)
 have c0 : w.cell? ⟨g,off,none⟩ = some (.iface 23 (u64v n)):=hcell 0 (by simp)
 clear hr hcell
 have Y0 : ∀ y,(Instr.typeAssert (.iface 23 (u64v n)) 20 23 false).run Try.prog y = .ok (u64v n) y:=run_assert_must Try.underlying23 rfl _ _
 go_enter Try.func30,Try.ntmps30
 go_upto_region 2 with ((with_reducible refine list_bldg [(0,.int .i64 2)] ks (Eq.trans ?_ rfl) HBu.out (Eq.trans ?_ rfl) ?_);rfl;rfl)
 obtain ⟨w1,hw1⟩ : ∃ w1,w1 = (w.alloc (.cells ys 49)).alloc (.cells ks 49):=⟨_,rfl⟩
 have HR1 : Hid (Blk w1 w.heap.size 49 ys.toList):=by rw [hw1];exact Lib.hid ((Blk.new w _ ys.toList).alloc _)
 have HX1 : Hid (Blk w1 (w.heap.size + 1) 49 (msgZ 2).cells):=by
  rw [hw1,← HKS.out.l]
  have h2:=Blk.new (w.alloc (.cells ys 49)) 49 ks.toList
  rw [World.size_alloc] at h2
  exact Lib.hid h2
 have HK1 : Hid (Keep w w1):=by rw [hw1];exact Lib.hid (keep_trans (keep_new _ _) (keep_new _ _))
 rw [← hw1]
 clear hw1 hst
 replace c0:=keep_cell HK1.out c0
 go_upto_region 7 with fail
 have r2:=HX1.out.frozen 2
 have x2 : ∃ v,w1.cell? ⟨w.heap.size + 1,2,none⟩ = some v:=⟨_,(HX1.out.cell 2).trans (List.getElem?_eq_getElem (by rw [MsgR.len2 (m:=msgZ 2) HS.out HB.out];omega))⟩
 obtain ⟨v2,x2⟩:=x2
 go_upto_region 21 with fail
 obtain ⟨wx,hwx⟩ : ∃ wx,wx = (w1.setCell ⟨w.heap.size + 1,2,none⟩ (u64v n)):=⟨_,rfl⟩
 have HX : Hid (Blk wx (w.heap.size + 1) 49 M.cells):=by
  rw [hwx,← HMM.out]
  have q:=(HX1.out.set_ 2 (u64v n))
  exact Lib.hid q
 have HRX : Hid (Blk wx w.heap.size 49 ys.toList):=by rw [hwx];exact Lib.hid (HR1.out.far (by simp) _)
 have HKX : Hid (Keep w wx):=by rw [hwx];exact Lib.hid (Below.setCell HK1.out (by simp) _)
 rw [← hwx]
 clear hwx r2 x2
 obtain ⟨ds,hds⟩ : ∃ ds,MsA M ds:=⟨_,MsA.of HMO.out⟩
 have hdz:=hds.z;have hdn:=hds.n;have hdi:=hds.i
 have HDS:=Lib.hid hds
 have HBx : Hid (Blk wx (w.heap.size + 1) 49 ds.toList):=by rw [HDS.out.l];exact HX.out
 obtain ⟨w8,hst8,hb8,hg8⟩:=run_store_blk (P:=Try.prog) ds.toList HRX.out (by rw [Array.length_toList,Array.length_toList,hdz,HY.out.z]) HDS.out.o
 have Hb8:=Lib.hid hb8;have Hg8:=Lib.hid hg8
 clear hds hb8 hg8 HX HRX
 go_wp2_with ((with_reducible refine load_arr (w.heap.size + 1) ds (Eq.trans ?_ rfl) HBx.out _ Try.underlying49 rfl hdi ?_);rfl)
 have hb8:=Hb8.out
 exact bodyPost_ret (v:=.agg ds) (results_cell_row Try.results30 _ _ w.heap.size _ _ _ _ rfl hb8 Try.underlying49 rfl (by rw [List.size_toArray,Array.length_toList];exact hdi)) rfl ⟨ds,rfl,HDS.out,HKX.out.grown Hg8.out HKX.out.size (fun q hq => by injection hq with hq;omega)⟩
set_option maxRecDepth 100000 in
set_option maxHeartbeats 4000000 in
theorem message_3 (n : Nat) (A : Option Addr) (c : Nat) (w : World) (hM : MsgR.ok { msgZ 3 with nonce:=n }) (hr : Rd w A (([.u64 n] : List PV).map PV.val)) :
  Calls Try.prog 30 #[.int .i64 3,.slice A 1 c] w fun e w' => ∃ ds,e = .returned (.agg ds)∧MsA { msgZ 3 with nonce:=n } ds∧Keep w w':=by
 obtain ⟨ys,hyz,hyA⟩:=zmsg_letter
 obtain ⟨ks,hks⟩ : ∃ ks : Array Value,ks = (msgZ 3).cells.toArray:=⟨_,rfl⟩
 have hkA : MsA (msgZ 3) ks:=by rw [hks];exact MsA.of (msgZ_ok _ (by omega))
 have HBu : Hid (Try.prog.built 49 [(0,.int .i64 3)] = some ks):=Lib.hid (by rw [hks];exact msg_built _)
 clear hks
 have hyn:=hyA.n;have hkn:=hkA.n;have hkz:=hkA.z;have hyzz:=hyA.z
 have HY:=Lib.hid hyA;have HKS:=Lib.hid hkA
 have HMO:=Lib.hid hM
 have HZO:=Lib.hid (msgZ_ok 3 (by omega))
 have HS : Hid ((msgZ 3).stop.length = 32):=Lib.hid rfl
 have HB : Hid ((msgZ 3).bh.ok):=Lib.hid ⟨rfl,rfl⟩
 have hst : (storeCells ⟨w.heap.size + 1,0,none⟩ ks.toList 0).run Try.prog ((w.alloc (.cells ys 49)).alloc (.cells ys 49)) = .ok () ((w.alloc (.cells ys 49)).alloc (.cells ks 49)):=by
  have q:=run_storeCells_new (P:=Try.prog) (w.alloc (.cells ys 49)) 49 ys ks HKS.out.i (hyA.z.trans hkA.z.symm) (by have:=all_oneCell_toArray HKS.out.o;simpa using this)
  rw [World.size_alloc] at q
  exact q
 clear hyA hkA hM hyzz
 generalize hMM : { msgZ 3 with nonce:=n } = M at *
 have HMM:=Lib.hid hMM
 clear hMM
 obtain ⟨g,off,rfl,hgb,hcell⟩:=hr.at (k:=0) (by simp)
 have c0 : w.cell? ⟨g,off,none⟩ = some (.iface 23 (u64v n)):=hcell 0 (by simp)
 clear hr hcell
 have Y0 : ∀ y,(Instr.typeAssert (.iface 23 (u64v n)) 20 23 false).run Try.prog y = .ok (u64v n) y:=run_assert_must Try.underlying23 rfl _ _
 go_enter Try.func30,Try.ntmps30
 go_upto_region 2 with ((with_reducible refine list_bldg [(0,.int .i64 3)] ks (Eq.trans ?_ rfl) HBu.out (Eq.trans ?_ rfl) ?_);rfl;rfl)
 obtain ⟨w1,hw1⟩ : ∃ w1,w1 = (w.alloc (.cells ys 49)).alloc (.cells ks 49):=⟨_,rfl⟩
 have HR1 : Hid (Blk w1 w.heap.size 49 ys.toList):=by rw [hw1];exact Lib.hid ((Blk.new w _ ys.toList).alloc _)
 have HX1 : Hid (Blk w1 (w.heap.size + 1) 49 (msgZ 3).cells):=by
  rw [hw1,← HKS.out.l]
  have h2:=Blk.new (w.alloc (.cells ys 49)) 49 ks.toList
  rw [World.size_alloc] at h2
  exact Lib.hid h2
 have HK1 : Hid (Keep w w1):=by rw [hw1];exact Lib.hid (keep_trans (keep_new _ _) (keep_new _ _))
 rw [← hw1]
 clear hw1 hst
 replace c0:=keep_cell HK1.out c0
 go_upto_region 7 with fail
 have r2:=HX1.out.frozen 2
 have x2 : ∃ v,w1.cell? ⟨w.heap.size + 1,2,none⟩ = some v:=⟨_,(HX1.out.cell 2).trans (List.getElem?_eq_getElem (by rw [MsgR.len2 (m:=msgZ 3) HS.out HB.out];omega))⟩
 obtain ⟨v2,x2⟩:=x2
 go_upto_region 21 with fail
 obtain ⟨wx,hwx⟩ : ∃ wx,wx = (w1.setCell ⟨w.heap.size + 1,2,none⟩ (u64v n)):=⟨_,rfl⟩
 have HX : Hid (Blk wx (w.heap.size + 1) 49 M.cells):=by
  rw [hwx,← HMM.out]
  have q:=(HX1.out.set_ 2 (u64v n))
  exact Lib.hid q
 have HRX : Hid (Blk wx w.heap.size 49 ys.toList):=by rw [hwx];exact Lib.hid (HR1.out.far (by simp) _)
 have HKX : Hid (Keep w wx):=by rw [hwx];exact Lib.hid (Below.setCell HK1.out (by simp) _)
 rw [← hwx]
 clear hwx r2 x2
 obtain ⟨ds,hds⟩ : ∃ ds,MsA M ds:=⟨_,MsA.of HMO.out⟩
 have hdz:=hds.z;have hdn:=hds.n;have hdi:=hds.i
 have HDS:=Lib.hid hds
 have HBx : Hid (Blk wx (w.heap.size + 1) 49 ds.toList):=by rw [HDS.out.l];exact HX.out
 obtain ⟨w8,hst8,hb8,hg8⟩:=run_store_blk (P:=Try.prog) ds.toList HRX.out (by rw [Array.length_toList,Array.length_toList,hdz,HY.out.z]) HDS.out.o
 have Hb8:=Lib.hid hb8;have Hg8:=Lib.hid hg8
 clear hds hb8 hg8 HX HRX
 go_wp2_with ((with_reducible refine load_arr (w.heap.size + 1) ds (Eq.trans ?_ rfl) HBx.out _ Try.underlying49 rfl hdi ?_);rfl)
 have hb8:=Hb8.out
 exact bodyPost_ret (v:=.agg ds) (results_cell_row Try.results30 _ _ w.heap.size _ _ _ _ rfl hb8 Try.underlying49 rfl (by rw [List.size_toArray,Array.length_toList];exact hdi)) rfl ⟨ds,rfl,HDS.out,HKX.out.grown Hg8.out HKX.out.size (fun q hq => by injection hq with hq;omega)⟩
set_option maxRecDepth 100000 in
set_option maxHeartbeats 4000000 in
theorem message_5 (hA : Option Addr) (l : List Hd) (hc : Nat) (A : Option Addr) (c : Nat) (w : World) (hM : MsgR.ok { msgZ 5 with hA:=hA,hs:=l,hc:=hc }) (hr : Rd w A (([.heads hA l hc] : List PV).map PV.val)) :
  Calls Try.prog 30 #[.int .i64 5,.slice A 1 c] w fun e w' => ∃ ds,e = .returned (.agg ds)∧MsA { msgZ 5 with hA:=hA,hs:=l,hc:=hc } ds∧Keep w w':=by
 obtain ⟨ys,hyz,hyA⟩:=zmsg_letter
 obtain ⟨ks,hks⟩ : ∃ ks : Array Value,ks = (msgZ 5).cells.toArray:=⟨_,rfl⟩
 have hkA : MsA (msgZ 5) ks:=by rw [hks];exact MsA.of (msgZ_ok _ (by omega))
 have HBu : Hid (Try.prog.built 49 [(0,.int .i64 5)] = some ks):=Lib.hid (by rw [hks];exact msg_built _)
 clear hks
 have hyn:=hyA.n;have hkn:=hkA.n;have hkz:=hkA.z;have hyzz:=hyA.z
 have HY:=Lib.hid hyA;have HKS:=Lib.hid hkA
 have HMO:=Lib.hid hM
 have HZO:=Lib.hid (msgZ_ok 5 (by omega))
 have HS : Hid ((msgZ 5).stop.length = 32):=Lib.hid rfl
 have HB : Hid ((msgZ 5).bh.ok):=Lib.hid ⟨rfl,rfl⟩
 have hst : (storeCells ⟨w.heap.size + 1,0,none⟩ ks.toList 0).run Try.prog ((w.alloc (.cells ys 49)).alloc (.cells ys 49)) = .ok () ((w.alloc (.cells ys 49)).alloc (.cells ks 49)):=by
  have q:=run_storeCells_new (P:=Try.prog) (w.alloc (.cells ys 49)) 49 ys ks HKS.out.i (hyA.z.trans hkA.z.symm) (by have:=all_oneCell_toArray HKS.out.o;simpa using this)
  rw [World.size_alloc] at q
  exact q
 clear hyA hkA hM hyzz
 generalize hMM : { msgZ 5 with hA:=hA,hs:=l,hc:=hc } = M at *
 have HMM:=Lib.hid hMM
 clear hMM
 obtain ⟨g,off,rfl,hgb,hcell⟩:=hr.at (k:=0) (by simp)
 have c0 : w.cell? ⟨g,off,none⟩ = some (.iface 24 (.slice hA l.length hc)):=hcell 0 (by simp)
 clear hr hcell
 have Y0 : ∀ y,(Instr.typeAssert (.iface 24 (.slice hA l.length hc)) 20 24 false).run Try.prog y = .ok (.slice hA l.length hc) y:=run_assert_must Try.underlying24 rfl _ _
 go_enter Try.func30,Try.ntmps30
 go_upto_region 2 with ((with_reducible refine list_bldg [(0,.int .i64 5)] ks (Eq.trans ?_ rfl) HBu.out (Eq.trans ?_ rfl) ?_);rfl;rfl)
 obtain ⟨w1,hw1⟩ : ∃ w1,w1 = (w.alloc (.cells ys 49)).alloc (.cells ks 49):=⟨_,rfl⟩
 have HR1 : Hid (Blk w1 w.heap.size 49 ys.toList):=by rw [hw1];exact Lib.hid ((Blk.new w _ ys.toList).alloc _)
 have HX1 : Hid (Blk w1 (w.heap.size + 1) 49 (msgZ 5).cells):=by
  rw [hw1,← HKS.out.l]
  have h2:=Blk.new (w.alloc (.cells ys 49)) 49 ks.toList
  rw [World.size_alloc] at h2
  exact Lib.hid h2
 have HK1 : Hid (Keep w w1):=by rw [hw1];exact Lib.hid (keep_trans (keep_new _ _) (keep_new _ _))
 rw [← hw1]
 clear hw1 hst
 replace c0:=keep_cell HK1.out c0
 go_upto_region 11 with fail
 have r4:=HX1.out.frozen 4
 have x4 : ∃ v,w1.cell? ⟨w.heap.size + 1,4,none⟩ = some v:=⟨_,(HX1.out.cell 4).trans (List.getElem?_eq_getElem (by rw [MsgR.len2 (m:=msgZ 5) HS.out HB.out];omega))⟩
 obtain ⟨v4,x4⟩:=x4
 go_upto_region 21 with fail
 obtain ⟨wx,hwx⟩ : ∃ wx,wx = (w1.setCell ⟨w.heap.size + 1,4,none⟩ (.slice hA l.length hc)):=⟨_,rfl⟩
 have HX : Hid (Blk wx (w.heap.size + 1) 49 M.cells):=by
  rw [hwx,← HMM.out]
  have q:=(HX1.out.set_ 4 (.slice hA l.length hc))
  exact Lib.hid q
 have HRX : Hid (Blk wx w.heap.size 49 ys.toList):=by rw [hwx];exact Lib.hid (HR1.out.far (by simp) _)
 have HKX : Hid (Keep w wx):=by rw [hwx];exact Lib.hid (Below.setCell HK1.out (by simp) _)
 rw [← hwx]
 clear hwx r4 x4
 obtain ⟨ds,hds⟩ : ∃ ds,MsA M ds:=⟨_,MsA.of HMO.out⟩
 have hdz:=hds.z;have hdn:=hds.n;have hdi:=hds.i
 have HDS:=Lib.hid hds
 have HBx : Hid (Blk wx (w.heap.size + 1) 49 ds.toList):=by rw [HDS.out.l];exact HX.out
 obtain ⟨w8,hst8,hb8,hg8⟩:=run_store_blk (P:=Try.prog) ds.toList HRX.out (by rw [Array.length_toList,Array.length_toList,hdz,HY.out.z]) HDS.out.o
 have Hb8:=Lib.hid hb8;have Hg8:=Lib.hid hg8
 clear hds hb8 hg8 HX HRX
 go_wp2_with ((with_reducible refine load_arr (w.heap.size + 1) ds (Eq.trans ?_ rfl) HBx.out _ Try.underlying49 rfl hdi ?_);rfl)
 have hb8:=Hb8.out
 exact bodyPost_ret (v:=.agg ds) (results_cell_row Try.results30 _ _ w.heap.size _ _ _ _ rfl hb8 Try.underlying49 rfl (by rw [List.size_toArray,Array.length_toList];exact hdi)) rfl ⟨ds,rfl,HDS.out,HKX.out.grown Hg8.out HKX.out.size (fun q hq => by injection hq with hq;omega)⟩
set_option maxRecDepth 100000 in
set_option maxHeartbeats 4000000 in
theorem message_6 (iA : Option Addr) (l : List Itm) (ic : Nat) (A : Option Addr) (c : Nat) (w : World) (hM : MsgR.ok { msgZ 6 with iA:=iA,is:=l,ic:=ic }) (hr : Rd w A (([.items iA l ic] : List PV).map PV.val)) :
  Calls Try.prog 30 #[.int .i64 6,.slice A 1 c] w fun e w' => ∃ ds,e = .returned (.agg ds)∧MsA { msgZ 6 with iA:=iA,is:=l,ic:=ic } ds∧Keep w w':=by
 obtain ⟨ys,hyz,hyA⟩:=zmsg_letter
 obtain ⟨ks,hks⟩ : ∃ ks : Array Value,ks = (msgZ 6).cells.toArray:=⟨_,rfl⟩
 have hkA : MsA (msgZ 6) ks:=by rw [hks];exact MsA.of (msgZ_ok _ (by omega))
 have HBu : Hid (Try.prog.built 49 [(0,.int .i64 6)] = some ks):=Lib.hid (by rw [hks];exact msg_built _)
 clear hks
 have hyn:=hyA.n;have hkn:=hkA.n;have hkz:=hkA.z;have hyzz:=hyA.z
 have HY:=Lib.hid hyA;have HKS:=Lib.hid hkA
 have HMO:=Lib.hid hM
 have HZO:=Lib.hid (msgZ_ok 6 (by omega))
 have HS : Hid ((msgZ 6).stop.length = 32):=Lib.hid rfl
 have HB : Hid ((msgZ 6).bh.ok):=Lib.hid ⟨rfl,rfl⟩
 have hst : (storeCells ⟨w.heap.size + 1,0,none⟩ ks.toList 0).run Try.prog ((w.alloc (.cells ys 49)).alloc (.cells ys 49)) = .ok () ((w.alloc (.cells ys 49)).alloc (.cells ks 49)):=by
  have q:=run_storeCells_new (P:=Try.prog) (w.alloc (.cells ys 49)) 49 ys ks HKS.out.i (hyA.z.trans hkA.z.symm) (by have:=all_oneCell_toArray HKS.out.o;simpa using this)
  rw [World.size_alloc] at q
  exact q
 clear hyA hkA hM hyzz
 generalize hMM : { msgZ 6 with iA:=iA,is:=l,ic:=ic } = M at *
 have HMM:=Lib.hid hMM
 clear hMM
 obtain ⟨g,off,rfl,hgb,hcell⟩:=hr.at (k:=0) (by simp)
 have c0 : w.cell? ⟨g,off,none⟩ = some (.iface 42 (.slice iA l.length ic)):=hcell 0 (by simp)
 clear hr hcell
 have Y0 : ∀ y,(Instr.typeAssert (.iface 42 (.slice iA l.length ic)) 20 42 false).run Try.prog y = .ok (.slice iA l.length ic) y:=run_assert_must Try.underlying42 rfl _ _
 go_enter Try.func30,Try.ntmps30
 go_upto_region 2 with ((with_reducible refine list_bldg [(0,.int .i64 6)] ks (Eq.trans ?_ rfl) HBu.out (Eq.trans ?_ rfl) ?_);rfl;rfl)
 obtain ⟨w1,hw1⟩ : ∃ w1,w1 = (w.alloc (.cells ys 49)).alloc (.cells ks 49):=⟨_,rfl⟩
 have HR1 : Hid (Blk w1 w.heap.size 49 ys.toList):=by rw [hw1];exact Lib.hid ((Blk.new w _ ys.toList).alloc _)
 have HX1 : Hid (Blk w1 (w.heap.size + 1) 49 (msgZ 6).cells):=by
  rw [hw1,← HKS.out.l]
  have h2:=Blk.new (w.alloc (.cells ys 49)) 49 ks.toList
  rw [World.size_alloc] at h2
  exact Lib.hid h2
 have HK1 : Hid (Keep w w1):=by rw [hw1];exact Lib.hid (keep_trans (keep_new _ _) (keep_new _ _))
 rw [← hw1]
 clear hw1 hst
 replace c0:=keep_cell HK1.out c0
 go_upto_region 15 with fail
 have r38:=HX1.out.frozen 38
 have x38 : ∃ v,w1.cell? ⟨w.heap.size + 1,38,none⟩ = some v:=⟨_,(HX1.out.cell 38).trans (List.getElem?_eq_getElem (by rw [MsgR.len2 (m:=msgZ 6) HS.out HB.out];omega))⟩
 obtain ⟨v38,x38⟩:=x38
 go_upto_region 21 with fail
 obtain ⟨wx,hwx⟩ : ∃ wx,wx = (w1.setCell ⟨w.heap.size + 1,38,none⟩ (.slice iA l.length ic)):=⟨_,rfl⟩
 have HX : Hid (Blk wx (w.heap.size + 1) 49 M.cells):=by
  rw [hwx,← HMM.out]
  have q:=(HX1.out.set_ 38 (.slice iA l.length ic))
  rw [MsgR.set38s HZO.out] at q;exact Lib.hid q
 have HRX : Hid (Blk wx w.heap.size 49 ys.toList):=by rw [hwx];exact Lib.hid (HR1.out.far (by simp) _)
 have HKX : Hid (Keep w wx):=by rw [hwx];exact Lib.hid (Below.setCell HK1.out (by simp) _)
 rw [← hwx]
 clear hwx r38 x38
 obtain ⟨ds,hds⟩ : ∃ ds,MsA M ds:=⟨_,MsA.of HMO.out⟩
 have hdz:=hds.z;have hdn:=hds.n;have hdi:=hds.i
 have HDS:=Lib.hid hds
 have HBx : Hid (Blk wx (w.heap.size + 1) 49 ds.toList):=by rw [HDS.out.l];exact HX.out
 obtain ⟨w8,hst8,hb8,hg8⟩:=run_store_blk (P:=Try.prog) ds.toList HRX.out (by rw [Array.length_toList,Array.length_toList,hdz,HY.out.z]) HDS.out.o
 have Hb8:=Lib.hid hb8;have Hg8:=Lib.hid hg8
 clear hds hb8 hg8 HX HRX
 go_wp2_with ((with_reducible refine load_arr (w.heap.size + 1) ds (Eq.trans ?_ rfl) HBx.out _ Try.underlying49 rfl hdi ?_);rfl)
 have hb8:=Hb8.out
 exact bodyPost_ret (v:=.agg ds) (results_cell_row Try.results30 _ _ w.heap.size _ _ _ _ rfl hb8 Try.underlying49 rfl (by rw [List.size_toArray,Array.length_toList];exact hdi)) rfl ⟨ds,rfl,HDS.out,HKX.out.grown Hg8.out HKX.out.size (fun q hq => by injection hq with hq;omega)⟩
set_option maxRecDepth 100000 in
set_option maxHeartbeats 4000000 in
theorem message_7 (iA : Option Addr) (l : List Itm) (ic : Nat) (A : Option Addr) (c : Nat) (w : World) (hM : MsgR.ok { msgZ 7 with iA:=iA,is:=l,ic:=ic }) (hr : Rd w A (([.items iA l ic] : List PV).map PV.val)) :
  Calls Try.prog 30 #[.int .i64 7,.slice A 1 c] w fun e w' => ∃ ds,e = .returned (.agg ds)∧MsA { msgZ 7 with iA:=iA,is:=l,ic:=ic } ds∧Keep w w':=by
 obtain ⟨ys,hyz,hyA⟩:=zmsg_letter
 obtain ⟨ks,hks⟩ : ∃ ks : Array Value,ks = (msgZ 7).cells.toArray:=⟨_,rfl⟩
 have hkA : MsA (msgZ 7) ks:=by rw [hks];exact MsA.of (msgZ_ok _ (by omega))
 have HBu : Hid (Try.prog.built 49 [(0,.int .i64 7)] = some ks):=Lib.hid (by rw [hks];exact msg_built _)
 clear hks
 have hyn:=hyA.n;have hkn:=hkA.n;have hkz:=hkA.z;have hyzz:=hyA.z
 have HY:=Lib.hid hyA;have HKS:=Lib.hid hkA
 have HMO:=Lib.hid hM
 have HZO:=Lib.hid (msgZ_ok 7 (by omega))
 have HS : Hid ((msgZ 7).stop.length = 32):=Lib.hid rfl
 have HB : Hid ((msgZ 7).bh.ok):=Lib.hid ⟨rfl,rfl⟩
 have hst : (storeCells ⟨w.heap.size + 1,0,none⟩ ks.toList 0).run Try.prog ((w.alloc (.cells ys 49)).alloc (.cells ys 49)) = .ok () ((w.alloc (.cells ys 49)).alloc (.cells ks 49)):=by
  have q:=run_storeCells_new (P:=Try.prog) (w.alloc (.cells ys 49)) 49 ys ks HKS.out.i (hyA.z.trans hkA.z.symm) (by have:=all_oneCell_toArray HKS.out.o;simpa using this)
  rw [World.size_alloc] at q
  exact q
 clear hyA hkA hM hyzz
 generalize hMM : { msgZ 7 with iA:=iA,is:=l,ic:=ic } = M at *
 have HMM:=Lib.hid hMM
 clear hMM
 obtain ⟨g,off,rfl,hgb,hcell⟩:=hr.at (k:=0) (by simp)
 have c0 : w.cell? ⟨g,off,none⟩ = some (.iface 42 (.slice iA l.length ic)):=hcell 0 (by simp)
 clear hr hcell
 have Y0 : ∀ y,(Instr.typeAssert (.iface 42 (.slice iA l.length ic)) 20 42 false).run Try.prog y = .ok (.slice iA l.length ic) y:=run_assert_must Try.underlying42 rfl _ _
 go_enter Try.func30,Try.ntmps30
 go_upto_region 2 with ((with_reducible refine list_bldg [(0,.int .i64 7)] ks (Eq.trans ?_ rfl) HBu.out (Eq.trans ?_ rfl) ?_);rfl;rfl)
 obtain ⟨w1,hw1⟩ : ∃ w1,w1 = (w.alloc (.cells ys 49)).alloc (.cells ks 49):=⟨_,rfl⟩
 have HR1 : Hid (Blk w1 w.heap.size 49 ys.toList):=by rw [hw1];exact Lib.hid ((Blk.new w _ ys.toList).alloc _)
 have HX1 : Hid (Blk w1 (w.heap.size + 1) 49 (msgZ 7).cells):=by
  rw [hw1,← HKS.out.l]
  have h2:=Blk.new (w.alloc (.cells ys 49)) 49 ks.toList
  rw [World.size_alloc] at h2
  exact Lib.hid h2
 have HK1 : Hid (Keep w w1):=by rw [hw1];exact Lib.hid (keep_trans (keep_new _ _) (keep_new _ _))
 rw [← hw1]
 clear hw1 hst
 replace c0:=keep_cell HK1.out c0
 go_upto_region 15 with fail
 have r38:=HX1.out.frozen 38
 have x38 : ∃ v,w1.cell? ⟨w.heap.size + 1,38,none⟩ = some v:=⟨_,(HX1.out.cell 38).trans (List.getElem?_eq_getElem (by rw [MsgR.len2 (m:=msgZ 7) HS.out HB.out];omega))⟩
 obtain ⟨v38,x38⟩:=x38
 go_upto_region 21 with fail
 obtain ⟨wx,hwx⟩ : ∃ wx,wx = (w1.setCell ⟨w.heap.size + 1,38,none⟩ (.slice iA l.length ic)):=⟨_,rfl⟩
 have HX : Hid (Blk wx (w.heap.size + 1) 49 M.cells):=by
  rw [hwx,← HMM.out]
  have q:=(HX1.out.set_ 38 (.slice iA l.length ic))
  rw [MsgR.set38s HZO.out] at q;exact Lib.hid q
 have HRX : Hid (Blk wx w.heap.size 49 ys.toList):=by rw [hwx];exact Lib.hid (HR1.out.far (by simp) _)
 have HKX : Hid (Keep w wx):=by rw [hwx];exact Lib.hid (Below.setCell HK1.out (by simp) _)
 rw [← hwx]
 clear hwx r38 x38
 obtain ⟨ds,hds⟩ : ∃ ds,MsA M ds:=⟨_,MsA.of HMO.out⟩
 have hdz:=hds.z;have hdn:=hds.n;have hdi:=hds.i
 have HDS:=Lib.hid hds
 have HBx : Hid (Blk wx (w.heap.size + 1) 49 ds.toList):=by rw [HDS.out.l];exact HX.out
 obtain ⟨w8,hst8,hb8,hg8⟩:=run_store_blk (P:=Try.prog) ds.toList HRX.out (by rw [Array.length_toList,Array.length_toList,hdz,HY.out.z]) HDS.out.o
 have Hb8:=Lib.hid hb8;have Hg8:=Lib.hid hg8
 clear hds hb8 hg8 HX HRX
 go_wp2_with ((with_reducible refine load_arr (w.heap.size + 1) ds (Eq.trans ?_ rfl) HBx.out _ Try.underlying49 rfl hdi ?_);rfl)
 have hb8:=Hb8.out
 exact bodyPost_ret (v:=.agg ds) (results_cell_row Try.results30 _ _ w.heap.size _ _ _ _ rfl hb8 Try.underlying49 rfl (by rw [List.size_toArray,Array.length_toList];exact hdi)) rfl ⟨ds,rfl,HDS.out,HKX.out.grown Hg8.out HKX.out.size (fun q hq => by injection hq with hq;omega)⟩
set_option maxRecDepth 100000 in
set_option maxHeartbeats 4000000 in
theorem message_8 (iA : Option Addr) (l : List Itm) (ic : Nat) (A : Option Addr) (c : Nat) (w : World) (hM : MsgR.ok { msgZ 8 with iA:=iA,is:=l,ic:=ic }) (hr : Rd w A (([.items iA l ic] : List PV).map PV.val)) :
  Calls Try.prog 30 #[.int .i64 8,.slice A 1 c] w fun e w' => ∃ ds,e = .returned (.agg ds)∧MsA { msgZ 8 with iA:=iA,is:=l,ic:=ic } ds∧Keep w w':=by
 obtain ⟨ys,hyz,hyA⟩:=zmsg_letter
 obtain ⟨ks,hks⟩ : ∃ ks : Array Value,ks = (msgZ 8).cells.toArray:=⟨_,rfl⟩
 have hkA : MsA (msgZ 8) ks:=by rw [hks];exact MsA.of (msgZ_ok _ (by omega))
 have HBu : Hid (Try.prog.built 49 [(0,.int .i64 8)] = some ks):=Lib.hid (by rw [hks];exact msg_built _)
 clear hks
 have hyn:=hyA.n;have hkn:=hkA.n;have hkz:=hkA.z;have hyzz:=hyA.z
 have HY:=Lib.hid hyA;have HKS:=Lib.hid hkA
 have HMO:=Lib.hid hM
 have HZO:=Lib.hid (msgZ_ok 8 (by omega))
 have HS : Hid ((msgZ 8).stop.length = 32):=Lib.hid rfl
 have HB : Hid ((msgZ 8).bh.ok):=Lib.hid ⟨rfl,rfl⟩
 have hst : (storeCells ⟨w.heap.size + 1,0,none⟩ ks.toList 0).run Try.prog ((w.alloc (.cells ys 49)).alloc (.cells ys 49)) = .ok () ((w.alloc (.cells ys 49)).alloc (.cells ks 49)):=by
  have q:=run_storeCells_new (P:=Try.prog) (w.alloc (.cells ys 49)) 49 ys ks HKS.out.i (hyA.z.trans hkA.z.symm) (by have:=all_oneCell_toArray HKS.out.o;simpa using this)
  rw [World.size_alloc] at q
  exact q
 clear hyA hkA hM hyzz
 generalize hMM : { msgZ 8 with iA:=iA,is:=l,ic:=ic } = M at *
 have HMM:=Lib.hid hMM
 clear hMM
 obtain ⟨g,off,rfl,hgb,hcell⟩:=hr.at (k:=0) (by simp)
 have c0 : w.cell? ⟨g,off,none⟩ = some (.iface 42 (.slice iA l.length ic)):=hcell 0 (by simp)
 clear hr hcell
 have Y0 : ∀ y,(Instr.typeAssert (.iface 42 (.slice iA l.length ic)) 20 42 false).run Try.prog y = .ok (.slice iA l.length ic) y:=run_assert_must Try.underlying42 rfl _ _
 go_enter Try.func30,Try.ntmps30
 go_upto_region 2 with ((with_reducible refine list_bldg [(0,.int .i64 8)] ks (Eq.trans ?_ rfl) HBu.out (Eq.trans ?_ rfl) ?_);rfl;rfl)
 obtain ⟨w1,hw1⟩ : ∃ w1,w1 = (w.alloc (.cells ys 49)).alloc (.cells ks 49):=⟨_,rfl⟩
 have HR1 : Hid (Blk w1 w.heap.size 49 ys.toList):=by rw [hw1];exact Lib.hid ((Blk.new w _ ys.toList).alloc _)
 have HX1 : Hid (Blk w1 (w.heap.size + 1) 49 (msgZ 8).cells):=by
  rw [hw1,← HKS.out.l]
  have h2:=Blk.new (w.alloc (.cells ys 49)) 49 ks.toList
  rw [World.size_alloc] at h2
  exact Lib.hid h2
 have HK1 : Hid (Keep w w1):=by rw [hw1];exact Lib.hid (keep_trans (keep_new _ _) (keep_new _ _))
 rw [← hw1]
 clear hw1 hst
 replace c0:=keep_cell HK1.out c0
 go_upto_region 15 with fail
 have r38:=HX1.out.frozen 38
 have x38 : ∃ v,w1.cell? ⟨w.heap.size + 1,38,none⟩ = some v:=⟨_,(HX1.out.cell 38).trans (List.getElem?_eq_getElem (by rw [MsgR.len2 (m:=msgZ 8) HS.out HB.out];omega))⟩
 obtain ⟨v38,x38⟩:=x38
 go_upto_region 21 with fail
 obtain ⟨wx,hwx⟩ : ∃ wx,wx = (w1.setCell ⟨w.heap.size + 1,38,none⟩ (.slice iA l.length ic)):=⟨_,rfl⟩
 have HX : Hid (Blk wx (w.heap.size + 1) 49 M.cells):=by
  rw [hwx,← HMM.out]
  have q:=(HX1.out.set_ 38 (.slice iA l.length ic))
  rw [MsgR.set38s HZO.out] at q;exact Lib.hid q
 have HRX : Hid (Blk wx w.heap.size 49 ys.toList):=by rw [hwx];exact Lib.hid (HR1.out.far (by simp) _)
 have HKX : Hid (Keep w wx):=by rw [hwx];exact Lib.hid (Below.setCell HK1.out (by simp) _)
 rw [← hwx]
 clear hwx r38 x38
 obtain ⟨ds,hds⟩ : ∃ ds,MsA M ds:=⟨_,MsA.of HMO.out⟩
 have hdz:=hds.z;have hdn:=hds.n;have hdi:=hds.i
 have HDS:=Lib.hid hds
 have HBx : Hid (Blk wx (w.heap.size + 1) 49 ds.toList):=by rw [HDS.out.l];exact HX.out
 obtain ⟨w8,hst8,hb8,hg8⟩:=run_store_blk (P:=Try.prog) ds.toList HRX.out (by rw [Array.length_toList,Array.length_toList,hdz,HY.out.z]) HDS.out.o
 have Hb8:=Lib.hid hb8;have Hg8:=Lib.hid hg8
 clear hds hb8 hg8 HX HRX
 go_wp2_with ((with_reducible refine load_arr (w.heap.size + 1) ds (Eq.trans ?_ rfl) HBx.out _ Try.underlying49 rfl hdi ?_);rfl)
 have hb8:=Hb8.out
 exact bodyPost_ret (v:=.agg ds) (results_cell_row Try.results30 _ _ w.heap.size _ _ _ _ rfl hb8 Try.underlying49 rfl (by rw [List.size_toArray,Array.length_toList];exact hdi)) rfl ⟨ds,rfl,HDS.out,HKX.out.grown Hg8.out HKX.out.size (fun q hq => by injection hq with hq;omega)⟩
set_option maxRecDepth 100000 in
set_option maxHeartbeats 4000000 in
theorem message_10 (t : TxR) (A : Option Addr) (c : Nat) (w : World) (hM : MsgR.ok { msgZ 10 with t:=t }) (hr : Rd w A (([.tx t] : List PV).map PV.val)) :
  Calls Try.prog 30 #[.int .i64 10,.slice A 1 c] w fun e w' => ∃ ds,e = .returned (.agg ds)∧MsA { msgZ 10 with t:=t } ds∧Keep w w':=by
 obtain ⟨ys,hyz,hyA⟩:=zmsg_letter
 obtain ⟨ks,hks⟩ : ∃ ks : Array Value,ks = (msgZ 10).cells.toArray:=⟨_,rfl⟩
 have hkA : MsA (msgZ 10) ks:=by rw [hks];exact MsA.of (msgZ_ok _ (by omega))
 have HBu : Hid (Try.prog.built 49 [(0,.int .i64 10)] = some ks):=Lib.hid (by rw [hks];exact msg_built _)
 clear hks
 have hyn:=hyA.n;have hkn:=hkA.n;have hkz:=hkA.z;have hyzz:=hyA.z
 have HY:=Lib.hid hyA;have HKS:=Lib.hid hkA
 have HMO:=Lib.hid hM
 have HZO:=Lib.hid (msgZ_ok 10 (by omega))
 have HS : Hid ((msgZ 10).stop.length = 32):=Lib.hid rfl
 have HB : Hid ((msgZ 10).bh.ok):=Lib.hid ⟨rfl,rfl⟩
 have hst : (storeCells ⟨w.heap.size + 1,0,none⟩ ks.toList 0).run Try.prog ((w.alloc (.cells ys 49)).alloc (.cells ys 49)) = .ok () ((w.alloc (.cells ys 49)).alloc (.cells ks 49)):=by
  have q:=run_storeCells_new (P:=Try.prog) (w.alloc (.cells ys 49)) 49 ys ks HKS.out.i (hyA.z.trans hkA.z.symm) (by have:=all_oneCell_toArray HKS.out.o;simpa using this)
  rw [World.size_alloc] at q
  exact q
 clear hyA hkA hM hyzz
 generalize hMM : { msgZ 10 with t:=t } = M at *
 have HMM:=Lib.hid hMM
 clear hMM
 obtain ⟨g,off,rfl,hgb,hcell⟩:=hr.at (k:=0) (by simp)
 have c0 : w.cell? ⟨g,off,none⟩ = some (.iface 47 (.agg #[u32v t.ver,.slice t.iA t.ins.length t.ic,.slice t.oA t.outs.length t.oc,u32v t.lock])):=hcell 0 (by simp)
 clear hr hcell
 have Y0 : ∀ y,(Instr.typeAssert (.iface 47 (.agg #[u32v t.ver,.slice t.iA t.ins.length t.ic,.slice t.oA t.outs.length t.oc,u32v t.lock])) 20 47 false).run Try.prog y = .ok (.agg #[u32v t.ver,.slice t.iA t.ins.length t.ic,.slice t.oA t.outs.length t.oc,u32v t.lock]) y:=run_assert_must Try.underlying47 rfl _ _
 go_enter Try.func30,Try.ntmps30
 go_upto_region 2 with ((with_reducible refine list_bldg [(0,.int .i64 10)] ks (Eq.trans ?_ rfl) HBu.out (Eq.trans ?_ rfl) ?_);rfl;rfl)
 obtain ⟨w1,hw1⟩ : ∃ w1,w1 = (w.alloc (.cells ys 49)).alloc (.cells ks 49):=⟨_,rfl⟩
 have HR1 : Hid (Blk w1 w.heap.size 49 ys.toList):=by rw [hw1];exact Lib.hid ((Blk.new w _ ys.toList).alloc _)
 have HX1 : Hid (Blk w1 (w.heap.size + 1) 49 (msgZ 10).cells):=by
  rw [hw1,← HKS.out.l]
  have h2:=Blk.new (w.alloc (.cells ys 49)) 49 ks.toList
  rw [World.size_alloc] at h2
  exact Lib.hid h2
 have HK1 : Hid (Keep w w1):=by rw [hw1];exact Lib.hid (keep_trans (keep_new _ _) (keep_new _ _))
 rw [← hw1]
 clear hw1 hst
 replace c0:=keep_cell HK1.out c0
 go_upto_region 20 with fail
 have r110:=HX1.out.frozen 110
 have x110 : ∃ v,w1.cell? ⟨w.heap.size + 1,110,none⟩ = some v:=⟨_,(HX1.out.cell 110).trans (List.getElem?_eq_getElem (by rw [MsgR.len2 (m:=msgZ 10) HS.out HB.out];omega))⟩
 obtain ⟨v110,x110⟩:=x110
 have r111:=HX1.out.frozen 111
 have x111 : ∃ v,w1.cell? ⟨w.heap.size + 1,111,none⟩ = some v:=⟨_,(HX1.out.cell 111).trans (List.getElem?_eq_getElem (by rw [MsgR.len2 (m:=msgZ 10) HS.out HB.out];omega))⟩
 obtain ⟨v111,x111⟩:=x111
 have r112:=HX1.out.frozen 112
 have x112 : ∃ v,w1.cell? ⟨w.heap.size + 1,112,none⟩ = some v:=⟨_,(HX1.out.cell 112).trans (List.getElem?_eq_getElem (by rw [MsgR.len2 (m:=msgZ 10) HS.out HB.out];omega))⟩
 obtain ⟨v112,x112⟩:=x112
 have r113:=HX1.out.frozen 113
 have x113 : ∃ v,w1.cell? ⟨w.heap.size + 1,113,none⟩ = some v:=⟨_,(HX1.out.cell 113).trans (List.getElem?_eq_getElem (by rw [MsgR.len2 (m:=msgZ 10) HS.out HB.out];omega))⟩
 obtain ⟨v113,x113⟩:=x113
 go_upto_region 21 with fail
 obtain ⟨wx,hwx⟩ : ∃ wx,wx = ((((w1.setCell ⟨w.heap.size + 1,110,none⟩ (u32v t.ver)).setCell ⟨w.heap.size + 1,111,none⟩ (.slice t.iA t.ins.length t.ic)).setCell ⟨w.heap.size + 1,112,none⟩ (.slice t.oA t.outs.length t.oc)).setCell ⟨w.heap.size + 1,113,none⟩ (u32v t.lock)):=⟨_,rfl⟩
 have HX : Hid (Blk wx (w.heap.size + 1) 49 M.cells):=by
  rw [hwx,← HMM.out]
  have q:=((((HX1.out.set_ 110 (u32v t.ver)).set_ 111 (.slice t.iA t.ins.length t.ic)).set_ 112 (.slice t.oA t.outs.length t.oc)).set_ 113 (u32v t.lock))
  rw [MsgR.set_txs HZO.out] at q;exact Lib.hid q
 have HRX : Hid (Blk wx w.heap.size 49 ys.toList):=by rw [hwx];exact Lib.hid ((((HR1.out.far (by simp) _).far (by simp) _).far (by simp) _).far (by simp) _)
 have HKX : Hid (Keep w wx):=by rw [hwx];exact Lib.hid (Below.setCell (Below.setCell (Below.setCell (Below.setCell HK1.out (by simp) _) (by simp) _) (by simp) _) (by simp) _)
 rw [← hwx]
 clear hwx r110 x110 r111 x111 r112 x112 r113 x113
 obtain ⟨ds,hds⟩ : ∃ ds,MsA M ds:=⟨_,MsA.of HMO.out⟩
 have hdz:=hds.z;have hdn:=hds.n;have hdi:=hds.i
 have HDS:=Lib.hid hds
 have HBx : Hid (Blk wx (w.heap.size + 1) 49 ds.toList):=by rw [HDS.out.l];exact HX.out
 obtain ⟨w8,hst8,hb8,hg8⟩:=run_store_blk (P:=Try.prog) ds.toList HRX.out (by rw [Array.length_toList,Array.length_toList,hdz,HY.out.z]) HDS.out.o
 have Hb8:=Lib.hid hb8;have Hg8:=Lib.hid hg8
 clear hds hb8 hg8 HX HRX
 go_wp2_with ((with_reducible refine load_arr (w.heap.size + 1) ds (Eq.trans ?_ rfl) HBx.out _ Try.underlying49 rfl hdi ?_);rfl)
 have hb8:=Hb8.out
 exact bodyPost_ret (v:=.agg ds) (results_cell_row Try.results30 _ _ w.heap.size _ _ _ _ rfl hb8 Try.underlying49 rfl (by rw [List.size_toArray,Array.length_toList];exact hdi)) rfl ⟨ds,rfl,HDS.out,HKX.out.grown Hg8.out HKX.out.size (fun q hq => by injection hq with hq;omega)⟩
set_option maxRecDepth 100000 in
set_option maxHeartbeats 4000000 in
theorem message_1 (A : Option Addr) (c : Nat) (w : World) (hM : MsgR.ok (msgZ 1)) (hr : Rd w A (([] : List PV).map PV.val)) :
  Calls Try.prog 30 #[.int .i64 1,.slice A 0 c] w fun e w' => ∃ ds,e = .returned (.agg ds)∧MsA (msgZ 1) ds∧Keep w w':=by
 obtain ⟨ys,hyz,hyA⟩:=zmsg_letter
 obtain ⟨ks,hks⟩ : ∃ ks : Array Value,ks = (msgZ 1).cells.toArray:=⟨_,rfl⟩
 have hkA : MsA (msgZ 1) ks:=by rw [hks];exact MsA.of (msgZ_ok _ (by omega))
 have HBu : Hid (Try.prog.built 49 [(0,.int .i64 1)] = some ks):=Lib.hid (by rw [hks];exact msg_built _)
 clear hks
 have hyn:=hyA.n;have hkn:=hkA.n;have hkz:=hkA.z;have hyzz:=hyA.z
 have HY:=Lib.hid hyA;have HKS:=Lib.hid hkA
 have HMO:=Lib.hid hM
 have HZO:=Lib.hid (msgZ_ok 1 (by omega))
 have HS : Hid ((msgZ 1).stop.length = 32):=Lib.hid rfl
 have HB : Hid ((msgZ 1).bh.ok):=Lib.hid ⟨rfl,rfl⟩
 have hst : (storeCells ⟨w.heap.size + 1,0,none⟩ ks.toList 0).run Try.prog ((w.alloc (.cells ys 49)).alloc (.cells ys 49)) = .ok () ((w.alloc (.cells ys 49)).alloc (.cells ks 49)):=by
  have q:=run_storeCells_new (P:=Try.prog) (w.alloc (.cells ys 49)) 49 ys ks HKS.out.i (hyA.z.trans hkA.z.symm) (by have:=all_oneCell_toArray HKS.out.o;simpa using this)
  rw [World.size_alloc] at q
  exact q
 clear hyA hkA hM hyzz
 obtain ⟨M,hMM⟩ : ∃ M,(msgZ 1) = M:=⟨_,rfl⟩
 rw [hMM] at HMO
 rw [hMM]
 have HMM:=Lib.hid hMM
 clear hMM
 clear hr
 go_enter Try.func30,Try.ntmps30
 go_upto_region 2 with ((with_reducible refine list_bldg [(0,.int .i64 1)] ks (Eq.trans ?_ rfl) HBu.out (Eq.trans ?_ rfl) ?_);rfl;rfl)
 obtain ⟨w1,hw1⟩ : ∃ w1,w1 = (w.alloc (.cells ys 49)).alloc (.cells ks 49):=⟨_,rfl⟩
 have HR1 : Hid (Blk w1 w.heap.size 49 ys.toList):=by rw [hw1];exact Lib.hid ((Blk.new w _ ys.toList).alloc _)
 have HX1 : Hid (Blk w1 (w.heap.size + 1) 49 (msgZ 1).cells):=by
  rw [hw1,← HKS.out.l]
  have h2:=Blk.new (w.alloc (.cells ys 49)) 49 ks.toList
  rw [World.size_alloc] at h2
  exact Lib.hid h2
 have HK1 : Hid (Keep w w1):=by rw [hw1];exact Lib.hid (keep_trans (keep_new _ _) (keep_new _ _))
 rw [← hw1]
 clear hw1 hst
 go_upto_region 21 with fail
 obtain ⟨wx,hwx⟩ : ∃ wx,wx = w1:=⟨_,rfl⟩
 have HX : Hid (Blk wx (w.heap.size + 1) 49 M.cells):=by rw [hwx,← HMM.out];exact HX1
 have HRX : Hid (Blk wx w.heap.size 49 ys.toList):=by rw [hwx];exact HR1
 have HKX : Hid (Keep w wx):=by rw [hwx];exact HK1
 rw [← hwx]
 clear hwx HX1 HR1 HK1
 obtain ⟨ds,hds⟩ : ∃ ds,MsA M ds:=⟨_,MsA.of HMO.out⟩
 have hdz:=hds.z;have hdn:=hds.n;have hdi:=hds.i
 have HDS:=Lib.hid hds
 have HBx : Hid (Blk wx (w.heap.size + 1) 49 ds.toList):=by rw [HDS.out.l];exact HX.out
 obtain ⟨w8,hst8,hb8,hg8⟩:=run_store_blk (P:=Try.prog) ds.toList HRX.out (by rw [Array.length_toList,Array.length_toList,hdz,HY.out.z]) HDS.out.o
 have Hb8:=Lib.hid hb8;have Hg8:=Lib.hid hg8
 clear hds hb8 hg8 HX HRX
 go_wp2_with ((with_reducible refine load_arr (w.heap.size + 1) ds (Eq.trans ?_ rfl) HBx.out _ Try.underlying49 rfl hdi ?_);rfl)
 have hb8:=Hb8.out
 exact bodyPost_ret (v:=.agg ds) (results_cell_row Try.results30 _ _ w.heap.size _ _ _ _ rfl hb8 Try.underlying49 rfl (by rw [List.size_toArray,Array.length_toList];exact hdi)) rfl ⟨ds,rfl,HDS.out,HKX.out.grown Hg8.out HKX.out.size (fun q hq => by injection hq with hq;omega)⟩
set_option maxRecDepth 100000 in
set_option maxHeartbeats 4000000 in
theorem message_4 (p : UInt32) (lA : Option Addr) (l : List (List UInt8)) (lc most : Nat) (s : List UInt8) (A : Option Addr) (c : Nat) (w : World) (hM : MsgR.ok { msgZ 4 with proto:=p,lA:=lA,ls:=l,lc:=lc,stop:=s }) (hr : Rd w A (([.u32 p,.hsh lA l lc most,.h32 s] : List PV).map PV.val)) :
  Calls Try.prog 30 #[.int .i64 4,.slice A 3 c] w fun e w' => ∃ ds,e = .returned (.agg ds)∧MsA { msgZ 4 with proto:=p,lA:=lA,ls:=l,lc:=lc,stop:=s } ds∧Keep w w':=by
 have hs32 : s.length = 32:=hM.s
 obtain ⟨ss,hss⟩ : ∃ ss,HashA s ss:=⟨_,HashA.of hs32⟩
 have hsn:=hss.n;have hsz:=hss.z;have hsi:=hss.i
 have HSS:=Lib.hid hss;have HS32:=Lib.hid hs32
 clear hs32
 obtain ⟨ys,hyz,hyA⟩:=zmsg_letter
 obtain ⟨ks,hks⟩ : ∃ ks : Array Value,ks = (msgZ 4).cells.toArray:=⟨_,rfl⟩
 have hkA : MsA (msgZ 4) ks:=by rw [hks];exact MsA.of (msgZ_ok _ (by omega))
 have HBu : Hid (Try.prog.built 49 [(0,.int .i64 4)] = some ks):=Lib.hid (by rw [hks];exact msg_built _)
 clear hks
 have hyn:=hyA.n;have hkn:=hkA.n;have hkz:=hkA.z;have hyzz:=hyA.z
 have HY:=Lib.hid hyA;have HKS:=Lib.hid hkA
 have HMO:=Lib.hid hM
 have HZO:=Lib.hid (msgZ_ok 4 (by omega))
 have HS : Hid ((msgZ 4).stop.length = 32):=Lib.hid rfl
 have HB : Hid ((msgZ 4).bh.ok):=Lib.hid ⟨rfl,rfl⟩
 have hst : (storeCells ⟨w.heap.size + 1,0,none⟩ ks.toList 0).run Try.prog ((w.alloc (.cells ys 49)).alloc (.cells ys 49)) = .ok () ((w.alloc (.cells ys 49)).alloc (.cells ks 49)):=by
  have q:=run_storeCells_new (P:=Try.prog) (w.alloc (.cells ys 49)) 49 ys ks HKS.out.i (hyA.z.trans hkA.z.symm) (by have:=all_oneCell_toArray HKS.out.o;simpa using this)
  rw [World.size_alloc] at q
  exact q
 clear hyA hkA hM hyzz
 generalize hMM : { msgZ 4 with proto:=p,lA:=lA,ls:=l,lc:=lc,stop:=s } = M at *
 have HMM:=Lib.hid hMM
 clear hMM
 obtain ⟨g,off,rfl,hgb,hcell⟩:=hr.at (k:=0) (by simp)
 have c0 : w.cell? ⟨g,off,none⟩ = some (.iface 22 (u32v p)):=hcell 0 (by simp)
 have c1 : w.cell? ⟨g,off + 1,none⟩ = some (.iface 103 (.agg #[.slice lA l.length lc,u64v most])):=hcell 1 (by simp)
 have c2 : w.cell? ⟨g,off + 2,none⟩ = some (.iface 27 (.agg ss)):=by
  have q:=hcell 2 (by simp)
  simp only [List.map_cons,List.getElem_cons_succ,List.getElem_cons_zero,PV.val] at q
  rw [hss.e] at q
  exact q
 clear hss
 clear hr hcell
 have Y0 : ∀ y,(Instr.typeAssert (.iface 22 (u32v p)) 20 22 false).run Try.prog y = .ok (u32v p) y:=run_assert_must Try.underlying22 rfl _ _
 have Y1 : ∀ y,(Instr.typeAssert (.iface 103 (.agg #[.slice lA l.length lc,u64v most])) 20 103 false).run Try.prog y = .ok (.agg #[.slice lA l.length lc,u64v most]) y:=run_assert_must Try.underlying103 rfl _ _
 have Y2 : ∀ y,(Instr.typeAssert (.iface 27 (.agg ss)) 20 27 false).run Try.prog y = .ok (.agg ss) y:=run_assert_must hash_under rfl _ _
 have FD : ∀ y,(Instr.field 103 (.agg #[.slice lA l.length lc,u64v most]) 0).run Try.prog y = .ok (.slice lA l.length lc) y:=hsh_field _ _ _ _
 go_enter Try.func30,Try.ntmps30
 go_upto_region 2 with ((with_reducible refine list_bldg [(0,.int .i64 4)] ks (Eq.trans ?_ rfl) HBu.out (Eq.trans ?_ rfl) ?_);rfl;rfl)
 obtain ⟨w1,hw1⟩ : ∃ w1,w1 = (w.alloc (.cells ys 49)).alloc (.cells ks 49):=⟨_,rfl⟩
 have HR1 : Hid (Blk w1 w.heap.size 49 ys.toList):=by rw [hw1];exact Lib.hid ((Blk.new w _ ys.toList).alloc _)
 have HX1 : Hid (Blk w1 (w.heap.size + 1) 49 (msgZ 4).cells):=by
  rw [hw1,← HKS.out.l]
  have h2:=Blk.new (w.alloc (.cells ys 49)) 49 ks.toList
  rw [World.size_alloc] at h2
  exact Lib.hid h2
 have HK1 : Hid (Keep w w1):=by rw [hw1];exact Lib.hid (keep_trans (keep_new _ _) (keep_new _ _))
 rw [← hw1]
 clear hw1 hst
 replace c0:=keep_cell HK1.out c0
 replace c1:=keep_cell HK1.out c1
 replace c2:=keep_cell HK1.out c2
 go_upto_region 9 with fail
 letI iM : G.Mk:=⟨some (w.heap.size + 1)⟩
 refine G.wp_region_tree (.take [0,1,2,3,4,5,6,7,8,9,10,11,12,13] (.force [14] (.take [15] (.force [16] (.take [17] (.force [18] .done)))))) [] (by kernel_rfl) (by kernel_rfl) (fun wa1 ka => ?_)
 have hneG : G.Mk.m ≠ some g:=fun q => by have e : w.heap.size + 1 = g:=Option.some.inj q;omega
 have HXa:=Lib.hid (HX1.out.keep ka);have HRa:=Lib.hid (HR1.out.keep ka);have HKa:=Lib.hid (keep_trans HK1.out ka)
 replace c0:=keep_cell ka c0
 have b0:=G.aftG_cell c0 hneG
 replace c1:=keep_cell ka c1
 have b1:=G.aftG_cell c1 hneG
 replace c2:=keep_cell ka c2
 have b2:=G.aftG_cell c2 hneG
 clear ka HX1 HR1 HK1
 refine G.mt_take wa1 (G.Gr.refl _) ?_
 simp only [pick_cons,pick_nil,nth_zero,nth_succ]
 repeat (go_big_quiet_step (fail))
 refine wpQuiet_nil (G.mt_force ?_)
 clear b0 b1 b2 hneG
 simp only [pick_cons,pick_nil,nth_zero,nth_succ]
 refine G.fc_step rfl (fun K hK => ?_)
 have z0 : ∃ v,wa1.cell? ⟨w.heap.size + 1,1,none⟩ = some v:=⟨_,(HXa.out.cell 1).trans (List.getElem?_eq_getElem (by rw [MsgR.len2 (m:=(msgZ 4)) HS.out HB.out];omega))⟩
 obtain ⟨v0,z0⟩:=z0
 have y0:=HXa.out.frozen 1
 go_simp
 refine hK _ _ (show G.Gr wa1 _ from grown_set (grown_refl wa1 _)) ?_
 clear hK K z0 y0
 obtain ⟨wb10,hwb⟩ : ∃ wb,wb = wa1.setCell ⟨w.heap.size + 1,1,none⟩ (u32v p):=⟨_,rfl⟩
 have HXb10 : Hid (Blk wb10 (w.heap.size + 1) 49 (MsgR.cells { msgZ 4 with proto:=p })):=by
  rw [hwb]
  have q:=HXa.out.set_ 1 (u32v p)
  exact Lib.hid q
 have HRb10 : Hid (Blk wb10 w.heap.size 49 ys.toList):=by rw [hwb];exact Lib.hid (HRa.out.far (by simp) _)
 have HKb10 : Hid (Keep w wb10):=by rw [hwb];exact Lib.hid (Below.setCell HKa.out (by simp) _)
 rw [← hwb]
 clear hwb HXa HRa HKa
 refine G.fc_nil (G.mt_take _ (G.Gr.refl _) ?_)
 simp only [pick_cons,pick_nil,nth_zero,nth_succ]
 repeat (go_big_quiet_step (fail))
 refine wpQuiet_nil (G.mt_force ?_)
 simp only [pick_cons,pick_nil,nth_zero,nth_succ]
 refine G.fc_step rfl (fun K hK => ?_)
 have z0 : ∃ v,wb10.cell? ⟨w.heap.size + 1,5,none⟩ = some v:=⟨_,(HXb10.out.cell 5).trans (List.getElem?_eq_getElem (by rw [MsgR.len2 (m:={ msgZ 4 with proto:=p }) HS.out HB.out];omega))⟩
 obtain ⟨v0,z0⟩:=z0
 have y0:=HXb10.out.frozen 5
 go_simp
 refine hK _ _ (show G.Gr wb10 _ from grown_set (grown_refl wb10 _)) ?_
 clear hK K z0 y0
 obtain ⟨wb11,hwb⟩ : ∃ wb,wb = wb10.setCell ⟨w.heap.size + 1,5,none⟩ (.slice lA l.length lc):=⟨_,rfl⟩
 have HXb11 : Hid (Blk wb11 (w.heap.size + 1) 49 (MsgR.cells { msgZ 4 with proto:=p,lA:=lA,ls:=l,lc:=lc })):=by
  rw [hwb]
  have q:=HXb10.out.set_ 5 (.slice lA l.length lc)
  exact Lib.hid q
 have HRb11 : Hid (Blk wb11 w.heap.size 49 ys.toList):=by rw [hwb];exact Lib.hid (HRb10.out.far (by simp) _)
 have HKb11 : Hid (Keep w wb11):=by rw [hwb];exact Lib.hid (Below.setCell HKb10.out (by simp) _)
 rw [← hwb]
 clear hwb HXb10 HRb10 HKb10
 refine G.fc_nil (G.mt_take _ (G.Gr.refl _) ?_)
 simp only [pick_cons,pick_nil,nth_zero,nth_succ]
 repeat (go_big_quiet_step (fail))
 refine wpQuiet_nil (G.mt_force ?_)
 simp only [pick_cons,pick_nil,nth_zero,nth_succ]
 refine G.fc_step rfl (fun K hK => ?_)
 obtain ⟨wb12,hstp,hbx,hgx⟩:=run_store_prt (P:=Try.prog) 6 ss.toList HXb11.out (by rw [MsgR.len2 (m:={ msgZ 4 with proto:=p,lA:=lA,ls:=l,lc:=lc }) HS.out HB.out,Array.length_toList,HSS.out.z];omega) HSS.out.o
 have hgx2:=hgx
 have HGX:=Lib.hid hgx;have HBX:=Lib.hid hbx
 clear hbx hgx
 go_simp
 refine hK _ _ (show G.Gr wb11 _ from hgx2) ?_
 clear hK K hstp hgx2
 have HXb12 : Hid (Blk wb12 (w.heap.size + 1) 49 (MsgR.cells { msgZ 4 with proto:=p,lA:=lA,ls:=l,lc:=lc,stop:=s })):=by
  have q:=HBX.out
  rw [HSS.out.l,MsgR.splice_stop2 (m:={ msgZ 4 with proto:=p,lA:=lA,ls:=l,lc:=lc }) HS.out HS32.out] at q;exact Lib.hid q
 have HRb12 : Hid (Blk wb12 w.heap.size 49 ys.toList):=Lib.hid (HRb11.out.grown HGX.out (fun q => by have:=Option.some.inj q;omega))
 have HKb12 : Hid (Keep w wb12):=Lib.hid (HKb11.out.grown HGX.out HKb11.out.size (fun q hq => by have:=Option.some.inj hq;omega))
 clear HXb11 HRb11 HKb11 HBX HGX
 refine G.fc_nil (G.mt_end ?_)
 clear iM
 go_upto_region 21 with fail
 obtain ⟨wx,hwx⟩ : ∃ wx,wx = wb12:=⟨_,rfl⟩
 have HX : Hid (Blk wx (w.heap.size + 1) 49 M.cells):=by rw [hwx,← HMM.out];exact HXb12
 have HRX : Hid (Blk wx w.heap.size 49 ys.toList):=by rw [hwx];exact HRb12
 have HKX : Hid (Keep w wx):=by rw [hwx];exact HKb12
 rw [← hwx]
 clear hwx HXb12 HRb12 HKb12
 obtain ⟨ds,hds⟩ : ∃ ds,MsA M ds:=⟨_,MsA.of HMO.out⟩
 have hdz:=hds.z;have hdn:=hds.n;have hdi:=hds.i
 have HDS:=Lib.hid hds
 have HBx : Hid (Blk wx (w.heap.size + 1) 49 ds.toList):=by rw [HDS.out.l];exact HX.out
 obtain ⟨w8,hst8,hb8,hg8⟩:=run_store_blk (P:=Try.prog) ds.toList HRX.out (by rw [Array.length_toList,Array.length_toList,hdz,HY.out.z]) HDS.out.o
 have Hb8:=Lib.hid hb8;have Hg8:=Lib.hid hg8
 clear hds hb8 hg8 HX HRX
 go_wp2_with ((with_reducible refine load_arr (w.heap.size + 1) ds (Eq.trans ?_ rfl) HBx.out _ Try.underlying49 rfl hdi ?_);rfl)
 have hb8:=Hb8.out
 exact bodyPost_ret (v:=.agg ds) (results_cell_row Try.results30 _ _ w.heap.size _ _ _ _ rfl hb8 Try.underlying49 rfl (by rw [List.size_toArray,Array.length_toList];exact hdi)) rfl ⟨ds,rfl,HDS.out,HKX.out.grown Hg8.out HKX.out.size (fun q hq => by injection hq with hq;omega)⟩
set_option maxRecDepth 100000 in
set_option maxHeartbeats 4000000 in
theorem message_9 (h : Hd) (t : UInt32) (sA : Option Addr) (l : List (List UInt8)) (sc most : Nat) (fA : Option Addr) (f : List UInt8) (fc : Nat) (A : Option Addr) (c : Nat) (w : World) (hM : MsgR.ok { msgZ 9 with bh:=h,total:=t,sA:=sA,shs:=l,sc:=sc,fA:=fA,fs:=f,fc:=fc }) (hr : Rd w A (([.head h,.u32 t,.hsh sA l sc most,.bytes fA f fc] : List PV).map PV.val)) :
  Calls Try.prog 30 #[.int .i64 9,.slice A 4 c] w fun e w' => ∃ ds,e = .returned (.agg ds)∧MsA { msgZ 9 with bh:=h,total:=t,sA:=sA,shs:=l,sc:=sc,fA:=fA,fs:=f,fc:=fc } ds∧Keep w w':=by
 have HBH : Hid h.ok:=Lib.hid hM.b
 obtain ⟨hv,hhv⟩ : ∃ hv,HdA h hv:=⟨_,HdA.of hM.b⟩
 have hvn:=hhv.n;have hvz:=hhv.z;have hvi:=hhv.i
 have HHV:=Lib.hid hhv
 have hve : h.cells.toArray = hv:=by rw [← hhv.l,Array.toArray_toList]
 clear hhv
 obtain ⟨ys,hyz,hyA⟩:=zmsg_letter
 obtain ⟨ks,hks⟩ : ∃ ks : Array Value,ks = (msgZ 9).cells.toArray:=⟨_,rfl⟩
 have hkA : MsA (msgZ 9) ks:=by rw [hks];exact MsA.of (msgZ_ok _ (by omega))
 have HBu : Hid (Try.prog.built 49 [(0,.int .i64 9)] = some ks):=Lib.hid (by rw [hks];exact msg_built _)
 clear hks
 have hyn:=hyA.n;have hkn:=hkA.n;have hkz:=hkA.z;have hyzz:=hyA.z
 have HY:=Lib.hid hyA;have HKS:=Lib.hid hkA
 have HMO:=Lib.hid hM
 have HZO:=Lib.hid (msgZ_ok 9 (by omega))
 have HS : Hid ((msgZ 9).stop.length = 32):=Lib.hid rfl
 have HB : Hid ((msgZ 9).bh.ok):=Lib.hid ⟨rfl,rfl⟩
 have hst : (storeCells ⟨w.heap.size + 1,0,none⟩ ks.toList 0).run Try.prog ((w.alloc (.cells ys 49)).alloc (.cells ys 49)) = .ok () ((w.alloc (.cells ys 49)).alloc (.cells ks 49)):=by
  have q:=run_storeCells_new (P:=Try.prog) (w.alloc (.cells ys 49)) 49 ys ks HKS.out.i (hyA.z.trans hkA.z.symm) (by have:=all_oneCell_toArray HKS.out.o;simpa using this)
  rw [World.size_alloc] at q
  exact q
 clear hyA hkA hM hyzz
 generalize hMM : { msgZ 9 with bh:=h,total:=t,sA:=sA,shs:=l,sc:=sc,fA:=fA,fs:=f,fc:=fc } = M at *
 have HMM:=Lib.hid hMM
 clear hMM
 obtain ⟨g,off,rfl,hgb,hcell⟩:=hr.at (k:=0) (by simp)
 have c0 : w.cell? ⟨g,off,none⟩ = some (.iface 30 (.agg hv)):=by
  have q:=hcell 0 (by simp)
  simp only [List.map_cons,List.getElem_cons_succ,List.getElem_cons_zero,PV.val] at q
  rw [hve] at q
  exact q
 clear hve
 have c1 : w.cell? ⟨g,off + 1,none⟩ = some (.iface 22 (u32v t)):=hcell 1 (by simp)
 have c2 : w.cell? ⟨g,off + 2,none⟩ = some (.iface 103 (.agg #[.slice sA l.length sc,u64v most])):=hcell 2 (by simp)
 have c3 : w.cell? ⟨g,off + 3,none⟩ = some (.iface 31 (.slice fA f.length fc)):=hcell 3 (by simp)
 clear hr hcell
 have Y0 : ∀ y,(Instr.typeAssert (.iface 30 (.agg hv)) 20 30 false).run Try.prog y = .ok (.agg hv) y:=run_assert_must Try.underlying30 rfl _ _
 have Y1 : ∀ y,(Instr.typeAssert (.iface 22 (u32v t)) 20 22 false).run Try.prog y = .ok (u32v t) y:=run_assert_must Try.underlying22 rfl _ _
 have Y2 : ∀ y,(Instr.typeAssert (.iface 103 (.agg #[.slice sA l.length sc,u64v most])) 20 103 false).run Try.prog y = .ok (.agg #[.slice sA l.length sc,u64v most]) y:=run_assert_must Try.underlying103 rfl _ _
 have Y3 : ∀ y,(Instr.typeAssert (.iface 31 (.slice fA f.length fc)) 20 31 false).run Try.prog y = .ok (.slice fA f.length fc) y:=run_assert_must Try.underlying31 rfl _ _
 have FD : ∀ y,(Instr.field 103 (.agg #[.slice sA l.length sc,u64v most]) 0).run Try.prog y = .ok (.slice sA l.length sc) y:=hsh_field _ _ _ _
 go_enter Try.func30,Try.ntmps30
 go_upto_region 2 with ((with_reducible refine list_bldg [(0,.int .i64 9)] ks (Eq.trans ?_ rfl) HBu.out (Eq.trans ?_ rfl) ?_);rfl;rfl)
 obtain ⟨w1,hw1⟩ : ∃ w1,w1 = (w.alloc (.cells ys 49)).alloc (.cells ks 49):=⟨_,rfl⟩
 have HR1 : Hid (Blk w1 w.heap.size 49 ys.toList):=by rw [hw1];exact Lib.hid ((Blk.new w _ ys.toList).alloc _)
 have HX1 : Hid (Blk w1 (w.heap.size + 1) 49 (msgZ 9).cells):=by
  rw [hw1,← HKS.out.l]
  have h2:=Blk.new (w.alloc (.cells ys 49)) 49 ks.toList
  rw [World.size_alloc] at h2
  exact Lib.hid h2
 have HK1 : Hid (Keep w w1):=by rw [hw1];exact Lib.hid (keep_trans (keep_new _ _) (keep_new _ _))
 rw [← hw1]
 clear hw1 hst
 have C2:=Lib.hid c2
 have C3:=Lib.hid c3
 clear c2 c3
 replace c0:=keep_cell HK1.out c0
 replace c1:=keep_cell HK1.out c1
 go_upto_region 17 with fail
 letI iM : G.Mk:=⟨some (w.heap.size + 1)⟩
 refine G.wp_region_tree (.take [0,1,2,3,4,5,6,7,8,9] (.force [10] (.take [11,12] (.force [13] .done)))) [] (by kernel_rfl) (by kernel_rfl) (fun wa1 ka => ?_)
 have hneG : G.Mk.m ≠ some g:=fun q => by have e : w.heap.size + 1 = g:=Option.some.inj q;omega
 have HXa:=Lib.hid (HX1.out.keep ka);have HRa:=Lib.hid (HR1.out.keep ka);have HKa:=Lib.hid (keep_trans HK1.out ka)
 replace c0:=keep_cell ka c0
 have b0:=G.aftG_cell c0 hneG
 replace c1:=keep_cell ka c1
 have b1:=G.aftG_cell c1 hneG
 clear ka HX1 HR1 HK1
 refine G.mt_take wa1 (G.Gr.refl _) ?_
 simp only [pick_cons,pick_nil,nth_zero,nth_succ]
 repeat (go_big_quiet_step (fail))
 refine wpQuiet_nil (G.mt_force ?_)
 clear b0 b1 hneG
 simp only [pick_cons,pick_nil,nth_zero,nth_succ]
 refine G.fc_step rfl (fun K hK => ?_)
 obtain ⟨wb10,hstp,hbx,hgx⟩:=run_store_prt (P:=Try.prog) 39 hv.toList HXa.out (by rw [MsgR.len2 (m:=(msgZ 9)) HS.out HB.out,Array.length_toList,HHV.out.z];omega) HHV.out.o
 have hgx2:=hgx
 have HGX:=Lib.hid hgx;have HBX:=Lib.hid hbx
 clear hbx hgx
 go_simp
 refine hK _ _ (show G.Gr wa1 _ from hgx2) ?_
 clear hK K hstp hgx2
 have HXb10 : Hid (Blk wb10 (w.heap.size + 1) 49 (MsgR.cells { msgZ 9 with bh:=h })):=by
  have q:=HBX.out
  rw [HHV.out.l,MsgR.splice_bh HS.out HB.out HBH.out] at q;exact Lib.hid q
 have HRb10 : Hid (Blk wb10 w.heap.size 49 ys.toList):=Lib.hid (HRa.out.grown HGX.out (fun q => by have:=Option.some.inj q;omega))
 have HKb10 : Hid (Keep w wb10):=Lib.hid (HKa.out.grown HGX.out HKa.out.size (fun q hq => by have:=Option.some.inj hq;omega))
 clear HXa HRa HKa HBX HGX
 clear HB
 have HB:=HBH
 refine G.fc_nil (G.mt_take _ (G.Gr.refl _) ?_)
 simp only [pick_cons,pick_nil,nth_zero,nth_succ]
 repeat (go_big_quiet_step (fail))
 refine wpQuiet_nil (G.mt_force ?_)
 simp only [pick_cons,pick_nil,nth_zero,nth_succ]
 refine G.fc_step rfl (fun K hK => ?_)
 have z0 : ∃ v,wb10.cell? ⟨w.heap.size + 1,107,none⟩ = some v:=⟨_,(HXb10.out.cell 107).trans (List.getElem?_eq_getElem (by rw [MsgR.len2 (m:={ msgZ 9 with bh:=h }) HS.out HB.out];omega))⟩
 obtain ⟨v0,z0⟩:=z0
 have y0:=HXb10.out.frozen 107
 go_simp
 refine hK _ _ (show G.Gr wb10 _ from grown_set (grown_refl wb10 _)) ?_
 clear hK K z0 y0
 obtain ⟨wb11,hwb⟩ : ∃ wb,wb = wb10.setCell ⟨w.heap.size + 1,107,none⟩ (u32v t):=⟨_,rfl⟩
 have HXb11 : Hid (Blk wb11 (w.heap.size + 1) 49 (MsgR.cells { msgZ 9 with bh:=h,total:=t })):=by
  rw [hwb]
  have q:=HXb10.out.set_ 107 (u32v t)
  rw [MsgR.set107 (m:={ msgZ 9 with bh:=h }) HS.out HB.out] at q;exact Lib.hid q
 have HRb11 : Hid (Blk wb11 w.heap.size 49 ys.toList):=by rw [hwb];exact Lib.hid (HRb10.out.far (by simp) _)
 have HKb11 : Hid (Keep w wb11):=by rw [hwb];exact Lib.hid (Below.setCell HKb10.out (by simp) _)
 rw [← hwb]
 clear hwb HXb10 HRb10 HKb10
 refine G.fc_nil (G.mt_end ?_)
 clear iM
 have c2:=keep_cell HKb11.out C2.out
 have c3:=keep_cell HKb11.out C3.out
 go_upto_region 18 with fail
 letI iM : G.Mk:=⟨some (w.heap.size + 1)⟩
 refine G.wp_region_tree (.take [0,1,2,3,4,5,6,7,8,9,10] (.force [11] (.take [12,13] (.force [14] .done)))) [] (by kernel_rfl) (by kernel_rfl) (fun wa2 ka => ?_)
 have hneG : G.Mk.m ≠ some g:=fun q => by have e : w.heap.size + 1 = g:=Option.some.inj q;omega
 have HXa:=Lib.hid (HXb11.out.keep ka);have HRa:=Lib.hid (HRb11.out.keep ka);have HKa:=Lib.hid (keep_trans HKb11.out ka)
 replace c2:=keep_cell ka c2
 have b2:=G.aftG_cell c2 hneG
 replace c3:=keep_cell ka c3
 have b3:=G.aftG_cell c3 hneG
 clear ka HXb11 HRb11 HKb11
 refine G.mt_take wa2 (G.Gr.refl _) ?_
 simp only [pick_cons,pick_nil,nth_zero,nth_succ]
 repeat (go_big_quiet_step (fail))
 refine wpQuiet_nil (G.mt_force ?_)
 clear b2 b3 hneG
 simp only [pick_cons,pick_nil,nth_zero,nth_succ]
 refine G.fc_step rfl (fun K hK => ?_)
 have z0 : ∃ v,wa2.cell? ⟨w.heap.size + 1,108,none⟩ = some v:=⟨_,(HXa.out.cell 108).trans (List.getElem?_eq_getElem (by rw [MsgR.len2 (m:={ msgZ 9 with bh:=h,total:=t }) HS.out HB.out];omega))⟩
 obtain ⟨v0,z0⟩:=z0
 have y0:=HXa.out.frozen 108
 go_simp
 refine hK _ _ (show G.Gr wa2 _ from grown_set (grown_refl wa2 _)) ?_
 clear hK K z0 y0
 obtain ⟨wb20,hwb⟩ : ∃ wb,wb = wa2.setCell ⟨w.heap.size + 1,108,none⟩ (.slice sA l.length sc):=⟨_,rfl⟩
 have HXb20 : Hid (Blk wb20 (w.heap.size + 1) 49 (MsgR.cells { msgZ 9 with bh:=h,total:=t,sA:=sA,shs:=l,sc:=sc })):=by
  rw [hwb]
  have q:=HXa.out.set_ 108 (.slice sA l.length sc)
  rw [MsgR.set108 (m:={ msgZ 9 with bh:=h,total:=t }) HS.out HB.out] at q;exact Lib.hid q
 have HRb20 : Hid (Blk wb20 w.heap.size 49 ys.toList):=by rw [hwb];exact Lib.hid (HRa.out.far (by simp) _)
 have HKb20 : Hid (Keep w wb20):=by rw [hwb];exact Lib.hid (Below.setCell HKa.out (by simp) _)
 rw [← hwb]
 clear hwb HXa HRa HKa
 refine G.fc_nil (G.mt_take _ (G.Gr.refl _) ?_)
 simp only [pick_cons,pick_nil,nth_zero,nth_succ]
 repeat (go_big_quiet_step (fail))
 refine wpQuiet_nil (G.mt_force ?_)
 simp only [pick_cons,pick_nil,nth_zero,nth_succ]
 refine G.fc_step rfl (fun K hK => ?_)
 have z0 : ∃ v,wb20.cell? ⟨w.heap.size + 1,109,none⟩ = some v:=⟨_,(HXb20.out.cell 109).trans (List.getElem?_eq_getElem (by rw [MsgR.len2 (m:={ msgZ 9 with bh:=h,total:=t,sA:=sA,shs:=l,sc:=sc }) HS.out HB.out];omega))⟩
 obtain ⟨v0,z0⟩:=z0
 have y0:=HXb20.out.frozen 109
 go_simp
 refine hK _ _ (show G.Gr wb20 _ from grown_set (grown_refl wb20 _)) ?_
 clear hK K z0 y0
 obtain ⟨wb21,hwb⟩ : ∃ wb,wb = wb20.setCell ⟨w.heap.size + 1,109,none⟩ (.slice fA f.length fc):=⟨_,rfl⟩
 have HXb21 : Hid (Blk wb21 (w.heap.size + 1) 49 (MsgR.cells { msgZ 9 with bh:=h,total:=t,sA:=sA,shs:=l,sc:=sc,fA:=fA,fs:=f,fc:=fc })):=by
  rw [hwb]
  have q:=HXb20.out.set_ 109 (.slice fA f.length fc)
  rw [MsgR.set109 (m:={ msgZ 9 with bh:=h,total:=t,sA:=sA,shs:=l,sc:=sc }) HS.out HB.out] at q;exact Lib.hid q
 have HRb21 : Hid (Blk wb21 w.heap.size 49 ys.toList):=by rw [hwb];exact Lib.hid (HRb20.out.far (by simp) _)
 have HKb21 : Hid (Keep w wb21):=by rw [hwb];exact Lib.hid (Below.setCell HKb20.out (by simp) _)
 rw [← hwb]
 clear hwb HXb20 HRb20 HKb20
 refine G.fc_nil (G.mt_end ?_)
 clear iM
 go_upto_region 21 with fail
 obtain ⟨wx,hwx⟩ : ∃ wx,wx = wb21:=⟨_,rfl⟩
 have HX : Hid (Blk wx (w.heap.size + 1) 49 M.cells):=by rw [hwx,← HMM.out];exact HXb21
 have HRX : Hid (Blk wx w.heap.size 49 ys.toList):=by rw [hwx];exact HRb21
 have HKX : Hid (Keep w wx):=by rw [hwx];exact HKb21
 rw [← hwx]
 clear hwx HXb21 HRb21 HKb21
 obtain ⟨ds,hds⟩ : ∃ ds,MsA M ds:=⟨_,MsA.of HMO.out⟩
 have hdz:=hds.z;have hdn:=hds.n;have hdi:=hds.i
 have HDS:=Lib.hid hds
 have HBx : Hid (Blk wx (w.heap.size + 1) 49 ds.toList):=by rw [HDS.out.l];exact HX.out
 obtain ⟨w8,hst8,hb8,hg8⟩:=run_store_blk (P:=Try.prog) ds.toList HRX.out (by rw [Array.length_toList,Array.length_toList,hdz,HY.out.z]) HDS.out.o
 have Hb8:=Lib.hid hb8;have Hg8:=Lib.hid hg8
 clear hds hb8 hg8 HX HRX
 go_wp2_with ((with_reducible refine load_arr (w.heap.size + 1) ds (Eq.trans ?_ rfl) HBx.out _ Try.underlying49 rfl hdi ?_);rfl)
 have hb8:=Hb8.out
 exact bodyPost_ret (v:=.agg ds) (results_cell_row Try.results30 _ _ w.heap.size _ _ _ _ rfl hb8 Try.underlying49 rfl (by rw [List.size_toArray,Array.length_toList];exact hdi)) rfl ⟨ds,rfl,HDS.out,HKX.out.grown Hg8.out HKX.out.size (fun q hq => by injection hq with hq;omega)⟩
end Go.Proofs.Ytbgpgdhndanigaa
/- wire.message: whatever the kind; shapes of what was got. -/
set_option linter.unusedSimpArgs false
set_option linter.unusedVariables false
namespace Go.Proofs.Ytbgpgdhndanigaa
open Go.RowKit
def PV.tag : PV → Nat
 | .u32 _ => 0
 | .u64 _ => 1
 | .hsh .. => 2
 | .h32 _ => 3
 | .heads .. => 4
 | .items .. => 5
 | .head _ => 6
 | .bytes .. => 7
 | .tx _ => 8
theorem tak_tag (p : PV) (b : List UInt8) : (p.tak b).1.tag = p.tag:=by
 cases p <;> first | exact Eq.refl (0 : Nat) | exact Eq.refl (1 : Nat) | exact Eq.refl (2 : Nat) | exact Eq.refl (3 : Nat) | exact Eq.refl (4 : Nat) | exact Eq.refl (5 : Nat) | exact Eq.refl (6 : Nat) | exact Eq.refl (7 : Nat) | exact Eq.refl (8 : Nat)
theorem pl_tag (p : PV) : p.pl.tag = p.tag:=by
 cases p <;> first | exact Eq.refl (0 : Nat) | exact Eq.refl (1 : Nat) | exact Eq.refl (2 : Nat) | exact Eq.refl (3 : Nat) | exact Eq.refl (4 : Nat) | exact Eq.refl (5 : Nat) | exact Eq.refl (6 : Nat) | exact Eq.refl (7 : Nat) | exact Eq.refl (8 : Nat)
theorem gets_nil (b : List UInt8) : getsN [] b = ([],b,0):=rfl
theorem gets_ok (p : PV) (ps : List PV) (b : List UInt8) (h : (p.tak b).2.2 = 0) : getsN (p :: ps) b = ((p.tak b).1 :: (getsN ps (b.drop (p.tak b).2.1)).1,(getsN ps (b.drop (p.tak b).2.1)).2):=by
 rw [getsN,if_pos h]
theorem gets_bad (p : PV) (ps : List PV) (b : List UInt8) (h : ¬ (p.tak b).2.2 = 0) : getsN (p :: ps) b = ([],b,(p.tak b).2.2):=by
 rw [getsN,if_neg h]
theorem gets_tag : ∀ (ps : List PV) (b : List UInt8),(getsN ps b).2.2 = 0 → (getsN ps b).1.map PV.tag = ps.map PV.tag:=by
 intro ps
 induction ps with
 | nil => intro b _;rw [gets_nil]
 | cons p ps ih =>
   intro b h
   by_cases h0 : (p.tak b).2.2 = 0
   ·rw [gets_ok p ps b h0] at h ⊢
    have q:=ih _ h
    have e:=tak_tag p b
    generalize getsN ps (b.drop (p.tak b).2.1) = R at *
    generalize (p.tak b).1 = x at *
    rw [List.map_cons,List.map_cons,q,e]
   ·rw [gets_bad p ps b h0] at h
    exact absurd h h0
theorem tag0 {p : PV} (h : p.tag = 0) : ∃ x,p = .u32 x:=by cases p <;> first | exact ⟨_,rfl⟩ | cases h
theorem tag1 {p : PV} (h : p.tag = 1) : ∃ x,p = .u64 x:=by cases p <;> first | exact ⟨_,rfl⟩ | cases h
theorem tag2 {p : PV} (h : p.tag = 2) : ∃ A l c most,p = .hsh A l c most:=by cases p <;> first | exact ⟨_,_,_,_,rfl⟩ | cases h
theorem tag3 {p : PV} (h : p.tag = 3) : ∃ x,p = .h32 x:=by cases p <;> first | exact ⟨_,rfl⟩ | cases h
theorem tag4 {p : PV} (h : p.tag = 4) : ∃ A l c,p = .heads A l c:=by cases p <;> first | exact ⟨_,_,_,rfl⟩ | cases h
theorem tag5 {p : PV} (h : p.tag = 5) : ∃ A l c,p = .items A l c:=by cases p <;> first | exact ⟨_,_,_,rfl⟩ | cases h
theorem tag6 {p : PV} (h : p.tag = 6) : ∃ x,p = .head x:=by cases p <;> first | exact ⟨_,rfl⟩ | cases h
theorem tag7 {p : PV} (h : p.tag = 7) : ∃ A l c,p = .bytes A l c:=by cases p <;> first | exact ⟨_,_,_,rfl⟩ | cases h
theorem tag8 {p : PV} (h : p.tag = 8) : ∃ x,p = .tx x:=by cases p <;> first | exact ⟨_,rfl⟩ | cases h
theorem tags1 {qs : List PV} {x : Nat} (h : qs.map PV.tag = [x]) : ∃ a,qs = [a]∧a.tag = x:=by
 rcases qs with _ | ⟨a,_ | ⟨b,l⟩⟩ <;> simp at h
 exact ⟨a,rfl,h⟩
theorem tags3 {qs : List PV} {x y z : Nat} (h : qs.map PV.tag = [x,y,z]) : ∃ a b c,qs = [a,b,c]∧a.tag = x∧b.tag = y∧c.tag = z:=by
 rcases qs with _ | ⟨a,_ | ⟨b,_ | ⟨c,_ | ⟨d,l⟩⟩⟩⟩ <;> simp at h
 exact ⟨a,b,c,rfl,h⟩
theorem tags4 {qs : List PV} {x y z u : Nat} (h : qs.map PV.tag = [x,y,z,u]) : ∃ a b c d,qs = [a,b,c,d]∧a.tag = x∧b.tag = y∧c.tag = z∧d.tag = u:=by
 rcases qs with _ | ⟨a,_ | ⟨b,_ | ⟨c,_ | ⟨d,_ | ⟨e,l⟩⟩⟩⟩⟩ <;> simp at h
 exact ⟨a,b,c,d,rfl,h⟩
theorem msgZ_at (k : Int) (h : -9223372036854775808 ≤ k∧k ≤ 9223372036854775807) (w : World) : (msgZ k).at_ w :=
 ⟨msgZ_ok k h,Rd.nil _ _,⟨Nat.le_refl _,Nat.zero_le _⟩,Rd.nil _ _,⟨Nat.le_refl _,Nat.zero_le _⟩,Rd.nil _ _,⟨Nat.le_refl _,Nat.zero_le _⟩,Rd.nil _ _,⟨Nat.le_refl _,Nat.zero_le _⟩,Rd.nil _ _,⟨Nat.le_refl _,Nat.zero_le _⟩,txZ_at w⟩
theorem message_all (k : Nat) (hk : k < 11) (qs : List PV) (ht : qs.map PV.tag = (partsM (msgZ k)).map PV.tag) (w : World) (hat : ∀ q ∈ qs,q.at_ w) (A : Option Addr) (c : Nat) (hr : Rd w A (qs.map PV.val)) :
  (msgOf k qs).at_ w∧(msgOf k qs).pl = msgOf k (qs.map PV.pl)∧Calls Try.prog 30 #[iv k,.slice A qs.length c] w fun e w' => ∃ ds,e = .returned (.agg ds)∧MsA (msgOf k qs) ds∧Keep w w':=by
 have z:=msgZ_at k (by omega) w
 have o:=z.o
 clear o z
 obtain rfl | rfl | rfl | rfl | rfl | rfl | rfl | rfl | rfl | rfl | rfl : k = 0 ∨ k = 1 ∨ k = 2 ∨ k = 3 ∨ k = 4 ∨ k = 5 ∨ k = 6 ∨ k = 7 ∨ k = 8 ∨ k = 9 ∨ k = 10:=by omega
 ·have z:=msgZ_at ((0 : Nat) : Int) (by omega) w
  have o:=z.o
  obtain ⟨a,b,d,rfl,ha,hb,hd⟩:=tags3 (x:=0) (y:=1) (z:=0) ht
  obtain ⟨p,rfl⟩:=tag0 ha;obtain ⟨n,rfl⟩:=tag1 hb;obtain ⟨h,rfl⟩:=tag0 hd
  have hn : n < 2 ^ 64:=hat (.u64 n) (by simp)
  have hm : MsgR.at_ { msgZ (0 : Nat) with proto:=p,nonce:=n,height:=h } w:=⟨⟨o.k,hn,o.s,o.b,o.h,o.l,o.i,o.z⟩,z.h,z.hc,z.l,z.lc,z.i,z.ic,z.s,z.sc,z.f,z.fc,z.t⟩
  exact ⟨hm,rfl,message_0 p n h A c w hm.o hr⟩
 ·have z:=msgZ_at ((1 : Nat) : Int) (by omega) w
  have o:=z.o
  have : qs = []:=by cases qs with
   | nil => rfl
   | cons a l => cases ht
  subst this
  exact ⟨z,rfl,message_1 A c w z.o hr⟩
 ·have z:=msgZ_at ((2 : Nat) : Int) (by omega) w
  have o:=z.o
  obtain ⟨a,rfl,ha⟩:=tags1 (x:=1) ht
  obtain ⟨n,rfl⟩:=tag1 ha
  have hn : n < 2 ^ 64:=hat (.u64 n) (by simp)
  have hm : MsgR.at_ { msgZ (2 : Nat) with nonce:=n } w:=⟨⟨o.k,hn,o.s,o.b,o.h,o.l,o.i,o.z⟩,z.h,z.hc,z.l,z.lc,z.i,z.ic,z.s,z.sc,z.f,z.fc,z.t⟩
  exact ⟨hm,rfl,message_2 n A c w hm.o hr⟩
 ·have z:=msgZ_at ((3 : Nat) : Int) (by omega) w
  have o:=z.o
  obtain ⟨a,rfl,ha⟩:=tags1 (x:=1) ht
  obtain ⟨n,rfl⟩:=tag1 ha
  have hn : n < 2 ^ 64:=hat (.u64 n) (by simp)
  have hm : MsgR.at_ { msgZ (3 : Nat) with nonce:=n } w:=⟨⟨o.k,hn,o.s,o.b,o.h,o.l,o.i,o.z⟩,z.h,z.hc,z.l,z.lc,z.i,z.ic,z.s,z.sc,z.f,z.fc,z.t⟩
  exact ⟨hm,rfl,message_3 n A c w hm.o hr⟩
 ·have z:=msgZ_at ((4 : Nat) : Int) (by omega) w
  have o:=z.o
  obtain ⟨a,b,d,rfl,ha,hb,hd⟩:=tags3 (x:=0) (y:=2) (z:=3) ht
  obtain ⟨p,rfl⟩:=tag0 ha;obtain ⟨lA,l,lc,most,rfl⟩:=tag2 hb;obtain ⟨s,rfl⟩:=tag3 hd
  have hl : (PV.hsh lA l lc most).at_ w:=hat _ (by simp)
  have hs : s.length = 32:=hat (.h32 s) (by simp)
  have hm : MsgR.at_ { msgZ (4 : Nat) with proto:=p,lA:=lA,ls:=l,lc:=lc,stop:=s } w:=⟨⟨o.k,o.n,hs,o.b,o.h,hl.1,o.i,o.z⟩,z.h,z.hc,hl.2.2,hl.2.1,z.i,z.ic,z.s,z.sc,z.f,z.fc,z.t⟩
  exact ⟨hm,rfl,message_4 p lA l lc most s A c w hm.o hr⟩
 ·have z:=msgZ_at ((5 : Nat) : Int) (by omega) w
  have o:=z.o
  obtain ⟨a,rfl,ha⟩:=tags1 (x:=4) ht
  obtain ⟨lA,l,lc,rfl⟩:=tag4 ha
  have hl : (PV.heads lA l lc).at_ w:=hat _ (by simp)
  have hm : MsgR.at_ { msgZ (5 : Nat) with hA:=lA,hs:=l,hc:=lc } w:=⟨⟨o.k,o.n,o.s,o.b,hl.1,o.l,o.i,o.z⟩,hl.2.2,hl.2.1,z.l,z.lc,z.i,z.ic,z.s,z.sc,z.f,z.fc,z.t⟩
  exact ⟨hm,rfl,message_5 lA l lc A c w hm.o hr⟩
 ·have z:=msgZ_at ((6 : Nat) : Int) (by omega) w
  have o:=z.o
  obtain ⟨a,rfl,ha⟩:=tags1 (x:=5) ht
  obtain ⟨lA,l,lc,rfl⟩:=tag5 ha
  have hl : (PV.items lA l lc).at_ w:=hat _ (by simp)
  have hm : MsgR.at_ { msgZ (6 : Nat) with iA:=lA,is:=l,ic:=lc } w:=⟨⟨o.k,o.n,o.s,o.b,o.h,o.l,hl.1,o.z⟩,z.h,z.hc,z.l,z.lc,hl.2.2,hl.2.1,z.s,z.sc,z.f,z.fc,z.t⟩
  exact ⟨hm,rfl,message_6 lA l lc A c w hm.o hr⟩
 ·have z:=msgZ_at ((7 : Nat) : Int) (by omega) w
  have o:=z.o
  obtain ⟨a,rfl,ha⟩:=tags1 (x:=5) ht
  obtain ⟨lA,l,lc,rfl⟩:=tag5 ha
  have hl : (PV.items lA l lc).at_ w:=hat _ (by simp)
  have hm : MsgR.at_ { msgZ (7 : Nat) with iA:=lA,is:=l,ic:=lc } w:=⟨⟨o.k,o.n,o.s,o.b,o.h,o.l,hl.1,o.z⟩,z.h,z.hc,z.l,z.lc,hl.2.2,hl.2.1,z.s,z.sc,z.f,z.fc,z.t⟩
  exact ⟨hm,rfl,message_7 lA l lc A c w hm.o hr⟩
 ·have z:=msgZ_at ((8 : Nat) : Int) (by omega) w
  have o:=z.o
  obtain ⟨a,rfl,ha⟩:=tags1 (x:=5) ht
  obtain ⟨lA,l,lc,rfl⟩:=tag5 ha
  have hl : (PV.items lA l lc).at_ w:=hat _ (by simp)
  have hm : MsgR.at_ { msgZ (8 : Nat) with iA:=lA,is:=l,ic:=lc } w:=⟨⟨o.k,o.n,o.s,o.b,o.h,o.l,hl.1,o.z⟩,z.h,z.hc,z.l,z.lc,hl.2.2,hl.2.1,z.s,z.sc,z.f,z.fc,z.t⟩
  exact ⟨hm,rfl,message_8 lA l lc A c w hm.o hr⟩
 ·have z:=msgZ_at ((9 : Nat) : Int) (by omega) w
  have o:=z.o
  obtain ⟨a,b,d,e,rfl,ha,hb,hd,he⟩:=tags4 (x:=6) (y:=0) (z:=2) (u:=7) ht
  obtain ⟨h,rfl⟩:=tag6 ha;obtain ⟨t,rfl⟩:=tag0 hb;obtain ⟨lA,l,lc,most,rfl⟩:=tag2 hd;obtain ⟨fA,f,fc,rfl⟩:=tag7 he
  have hh : h.ok:=hat (.head h) (by simp)
  have hl : (PV.hsh lA l lc most).at_ w:=hat _ (by simp)
  have hf : (PV.bytes fA f fc).at_ w:=hat _ (by simp)
  have hm : MsgR.at_ { msgZ (9 : Nat) with bh:=h,total:=t,sA:=lA,shs:=l,sc:=lc,fA:=fA,fs:=f,fc:=fc } w:=⟨⟨o.k,o.n,o.s,hh,o.h,o.l,o.i,hl.1⟩,z.h,z.hc,z.l,z.lc,z.i,z.ic,hl.2.2,hl.2.1,hf.2,hf.1,z.t⟩
  exact ⟨hm,rfl,message_9 h t lA l lc most fA f fc A c w hm.o hr⟩
 ·have z:=msgZ_at ((10 : Nat) : Int) (by omega) w
  have o:=z.o
  obtain ⟨a,rfl,ha⟩:=tags1 (x:=8) ht
  obtain ⟨t,rfl⟩:=tag8 ha
  have hl : t.at w:=hat (.tx t) (by simp)
  have hm : MsgR.at_ { msgZ (10 : Nat) with t:=t } w:=⟨⟨o.k,o.n,o.s,o.b,o.h,o.l,o.i,o.z⟩,z.h,z.hc,z.l,z.lc,z.i,z.ic,z.s,z.sc,z.f,z.fc,hl⟩
  exact ⟨hm,rfl,message_10 t A c w hm.o hr⟩
end Go.Proofs.Ytbgpgdhndanigaa
/- A header's bytes are a header: plain. -/
set_option linter.unusedSimpArgs false
set_option linter.unusedVariables false
namespace Go.Proofs.Ytbgpgdhndanigaa
open Go.RowKit
theorem w8_nat {n : Int} (h0 : 0 ≤ n) (h1 : n ≤ 255) : ((w8 n).toNat : Int) = n:=(w8_of h0 h1).symm
theorem le4_num {a b c d : UInt8} (l : List UInt8) : le4 (num32 (a :: b :: c :: d :: l)) = [a,b,c,d]:=by
 have e : (num32 (a :: b :: c :: d :: l)).toNat = a.toNat + 256 * b.toNat + 65536 * c.toNat + 16777216 * d.toNat:=by
  have ha:=a.toNat_lt;have hb:=b.toNat_lt;have hc:=c.toNat_lt;have hd:=d.toNat_lt
  have h:=w32_of (n:=numE (a :: b :: c :: d :: l) 4) (numE_rng _ 4).1 (by have:=(numE_rng (a :: b :: c :: d :: l) 4).2;omega)
  have e4 : numE (a :: b :: c :: d :: l) 4 = a.toNat + 256 * b.toNat + 65536 * c.toNat + 16777216 * d.toNat:=by
   simp only [numE,List.getD_cons_succ,List.getD_cons_zero];omega
  rw [e4] at h
  unfold num32
  rw [e4]
  omega
 have g : ∀ (n : Int) (x : UInt8),n = x.toNat → w8 n = x:=fun n x h => by
  apply UInt8.toNat_inj.1
  have:=w8_nat (n:=n) (by omega) (by have:=x.toNat_lt;omega)
  omega
 have ha:=a.toNat_lt;have hb:=b.toNat_lt;have hc:=c.toNat_lt;have hd:=d.toNat_lt
 unfold le4 leE
 rw [e]
 rw [g _ a (by omega),g _ b (by omega),g _ c (by omega),g _ d (by omega)]
theorem le4_num4 {l : List UInt8} (h : 4 ≤ l.length) : le4 (num32 l) = l.take 4:=by
 rcases l with _ | ⟨a,_ | ⟨b,_ | ⟨c,_ | ⟨d,l⟩⟩⟩⟩ <;> simp at h
 rw [le4_num];rfl
theorem hput_get {b : List UInt8} (h : b.length = 80) : hputL (hgetL b) = b:=by
 unfold hgetL hputL
 rw [le4_num4 (by omega),le4_num4 (by rw [List.length_drop];omega),le4_num4 (by rw [List.length_drop];omega),le4_num4 (by rw [List.length_drop];omega)]
 have e1 : b.drop 72 = (b.drop 72).take 4 ++ b.drop 76:=by
  have:=(List.take_append_drop 4 (b.drop 72)).symm;rwa [List.drop_drop] at this
 have e2 : b.drop 68 = (b.drop 68).take 4 ++ b.drop 72:=by
  have:=(List.take_append_drop 4 (b.drop 68)).symm;rwa [List.drop_drop] at this
 have e3 : b.drop 36 = (b.drop 36).take 32 ++ b.drop 68:=by
  have:=(List.take_append_drop 32 (b.drop 36)).symm;rwa [List.drop_drop] at this
 have e4 : b.drop 4 = (b.drop 4).take 32 ++ b.drop 36:=by
  have:=(List.take_append_drop 32 (b.drop 4)).symm;rwa [List.drop_drop] at this
 rw [show (b.drop 76).take 4 = b.drop 76 from List.take_of_length_le (by rw [List.length_drop];omega),← e1,← e2,← e3,← e4,List.take_append_drop]
end Go.Proofs.Ytbgpgdhndanigaa
/- What is got was put so: parts and messages. -/
set_option linter.unusedSimpArgs false
set_option linter.unusedVariables false
namespace Go.Proofs.Ytbgpgdhndanigaa
open Go.RowKit
theorem hshs_sl {b : List UInt8} {a : Nat} : ∀ {n : Nat},a + n * 32 ≤ b.length → (hshs b a n).flatten = sl b a (a + n * 32)
 | 0,_ => by rw [Nat.zero_mul,Nat.add_zero,sl_self];rfl
 | n + 1,h => by
   rw [hshs_succ,List.flatten_append,hshs_sl (by omega)]
   have e : [(b.drop (a + n * 32)).take 32].flatten = sl b (a + n * 32) (a + n * 32 + 32):=by rw [sl_add];simp
   rw [e,sl_app (by omega) (by omega)]
   congr 1;omega
theorem itmOf_sl {b : List UInt8} {a : Nat} (h : a + 36 ≤ b.length) : itL (itmOf b a) = sl b a (a + 36):=by
 unfold itL itmOf
 simp only
 have h1:=lo_numN (b:=b.drop a) (k:=4) (by rw [List.length_drop];omega)
 rw [UInt32.toNat_ofNat',Nat.mod_eq_of_lt (by have:=numN_lt (b.drop a) 4;omega),h1,← sl_add,← sl_add,sl_app (by omega) (by omega)]
theorem itms_sl {b : List UInt8} {a : Nat} : ∀ {n : Nat},a + n * 36 ≤ b.length → (itms b a n).flatMap itL = sl b a (a + n * 36)
 | 0,_ => by rw [Nat.zero_mul,Nat.add_zero,sl_self];rfl
 | n + 1,h => by
   rw [itms_succ,List.flatMap_append,itms_sl (by omega)]
   have e : [itmOf b (a + n * 36)].flatMap itL = sl b (a + n * 36) (a + n * 36 + 36):=by
    rw [← itmOf_sl (by omega)];simp
   rw [e,sl_app (by omega) (by omega)]
   congr 1;omega
theorem hgal_sl {b : List UInt8} : ∀ (n a : Nat),a ≤ b.length → (hgal b n a).2 = 0 → (hgal b n a).1.length = n∧hpa (hgal b n a).1 = b.drop a
 | 0,a,ha,h => by
   unfold hgal at h ⊢
   by_cases q : b.length ≤ a
   ·rw [if_pos q];exact ⟨rfl,by rw [List.drop_eq_nil_of_le q];rfl⟩
   ·rw [if_neg q] at h;cases h
 | n + 1,a,ha,h => by
   unfold hgal at h ⊢
   by_cases q : b.length ≤ a + 80
   ·rw [if_pos q] at h;cases h
   ·rw [if_neg q] at h ⊢
    by_cases q2 : b.getD (a + 80) 0 = 0
    ·rw [if_pos q2] at h ⊢
     by_cases q3 : (hgal b n (a + 81)).2 = 0
     ·rw [if_pos q3] at h ⊢
      obtain ⟨h1,h2⟩:=hgal_sl n (a + 81) (by omega) q3
      refine ⟨by rw [List.length_cons,h1],?_⟩
      simp only
      unfold hpa at h2 ⊢
      rw [List.flatMap_cons,h2,hput_get (by rw [List.length_take,List.length_drop];omega)]
      have e0 : [(0 : UInt8)] = sl b (a + 80) (a + 81):=by
       rw [List.getD_eq_getElem?_getD,List.getElem?_eq_getElem (show a + 80 < b.length by omega)] at q2
       unfold sl
       rw [show a + 81 - (a + 80) = 1 by omega,List.drop_eq_getElem_cons (show a + 80 < b.length by omega),List.take_succ_cons,List.take_zero,← q2]
       rfl
      rw [← sl_add,e0,sl_app (by omega) (by omega),← sl_end,← sl_end,sl_app (by omega) (by omega)]
     ·rw [if_neg q3] at h;exact absurd h q3
    ·rw [if_neg q2] at h;cases h
theorem hgall_once {b : List UInt8} (h : (hgall b).2 = 0) : hpall (hgall b).1 = b∧(hgall b).1.length ≤ 2000:=by
 unfold hgall at h ⊢
 by_cases h0 : (bndN b 2000).2.2 = 0
 ·rw [if_pos h0] at h ⊢
  obtain ⟨b1,b2,b3,-⟩:=bnd_ok h0
  obtain ⟨h1,h2⟩:=hgal_sl _ _ b2 h
  refine ⟨?_,by omega⟩
  unfold hpall
  rw [h1,h2,b1,List.take_append_drop]
 ·rw [if_neg h0] at h;exact absurd h h0
theorem ths_once {b : List UInt8} {most : Nat} (h : (thsN b most).2.2 = 0) : cptL (thsN b most).1.length ++ (thsN b most).1.flatten = b.take (thsN b most).2.1∧(thsN b most).1.length ≤ most:=by
 unfold thsN at h ⊢
 by_cases h0 : (bndN b most).2.2 = 0
 ·rw [if_pos h0] at h ⊢
  obtain ⟨b1,b2,b3,-⟩:=bnd_ok h0
  by_cases h1 : b.length < (bndN b most).2.1 + (bndN b most).1 * 32
  ·rw [if_pos h1] at h;cases h
  ·rw [if_neg h1]
   simp only
   rw [hshs_len,hshs_sl (by omega),b1,← sl_zero,sl_app (Nat.zero_le _) (by omega),sl_zero]
   exact ⟨rfl,b3⟩
 ·rw [if_neg h0] at h;exact absurd h h0
theorem tit_once {b : List UInt8} (h : (titN b).2.2 = 0) : cptL (titN b).1.length ++ (titN b).1.flatMap itL = b.take (titN b).2.1∧(titN b).1.length ≤ 50000:=by
 unfold titN at h ⊢
 by_cases h0 : (bndN b 50000).2.2 = 0
 ·rw [if_pos h0] at h ⊢
  obtain ⟨b1,b2,b3,-⟩:=bnd_ok h0
  by_cases h1 : b.length < (bndN b 50000).2.1 + (bndN b 50000).1 * 36
  ·rw [if_pos h1] at h;cases h
  ·rw [if_neg h1]
   simp only
   rw [itms_len,itms_sl (by omega),b1,← sl_zero,sl_app (Nat.zero_le _) (by omega),sl_zero]
   exact ⟨rfl,b3⟩
 ·rw [if_neg h0] at h;exact absurd h h0
theorem if10 {c : Prop} [Decidable c] (h : (if c then (1 : Int) else 0) = 0) : ¬ c:=fun q => by rw [if_pos q] at h;cases h
def PV.lim : PV → Prop
 | .hsh _ l _ most => l.length ≤ most
 | .heads _ l _ => l.length ≤ 2000
 | .items _ l _ => l.length ≤ 50000
 | .bytes _ l _ => l.length ≤ 1024
 | .tx t => saneT t = true
 | _ => True
def PV.mst : PV → Nat
 | .hsh _ _ _ most => most
 | _ => 0
theorem tak_mst (p : PV) (b : List UInt8) : (p.tak b).1.mst = p.mst:=by cases p <;> first | exact Eq.refl (0 : Nat) | exact Eq.refl _
theorem tak_once (p : PV) (b : List UInt8) (h : (p.tak b).2.2 = 0) : layL (p.tak b).1 = b.take (p.tak b).2.1∧(p.tak b).1.lim:=by
 cases p with
 | u32 x =>
   have q:=if10 (c:=b.length < 4) h
   refine ⟨?_,trivial⟩
   show loN (UInt32.ofNat (if b.length < 4 then 0 else numN b 4)).toNat 4 = b.take 4
   rw [if_neg q,UInt32.toNat_ofNat',Nat.mod_eq_of_lt (by have:=numN_lt b 4;omega),lo_numN (by omega)]
 | u64 x =>
   have q:=if10 (c:=b.length < 8) h
   refine ⟨?_,trivial⟩
   show loN (if b.length < 8 then 0 else numN b 8) 8 = b.take 8
   rw [if_neg q,lo_numN (by omega)]
 | hsh A l c most => exact ths_once h
 | h32 s =>
   have q:=if10 (c:=b.length < 32) h
   refine ⟨?_,trivial⟩
   show b.take 32 = b.take (if b.length < 32 then 0 else 32)
   rw [if_neg q]
 | heads A l c =>
   have q:=hgall_once (b:=b) h
   refine ⟨?_,q.2⟩
   show hpall (hgall b).1 = b.take b.length
   rw [q.1,List.take_length]
 | items A l c => exact tit_once h
 | head x =>
   have q:=if10 (c:=b.length < 80) h
   refine ⟨?_,trivial⟩
   show hputL (hgetL (b.take 80)) = b.take 80
   rw [hput_get (by rw [List.length_take];omega)]
 | bytes A l c =>
   have q:=byt_ok (d:=b) (most:=1024) h
   exact ⟨q.1,q.2.2⟩
 | tx t =>
   have h1 : (tgetN b).2.2 = 0:=h
   have h0 : (tgetS b).2.2 = 0:=by
    unfold tgetN at h1
    by_cases q : (tgetS b).2.2 = 0
    ·exact q
    ·rw [if_neg q] at h1;exact absurd h1 q
   have e : tgetN b = ((tgetS b).1,(tgetS b).2.1,0):=by unfold tgetN;rw [if_pos h0]
   obtain ⟨t1,t2,t3,-⟩:=tget_ok h0
   have e1 : (tgetN b).1 = (tgetS b).1:=by rw [e]
   have e2 : (tgetN b).2.1 = (tgetS b).2.1:=by rw [e]
   refine ⟨?_,?_⟩
   ·show (if saneT (tgetN b).1 = true then txL (tgetN b).1 else []) = b.take (tgetN b).2.1
    rw [e1,e2,if_pos t3,t1]
   ·show saneT (tgetN b).1 = true
    rw [e1];exact t3
theorem gets_once : ∀ (ps : List PV) (b : List UInt8),(getsN ps b).2.2 = 0 → (getsN ps b).1.flatMap layL ++ (getsN ps b).2.1 = b∧(getsN ps b).1.map PV.mst = ps.map PV.mst∧∀ q ∈ (getsN ps b).1,q.lim:=by
 intro ps
 induction ps with
 | nil => intro b _;rw [gets_nil];exact ⟨rfl,rfl,fun q hq => by cases hq⟩
 | cons p ps ih =>
   intro b h
   by_cases h0 : (p.tak b).2.2 = 0
   ·rw [gets_ok p ps b h0] at h ⊢
    obtain ⟨i1,i2,i3⟩:=ih _ h
    obtain ⟨t1,t2⟩:=tak_once p b h0
    have t3:=tak_mst p b
    generalize hR : getsN ps (b.drop (p.tak b).2.1) = R at *
    generalize hk : (p.tak b).2.1 = k at *
    generalize (p.tak b).1 = x at *
    refine ⟨?_,?_,?_⟩
    ·show (x :: R.1).flatMap layL ++ R.2.1 = b
     rw [List.flatMap_cons,List.append_assoc,i1,t1,List.take_append_drop]
    ·show (x :: R.1).map PV.mst = _
     rw [List.map_cons,List.map_cons,i2,t3]
    ·intro q hq
     rcases List.mem_cons.1 hq with rfl | hq
     ·exact t2
     ·exact i3 q hq
   ·rw [gets_bad p ps b h0] at h
    exact absurd h h0
theorem nothing_Z (k : Int) : nothingB (msgZ k) = true:=by kernel_rfl
theorem fits_mk {m : MsgR} (k : Int) (hk : m.kind = k) (h0 : 0 ≤ k∧k < 11) (h2 : m.ls.length ≤ 101) (h3 : m.hs.length ≤ 2000) (h4 : m.is.length ≤ 50000) (h5 : m.shs.length ≤ 4096) (h6 : m.fs.length ≤ 1024) (h7 : k = 10 → saneT m.t = true) (h8 : othersM m = msgZ k) : fitsB m = true:=by
 unfold fitsB
 rw [decide_eq_true_eq,hk]
 exact ⟨h0.1,h0.2,h2,h3,h4,h5,h6,h7,by rw [h8];exact nothing_Z k⟩
theorem put_mk {m : MsgR} (h : fitsB m = true) {l : List UInt8} (e : (partsM m).flatMap layL = l) : putL m = l:=by unfold putL;rw [if_pos h,e]
theorem msg_once (k : Nat) (hk : k < 11) (qs : List PV) (ht : qs.map PV.tag = (partsM (msgZ k)).map PV.tag) (hm : qs.map PV.mst = (partsM (msgZ k)).map PV.mst) (hl : ∀ q ∈ qs,q.lim) :
  fitsB (msgOf k qs) = true∧putL (msgOf k qs) = qs.flatMap layL∧(msgOf k qs).kind = k:=by
 obtain rfl | rfl | rfl | rfl | rfl | rfl | rfl | rfl | rfl | rfl | rfl : k = 0 ∨ k = 1 ∨ k = 2 ∨ k = 3 ∨ k = 4 ∨ k = 5 ∨ k = 6 ∨ k = 7 ∨ k = 8 ∨ k = 9 ∨ k = 10:=by omega
 ·obtain ⟨a,b,d,rfl,ha,hb,hd⟩:=tags3 (x:=0) (y:=1) (z:=0) ht
  obtain ⟨p,rfl⟩:=tag0 ha;obtain ⟨n,rfl⟩:=tag1 hb;obtain ⟨h,rfl⟩:=tag0 hd
  have f : fitsB { msgZ ((0 : Nat) : Int) with proto:=p,nonce:=n,height:=h } = true:=fits_mk 0 rfl (by decide) (Nat.zero_le _) (Nat.zero_le _) (Nat.zero_le _) (Nat.zero_le _) (Nat.zero_le _) (fun e => absurd e (by decide)) rfl
  exact ⟨f,put_mk f rfl,rfl⟩
 ·have : qs = []:=by cases qs with
   | nil => rfl
   | cons a l => cases ht
  subst this
  have f : fitsB (msgZ ((1 : Nat) : Int)) = true:=fits_mk 1 rfl (by decide) (Nat.zero_le _) (Nat.zero_le _) (Nat.zero_le _) (Nat.zero_le _) (Nat.zero_le _) (fun e => absurd e (by decide)) rfl
  exact ⟨f,put_mk f rfl,rfl⟩
 ·obtain ⟨a,rfl,ha⟩:=tags1 (x:=1) ht
  obtain ⟨n,rfl⟩:=tag1 ha
  have f : fitsB { msgZ ((2 : Nat) : Int) with nonce:=n } = true:=fits_mk 2 rfl (by decide) (Nat.zero_le _) (Nat.zero_le _) (Nat.zero_le _) (Nat.zero_le _) (Nat.zero_le _) (fun e => absurd e (by decide)) rfl
  exact ⟨f,put_mk f rfl,rfl⟩
 ·obtain ⟨a,rfl,ha⟩:=tags1 (x:=1) ht
  obtain ⟨n,rfl⟩:=tag1 ha
  have f : fitsB { msgZ ((3 : Nat) : Int) with nonce:=n } = true:=fits_mk 3 rfl (by decide) (Nat.zero_le _) (Nat.zero_le _) (Nat.zero_le _) (Nat.zero_le _) (Nat.zero_le _) (fun e => absurd e (by decide)) rfl
  exact ⟨f,put_mk f rfl,rfl⟩
 ·obtain ⟨a,b,d,rfl,ha,hb,hd⟩:=tags3 (x:=0) (y:=2) (z:=3) ht
  obtain ⟨p,rfl⟩:=tag0 ha;obtain ⟨lA,l,lc,most,rfl⟩:=tag2 hb;obtain ⟨s,rfl⟩:=tag3 hd
  have e1 : [0,most,0] = [0,101,0]:=hm
  obtain rfl : most = 101:=by injection e1 with _ e1;injection e1 with e1 _
  have hq : l.length ≤ 101:=hl (.hsh lA l lc 101) (by simp)
  have f : fitsB { msgZ ((4 : Nat) : Int) with proto:=p,lA:=lA,ls:=l,lc:=lc,stop:=s } = true:=fits_mk 4 rfl (by decide) hq (Nat.zero_le _) (Nat.zero_le _) (Nat.zero_le _) (Nat.zero_le _) (fun e => absurd e (by decide)) rfl
  exact ⟨f,put_mk f rfl,rfl⟩
 ·obtain ⟨a,rfl,ha⟩:=tags1 (x:=4) ht
  obtain ⟨lA,l,lc,rfl⟩:=tag4 ha
  have hq : l.length ≤ 2000:=hl (.heads lA l lc) (by simp)
  have f : fitsB { msgZ ((5 : Nat) : Int) with hA:=lA,hs:=l,hc:=lc } = true:=fits_mk 5 rfl (by decide) (Nat.zero_le _) hq (Nat.zero_le _) (Nat.zero_le _) (Nat.zero_le _) (fun e => absurd e (by decide)) rfl
  exact ⟨f,put_mk f rfl,rfl⟩
 ·obtain ⟨a,rfl,ha⟩:=tags1 (x:=5) ht
  obtain ⟨lA,l,lc,rfl⟩:=tag5 ha
  have hq : l.length ≤ 50000:=hl (.items lA l lc) (by simp)
  have f : fitsB { msgZ ((6 : Nat) : Int) with iA:=lA,is:=l,ic:=lc } = true:=fits_mk 6 rfl (by decide) (Nat.zero_le _) (Nat.zero_le _) hq (Nat.zero_le _) (Nat.zero_le _) (fun e => absurd e (by decide)) rfl
  exact ⟨f,put_mk f rfl,rfl⟩
 ·obtain ⟨a,rfl,ha⟩:=tags1 (x:=5) ht
  obtain ⟨lA,l,lc,rfl⟩:=tag5 ha
  have hq : l.length ≤ 50000:=hl (.items lA l lc) (by simp)
  have f : fitsB { msgZ ((7 : Nat) : Int) with iA:=lA,is:=l,ic:=lc } = true:=fits_mk 7 rfl (by decide) (Nat.zero_le _) (Nat.zero_le _) hq (Nat.zero_le _) (Nat.zero_le _) (fun e => absurd e (by decide)) rfl
  exact ⟨f,put_mk f rfl,rfl⟩
 ·obtain ⟨a,rfl,ha⟩:=tags1 (x:=5) ht
  obtain ⟨lA,l,lc,rfl⟩:=tag5 ha
  have hq : l.length ≤ 50000:=hl (.items lA l lc) (by simp)
  have f : fitsB { msgZ ((8 : Nat) : Int) with iA:=lA,is:=l,ic:=lc } = true:=fits_mk 8 rfl (by decide) (Nat.zero_le _) (Nat.zero_le _) hq (Nat.zero_le _) (Nat.zero_le _) (fun e => absurd e (by decide)) rfl
  exact ⟨f,put_mk f rfl,rfl⟩
 ·obtain ⟨a,b,d,e,rfl,ha,hb,hd,he⟩:=tags4 (x:=6) (y:=0) (z:=2) (u:=7) ht
  obtain ⟨h,rfl⟩:=tag6 ha;obtain ⟨t,rfl⟩:=tag0 hb;obtain ⟨lA,l,lc,most,rfl⟩:=tag2 hd;obtain ⟨fA,f,fc,rfl⟩:=tag7 he
  have e1 : [0,0,most,0] = [0,0,4096,0]:=hm
  obtain rfl : most = 4096:=by injection e1 with _ e1;injection e1 with _ e1;injection e1 with e1 _
  have hq : l.length ≤ 4096:=hl (.hsh lA l lc 4096) (by simp)
  have hf : f.length ≤ 1024:=hl (.bytes fA f fc) (by simp)
  have f : fitsB { msgZ ((9 : Nat) : Int) with bh:=h,total:=t,sA:=lA,shs:=l,sc:=lc,fA:=fA,fs:=f,fc:=fc } = true:=fits_mk 9 rfl (by decide) (Nat.zero_le _) (Nat.zero_le _) (Nat.zero_le _) hq hf (fun e => absurd e (by decide)) rfl
  exact ⟨f,put_mk f rfl,rfl⟩
 ·obtain ⟨a,rfl,ha⟩:=tags1 (x:=8) ht
  obtain ⟨t,rfl⟩:=tag8 ha
  have hq : saneT t = true:=hl (.tx t) (by simp)
  have f : fitsB { msgZ ((10 : Nat) : Int) with t:=t } = true:=fits_mk 10 rfl (by decide) (Nat.zero_le _) (Nat.zero_le _) (Nat.zero_le _) (Nat.zero_le _) (Nat.zero_le _) (fun _ => hq) rfl
  exact ⟨f,put_mk f rfl,rfl⟩
theorem wget_once (s b : List UInt8) (h : (wgetN s b).2 = 0) : (kindN s).2 = true∧fitsB (wgetN s b).1 = true∧putL (wgetN s b).1 = b∧(wgetN s b).1.kind = (kindN s).1:=by
 unfold wgetN at h ⊢
 by_cases h1 : (kindN s).2 = true
 ·rw [if_pos h1] at h ⊢
  have hk:=(kindN_spec h1).2
  generalize (kindN s).1 = k at *
  by_cases h2 : (getsN (partsM (msgZ k)) b).2.2 = 0
  ·rw [if_pos h2] at h ⊢
   obtain ⟨g1,g2,g3⟩:=gets_once _ _ h2
   have g4:=gets_tag _ _ h2
   generalize getsN (partsM (msgZ k)) b = G at *
   by_cases h3 : G.2.1 = []
   ·rw [if_pos h3]
    rw [h3,List.append_nil] at g1
    obtain ⟨m1,m2,m3⟩:=msg_once k hk G.1 g4 g2 g3
    exact ⟨h1,m1,m2.trans g1,m3⟩
   ·rw [if_neg h3] at h;cases h
  ·rw [if_neg h2] at h;exact absurd h h2
 ·rw [if_neg h1] at h;cases h
theorem wget_bad (s b : List UInt8) (h : (wgetN s b).2 ≠ 0) : (wgetN s b).1 = msgZ 0∧((kindN s).2 = false → (wgetN s b).2 = 2):=by
 unfold wgetN at h ⊢
 by_cases h1 : (kindN s).2 = true
 ·rw [if_pos h1] at h ⊢
  refine ⟨?_,fun q => by rw [h1] at q;cases q⟩
  generalize getsN (partsM (msgZ (kindN s).1)) b = G at *
  by_cases h2 : G.2.2 = 0
  ·rw [if_pos h2] at h ⊢
   by_cases h3 : G.2.1 = []
   ·rw [if_pos h3] at h;exact absurd rfl h
   ·rw [if_neg h3]
  ·rw [if_neg h2]
 ·rw [if_neg h1];exact ⟨rfl,fun _ => rfl⟩
theorem txL_pl (t : TxR) : txL t.pl = txL t:=by
 unfold txL TxR.pl
 simp only [List.length_map,List.flatMap_map]
 rfl
theorem saneT_pl (t : TxR) : saneT t.pl = saneT t:=by
 unfold saneT TxR.pl
 simp only [List.length_map,List.mem_map,forall_exists_index,and_imp,forall_apply_eq_imp_iff₂]
 rfl
theorem others_pl (m : MsgR) : othersM m.pl = (othersM m).pl:=by
 unfold othersM
 rw [show m.pl.kind = m.kind from rfl]
 by_cases h : m.kind = 0
 ·rw [if_pos h,if_pos h];rfl
 rw [if_neg h,if_neg h];clear h
 by_cases h : m.kind = 2 ∨ m.kind = 3
 ·rw [if_pos h,if_pos h];rfl
 rw [if_neg h,if_neg h];clear h
 by_cases h : m.kind = 4
 ·rw [if_pos h,if_pos h];rfl
 rw [if_neg h,if_neg h];clear h
 by_cases h : m.kind = 5
 ·rw [if_pos h,if_pos h];rfl
 rw [if_neg h,if_neg h];clear h
 by_cases h : m.kind = 6 ∨ m.kind = 7 ∨ m.kind = 8
 ·rw [if_pos h,if_pos h];rfl
 rw [if_neg h,if_neg h];clear h
 by_cases h : m.kind = 9
 ·rw [if_pos h,if_pos h];rfl
 rw [if_neg h,if_neg h];clear h
 by_cases h : m.kind = 10
 ·rw [if_pos h,if_pos h];rfl
 rw [if_neg h,if_neg h]
theorem nothing_pl (m : MsgR) : nothingB m.pl = nothingB m:=by
 unfold nothingB MsgR.pl TxR.pl
 simp only [List.length_map]
theorem fits_pl (m : MsgR) : fitsB m.pl = fitsB m:=by
 have e1 : nothingB (othersM m.pl) = nothingB (othersM m):=by rw [others_pl,nothing_pl]
 have e2 : saneT m.pl.t = saneT m.t:=saneT_pl m.t
 unfold fitsB
 rw [e1,e2]
 rfl
theorem lay_tx_pl (t : TxR) : layL (.tx t.pl) = layL (.tx t):=by
 show (if saneT t.pl = true then txL t.pl else []) = if saneT t = true then txL t else []
 rw [saneT_pl,txL_pl]
theorem parts_pl (m : MsgR) : (partsM m.pl).flatMap layL = (partsM m).flatMap layL:=by
 unfold partsM
 rw [show m.pl.kind = m.kind from rfl]
 by_cases h : m.kind = 0
 ·rw [if_pos h,if_pos h];rfl
 rw [if_neg h,if_neg h];clear h
 by_cases h : m.kind = 2 ∨ m.kind = 3
 ·rw [if_pos h,if_pos h];rfl
 rw [if_neg h,if_neg h];clear h
 by_cases h : m.kind = 4
 ·rw [if_pos h,if_pos h];rfl
 rw [if_neg h,if_neg h];clear h
 by_cases h : m.kind = 5
 ·rw [if_pos h,if_pos h];rfl
 rw [if_neg h,if_neg h];clear h
 by_cases h : m.kind = 6 ∨ m.kind = 7 ∨ m.kind = 8
 ·rw [if_pos h,if_pos h];rfl
 rw [if_neg h,if_neg h];clear h
 by_cases h : m.kind = 9
 ·rw [if_pos h,if_pos h];rfl
 rw [if_neg h,if_neg h];clear h
 by_cases h : m.kind = 10
 ·rw [if_pos h,if_pos h]
  rw [List.flatMap_cons,List.flatMap_cons]
  rw [show m.pl.t = m.t.pl from rfl,lay_tx_pl]
 ·rw [if_neg h,if_neg h]
theorem put_pl (m : MsgR) : putL m.pl = putL m:=by
 unfold putL
 rw [fits_pl,parts_pl]
end Go.Proofs.Ytbgpgdhndanigaa
/- ours, theirs: a transaction of one type as one of the other. (printed by gen_pd.py) -/
set_option linter.unusedSimpArgs false
set_option linter.unusedVariables false
namespace Go.Proofs.Ytbgpgdhndanigaa
open Go.RowKit
attribute [local go_sem ↓] Go.wp_at_zero Go.wp_at_succ
theorem rin_info : (Try.prog.info? 97).map (·.size) = some 35:=by kernel_rfl
structure InB (x : InR) (cs : Array Value) : Prop where
 l : cs.toList = x.cells
 z : cs.size = 35
 i : (Try.prog.info? 97).map (·.size) = some cs.size
 n : ¬ cs = #[]
 o : ∀ v ∈ cs.toList,v.oneCell' = true
theorem InB.of {x : InR} (h : x.prev.length = 32) : InB x x.cells.toArray:=by
 have hz : x.cells.toArray.size = 35:=by simpa using InR.len h
 exact ⟨rfl,hz,by rw [hz];exact rin_info,fun e => by rw [e] at hz;simp at hz,by simpa using x.one⟩
noncomputable def zrin : Array Value:=match (Try.prog.info? 97).bind (·.zero) with | some (.agg c) => c | _ => #[]
theorem zrin_size : zrin.size = 35:=by kernel_rfl
theorem zrin_zero (w : World) : (zeroValue 97).run Try.prog w = .ok (.agg zrin) w:=by kernel_rfl
theorem zrin_letter : ∃ zs : Array Value,zs.size = 35∧(∀ w,(zeroValue 97).run Try.prog w = .ok (.agg zs) w)∧¬ zs = #[] :=
 ⟨zrin,zrin_size,zrin_zero,fun h => by have:=zrin_size;rw [h] at this;cases this⟩
theorem zin_letter0 : ∃ zs : Array Value,zs.size = 35∧(∀ w,(zeroValue 100).run Try.prog w = .ok (.agg zs) w)∧¬ zs = #[]:=by
 obtain ⟨zs,a,b,c,-⟩:=zin_letter
 exact ⟨zs,a,b,c⟩
set_option maxRecDepth 100000 in
theorem rinT : ElT Try.prog 34 97 (Value.agg zrin) 35 72:=ElT.mk' Try.underlying34 (by kernel_rfl) zrin_size (by omega)
theorem routT : ElT Try.prog 35 99 (.agg #[.int .u64 0,.slice none 0 0]) 2 32:=ElT.mk' Try.underlying35 (by kernel_rfl) rfl (by omega)
theorem in_built (p : List UInt8) (ix : UInt32) (A : Option Addr) (n c : Nat) (sq : UInt32) (ds : Array Value) (hl : p.length = 32) (hd : HashA p ds) : Try.prog.built 100 [(0,.agg ds),(1,u32v ix),(2,.slice A n c),(3,u32v sq)] = some (p.map u8v ++ [u32v ix,.slice A n c,u32v sq]).toArray:=by
 obtain rfl:=hd.e
 obtain ⟨a0,a1,a2,a3,a4,a5,a6,a7,a8,a9,b0,b1,b2,b3,b4,b5,b6,b7,b8,b9,c0,c1,c2,c3,c4,c5,c6,c7,c8,c9,d0,d1,rfl⟩:=list32b hl
 show _ = _
 kernel_rfl
theorem rin_built (p : List UInt8) (ix : UInt32) (A : Option Addr) (n c : Nat) (sq : UInt32) (ds : Array Value) (hl : p.length = 32) (hd : HashA p ds) : Try.prog.built 97 [(0,.agg ds),(1,u32v ix),(2,.slice A n c),(3,u32v sq)] = some (p.map u8v ++ [u32v ix,.slice A n c,u32v sq]).toArray:=by
 obtain rfl:=hd.e
 obtain ⟨a0,a1,a2,a3,a4,a5,a6,a7,a8,a9,b0,b1,b2,b3,b4,b5,b6,b7,b8,b9,c0,c1,c2,c3,c4,c5,c6,c7,c8,c9,d0,d1,rfl⟩:=list32b hl
 show _ = _
 kernel_rfl
set_option maxRecDepth 100000 in
set_option maxHeartbeats 4000000 in
theorem ours_any (t : TxR) (w0 w : World) (h0 : t.at w0) (hk0 : Keep w0 w) (hi : t.ins.length ≤ 1000000) (ho : t.outs.length ≤ 1000000) :
  Calls Try.prog 20 #[.agg #[u32v t.ver,.slice t.iA t.ins.length t.ic,.slice t.oA t.outs.length t.oc,u32v t.lock]] w fun e w' => ∃ iA ic oA oc,e = .returned (.agg #[u32v t.ver,.slice iA t.ins.length ic,.slice oA t.outs.length oc,u32v t.lock])∧(∀ W,Mid w0 w w' W → TxR.at ⟨t.ver,iA,t.ins,ic,oA,t.outs,oc,t.lock⟩ W)∧Keep w w':=by
 have h:=h0.keep hk0
 have HI : Hid (∀ k (h : k < t.ins.length),∃ (b off : Nat) (xs : Array Value) (x : InR),t.iA = some ⟨b,off,none⟩∧InB x xs∧x.prev.length = 32∧w.rangeAt b (off + k * 35) xs.toList∧t.ins[k]? = some x):=Lib.hid fun k hk => by
  have hp:=(h.is _ (List.getElem_mem hk)).p
  obtain ⟨b,off,h1,-,h2⟩:=in_at h.i (fun x hx => (h.is x hx).p) hk
  have hA:=InB.of hp
  exact ⟨b,off,_,_,h1,hA,hp,by rw [hA.l];exact h2,List.getElem?_eq_getElem hk⟩
 have HO : Hid (∀ k (h : k < t.outs.length),∃ (b off : Nat) (x : OutR),t.oA = some ⟨b,off,none⟩∧w.cell? ⟨b,off + k * 2,none⟩ = some (u64v x.val)∧w.cell? ⟨b,off + k * 2 + 1,none⟩ = some (.slice x.A x.sc.length x.cap)∧t.outs[k]? = some x):=Lib.hid fun k hk => by
  obtain ⟨b,off,h1,-,h2,h3⟩:=out_at h.o hk
  exact ⟨b,off,_,h1,h2,h3,List.getElem?_eq_getElem hk⟩
 have HIS:=Lib.hid h0.is;have HOS:=Lib.hid h0.os;have HK0:=Lib.hid hk0
 obtain ⟨ver,iA,ins,ic,oA,outs,oc,lock⟩:=t
 simp only at *
 clear h h0 hk0
 obtain ⟨n,hn⟩ : ∃ n,ins.length = n:=⟨_,rfl⟩
 obtain ⟨m,hm⟩ : ∃ m,outs.length = m:=⟨_,rfl⟩
 rw [hn] at HI hi ⊢
 rw [hm] at HO ho ⊢
 have HNN:=Lib.hid hn;have HMM:=Lib.hid hm
 clear hn hm
 obtain ⟨zs,hz1,hz2,hz3⟩:=zrin_letter
 go_enter Try.func20,Try.ntmps20
 go_upto_region 2 with fail
 obtain ⟨w1,hw1⟩ : ∃ w1,w1 = ((w.alloc (.cells #[u32v ver,.slice iA n ic,.slice oA m oc,u32v lock] 37)).alloc (.cells #[.int .u32 0,.slice none 0 0,.slice none 0 0,.int .u32 0] 47)).alloc (.cells #[u32v ver,.slice none 0 0,.slice none 0 0,u32v lock] 47):=⟨_,rfl⟩
 have HT1 : Hid (Blk w1 w.heap.size 37 [u32v ver,.slice iA n ic,.slice oA m oc,u32v lock]):=by rw [hw1];exact Lib.hid (((Blk.new w 37 [u32v ver,.slice iA n ic,.slice oA m oc,u32v lock]).alloc _).alloc _)
 have HR1 : Hid (Blk w1 (w.heap.size + 1) 47 [.int .u32 0,.slice none 0 0,.slice none 0 0,.int .u32 0]):=by
  rw [hw1]
  have q:=(Blk.new (w.alloc (.cells #[u32v ver,.slice iA n ic,.slice oA m oc,u32v lock] 37)) 47 [.int .u32 0,.slice none 0 0,.slice none 0 0,.int .u32 0]).alloc (.cells #[u32v ver,.slice none 0 0,.slice none 0 0,u32v lock] 47)
  rw [World.size_alloc] at q
  exact Lib.hid q
 have HX1 : Hid (Blk w1 (w.heap.size + 1 + 1) 47 [u32v ver,.slice none 0 0,.slice none 0 0,u32v lock]):=by
  rw [hw1]
  have q:=Blk.new ((w.alloc (.cells #[u32v ver,.slice iA n ic,.slice oA m oc,u32v lock] 37)).alloc (.cells #[.int .u32 0,.slice none 0 0,.slice none 0 0,.int .u32 0] 47)) 47 [u32v ver,.slice none 0 0,.slice none 0 0,u32v lock]
  rw [World.size_alloc,World.size_alloc] at q
  exact Lib.hid q
 have HK1 : Hid (Keep w w1):=by rw [hw1];exact Lib.hid (keep_trans (keep_new _ _) (keep_trans (keep_new _ _) (keep_new _ _)))
 rw [← hw1]
 clear hw1
 have C1 : Hid (([u32v ver,.slice iA n ic,.slice oA m oc,u32v lock] : List Value)[1]? = some (.slice iA n ic)):=Lib.hid rfl
 have C2 : Hid (([u32v ver,.slice iA n ic,.slice oA m oc,u32v lock] : List Value)[2]? = some (.slice oA m oc)):=Lib.hid rfl
 generalize ([u32v ver,.slice iA n ic,.slice oA m oc,u32v lock] : List Value) = TB at HT1 C1 C2
 have hgt : w.heap.size + 1 + 1 < w1.heap.size:=HX1.out.lt
 go_upto_block 0 with fail
 have HB1:=Lib.hid (Nat.le_refl w1.heap.size)
 obtain ⟨wb,hwb⟩ : ∃ wb,w1 = wb:=⟨_,rfl⟩
 have Own0 : Hid (w1.ownsRow wb.heap.size 100 35 (.slice none 0 0) 0 ((ins.take 0).flatMap InR.cells)):=Lib.hid (World.ownsRow_nil _ _ _ _)
 rw [hwb] at HT1 HR1 HX1 HK1 Own0 hgt ⊢
 clear hwb HB1
 go_cut [] (fun wx => ∃ vi : Value,Hid (Blk wx (w.heap.size + 1 + 1) 47 [u32v ver,vi,.slice none 0 0,u32v lock])∧Hid (wx.ownsRow wb.heap.size 100 35 vi n (ins.flatMap InR.cells))∧Hid (Blk wx w.heap.size 37 TB)∧Hid (Blk wx (w.heap.size + 1) 47 [.int .u32 0,.slice none 0 0,.slice none 0 0,.int .u32 0])∧Hid (Keep w wx)∧Hid (wb.heap.size ≤ wx.heap.size))
 case first =>
  go_wp2_with fail
  go_loopw [4] (fun x wr => ∃ (k : Nat) (vi : Value),k ≤ n∧x = .int .i64 k∧Hid (Blk wr (w.heap.size + 1 + 1) 47 [u32v ver,vi,.slice none 0 0,u32v lock])∧Hid (wr.ownsRow wb.heap.size 100 35 vi k ((ins.take k).flatMap InR.cells))∧Hid (Blk wr w.heap.size 37 TB)∧Hid (Blk wr (w.heap.size + 1) 47 [.int .u32 0,.slice none 0 0,.slice none 0 0,.int .u32 0])∧Hid (Keep w wr)∧Hid (wb.heap.size ≤ wr.heap.size)) (fun x _ => n - (intOf x).toNat)
  case atStart => exact ⟨0,.slice none 0 0,Nat.zero_le _,rfl,HX1,Own0,HT1,HR1,HK1,Lib.hid (Nat.le_refl _)⟩
  case round =>
   obtain ⟨k,vi,hk,rfl,HX,Own,HT,HR,HK,HS⟩:=hrel
   clear Own0 HX1 HT1 HR1 HK1
   have t1:=(HT.out.cell 1).trans C1.out
   by_cases hlt : k < n
   ·obtain ⟨b,off,xs,x,rfl,hxs,hp,hrg,hget⟩:=HI.out k hlt
    have hxz:=hxs.z;have hxn:=hxs.n;have hxi:=hxs.i
    have RX : Hid (wr.rangeAt b (off + k * 35) xs.toList):=Lib.hid fun j v hv => keep_cell HK.out (hrg j v hv)
    have hst : (storeCells ⟨wr.heap.size,0,none⟩ xs.toList 0).run Try.prog (wr.alloc (.cells zs 97)) = .ok () (wr.alloc (.cells xs 97)):=run_storeCells_new (P:=Try.prog) wr 97 zs xs hxi (hz1.trans hxz.symm) (by have:=all_oneCell_toArray hxs.o;rwa [Array.toArray_toList] at this)
    have d4 : (k : Int) < n:=by omega
    have HXS:=Lib.hid hxs;have HP:=Lib.hid hp
    have HGE:=Lib.hid hget
    clear hxs hrg hget hp HI
    go_upto_region 6 with ((with_reducible refine load_partg b (off + k * 35) xs (Eq.trans ?_ rfl) RX.out _ Try.underlying97 rfl hxi rfl ?_);rfl)
    obtain ⟨w2,hw2⟩ : ∃ w2,w2 = wr.alloc (.cells xs 97):=⟨_,rfl⟩
    have HG2 : Hid (Blk w2 wr.heap.size 97 xs.toList):=by rw [hw2];exact Lib.hid (Blk.new wr _ xs.toList)
    have HX2 : Hid (Blk w2 (w.heap.size + 1 + 1) 47 [u32v ver,vi,.slice none 0 0,u32v lock]):=by rw [hw2];exact Lib.hid (HX.out.alloc _)
    have HT2 : Hid (Blk w2 w.heap.size 37 TB):=by rw [hw2];exact Lib.hid (HT.out.alloc _)
    have HR2 : Hid (Blk w2 (w.heap.size + 1) 47 [.int .u32 0,.slice none 0 0,.slice none 0 0,.int .u32 0]):=by rw [hw2];exact Lib.hid (HR.out.alloc _)
    have Own2 : Hid (w2.ownsRow wb.heap.size 100 35 vi k ((ins.take k).flatMap InR.cells)):=by rw [hw2];exact Lib.hid (Own.out.alloc _)
    have HK2 : Hid (Keep w w2):=by rw [hw2];exact Lib.hid (keep_trans HK.out (keep_new _ _))
    have HS2 : Hid (wb.heap.size ≤ w2.heap.size):=by rw [hw2];exact Lib.hid (by have:=HS.out;simp;omega)
    rw [← hw2]
    clear hw2 hst RX HX HT HR Own HK HS t1
    generalize wr.heap.size = gx at *
    obtain ⟨ss,hss⟩ : ∃ ss,HashA x.prev ss:=⟨_,HashA.of HP.out⟩
    have hsn:=hss.n;have hsz:=hss.z;have hsi:=hss.i
    have HSS:=Lib.hid hss
    have hsl : xs.toList = ss.toList ++ [u32v x.ix,.slice x.A x.sc.length x.cap,u32v x.seq]:=by rw [HXS.out.l,HSS.out.l];rfl
    have hsll : ss.toList.length = 32:=by rw [Array.length_toList];exact hsz
    have RS : Hid (w2.rangeAt gx 0 ss.toList):=Lib.hid (range_of HG2.out 0 ss.toList (by rw [hsl,List.drop_zero,List.take_left' rfl]))
    have x32 : w2.cell? ⟨gx,32,none⟩ = some (u32v x.ix):=by rw [HG2.out.cell,hsl,List.getElem?_append_right (by omega),hsll];rfl
    have x33 : w2.cell? ⟨gx,33,none⟩ = some (.slice x.A x.sc.length x.cap):=by rw [HG2.out.cell,hsl,List.getElem?_append_right (by omega),hsll];rfl
    have x34 : w2.cell? ⟨gx,34,none⟩ = some (u32v x.seq):=by rw [HG2.out.cell,hsl,List.getElem?_append_right (by omega),hsll];rfl
    obtain ⟨es,hes⟩ : ∃ es : Array Value,es = (x.prev.map u8v ++ [u32v x.ix,.slice x.A x.sc.length x.cap,u32v x.seq]).toArray:=⟨_,rfl⟩
    have HBu : Hid (Try.prog.built 100 [(0,.agg ss),(1,u32v x.ix),(2,.slice x.A x.sc.length x.cap),(3,u32v x.seq)] = some es):=Lib.hid (by rw [hes];exact in_built _ _ _ _ _ _ _ HP.out HSS.out)
    have hel : es.toList = x.cells:=by rw [hes];rfl
    have hez : es.size = 35:=by rw [hes];simp [HP.out]
    have HEO : Hid (∀ v ∈ es.toList,v.oneCell' = true):=Lib.hid (by rw [hel];exact x.one)
    have HEL:=Lib.hid hel
    have y1:=HX2.out.cell 1
    simp only [List.getElem?_cons_succ,List.getElem?_cons_zero] at y1
    clear hss hes hel hsl hsll HXS HG2
    obtain ⟨Av,cv,rfl,-,-,-⟩:=own_form Own2.out
    go_wp2_with (first
     | ((with_reducible refine load_partg gx 0 ss (Eq.trans ?_ rfl) RS.out _ hash_under rfl hsi rfl ?_);rfl)
     | ((with_reducible refine list_bldg [(0,.agg ss),(1,u32v x.ix),(2,.slice x.A x.sc.length x.cap),(3,u32v x.seq)] es (Eq.trans ?_ rfl) HBu.out (Eq.trans ?_ rfl) ?_);rfl;rfl)
     | ((with_reducible refine list_build1h inT es hez (by omega) (Eq.trans ?_ rfl) ?_);rfl)
     | (at_builtin;refine wpList_app inT (by rfl) _ _ (by rfl) wb.heap.size _ k _ (by rfl) (Own2.out.alloc _) _ 1 1 es.toList (by rfl) (by rw [Array.length_toList,hez]) (by simpa using Rd.new w2 es.toList 100) HEO.out (by omega) (by unfold maxLen;omega) (by have:=HS2.out;simp;omega) ?_;intro v3 w3 own3 hg3 hat3;obtain ⟨Aw,cw,rfl,-,-,-⟩:=own_form own3;have HX3:=Lib.hid ((HX2.out.alloc (.cells es 100)).grown hg3 (fun q => by have:=(Own2.out.lt _ q).1;omega));have HT3:=Lib.hid ((HT2.out.alloc (.cells es 100)).grown hg3 (fun q => by have:=(Own2.out.lt _ q).1;omega));have HR3:=Lib.hid ((HR2.out.alloc (.cells es 100)).grown hg3 (fun q => by have:=(Own2.out.lt _ q).1;omega));have y3:=HX3.out.cell 1;have f3:=HX3.out.frozen 1;simp only [List.getElem?_cons_succ,List.getElem?_cons_zero] at y3;have Own3:=Lib.hid own3;have HK3 : Hid (Keep w w3):=Lib.hid (keep_grown (keep_trans HK2.out (keep_new _ _)) (by have:=HK2.out.size;simp;omega) hg3 (own_base (Own2.out.alloc (.cells es 100)) (by omega)));have HS3 : Hid (wb.heap.size ≤ w3.heap.size):=Lib.hid (by have:=HS2.out;have:=hg3.size;simp at this;omega);clear own3 hg3 hat3))
    obtain ⟨w4,hw4⟩ : ∃ w4,w4 = w3.setCell ⟨w.heap.size + 1 + 1,1,none⟩ (.slice Aw (k + 1) cw):=⟨_,rfl⟩
    have HX4 : Hid (Blk w4 (w.heap.size + 1 + 1) 47 [u32v ver,.slice Aw (k + 1) cw,.slice none 0 0,u32v lock]):=by rw [hw4];exact Lib.hid (HX3.out.set_ 1 (.slice Aw (k + 1) cw))
    have HT4 : Hid (Blk w4 w.heap.size 37 TB):=by rw [hw4];exact Lib.hid (HT3.out.far (by simp <;> omega) _)
    have HR4 : Hid (Blk w4 (w.heap.size + 1) 47 [.int .u32 0,.slice none 0 0,.slice none 0 0,.int .u32 0]):=by rw [hw4];exact Lib.hid (HR3.out.far (by simp) _)
    have Own4 : Hid (w4.ownsRow wb.heap.size 100 35 (.slice Aw (k + 1) cw) (k + 1) ((ins.take (k + 1)).flatMap InR.cells)):=by
     rw [hw4]
     refine Lib.hid (own_eq (ownsRow_setCell_below Own3.out (a:=⟨w.heap.size + 1 + 1,1,none⟩) (by omega) _) rfl ?_)
     rw [HEL.out,List.take_add_one,HGE.out,List.flatMap_append];simp
    have HK4 : Hid (Keep w w4):=by rw [hw4];exact Lib.hid (Below.setCell HK3.out (by simp <;> omega) _)
    have HS4 : Hid (wb.heap.size ≤ w4.heap.size):=by rw [hw4];exact Lib.hid (by have:=HS3.out;simpa using this)
    rw [← hw4]
    clear hw4 HX3 HT3 HR3 Own3 HK3 HS3 y3 f3 HX2 HT2 HR2 Own2 HK2 HS2 RS x32 x33 x34 y1 HBu HEO HEL HGE HSS HP
    go_roundw
    case rel => exact ⟨k + 1,_,by omega,by go_num,HX4,Own4,HT4,HR4,HK4,HS4⟩
    case measure => simp [intOf];omega
   ·obtain rfl : k = n:=by omega
    have d4 : ¬ (k : Int) < k:=by omega
    have OwnF : Hid (wr.ownsRow wb.heap.size 100 35 vi k (ins.flatMap InR.cells)):=Lib.hid (own_eq Own.out rfl (by rw [List.take_of_length_le (by rw [HNN.out];omega)]))
    clear HI Own
    go_wp2
    go_meet
    exact ⟨vi,HX,OwnF,HT,HR,HK,HS⟩
 case rest =>
  obtain ⟨vi,HX5,OwnI,HT5,HR5,HK5,HS5⟩:=hcut
  clear HX1 HT1 HR1 HK1 Own0 C1 HI
  obtain ⟨Avi,cvi,rfl,hcv1,hcv2,-⟩:=own_form OwnI.out
  have hg5:=HX5.out.lt
  go_wp2_with fail
  have OwnO : Hid (wc.ownsRow wc.heap.size 101 2 (.slice none 0 0) 0 ((outs.take 0).flatMap OutR.cells)):=Lib.hid (World.ownsRow_nil _ _ _ _)
  have KX5 : Hid (KeepX (fun k => k = w.heap.size + 1 + 1) wc wc):=Lib.hid (KeepX.of (Below.refl _ _))
  go_loopw [6] (fun x wr => ∃ (j : Nat) (vo : Value),j ≤ m∧x = .int .i64 j∧Hid (Blk wr (w.heap.size + 1 + 1) 47 [u32v ver,.slice Avi n cvi,vo,u32v lock])∧Hid (wr.ownsRow wc.heap.size 101 2 vo j ((outs.take j).flatMap OutR.cells))∧Hid (Blk wr w.heap.size 37 TB)∧Hid (Blk wr (w.heap.size + 1) 47 [.int .u32 0,.slice none 0 0,.slice none 0 0,.int .u32 0])∧Hid (Keep w wr)∧Hid (KeepX (fun k => k = w.heap.size + 1 + 1) wc wr)) (fun x _ => m - (intOf x).toNat)
  case atStart => exact ⟨0,.slice none 0 0,Nat.zero_le _,rfl,HX5,OwnO,HT5,HR5,HK5,KX5⟩
  case round =>
   obtain ⟨j,vo,hj,rfl,HX,Own,HT,HR,HK,KX⟩:=hrel
   clear OwnO KX5 HX5 HT5 HR5 HK5
   have t2:=(HT.out.cell 2).trans C2.out
   by_cases hlt : j < m
   ·obtain ⟨b,off,x,rfl,c0,c1,hget⟩:=HO.out j hlt
    have hbl : b < w.heap.size:=cell_lt c0
    have c0:=keep_cell HK.out c0;have c1:=keep_cell HK.out c1
    have d4 : (j : Int) < m:=by omega
    have HGE:=Lib.hid hget
    clear hget HO
    obtain ⟨Av,cv,rfl,-,-,-⟩:=own_form Own.out
    go_upto_region 10 with fail
    letI iM : G.Mk:=⟨(Value.slice Av j cv).ownBlock⟩
    refine G.wp_region_tree (.take [0,1,2,3,4,5,6,7,8,9,10,11,12,13,14] (.force [15,16] .done)) [17,18] (by kernel_rfl) (by kernel_rfl) (fun w8 k8 => ?_)
    have HX8:=Lib.hid (HX.out.keep k8);have Own8:=Lib.hid (own_keep Own.out k8);have HT8:=Lib.hid (HT.out.keep k8);have HR8:=Lib.hid (HR.out.keep k8);have HK8:=Lib.hid (keep_trans HK.out k8)
    have KX8 : Hid (KeepX (fun k => k = w.heap.size + 1 + 1) wc w8):=Lib.hid (KX.out.trans (KeepX.of k8) fun _ _ q => q)
    have c0:=keep_cell k8 c0;have c1:=keep_cell k8 c1
    clear k8 HX Own HT HR HK KX t2
    have hneX : G.Mk.m ≠ some (w.heap.size + 1 + 1):=fun q => by have:=(Own8.out.lt _ q).1;omega
    have hneT : G.Mk.m ≠ some w.heap.size:=fun q => by have:=(Own8.out.lt _ q).1;omega
    have hneB : G.Mk.m ≠ some b:=fun q => by have:=(Own8.out.lt _ q).1;omega
    have b0:=G.aftG_cell (HX8.out.cell 2) hneX
    have b1:=G.aftG_cell ((HT8.out.cell 2).trans C2.out) hneT
    have b2:=G.aftG_cell c0 hneB;have b3:=G.aftG_cell c1 hneB
    try simp only [List.getElem?_cons_succ,List.getElem?_cons_zero] at b0
    refine G.mt_take w8 (G.Gr.refl _) ?_
    simp only [pick_cons,pick_nil,nth_zero,nth_succ]
    repeat (go_big_quiet_step (fail))
    refine wpQuiet_nil (G.mt_force ?_)
    clear b0 b1 b2 b3 hneX hneT hneB c0 c1
    simp only [pick_cons,pick_nil,nth_zero,nth_succ]
    refine G.fc_step rfl (fun K hK => ?_)
    go_simp
    refine hK _ _ (G.Gr.of_keep (keep_new _ _)) ?_
    clear hK K
    obtain ⟨w9,hw9⟩ : ∃ w9,w9 = w8.alloc (.cells #[u64v x.val,.slice x.A x.sc.length x.cap] 101):=⟨_,rfl⟩
    have HL9 : Hid (Rd w9 (some ⟨w8.heap.size,0,none⟩) [u64v x.val,.slice x.A x.sc.length x.cap]):=by rw [hw9];exact Lib.hid (Rd.new w8 [u64v x.val,.slice x.A x.sc.length x.cap] 101)
    have k9 : Keep w8 w9:=by rw [hw9];exact keep_new _ _
    rw [← hw9]
    have HX9:=Lib.hid (HX8.out.keep k9);have Own9:=Lib.hid (own_keep Own8.out k9);have HT9:=Lib.hid (HT8.out.keep k9);have HR9:=Lib.hid (HR8.out.keep k9);have HK9:=Lib.hid (keep_trans HK8.out k9)
    have KX9 : Hid (KeepX (fun k => k = w.heap.size + 1 + 1) wc w9):=Lib.hid (KX8.out.trans (KeepX.of k9) fun _ _ q => q)
    clear hw9 k9 HX8 Own8 HT8 HR8 HK8 KX8
    have hs9:=KX9.out.2.2.2.1
    refine G.fc_step rfl (fun K hK => ?_)
    refine wp_app outT _ _ (by rfl) wc.heap.size _ j _ (by rfl) Own9.out _ 1 1 [u64v x.val,.slice x.A x.sc.length x.cap] (by rfl) (by rfl) HL9.out (by intro u hu;simp at hu;rcases hu with rfl | rfl <;> rfl) (by omega) (by unfold maxLen;omega) hs9 ?_
    intro v' wq ownq hgq hatq
    refine hK _ _ hgq ?_
    clear hK K HL9
    simp only [Act.put,Array.set!_eq_setIfInBounds,List.setIfInBounds_toArray,List.set_cons_succ,List.set_cons_zero]
    have HXq:=Lib.hid (HX9.out.grown hgq (fun q => by have:=(Own9.out.lt _ q).1;omega))
    have HTq:=Lib.hid (HT9.out.grown hgq (fun q => by have:=(Own9.out.lt _ q).1;omega))
    have HRq:=Lib.hid (HR9.out.grown hgq (fun q => by have:=(Own9.out.lt _ q).1;omega))
    have HKq : Hid (Keep w wq):=Lib.hid (keep_grown HK9.out HK9.out.size hgq (own_base Own9.out (by omega)))
    have KXq : Hid (KeepX (fun k => k = w.heap.size + 1 + 1) wc wq):=Lib.hid (KX9.out.grown hgq (fun i hi q => by have:=(Own9.out.lt _ q).1;omega))
    have Ownq:=Lib.hid ownq
    clear ownq hgq hatq HX9 HT9 HR9 HK9 KX9 Own9 hs9
    obtain ⟨Aw,cw,rfl,-,-,-⟩:=own_form Ownq.out
    have y3:=HXq.out.cell 2;have f3:=HXq.out.frozen 2
    simp only [List.getElem?_cons_succ,List.getElem?_cons_zero] at y3
    refine G.fc_nil (G.mt_end ?_)
    clear iM
    go_wp2
    obtain ⟨w4,hw4⟩ : ∃ w4,w4 = wq.setCell ⟨w.heap.size + 1 + 1,2,none⟩ (.slice Aw (j + 1) cw):=⟨_,rfl⟩
    have HX4 : Hid (Blk w4 (w.heap.size + 1 + 1) 47 [u32v ver,.slice Avi n cvi,.slice Aw (j + 1) cw,u32v lock]):=by rw [hw4];exact Lib.hid (HXq.out.set_ 2 (.slice Aw (j + 1) cw))
    have HT4 : Hid (Blk w4 w.heap.size 37 TB):=by rw [hw4];exact Lib.hid (HTq.out.far (by simp <;> omega) _)
    have HR4 : Hid (Blk w4 (w.heap.size + 1) 47 [.int .u32 0,.slice none 0 0,.slice none 0 0,.int .u32 0]):=by rw [hw4];exact Lib.hid (HRq.out.far (by simp) _)
    have Own4 : Hid (w4.ownsRow wc.heap.size 101 2 (.slice Aw (j + 1) cw) (j + 1) ((outs.take (j + 1)).flatMap OutR.cells)):=by
     rw [hw4]
     refine Lib.hid (own_eq (ownsRow_setCell_below Ownq.out (a:=⟨w.heap.size + 1 + 1,2,none⟩) (by omega) _) rfl ?_)
     rw [List.take_add_one,HGE.out,List.flatMap_append];simp [OutR.cells]
    have HK4 : Hid (Keep w w4):=by rw [hw4];exact Lib.hid (Below.setCell HKq.out (by simp <;> omega) _)
    have KX4 : Hid (KeepX (fun k => k = w.heap.size + 1 + 1) wc w4):=by rw [hw4];exact Lib.hid (KeepB.set KXq.out 2 _)
    rw [← hw4]
    clear hw4 HXq HTq HRq Ownq HKq KXq y3 f3 HGE
    go_roundw
    case rel => exact ⟨j + 1,_,by omega,by go_num,HX4,Own4,HT4,HR4,HK4,KX4⟩
    case measure => simp [intOf];omega
   ·obtain rfl : j = m:=by omega
    have d4 : ¬ (j : Int) < j:=by omega
    have OwnF : Hid (wr.ownsRow wc.heap.size 101 2 vo j (outs.flatMap OutR.cells)):=Lib.hid (own_eq Own.out rfl (by rw [List.take_of_length_le (by rw [HMM.out];omega)]))
    clear HO Own
    obtain ⟨Avo,cvo,rfl,hco1,hco2,-⟩:=own_form OwnF.out
    have OwnJ:=Lib.hid (own_kx OwnI.out KX.out (fun g q e => by have:=(OwnI.out.lt g q).1;omega))
    have x0:=HX.out.cell 0;have x1:=HX.out.cell 1;have x2:=HX.out.cell 2;have x3:=HX.out.cell 3
    have z0:=HR.out.cell 0;have z1:=HR.out.cell 1;have z2:=HR.out.cell 2;have z3:=HR.out.cell 3
    have f0:=HR.out.frozen 0;have f1:=HR.out.frozen 1;have f2:=HR.out.frozen 2;have f3:=HR.out.frozen 3
    simp only [List.getElem?_cons_succ,List.getElem?_cons_zero] at x0 x1 x2 x3 z0 z1 z2 z3
    go_wp2
    have HRF:=((((HR.out.set_ 0 (u32v ver)).set_ 1 (.slice Avi n cvi)).set_ 2 (.slice Avo j cvo)).set_ 3 (u32v lock))
    have KF:=KeepB.set (KeepB.set (KeepB.set (KeepB.set (S:=w.heap.size + 1) (KeepX.of (Below.refl wr.heap.size wr)) 0 (u32v ver)) 1 (.slice Avi n cvi)) 2 (.slice Avo j cvo)) 3 (u32v lock)
    have KW:=Below.setCell (Below.setCell (Below.setCell (Below.setCell HK.out (p:=⟨w.heap.size + 1,0,none⟩) (by simp) (u32v ver)) (p:=⟨w.heap.size + 1,1,none⟩) (by simp) (.slice Avi n cvi)) (p:=⟨w.heap.size + 1,2,none⟩) (by simp) (.slice Avo j cvo)) (p:=⟨w.heap.size + 1,3,none⟩) (by simp) (u32v lock)
    have o1:=own_kx OwnJ.out KF (fun g q e => by have:=(OwnJ.out.lt g q).1;omega)
    have o2:=own_kx OwnF.out KF (fun g q e => by have:=(OwnF.out.lt g q).1;omega)
    exact bodyPost_ret (v:=.agg #[u32v ver,.slice Avi n cvi,.slice Avo j cvo,u32v lock]) (results_cell_row Try.results20 _ _ (w.heap.size + 1) _ _ _ _ rfl HRF Try.underlying47 rfl (by kernel_rfl)) rfl
     ⟨Avi,cvi,Avo,cvo,rfl,fun W hm => ⟨own_mid o1 (by omega) hm,own_mid o2 (by omega) hm,⟨by rw [HNN.out];exact hcv1,hcv2⟩,⟨by rw [HMM.out];exact hco1,hco2⟩,fun x hx => (HIS.out x hx).keep hm.1,fun x hx => (HOS.out x hx).keep hm.1⟩,KW⟩
set_option maxRecDepth 100000 in
set_option maxHeartbeats 4000000 in
theorem theirs_any (t : TxR) (w0 w : World) (h0 : t.at w0) (hk0 : Keep w0 w) (hi : t.ins.length ≤ 1000000) (ho : t.outs.length ≤ 1000000) :
  Calls Try.prog 41 #[.agg #[u32v t.ver,.slice t.iA t.ins.length t.ic,.slice t.oA t.outs.length t.oc,u32v t.lock]] w fun e w' => ∃ iA ic oA oc,e = .returned (.agg #[u32v t.ver,.slice iA t.ins.length ic,.slice oA t.outs.length oc,u32v t.lock])∧(∀ W,Mid w0 w w' W → TxR.at ⟨t.ver,iA,t.ins,ic,oA,t.outs,oc,t.lock⟩ W)∧Keep w w':=by
 have h:=h0.keep hk0
 have HI : Hid (∀ k (h : k < t.ins.length),∃ (b off : Nat) (xs : Array Value) (x : InR),t.iA = some ⟨b,off,none⟩∧InA x xs∧x.prev.length = 32∧w.rangeAt b (off + k * 35) xs.toList∧t.ins[k]? = some x):=Lib.hid fun k hk => by
  have hp:=(h.is _ (List.getElem_mem hk)).p
  obtain ⟨b,off,h1,-,h2⟩:=in_at h.i (fun x hx => (h.is x hx).p) hk
  have hA:=InA.of hp
  exact ⟨b,off,_,_,h1,hA,hp,by rw [hA.l];exact h2,List.getElem?_eq_getElem hk⟩
 have HO : Hid (∀ k (h : k < t.outs.length),∃ (b off : Nat) (x : OutR),t.oA = some ⟨b,off,none⟩∧w.cell? ⟨b,off + k * 2,none⟩ = some (u64v x.val)∧w.cell? ⟨b,off + k * 2 + 1,none⟩ = some (.slice x.A x.sc.length x.cap)∧t.outs[k]? = some x):=Lib.hid fun k hk => by
  obtain ⟨b,off,h1,-,h2,h3⟩:=out_at h.o hk
  exact ⟨b,off,_,h1,h2,h3,List.getElem?_eq_getElem hk⟩
 have HIS:=Lib.hid h0.is;have HOS:=Lib.hid h0.os;have HK0:=Lib.hid hk0
 obtain ⟨ver,iA,ins,ic,oA,outs,oc,lock⟩:=t
 simp only at *
 clear h h0 hk0
 obtain ⟨n,hn⟩ : ∃ n,ins.length = n:=⟨_,rfl⟩
 obtain ⟨m,hm⟩ : ∃ m,outs.length = m:=⟨_,rfl⟩
 rw [hn] at HI hi ⊢
 rw [hm] at HO ho ⊢
 have HNN:=Lib.hid hn;have HMM:=Lib.hid hm
 clear hn hm
 obtain ⟨zs,hz1,hz2,hz3⟩:=zin_letter0
 go_enter Try.func41,Try.ntmps41
 go_upto_region 2 with fail
 obtain ⟨w1,hw1⟩ : ∃ w1,w1 = ((w.alloc (.cells #[u32v ver,.slice iA n ic,.slice oA m oc,u32v lock] 47)).alloc (.cells #[.int .u32 0,.slice none 0 0,.slice none 0 0,.int .u32 0] 37)).alloc (.cells #[u32v ver,.slice none 0 0,.slice none 0 0,u32v lock] 37):=⟨_,rfl⟩
 have HT1 : Hid (Blk w1 w.heap.size 47 [u32v ver,.slice iA n ic,.slice oA m oc,u32v lock]):=by rw [hw1];exact Lib.hid (((Blk.new w 47 [u32v ver,.slice iA n ic,.slice oA m oc,u32v lock]).alloc _).alloc _)
 have HR1 : Hid (Blk w1 (w.heap.size + 1) 37 [.int .u32 0,.slice none 0 0,.slice none 0 0,.int .u32 0]):=by
  rw [hw1]
  have q:=(Blk.new (w.alloc (.cells #[u32v ver,.slice iA n ic,.slice oA m oc,u32v lock] 47)) 37 [.int .u32 0,.slice none 0 0,.slice none 0 0,.int .u32 0]).alloc (.cells #[u32v ver,.slice none 0 0,.slice none 0 0,u32v lock] 37)
  rw [World.size_alloc] at q
  exact Lib.hid q
 have HX1 : Hid (Blk w1 (w.heap.size + 1 + 1) 37 [u32v ver,.slice none 0 0,.slice none 0 0,u32v lock]):=by
  rw [hw1]
  have q:=Blk.new ((w.alloc (.cells #[u32v ver,.slice iA n ic,.slice oA m oc,u32v lock] 47)).alloc (.cells #[.int .u32 0,.slice none 0 0,.slice none 0 0,.int .u32 0] 37)) 37 [u32v ver,.slice none 0 0,.slice none 0 0,u32v lock]
  rw [World.size_alloc,World.size_alloc] at q
  exact Lib.hid q
 have HK1 : Hid (Keep w w1):=by rw [hw1];exact Lib.hid (keep_trans (keep_new _ _) (keep_trans (keep_new _ _) (keep_new _ _)))
 rw [← hw1]
 clear hw1
 have C1 : Hid (([u32v ver,.slice iA n ic,.slice oA m oc,u32v lock] : List Value)[1]? = some (.slice iA n ic)):=Lib.hid rfl
 have C2 : Hid (([u32v ver,.slice iA n ic,.slice oA m oc,u32v lock] : List Value)[2]? = some (.slice oA m oc)):=Lib.hid rfl
 generalize ([u32v ver,.slice iA n ic,.slice oA m oc,u32v lock] : List Value) = TB at HT1 C1 C2
 have hgt : w.heap.size + 1 + 1 < w1.heap.size:=HX1.out.lt
 go_upto_block 0 with fail
 have HB1:=Lib.hid (Nat.le_refl w1.heap.size)
 obtain ⟨wb,hwb⟩ : ∃ wb,w1 = wb:=⟨_,rfl⟩
 have Own0 : Hid (w1.ownsRow wb.heap.size 97 35 (.slice none 0 0) 0 ((ins.take 0).flatMap InR.cells)):=Lib.hid (World.ownsRow_nil _ _ _ _)
 rw [hwb] at HT1 HR1 HX1 HK1 Own0 hgt ⊢
 clear hwb HB1
 go_cut [] (fun wx => ∃ vi : Value,Hid (Blk wx (w.heap.size + 1 + 1) 37 [u32v ver,vi,.slice none 0 0,u32v lock])∧Hid (wx.ownsRow wb.heap.size 97 35 vi n (ins.flatMap InR.cells))∧Hid (Blk wx w.heap.size 47 TB)∧Hid (Blk wx (w.heap.size + 1) 37 [.int .u32 0,.slice none 0 0,.slice none 0 0,.int .u32 0])∧Hid (Keep w wx)∧Hid (wb.heap.size ≤ wx.heap.size))
 case first =>
  go_wp2_with fail
  go_loopw [4] (fun x wr => ∃ (k : Nat) (vi : Value),k ≤ n∧x = .int .i64 k∧Hid (Blk wr (w.heap.size + 1 + 1) 37 [u32v ver,vi,.slice none 0 0,u32v lock])∧Hid (wr.ownsRow wb.heap.size 97 35 vi k ((ins.take k).flatMap InR.cells))∧Hid (Blk wr w.heap.size 47 TB)∧Hid (Blk wr (w.heap.size + 1) 37 [.int .u32 0,.slice none 0 0,.slice none 0 0,.int .u32 0])∧Hid (Keep w wr)∧Hid (wb.heap.size ≤ wr.heap.size)) (fun x _ => n - (intOf x).toNat)
  case atStart => exact ⟨0,.slice none 0 0,Nat.zero_le _,rfl,HX1,Own0,HT1,HR1,HK1,Lib.hid (Nat.le_refl _)⟩
  case round =>
   obtain ⟨k,vi,hk,rfl,HX,Own,HT,HR,HK,HS⟩:=hrel
   clear Own0 HX1 HT1 HR1 HK1
   have t1:=(HT.out.cell 1).trans C1.out
   by_cases hlt : k < n
   ·obtain ⟨b,off,xs,x,rfl,hxs,hp,hrg,hget⟩:=HI.out k hlt
    have hxz:=hxs.z;have hxn:=hxs.n;have hxi:=hxs.i
    have RX : Hid (wr.rangeAt b (off + k * 35) xs.toList):=Lib.hid fun j v hv => keep_cell HK.out (hrg j v hv)
    have hst : (storeCells ⟨wr.heap.size,0,none⟩ xs.toList 0).run Try.prog (wr.alloc (.cells zs 100)) = .ok () (wr.alloc (.cells xs 100)):=run_storeCells_new (P:=Try.prog) wr 100 zs xs hxi (hz1.trans hxz.symm) (by have:=all_oneCell_toArray hxs.o;rwa [Array.toArray_toList] at this)
    have d4 : (k : Int) < n:=by omega
    have HXS:=Lib.hid hxs;have HP:=Lib.hid hp
    have HGE:=Lib.hid hget
    clear hxs hrg hget hp HI
    go_upto_region 6 with ((with_reducible refine load_partg b (off + k * 35) xs (Eq.trans ?_ rfl) RX.out _ Try.underlying100 rfl hxi rfl ?_);rfl)
    obtain ⟨w2,hw2⟩ : ∃ w2,w2 = wr.alloc (.cells xs 100):=⟨_,rfl⟩
    have HG2 : Hid (Blk w2 wr.heap.size 100 xs.toList):=by rw [hw2];exact Lib.hid (Blk.new wr _ xs.toList)
    have HX2 : Hid (Blk w2 (w.heap.size + 1 + 1) 37 [u32v ver,vi,.slice none 0 0,u32v lock]):=by rw [hw2];exact Lib.hid (HX.out.alloc _)
    have HT2 : Hid (Blk w2 w.heap.size 47 TB):=by rw [hw2];exact Lib.hid (HT.out.alloc _)
    have HR2 : Hid (Blk w2 (w.heap.size + 1) 37 [.int .u32 0,.slice none 0 0,.slice none 0 0,.int .u32 0]):=by rw [hw2];exact Lib.hid (HR.out.alloc _)
    have Own2 : Hid (w2.ownsRow wb.heap.size 97 35 vi k ((ins.take k).flatMap InR.cells)):=by rw [hw2];exact Lib.hid (Own.out.alloc _)
    have HK2 : Hid (Keep w w2):=by rw [hw2];exact Lib.hid (keep_trans HK.out (keep_new _ _))
    have HS2 : Hid (wb.heap.size ≤ w2.heap.size):=by rw [hw2];exact Lib.hid (by have:=HS.out;simp;omega)
    rw [← hw2]
    clear hw2 hst RX HX HT HR Own HK HS t1
    generalize wr.heap.size = gx at *
    obtain ⟨ss,hss⟩ : ∃ ss,HashA x.prev ss:=⟨_,HashA.of HP.out⟩
    have hsn:=hss.n;have hsz:=hss.z;have hsi:=hss.i
    have HSS:=Lib.hid hss
    have hsl : xs.toList = ss.toList ++ [u32v x.ix,.slice x.A x.sc.length x.cap,u32v x.seq]:=by rw [HXS.out.l,HSS.out.l];rfl
    have hsll : ss.toList.length = 32:=by rw [Array.length_toList];exact hsz
    have RS : Hid (w2.rangeAt gx 0 ss.toList):=Lib.hid (range_of HG2.out 0 ss.toList (by rw [hsl,List.drop_zero,List.take_left' rfl]))
    have x32 : w2.cell? ⟨gx,32,none⟩ = some (u32v x.ix):=by rw [HG2.out.cell,hsl,List.getElem?_append_right (by omega),hsll];rfl
    have x33 : w2.cell? ⟨gx,33,none⟩ = some (.slice x.A x.sc.length x.cap):=by rw [HG2.out.cell,hsl,List.getElem?_append_right (by omega),hsll];rfl
    have x34 : w2.cell? ⟨gx,34,none⟩ = some (u32v x.seq):=by rw [HG2.out.cell,hsl,List.getElem?_append_right (by omega),hsll];rfl
    obtain ⟨es,hes⟩ : ∃ es : Array Value,es = (x.prev.map u8v ++ [u32v x.ix,.slice x.A x.sc.length x.cap,u32v x.seq]).toArray:=⟨_,rfl⟩
    have HBu : Hid (Try.prog.built 97 [(0,.agg ss),(1,u32v x.ix),(2,.slice x.A x.sc.length x.cap),(3,u32v x.seq)] = some es):=Lib.hid (by rw [hes];exact rin_built _ _ _ _ _ _ _ HP.out HSS.out)
    have hel : es.toList = x.cells:=by rw [hes];rfl
    have hez : es.size = 35:=by rw [hes];simp [HP.out]
    have HEO : Hid (∀ v ∈ es.toList,v.oneCell' = true):=Lib.hid (by rw [hel];exact x.one)
    have HEL:=Lib.hid hel
    have y1:=HX2.out.cell 1
    simp only [List.getElem?_cons_succ,List.getElem?_cons_zero] at y1
    clear hss hes hel hsl hsll HXS HG2
    obtain ⟨Av,cv,rfl,-,-,-⟩:=own_form Own2.out
    go_wp2_with (first
     | ((with_reducible refine load_partg gx 0 ss (Eq.trans ?_ rfl) RS.out _ hash_under rfl hsi rfl ?_);rfl)
     | ((with_reducible refine list_bldg [(0,.agg ss),(1,u32v x.ix),(2,.slice x.A x.sc.length x.cap),(3,u32v x.seq)] es (Eq.trans ?_ rfl) HBu.out (Eq.trans ?_ rfl) ?_);rfl;rfl)
     | ((with_reducible refine list_build1h rinT es hez (by omega) (Eq.trans ?_ rfl) ?_);rfl)
     | (at_builtin;refine wpList_app rinT (by rfl) _ _ (by rfl) wb.heap.size _ k _ (by rfl) (Own2.out.alloc _) _ 1 1 es.toList (by rfl) (by rw [Array.length_toList,hez]) (by simpa using Rd.new w2 es.toList 97) HEO.out (by omega) (by unfold maxLen;omega) (by have:=HS2.out;simp;omega) ?_;intro v3 w3 own3 hg3 hat3;obtain ⟨Aw,cw,rfl,-,-,-⟩:=own_form own3;have HX3:=Lib.hid ((HX2.out.alloc (.cells es 97)).grown hg3 (fun q => by have:=(Own2.out.lt _ q).1;omega));have HT3:=Lib.hid ((HT2.out.alloc (.cells es 97)).grown hg3 (fun q => by have:=(Own2.out.lt _ q).1;omega));have HR3:=Lib.hid ((HR2.out.alloc (.cells es 97)).grown hg3 (fun q => by have:=(Own2.out.lt _ q).1;omega));have y3:=HX3.out.cell 1;have f3:=HX3.out.frozen 1;simp only [List.getElem?_cons_succ,List.getElem?_cons_zero] at y3;have Own3:=Lib.hid own3;have HK3 : Hid (Keep w w3):=Lib.hid (keep_grown (keep_trans HK2.out (keep_new _ _)) (by have:=HK2.out.size;simp;omega) hg3 (own_base (Own2.out.alloc (.cells es 97)) (by omega)));have HS3 : Hid (wb.heap.size ≤ w3.heap.size):=Lib.hid (by have:=HS2.out;have:=hg3.size;simp at this;omega);clear own3 hg3 hat3))
    obtain ⟨w4,hw4⟩ : ∃ w4,w4 = w3.setCell ⟨w.heap.size + 1 + 1,1,none⟩ (.slice Aw (k + 1) cw):=⟨_,rfl⟩
    have HX4 : Hid (Blk w4 (w.heap.size + 1 + 1) 37 [u32v ver,.slice Aw (k + 1) cw,.slice none 0 0,u32v lock]):=by rw [hw4];exact Lib.hid (HX3.out.set_ 1 (.slice Aw (k + 1) cw))
    have HT4 : Hid (Blk w4 w.heap.size 47 TB):=by rw [hw4];exact Lib.hid (HT3.out.far (by simp <;> omega) _)
    have HR4 : Hid (Blk w4 (w.heap.size + 1) 37 [.int .u32 0,.slice none 0 0,.slice none 0 0,.int .u32 0]):=by rw [hw4];exact Lib.hid (HR3.out.far (by simp) _)
    have Own4 : Hid (w4.ownsRow wb.heap.size 97 35 (.slice Aw (k + 1) cw) (k + 1) ((ins.take (k + 1)).flatMap InR.cells)):=by
     rw [hw4]
     refine Lib.hid (own_eq (ownsRow_setCell_below Own3.out (a:=⟨w.heap.size + 1 + 1,1,none⟩) (by omega) _) rfl ?_)
     rw [HEL.out,List.take_add_one,HGE.out,List.flatMap_append];simp
    have HK4 : Hid (Keep w w4):=by rw [hw4];exact Lib.hid (Below.setCell HK3.out (by simp <;> omega) _)
    have HS4 : Hid (wb.heap.size ≤ w4.heap.size):=by rw [hw4];exact Lib.hid (by have:=HS3.out;simpa using this)
    rw [← hw4]
    clear hw4 HX3 HT3 HR3 Own3 HK3 HS3 y3 f3 HX2 HT2 HR2 Own2 HK2 HS2 RS x32 x33 x34 y1 HBu HEO HEL HGE HSS HP
    go_roundw
    case rel => exact ⟨k + 1,_,by omega,by go_num,HX4,Own4,HT4,HR4,HK4,HS4⟩
    case measure => simp [intOf];omega
   ·obtain rfl : k = n:=by omega
    have d4 : ¬ (k : Int) < k:=by omega
    have OwnF : Hid (wr.ownsRow wb.heap.size 97 35 vi k (ins.flatMap InR.cells)):=Lib.hid (own_eq Own.out rfl (by rw [List.take_of_length_le (by rw [HNN.out];omega)]))
    clear HI Own
    go_wp2
    go_meet
    exact ⟨vi,HX,OwnF,HT,HR,HK,HS⟩
 case rest =>
  obtain ⟨vi,HX5,OwnI,HT5,HR5,HK5,HS5⟩:=hcut
  clear HX1 HT1 HR1 HK1 Own0 C1 HI
  obtain ⟨Avi,cvi,rfl,hcv1,hcv2,-⟩:=own_form OwnI.out
  have hg5:=HX5.out.lt
  go_wp2_with fail
  have OwnO : Hid (wc.ownsRow wc.heap.size 99 2 (.slice none 0 0) 0 ((outs.take 0).flatMap OutR.cells)):=Lib.hid (World.ownsRow_nil _ _ _ _)
  have KX5 : Hid (KeepX (fun k => k = w.heap.size + 1 + 1) wc wc):=Lib.hid (KeepX.of (Below.refl _ _))
  go_loopw [6] (fun x wr => ∃ (j : Nat) (vo : Value),j ≤ m∧x = .int .i64 j∧Hid (Blk wr (w.heap.size + 1 + 1) 37 [u32v ver,.slice Avi n cvi,vo,u32v lock])∧Hid (wr.ownsRow wc.heap.size 99 2 vo j ((outs.take j).flatMap OutR.cells))∧Hid (Blk wr w.heap.size 47 TB)∧Hid (Blk wr (w.heap.size + 1) 37 [.int .u32 0,.slice none 0 0,.slice none 0 0,.int .u32 0])∧Hid (Keep w wr)∧Hid (KeepX (fun k => k = w.heap.size + 1 + 1) wc wr)) (fun x _ => m - (intOf x).toNat)
  case atStart => exact ⟨0,.slice none 0 0,Nat.zero_le _,rfl,HX5,OwnO,HT5,HR5,HK5,KX5⟩
  case round =>
   obtain ⟨j,vo,hj,rfl,HX,Own,HT,HR,HK,KX⟩:=hrel
   clear OwnO KX5 HX5 HT5 HR5 HK5
   have t2:=(HT.out.cell 2).trans C2.out
   by_cases hlt : j < m
   ·obtain ⟨b,off,x,rfl,c0,c1,hget⟩:=HO.out j hlt
    have hbl : b < w.heap.size:=cell_lt c0
    have c0:=keep_cell HK.out c0;have c1:=keep_cell HK.out c1
    have d4 : (j : Int) < m:=by omega
    have HGE:=Lib.hid hget
    clear hget HO
    obtain ⟨Av,cv,rfl,-,-,-⟩:=own_form Own.out
    go_upto_region 10 with fail
    letI iM : G.Mk:=⟨(Value.slice Av j cv).ownBlock⟩
    refine G.wp_region_tree (.take [0,1,2,3,4,5,6,7,8,9,10,11,12,13,14] (.force [15,16] .done)) [17,18] (by kernel_rfl) (by kernel_rfl) (fun w8 k8 => ?_)
    have HX8:=Lib.hid (HX.out.keep k8);have Own8:=Lib.hid (own_keep Own.out k8);have HT8:=Lib.hid (HT.out.keep k8);have HR8:=Lib.hid (HR.out.keep k8);have HK8:=Lib.hid (keep_trans HK.out k8)
    have KX8 : Hid (KeepX (fun k => k = w.heap.size + 1 + 1) wc w8):=Lib.hid (KX.out.trans (KeepX.of k8) fun _ _ q => q)
    have c0:=keep_cell k8 c0;have c1:=keep_cell k8 c1
    clear k8 HX Own HT HR HK KX t2
    have hneX : G.Mk.m ≠ some (w.heap.size + 1 + 1):=fun q => by have:=(Own8.out.lt _ q).1;omega
    have hneT : G.Mk.m ≠ some w.heap.size:=fun q => by have:=(Own8.out.lt _ q).1;omega
    have hneB : G.Mk.m ≠ some b:=fun q => by have:=(Own8.out.lt _ q).1;omega
    have b0:=G.aftG_cell (HX8.out.cell 2) hneX
    have b1:=G.aftG_cell ((HT8.out.cell 2).trans C2.out) hneT
    have b2:=G.aftG_cell c0 hneB;have b3:=G.aftG_cell c1 hneB
    try simp only [List.getElem?_cons_succ,List.getElem?_cons_zero] at b0
    refine G.mt_take w8 (G.Gr.refl _) ?_
    simp only [pick_cons,pick_nil,nth_zero,nth_succ]
    repeat (go_big_quiet_step (fail))
    refine wpQuiet_nil (G.mt_force ?_)
    clear b0 b1 b2 b3 hneX hneT hneB c0 c1
    simp only [pick_cons,pick_nil,nth_zero,nth_succ]
    refine G.fc_step rfl (fun K hK => ?_)
    go_simp
    refine hK _ _ (G.Gr.of_keep (keep_new _ _)) ?_
    clear hK K
    obtain ⟨w9,hw9⟩ : ∃ w9,w9 = w8.alloc (.cells #[u64v x.val,.slice x.A x.sc.length x.cap] 99):=⟨_,rfl⟩
    have HL9 : Hid (Rd w9 (some ⟨w8.heap.size,0,none⟩) [u64v x.val,.slice x.A x.sc.length x.cap]):=by rw [hw9];exact Lib.hid (Rd.new w8 [u64v x.val,.slice x.A x.sc.length x.cap] 99)
    have k9 : Keep w8 w9:=by rw [hw9];exact keep_new _ _
    rw [← hw9]
    have HX9:=Lib.hid (HX8.out.keep k9);have Own9:=Lib.hid (own_keep Own8.out k9);have HT9:=Lib.hid (HT8.out.keep k9);have HR9:=Lib.hid (HR8.out.keep k9);have HK9:=Lib.hid (keep_trans HK8.out k9)
    have KX9 : Hid (KeepX (fun k => k = w.heap.size + 1 + 1) wc w9):=Lib.hid (KX8.out.trans (KeepX.of k9) fun _ _ q => q)
    clear hw9 k9 HX8 Own8 HT8 HR8 HK8 KX8
    have hs9:=KX9.out.2.2.2.1
    refine G.fc_step rfl (fun K hK => ?_)
    refine wp_app routT _ _ (by rfl) wc.heap.size _ j _ (by rfl) Own9.out _ 1 1 [u64v x.val,.slice x.A x.sc.length x.cap] (by rfl) (by rfl) HL9.out (by intro u hu;simp at hu;rcases hu with rfl | rfl <;> rfl) (by omega) (by unfold maxLen;omega) hs9 ?_
    intro v' wq ownq hgq hatq
    refine hK _ _ hgq ?_
    clear hK K HL9
    simp only [Act.put,Array.set!_eq_setIfInBounds,List.setIfInBounds_toArray,List.set_cons_succ,List.set_cons_zero]
    have HXq:=Lib.hid (HX9.out.grown hgq (fun q => by have:=(Own9.out.lt _ q).1;omega))
    have HTq:=Lib.hid (HT9.out.grown hgq (fun q => by have:=(Own9.out.lt _ q).1;omega))
    have HRq:=Lib.hid (HR9.out.grown hgq (fun q => by have:=(Own9.out.lt _ q).1;omega))
    have HKq : Hid (Keep w wq):=Lib.hid (keep_grown HK9.out HK9.out.size hgq (own_base Own9.out (by omega)))
    have KXq : Hid (KeepX (fun k => k = w.heap.size + 1 + 1) wc wq):=Lib.hid (KX9.out.grown hgq (fun i hi q => by have:=(Own9.out.lt _ q).1;omega))
    have Ownq:=Lib.hid ownq
    clear ownq hgq hatq HX9 HT9 HR9 HK9 KX9 Own9 hs9
    obtain ⟨Aw,cw,rfl,-,-,-⟩:=own_form Ownq.out
    have y3:=HXq.out.cell 2;have f3:=HXq.out.frozen 2
    simp only [List.getElem?_cons_succ,List.getElem?_cons_zero] at y3
    refine G.fc_nil (G.mt_end ?_)
    clear iM
    go_wp2
    obtain ⟨w4,hw4⟩ : ∃ w4,w4 = wq.setCell ⟨w.heap.size + 1 + 1,2,none⟩ (.slice Aw (j + 1) cw):=⟨_,rfl⟩
    have HX4 : Hid (Blk w4 (w.heap.size + 1 + 1) 37 [u32v ver,.slice Avi n cvi,.slice Aw (j + 1) cw,u32v lock]):=by rw [hw4];exact Lib.hid (HXq.out.set_ 2 (.slice Aw (j + 1) cw))
    have HT4 : Hid (Blk w4 w.heap.size 47 TB):=by rw [hw4];exact Lib.hid (HTq.out.far (by simp <;> omega) _)
    have HR4 : Hid (Blk w4 (w.heap.size + 1) 37 [.int .u32 0,.slice none 0 0,.slice none 0 0,.int .u32 0]):=by rw [hw4];exact Lib.hid (HRq.out.far (by simp) _)
    have Own4 : Hid (w4.ownsRow wc.heap.size 99 2 (.slice Aw (j + 1) cw) (j + 1) ((outs.take (j + 1)).flatMap OutR.cells)):=by
     rw [hw4]
     refine Lib.hid (own_eq (ownsRow_setCell_below Ownq.out (a:=⟨w.heap.size + 1 + 1,2,none⟩) (by omega) _) rfl ?_)
     rw [List.take_add_one,HGE.out,List.flatMap_append];simp [OutR.cells]
    have HK4 : Hid (Keep w w4):=by rw [hw4];exact Lib.hid (Below.setCell HKq.out (by simp <;> omega) _)
    have KX4 : Hid (KeepX (fun k => k = w.heap.size + 1 + 1) wc w4):=by rw [hw4];exact Lib.hid (KeepB.set KXq.out 2 _)
    rw [← hw4]
    clear hw4 HXq HTq HRq Ownq HKq KXq y3 f3 HGE
    go_roundw
    case rel => exact ⟨j + 1,_,by omega,by go_num,HX4,Own4,HT4,HR4,HK4,KX4⟩
    case measure => simp [intOf];omega
   ·obtain rfl : j = m:=by omega
    have d4 : ¬ (j : Int) < j:=by omega
    have OwnF : Hid (wr.ownsRow wc.heap.size 99 2 vo j (outs.flatMap OutR.cells)):=Lib.hid (own_eq Own.out rfl (by rw [List.take_of_length_le (by rw [HMM.out];omega)]))
    clear HO Own
    obtain ⟨Avo,cvo,rfl,hco1,hco2,-⟩:=own_form OwnF.out
    have OwnJ:=Lib.hid (own_kx OwnI.out KX.out (fun g q e => by have:=(OwnI.out.lt g q).1;omega))
    have x0:=HX.out.cell 0;have x1:=HX.out.cell 1;have x2:=HX.out.cell 2;have x3:=HX.out.cell 3
    have z0:=HR.out.cell 0;have z1:=HR.out.cell 1;have z2:=HR.out.cell 2;have z3:=HR.out.cell 3
    have f0:=HR.out.frozen 0;have f1:=HR.out.frozen 1;have f2:=HR.out.frozen 2;have f3:=HR.out.frozen 3
    simp only [List.getElem?_cons_succ,List.getElem?_cons_zero] at x0 x1 x2 x3 z0 z1 z2 z3
    go_wp2
    have HRF:=((((HR.out.set_ 0 (u32v ver)).set_ 1 (.slice Avi n cvi)).set_ 2 (.slice Avo j cvo)).set_ 3 (u32v lock))
    have KF:=KeepB.set (KeepB.set (KeepB.set (KeepB.set (S:=w.heap.size + 1) (KeepX.of (Below.refl wr.heap.size wr)) 0 (u32v ver)) 1 (.slice Avi n cvi)) 2 (.slice Avo j cvo)) 3 (u32v lock)
    have KW:=Below.setCell (Below.setCell (Below.setCell (Below.setCell HK.out (p:=⟨w.heap.size + 1,0,none⟩) (by simp) (u32v ver)) (p:=⟨w.heap.size + 1,1,none⟩) (by simp) (.slice Avi n cvi)) (p:=⟨w.heap.size + 1,2,none⟩) (by simp) (.slice Avo j cvo)) (p:=⟨w.heap.size + 1,3,none⟩) (by simp) (u32v lock)
    have o1:=own_kx OwnJ.out KF (fun g q e => by have:=(OwnJ.out.lt g q).1;omega)
    have o2:=own_kx OwnF.out KF (fun g q e => by have:=(OwnF.out.lt g q).1;omega)
    exact bodyPost_ret (v:=.agg #[u32v ver,.slice Avi n cvi,.slice Avo j cvo,u32v lock]) (results_cell_row Try.results41 _ _ (w.heap.size + 1) _ _ _ _ rfl HRF Try.underlying37 rfl (by kernel_rfl)) rfl
     ⟨Avi,cvi,Avo,cvo,rfl,fun W hm => ⟨own_mid o1 (by omega) hm,own_mid o2 (by omega) hm,⟨by rw [HNN.out];exact hcv1,hcv2⟩,⟨by rw [HMM.out];exact hco1,hco2⟩,fun x hx => (HIS.out x hx).keep hm.1,fun x hx => (HOS.out x hx).keep hm.1⟩,KW⟩
end Go.Proofs.Ytbgpgdhndanigaa
