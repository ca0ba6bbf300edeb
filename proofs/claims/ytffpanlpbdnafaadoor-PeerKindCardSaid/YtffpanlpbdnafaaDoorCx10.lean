/- Texts merged by pack.py: Pe, Qg, Ql, Qm, Rd, Rfe. -/
import Derived.Test.YtffpanlpbdnafaaDoorCx9
import Derived.Test.YtffpanlpbdnafaaDoorCx2
import Derived.Test.YtffpanlpbdnafaaDoorCx8
import Derived.Shelf.Abstract
import Derived.Test.YtffpanlpbdnafaaDoorCx7
/- message, plainly: a message of one type as one of the other. (printed by gen_pe.py) -/
set_option linter.unusedSimpArgs false
set_option linter.unusedVariables false
namespace Go.Proofs.YtffpanlpbdnafaaDoor
open Go.RowKit
attribute [local go_sem ↓] Go.wp_at_zero Go.wp_at_succ
theorem rmsg_info : (Tryd.prog.info? 63).map (·.size) = some 114:=by kernel_rfl
structure MsB (m : MsgR) (cs : Array Value) : Prop where
 l : cs.toList = m.cells
 z : cs.size = 114
 i : (Tryd.prog.info? 63).map (·.size) = some cs.size
 n : ¬ cs = #[]
 o : ∀ v ∈ cs.toList,v.oneCell' = true
theorem MsB.of {m : MsgR} (h : m.ok) : MsB m m.cells.toArray:=by
 have hz : m.cells.toArray.size = 114:=by simpa using MsgR.len h
 exact ⟨rfl,hz,by rw [hz];exact rmsg_info,fun e => by rw [e] at hz;simp at hz,by simpa using m.one⟩
noncomputable def zrmsg : Array Value:=match (Tryd.prog.info? 63).bind (·.zero) with | some (.agg c) => c | _ => #[]
theorem zrmsg_zero (w : World) : (zeroValue 63).run Tryd.prog w = .ok (.agg zrmsg) w:=by kernel_rfl
theorem zrmsg_list : zrmsg.toList = (msgZ 0).cells:=by kernel_rfl
theorem zrmsg_letter : ∃ zs : Array Value,(∀ w,(zeroValue 63).run Tryd.prog w = .ok (.agg zs) w)∧MsB (msgZ 0) zs :=
 ⟨zrmsg,zrmsg_zero,by
  have h:=MsB.of (msgZ_ok 0 (by omega))
  rwa [← zrmsg_list,Array.toArray_toList] at h⟩
def bareM (m : MsgR) (t : TxR) : MsgR:={ m with iA:=none,is:=[],ic:=0,bh:=zHdr,total:=0,sA:=none,shs:=[],sc:=0,fA:=none,fs:=[],fc:=0,t:=t }
section
variable (m : MsgR) (t : TxR) (ss : Array Value) (hl : m.stop.length = 32) (hd : HashA m.stop ss)
include hl hd
theorem msgm_built : Tryd.prog.built 50 [(0,.int .i64 m.kind),(1,u32v m.proto),(2,u64v m.nonce),(3,u32v m.height),(4,.slice m.hA m.hs.length m.hc),(5,.slice m.lA m.ls.length m.lc),(6,.agg ss),(9,.agg #[u32v t.ver,.slice t.iA t.ins.length t.ic,.slice t.oA t.outs.length t.oc,u32v t.lock])] = some (bareM m t).cells.toArray:=by
 obtain rfl:=hd.e
 obtain ⟨k,p,n,h,hA,hs,hc,lA,ls,lc,stop,iA,is,ic,bh,total,sA,shs,sc,fA,fs,fc,t0⟩:=m
 obtain ⟨a0,a1,a2,a3,a4,a5,a6,a7,a8,a9,b0,b1,b2,b3,b4,b5,b6,b7,b8,b9,c0,c1,c2,c3,c4,c5,c6,c7,c8,c9,d0,d1,e⟩:=list32b hl
 simp only at e
 subst e
 show _ = _
 kernel_rfl
theorem rmsgm_built : Tryd.prog.built 63 [(0,.int .i64 m.kind),(1,u32v m.proto),(2,u64v m.nonce),(3,u32v m.height),(4,.slice m.hA m.hs.length m.hc),(5,.slice m.lA m.ls.length m.lc),(6,.agg ss),(9,.agg #[u32v t.ver,.slice t.iA t.ins.length t.ic,.slice t.oA t.outs.length t.oc,u32v t.lock])] = some (bareM m t).cells.toArray:=by
 obtain rfl:=hd.e
 obtain ⟨k,p,n,h,hA,hs,hc,lA,ls,lc,stop,iA,is,ic,bh,total,sA,shs,sc,fA,fs,fc,t0⟩:=m
 obtain ⟨a0,a1,a2,a3,a4,a5,a6,a7,a8,a9,b0,b1,b2,b3,b4,b5,b6,b7,b8,b9,c0,c1,c2,c3,c4,c5,c6,c7,c8,c9,d0,d1,e⟩:=list32b hl
 simp only at e
 subst e
 show _ = _
 kernel_rfl
end
theorem blk_built (m : MsgR) (hb : m.bh.ok) (hv : Array Value) (hh : HdA m.bh hv) : Tryd.prog.built 44 [(0,.agg hv),(1,u32v m.total),(2,.slice m.sA m.shs.length m.sc),(3,.slice m.fA m.fs.length m.fc)] = some m.blk.toArray:=by
 have e : hv = m.bh.cells.toArray:=by rw [← hh.l,Array.toArray_toList]
 subst e
 obtain ⟨k,p,n,h,hA,hs,hc,lA,ls,lc,stop,iA,is,ic,⟨v0,pr,rt,ti,bi,no⟩,total,sA,shs,sc,fA,fs,fc,t0⟩:=m
 obtain ⟨a0,a1,a2,a3,a4,a5,a6,a7,a8,a9,b0,b1,b2,b3,b4,b5,b6,b7,b8,b9,c0,c1,c2,c3,c4,c5,c6,c7,c8,c9,d0,d1,e1⟩:=list32b hb.1
 obtain ⟨A0,A1,A2,A3,A4,A5,A6,A7,A8,A9,B0,B1,B2,B3,B4,B5,B6,B7,B8,B9,C0,C1,C2,C3,C4,C5,C6,C7,C8,C9,D0,D1,e2⟩:=list32b hb.2
 simp only at e1 e2
 subst e1 e2
 show _ = _
 kernel_rfl
theorem rblk_built (m : MsgR) (hb : m.bh.ok) (hv : Array Value) (hh : HdA m.bh hv) : Tryd.prog.built 57 [(0,.agg hv),(1,u32v m.total),(2,.slice m.sA m.shs.length m.sc),(3,.slice m.fA m.fs.length m.fc)] = some m.blk.toArray:=by
 have e : hv = m.bh.cells.toArray:=by rw [← hh.l,Array.toArray_toList]
 subst e
 obtain ⟨k,p,n,h,hA,hs,hc,lA,ls,lc,stop,iA,is,ic,⟨v0,pr,rt,ti,bi,no⟩,total,sA,shs,sc,fA,fs,fc,t0⟩:=m
 obtain ⟨a0,a1,a2,a3,a4,a5,a6,a7,a8,a9,b0,b1,b2,b3,b4,b5,b6,b7,b8,b9,c0,c1,c2,c3,c4,c5,c6,c7,c8,c9,d0,d1,e1⟩:=list32b hb.1
 obtain ⟨A0,A1,A2,A3,A4,A5,A6,A7,A8,A9,B0,B1,B2,B3,B4,B5,B6,B7,B8,B9,C0,C1,C2,C3,C4,C5,C6,C7,C8,C9,D0,D1,e2⟩:=list32b hb.2
 simp only at e1 e2
 subst e1 e2
 show _ = _
 kernel_rfl
theorem ritem_built (t : UInt32) (l : List UInt8) (ds : Array Value) (hl : l.length = 32) (hd : HashA l ds) : Tryd.prog.built 97 [(0,u32v t),(1,.agg ds)] = some (Itm.cells ⟨t,l⟩).toArray:=by
 obtain rfl:=hd.e
 obtain ⟨a0,a1,a2,a3,a4,a5,a6,a7,a8,a9,b0,b1,b2,b3,b4,b5,b6,b7,b8,b9,c0,c1,c2,c3,c4,c5,c6,c7,c8,c9,d0,d1,rfl⟩:=list32b hl
 show _ = _
 kernel_rfl
noncomputable def zritem : Array Value:=match (Tryd.prog.info? 97).bind (·.zero) with | some (.agg c) => c | _ => #[]
theorem zritem_size : zritem.size = 33:=by kernel_rfl
set_option maxRecDepth 100000 in
theorem ritemT : ElT Tryd.prog 56 97 (Value.agg zritem) 33 36:=ElT.mk' Tryd.underlying56 (by kernel_rfl) zritem_size (by omega)
theorem at_carry {w y y' : World} {a b : Nat} {P : World → Prop} (h : ∀ W,Keep w W → (∀ k,a ≤ k → k < b → W.heap[k]? = y.heap[k]?) → P W) (hk : Keep y y') (hb : b ≤ y.heap.size) : ∀ W,Keep w W → (∀ k,a ≤ k → k < b → W.heap[k]? = y'.heap[k]?) → P W :=
 fun W h1 h2 => h W h1 fun k ha hb' => (h2 k ha hb').trans (hk.block k (Nat.lt_of_lt_of_le hb' hb))
theorem keep_size_w {a b : World} (h : Keep a b) : a.heap.size ≤ b.heap.size:=h.size
theorem range_keep {w w' : World} (k : Keep w w') {g off : Nat} {cs : List Value} (h : w.rangeAt g off cs) : w'.rangeAt g off cs:=fun j v hv => keep_cell k (h j v hv)
theorem wpQuiet_buildm {P : Program} {S : World → Prop} {ops : Array Oper} {rest : List Oper} {a : Act} {Q : Act → Prop} {parts : Array (Nat × Operand)} {dst : Option Tmp} {t ty' : TypeId} {pos : String} {af : Array Edge}
  (ps : List (Nat × Value)) (cells : Array Value) (hx : (parts.toList.map fun p => (p.1,a.eval p.2)) = ps) (hb : P.built t ps = some cells)
  (h : wpQuiet P ops S Q rest (a.put dst (.agg cells))) : wpQuiet P ops S Q ({ dst:=dst,op:=.build t parts,type:=ty',pos:=pos,after:=af,guard:=none } :: rest) a:=by
 refine BigFrame.wpQuiet_want (by simp [Region.wanted]) fun K hK => ⟨.agg cells,fun w hw => ?_,hK _ h⟩
 have e : (parts.map fun (i,x) => (i,a.eval x)).toList = ps:=by rw [Array.toList_map];exact hx
 have hb2 : P.built t (parts.map fun (i,x) => (i,a.eval x)).toList = some cells:=by rw [e];exact hb
 unfold Oper.quietAt execOp
 simp only [Sem.run_bind,run_build w t _ cells hb2,Result.andThen_ok]
 exact ⟨rfl,rfl⟩
namespace G
theorem wpQuiet_load_partgG [MM : Mk] {P : Program} {w0 : World} {ops : Array Oper} {rest : List Oper} {a : Act} {Q : Act → Prop} {x : Operand} {dst : Option Tmp} {ty ty' : TypeId} {pos : String} {af : Array Edge}
  (g off : Nat) (cs : Array Value) (hx : a.eval x = .pointer (some ⟨g,off,none⟩)) (hr : w0.rangeAt g off cs.toList) (hne : MM.m ≠ some g) (d : TypeDesc) (hu : P.underlying ty = some d) (hd : d.isRow = true) (hi : (P.info? ty).map (·.size) = some cs.size)
  (h : wpQuiet P ops (fun w' => ∃ x,w' = aftG w0 x) Q rest (a.put dst (.agg cs))) :
  wpQuiet P ops (fun w' => ∃ x,w' = aftG w0 x) Q ({ dst:=dst,op:=.load ty x,type:=ty',pos:=pos,after:=af,guard:=none } :: rest) a:=by
 refine BigFrame.wpQuiet_want (by simp [Region.wanted]) fun K hK => ⟨.agg cs,fun w hw => ?_,hK _ h⟩
 obtain ⟨y,rfl⟩:=hw
 unfold Oper.quietAt execOp
 have hl:=run_loadVar_mid (P:=P) (aftG w0 y) g off ty cs.toList d (fun j v hv => aftG_cell (hr j v hv) hne y) hu hd (by simpa using hi)
 simp only [hx,Instr.loadAt,Instr.sureAddr,Sem.run_bind,Sem.run_pure,Result.andThen_ok,hl,Array.toArray_toList]
 exact ⟨rfl,rfl⟩
end G
theorem item_parts {w : World} {A : Option Addr} {l : List Itm} (hr : Rd w A (l.flatMap Itm.cells)) (hk : ∀ x ∈ l,x.ok) {k : Nat} (h : k < l.length) :
  ∃ (b off : Nat) (x : Itm) (ss : Array Value),A = some ⟨b,off,none⟩∧b < w.heap.size∧w.cell? ⟨b,off + k * 33,none⟩ = some (u32v x.ty)∧w.rangeAt b (off + k * 33 + 1) ss.toList∧HashA x.h ss∧x.ok∧l[k]? = some x:=by
 obtain ⟨b,off,h1,h2,h3⟩:=item_at hr hk h
 have hok:=hk _ (List.getElem_mem h)
 refine ⟨b,off,l[k],_,h1,h2,?_,fun j v hv => ?_,HashA.of hok,hok,List.getElem?_eq_getElem h⟩
 ·have q:=h3 0 (u32v l[k].ty) rfl
  rwa [Nat.add_zero] at q
 ·have q:=h3 (j + 1) v (by unfold Itm.cells;rw [List.getElem?_cons_succ];simpa using hv)
  rw [Nat.add_assoc,Nat.add_comm 1 j];exact q
theorem bareM_ok {m : MsgR} (h : m.ok) (t : TxR) : (bareM m t).ok:=⟨h.k,h.n,h.s,⟨rfl,rfl⟩,h.h,h.l,(fun x q => by cases q),fun x q => by cases q⟩
def withI (m : MsgR) (A : Option Addr) (l : List Itm) (c : Nat) : MsgR:={ m with iA:=A,is:=l,ic:=c }
theorem withI_ok {m : MsgR} (h : m.ok) {A : Option Addr} {l : List Itm} {c : Nat} (hl : ∀ x ∈ l,x.ok) : (withI m A l c).ok:=⟨h.k,h.n,h.s,h.b,h.h,h.l,hl,h.z⟩
theorem set38w {m : MsgR} (h : m.ok) (A : Option Addr) (l : List Itm) (n c : Nat) (hn : l.length = n) : m.cells.set 38 (.slice A n c) = (withI m A l c).cells:=by
 subst hn;exact MsgR.set38s h A l c
set_option maxRecDepth 100000 in
set_option maxHeartbeats 4000000 in
theorem lmsg_any (m : MsgR) (cs : Array Value) (hA : MsB m cs) (w : World) (h : m.at_ w) (hi : m.t.ins.length ≤ 1000000) (ho : m.t.outs.length ≤ 1000000) (hit : m.is.length ≤ 1000000) :
  Calls Tryd.prog 15 #[.agg cs] w fun e w' => ∃ m' ds,e = .returned (.agg ds)∧MsA m' ds∧m'.pl = m.pl∧m'.at_ w'∧Keep w w':=by
 obtain ⟨zs,hz0,hzA⟩:=zmsg_letter
 have hzn:=hzA.n;have hzz:=hzA.z;have hzi:=hzA.i
 have HZ:=Lib.hid hzA
 have hcn:=hA.n;have hcz:=hA.z;have hci:=hA.i
 have HA:=Lib.hid hA;have HM:=Lib.hid h;have HO:=Lib.hid h.o
 obtain ⟨ss,hss⟩ : ∃ ss,HashA m.stop ss:=⟨_,HashA.of h.o.s⟩
 obtain ⟨hv,hhv⟩ : ∃ hv,HdA m.bh hv:=⟨_,HdA.of h.o.b⟩
 have hsn:=hss.n;have hsz:=hss.z;have hsi:=hss.i
 have hvn:=hhv.n;have hvz:=hhv.z;have hvi:=hhv.i
 have HSS:=Lib.hid hss;have HHV:=Lib.hid hhv
 have TT : Hid (∀ y,Keep w y → Calls Tryd.prog 33 #[.agg #[u32v m.t.ver,.slice m.t.iA m.t.ins.length m.t.ic,.slice m.t.oA m.t.outs.length m.t.oc,u32v m.t.lock]] y fun e w' => ∃ iA ic oA oc,e = .returned (.agg #[u32v m.t.ver,.slice iA m.t.ins.length ic,.slice oA m.t.outs.length oc,u32v m.t.lock])∧(∀ W,Mid w y w' W → TxR.at ⟨m.t.ver,iA,m.t.ins,ic,oA,m.t.outs,oc,m.t.lock⟩ W)∧Keep y w'):=Lib.hid fun y hy => ours_any m.t w y h.t hy hi ho
 have BU : Hid (∀ iA ic oA oc,Tryd.prog.built 50 [(0,.int .i64 m.kind),(1,u32v m.proto),(2,u64v m.nonce),(3,u32v m.height),(4,.slice m.hA m.hs.length m.hc),(5,.slice m.lA m.ls.length m.lc),(6,.agg ss),(9,.agg #[u32v m.t.ver,.slice iA m.t.ins.length ic,.slice oA m.t.outs.length oc,u32v m.t.lock])] = some (bareM m ⟨m.t.ver,iA,m.t.ins,ic,oA,m.t.outs,oc,m.t.lock⟩).cells.toArray):=Lib.hid fun iA ic oA oc => msgm_built m ⟨m.t.ver,iA,m.t.ins,ic,oA,m.t.outs,oc,m.t.lock⟩ ss h.o.s hss
 obtain ⟨bs,hbs⟩ : ∃ bs : Array Value,bs = m.blk.toArray:=⟨_,rfl⟩
 have BB : Hid (Tryd.prog.built 44 [(0,.agg hv),(1,u32v m.total),(2,.slice m.sA m.shs.length m.sc),(3,.slice m.fA m.fs.length m.fc)] = some bs):=Lib.hid (by rw [hbs];exact blk_built m h.o.b hv hhv)
 have HBS : Hid (bs.toList = m.blk):=Lib.hid (by rw [hbs])
 have hbz : bs.size = 71:=by rw [hbs];simpa using MsgR.blk_len h.o.b
 have hbi : (Tryd.prog.info? 44).map (·.size) = some bs.size:=by rw [hbz];kernel_rfl
 have hbn : ¬ bs = #[]:=fun e => by rw [e] at hbz;simp at hbz
 clear hA h hss hhv hzA hi ho hbs
 go_enter Tryd.func15,Tryd.ntmps15
 go_upto_region 1 with fail
 obtain ⟨w1,hw1⟩ : ∃ w1,w1 = (w.alloc (.cells cs 63)).alloc (.cells zs 50):=⟨_,rfl⟩
 have HB1 : Hid (Blk w1 w.heap.size 63 m.cells):=by rw [hw1,← HA.out.l];exact Lib.hid ((Blk.new w _ cs.toList).alloc _)
 have HR1 : Hid (Blk w1 (w.heap.size + 1) 50 zs.toList):=by
  rw [hw1]
  have h2:=Blk.new (w.alloc (.cells cs 63)) 50 zs.toList
  rw [World.size_alloc] at h2
  exact Lib.hid h2
 have HK1 : Hid (Keep w w1):=by rw [hw1];exact Lib.hid (keep_trans (keep_new _ _) (keep_new _ _))
 rw [← hw1]
 clear hw1
 have hw1s:=HR1.out.lt
 have RS : Hid (w1.rangeAt w.heap.size 6 ss.toList):=Lib.hid (range_of HB1.out 6 ss.toList (by
  rw [HSS.out.l,MsgR.cells6,List.drop_left' (show m.hd6.length = 6 from rfl),List.take_left' rfl]))
 have c0 : w1.cell? ⟨w.heap.size,0,none⟩ = some (.int .i64 m.kind):=(HB1.out.cell 0).trans rfl
 have c1 : w1.cell? ⟨w.heap.size,1,none⟩ = some (u32v m.proto):=(HB1.out.cell 1).trans rfl
 have c2 : w1.cell? ⟨w.heap.size,2,none⟩ = some (u64v m.nonce):=(HB1.out.cell 2).trans rfl
 have c3 : w1.cell? ⟨w.heap.size,3,none⟩ = some (u32v m.height):=(HB1.out.cell 3).trans rfl
 have c4 : w1.cell? ⟨w.heap.size,4,none⟩ = some (.slice m.hA m.hs.length m.hc):=(HB1.out.cell 4).trans rfl
 have c5 : w1.cell? ⟨w.heap.size,5,none⟩ = some (.slice m.lA m.ls.length m.lc):=(HB1.out.cell 5).trans rfl
 have t0 : w1.cell? ⟨w.heap.size,110,none⟩ = some (u32v m.t.ver):=(HB1.out.cell 110).trans ((MsgR.tx_get HO.out 0).trans rfl)
 have t1 : w1.cell? ⟨w.heap.size,111,none⟩ = some (.slice m.t.iA m.t.ins.length m.t.ic):=(HB1.out.cell 111).trans ((MsgR.tx_get HO.out 1).trans rfl)
 have t2 : w1.cell? ⟨w.heap.size,112,none⟩ = some (.slice m.t.oA m.t.outs.length m.t.oc):=(HB1.out.cell 112).trans ((MsgR.tx_get HO.out 2).trans rfl)
 have t3 : w1.cell? ⟨w.heap.size,113,none⟩ = some (u32v m.t.lock):=(HB1.out.cell 113).trans ((MsgR.tx_get HO.out 3).trans rfl)
 go_cut [3] (fun p wx => ∃ gx iA ic oA oc,p = .pointer (some ⟨gx,0,none⟩)∧w1.heap.size ≤ gx∧Hid (Keep w1 wx)∧Hid (Blk wx gx 50 (bareM m ⟨m.t.ver,iA,m.t.ins,ic,oA,m.t.outs,oc,m.t.lock⟩).cells)∧Hid (∀ W,Keep w W → (∀ k,w1.heap.size ≤ k → k < wx.heap.size → k ≠ gx → W.heap[k]? = wx.heap[k]?) → TxR.at ⟨m.t.ver,iA,m.t.ins,ic,oA,m.t.outs,oc,m.t.lock⟩ W))
 case first =>
  refine wp_region_tree (.take [0,1,2,3,4,5,6,7,8,9,10,11,12,13,14,15] (.fork 16 (.take [17] (.force [18] .done)) 18 (.force [16] (.take [17] .done)))) [19] (by kernel_rfl) (by kernel_rfl) (fun y0 hk => ?_)
  have Q:=Lib.hid hk
  clear hk
  refine mt_take y0 (Below.refl _ _) ?_
  simp only [pick_cons,pick_nil,nth_zero,nth_succ]
  have RS0:=Lib.hid (range_keep Q.out RS.out)
  have a0:=aft_cell (keep_cell Q.out c0);have a1:=aft_cell (keep_cell Q.out c1);have a2:=aft_cell (keep_cell Q.out c2);have a3:=aft_cell (keep_cell Q.out c3);have a4:=aft_cell (keep_cell Q.out c4);have a5:=aft_cell (keep_cell Q.out c5)
  have a6:=aft_cell (keep_cell Q.out t0);have a7:=aft_cell (keep_cell Q.out t1);have a8:=aft_cell (keep_cell Q.out t2);have a9:=aft_cell (keep_cell Q.out t3)
  clear c0 c1 c2 c3 c4 c5 t0 t1 t2 t3
  repeat (first | ((with_reducible refine wpQuiet_load_partg w.heap.size 6 ss (Eq.trans ?_ rfl) RS0.out _ hash_under rfl hsi (Eq.trans ?_ rfl) ?_);rfl;rfl;simp only [Act.put,Array.set!_eq_setIfInBounds,List.setIfInBounds_toArray,List.set_cons_succ,List.set_cons_zero]) | go_big_quiet_step (fail))
  clear a0 a1 a2 a3 a4 a5 a6 a7 a8 a9 RS0
  refine wpQuiet_nil (mt_fork ?_ ?_)
  ·simp only [pick_cons,pick_nil,nth_zero,nth_succ]
   refine fc_step rfl (fun K hK => ?_)
   go_simp
   (with_reducible refine (TT.out y0 (keep_trans HK1.out Q.out)).mono ?_)
   rintro e y1 ⟨iA,ic,oA,oc,rfl,hT,hk⟩
   refine hK _ _ hk ?_
   clear hK K
   have HQ16 : w1.heap.size ≤ y0.heap.size:=Q.out.size
   have Hprev:=Q
   replace Q:=Lib.hid (keep_trans Q.out hk)
   have hs_y1 : y0.heap.size ≤ y1.heap.size:=hk.size
   have HT : Hid (∀ W,Keep w W → (∀ k,y0.heap.size ≤ k → k < y1.heap.size → W.heap[k]? = y1.heap[k]?) → TxR.at ⟨m.t.ver,iA,m.t.ins,ic,oA,m.t.outs,oc,m.t.lock⟩ W):=Lib.hid fun W h1 h2 => hT W ⟨h1,h2⟩
   obtain ⟨ds,hds⟩ : ∃ ds : Array Value,ds = (bareM m ⟨m.t.ver,iA,m.t.ins,ic,oA,m.t.outs,oc,m.t.lock⟩).cells.toArray:=⟨_,rfl⟩
   have HDS : Hid (MsA (bareM m ⟨m.t.ver,iA,m.t.ins,ic,oA,m.t.outs,oc,m.t.lock⟩) ds):=Lib.hid (by rw [hds];exact MsA.of (bareM_ok HO.out _))
   have HBU : Hid (Tryd.prog.built 50 [(0,.int .i64 m.kind),(1,u32v m.proto),(2,u64v m.nonce),(3,u32v m.height),(4,.slice m.hA m.hs.length m.hc),(5,.slice m.lA m.ls.length m.lc),(6,.agg ss),(9,.agg #[u32v m.t.ver,.slice iA m.t.ins.length ic,.slice oA m.t.outs.length oc,u32v m.t.lock])] = some ds):=Lib.hid (by rw [hds];exact BU.out _ _ _ _)
   have hdz:=HDS.out.z;have hdn:=HDS.out.n;have hdi:=HDS.out.i
   clear hT hds
   clear hk
   refine fc_nil (mt_take y1 (Below.refl _ _) ?_)
   simp only [pick_cons,pick_nil,nth_zero,nth_succ]
   repeat (first | ((with_reducible refine wpQuiet_buildm [(0,.int .i64 m.kind),(1,u32v m.proto),(2,u64v m.nonce),(3,u32v m.height),(4,.slice m.hA m.hs.length m.hc),(5,.slice m.lA m.ls.length m.lc),(6,.agg ss),(9,.agg #[u32v m.t.ver,.slice iA m.t.ins.length ic,.slice oA m.t.outs.length oc,u32v m.t.lock])] ds (Eq.trans ?_ rfl) HBU.out ?_);rfl;simp only [Act.put,Array.set!_eq_setIfInBounds,List.setIfInBounds_toArray,List.set_cons_succ,List.set_cons_zero]) | go_big_quiet_step (fail))
   refine wpQuiet_nil (mt_force ?_)
   simp only [pick_cons,pick_nil,nth_zero,nth_succ]
   refine fc_step rfl (fun K hK => ?_)
   go_simp
   refine hK _ _ (keep_new _ _) ?_
   clear hK K
   obtain ⟨y2,hy⟩ : ∃ y2,y2 = y1.alloc (.cells zs 50):=⟨_,rfl⟩
   have HX : Hid (Blk y2 y1.heap.size 50 zs.toList):=by rw [hy];exact Blk.new y1 _ zs.toList
   have hk : Keep y1 y2:=by rw [hy];exact keep_new _ _
   rw [← hy]
   clear hy
   have HXs : y1.heap.size < y2.heap.size:=HX.out.lt
   have HXn:=Q.out.size
   replace Q:=Lib.hid (keep_trans Q.out hk)
   have hs_y2 : y1.heap.size ≤ y2.heap.size:=hk.size
   replace HT:=Lib.hid (at_carry HT.out hk (Nat.le_refl _))
   clear hk
   generalize hp : y1.heap.size = gx at *
   have HXa : y1.heap.size ≤ gx:=Nat.le_of_eq hp
   have HXb : gx ≤ y1.heap.size:=Nat.le_of_eq hp.symm
   clear hp
   refine fc_nil (mt_end ?_)
   obtain ⟨wa,hsta,hba,hga⟩:=run_store_blk (P:=Tryd.prog) ds.toList HX.out (by rw [Array.length_toList,Array.length_toList,hzz,hdz]) HDS.out.o
   have Hba:=Lib.hid hba;have Hga:=Lib.hid hga
   have hga1:=hga.size;have hQs:=Q.out.size
   clear hba hga
   go_wp2
   go_meet
   refine ⟨gx,iA,ic,oA,oc,rfl,by omega,Lib.hid (Q.out.grown Hga.out (by omega) (fun q hq => by injection hq with hq;omega)),by rw [← HDS.out.l];exact Hba,Lib.hid (fun W h1 h2 => HT.out W h1 fun k a b => ?_)⟩
   have hkg : k ≠ gx:=by omega
   exact (h2 k (by omega) (by omega) hkg).trans (Hga.out.block k (by omega) (fun e => hkg (Option.some.inj e)))
  ·simp only [pick_cons,pick_nil,nth_zero,nth_succ]
   refine fc_step rfl (fun K hK => ?_)
   go_simp
   refine hK _ _ (keep_new _ _) ?_
   clear hK K
   obtain ⟨y3,hy⟩ : ∃ y3,y3 = y0.alloc (.cells zs 50):=⟨_,rfl⟩
   have HX : Hid (Blk y3 y0.heap.size 50 zs.toList):=by rw [hy];exact Blk.new y0 _ zs.toList
   have hk : Keep y0 y3:=by rw [hy];exact keep_new _ _
   rw [← hy]
   clear hy
   have HXs : y0.heap.size < y3.heap.size:=HX.out.lt
   have HXn:=Q.out.size
   replace Q:=Lib.hid (keep_trans Q.out hk)
   have hs_y3 : y0.heap.size ≤ y3.heap.size:=hk.size
   clear hk
   generalize hp : y0.heap.size = gx at *
   have HXa : y0.heap.size ≤ gx:=Nat.le_of_eq hp
   have HXb : gx ≤ y0.heap.size:=Nat.le_of_eq hp.symm
   clear hp
   refine fc_nil (mt_force ?_)
   simp only [pick_cons,pick_nil,nth_zero,nth_succ]
   refine fc_step rfl (fun K hK => ?_)
   go_simp
   (with_reducible refine (TT.out y3 (keep_trans HK1.out Q.out)).mono ?_)
   rintro e y4 ⟨iA,ic,oA,oc,rfl,hT,hk⟩
   refine hK _ _ hk ?_
   clear hK K
   have HQ16 : w1.heap.size ≤ y3.heap.size:=Q.out.size
   have Hprev:=Q
   replace Q:=Lib.hid (keep_trans Q.out hk)
   have hs_y4 : y3.heap.size ≤ y4.heap.size:=hk.size
   replace HX:=Lib.hid (HX.out.keep hk)
   have HT : Hid (∀ W,Keep w W → (∀ k,y3.heap.size ≤ k → k < y4.heap.size → W.heap[k]? = y4.heap[k]?) → TxR.at ⟨m.t.ver,iA,m.t.ins,ic,oA,m.t.outs,oc,m.t.lock⟩ W):=Lib.hid fun W h1 h2 => hT W ⟨h1,h2⟩
   obtain ⟨ds,hds⟩ : ∃ ds : Array Value,ds = (bareM m ⟨m.t.ver,iA,m.t.ins,ic,oA,m.t.outs,oc,m.t.lock⟩).cells.toArray:=⟨_,rfl⟩
   have HDS : Hid (MsA (bareM m ⟨m.t.ver,iA,m.t.ins,ic,oA,m.t.outs,oc,m.t.lock⟩) ds):=Lib.hid (by rw [hds];exact MsA.of (bareM_ok HO.out _))
   have HBU : Hid (Tryd.prog.built 50 [(0,.int .i64 m.kind),(1,u32v m.proto),(2,u64v m.nonce),(3,u32v m.height),(4,.slice m.hA m.hs.length m.hc),(5,.slice m.lA m.ls.length m.lc),(6,.agg ss),(9,.agg #[u32v m.t.ver,.slice iA m.t.ins.length ic,.slice oA m.t.outs.length oc,u32v m.t.lock])] = some ds):=Lib.hid (by rw [hds];exact BU.out _ _ _ _)
   have hdz:=HDS.out.z;have hdn:=HDS.out.n;have hdi:=HDS.out.i
   clear hT hds
   clear hk
   refine fc_nil (mt_take y4 (Below.refl _ _) ?_)
   simp only [pick_cons,pick_nil,nth_zero,nth_succ]
   repeat (first | ((with_reducible refine wpQuiet_buildm [(0,.int .i64 m.kind),(1,u32v m.proto),(2,u64v m.nonce),(3,u32v m.height),(4,.slice m.hA m.hs.length m.hc),(5,.slice m.lA m.ls.length m.lc),(6,.agg ss),(9,.agg #[u32v m.t.ver,.slice iA m.t.ins.length ic,.slice oA m.t.outs.length oc,u32v m.t.lock])] ds (Eq.trans ?_ rfl) HBU.out ?_);rfl;simp only [Act.put,Array.set!_eq_setIfInBounds,List.setIfInBounds_toArray,List.set_cons_succ,List.set_cons_zero]) | go_big_quiet_step (fail))
   refine wpQuiet_nil (mt_end ?_)
   obtain ⟨wa,hsta,hba,hga⟩:=run_store_blk (P:=Tryd.prog) ds.toList HX.out (by rw [Array.length_toList,Array.length_toList,hzz,hdz]) HDS.out.o
   have Hba:=Lib.hid hba;have Hga:=Lib.hid hga
   have hga1:=hga.size;have hQs:=Q.out.size
   clear hba hga
   go_wp2
   go_meet
   refine ⟨gx,iA,ic,oA,oc,rfl,by omega,Lib.hid (Q.out.grown Hga.out (by omega) (fun q hq => by injection hq with hq;omega)),by rw [← HDS.out.l];exact Hba,Lib.hid (fun W h1 h2 => HT.out W h1 fun k a b => ?_)⟩
   have hkg : k ≠ gx:=by omega
   exact (h2 k (by omega) (by omega) hkg).trans (Hga.out.block k (by omega) (fun e => hkg (Option.some.inj e)))
 case rest =>
  obtain ⟨gx,iA,ic,oA,oc,rfl,hgx,HK5,HX5,HT5⟩:=hcut
  clear c0 c1 c2 c3 c4 c5 t0 t1 t2 t3 RS TT BU
  have hgl:=HX5.out.lt
  have HB5:=Lib.hid (HB1.out.keep HK5.out);have HR5:=Lib.hid (HR1.out.keep HK5.out)
  have HKW:=Lib.hid (keep_trans HK1.out HK5.out)
  have HOB:=Lib.hid (bareM_ok HO.out ⟨m.t.ver,iA,m.t.ins,ic,oA,m.t.outs,oc,m.t.lock⟩)
  obtain ⟨M1,hM1⟩ : ∃ M1,bareM m ⟨m.t.ver,iA,m.t.ins,ic,oA,m.t.outs,oc,m.t.lock⟩ = M1:=⟨_,rfl⟩
  have HM1:=Lib.hid hM1
  rw [hM1] at HX5 HOB
  clear hM1
  have HI : Hid (∀ k (h : k < m.is.length),∃ (b off : Nat) (x : Itm) (ss : Array Value),m.iA = some ⟨b,off,none⟩∧b < w.heap.size∧w.cell? ⟨b,off + k * 33,none⟩ = some (u32v x.ty)∧w.rangeAt b (off + k * 33 + 1) ss.toList∧HashA x.h ss∧x.ok∧m.is[k]? = some x):=Lib.hid fun k h => item_parts HM.out.i HO.out.i h
  obtain ⟨n,hn⟩ : ∃ n,m.is.length = n:=⟨_,rfl⟩
  have HN:=Lib.hid hn
  rw [hn] at hit HI
  clear hn
  have x38 : ∀ y,Blk y w.heap.size 63 m.cells → y.cell? ⟨w.heap.size,38,none⟩ = some (.slice m.iA n m.ic):=fun y hy => (hy.cell 38).trans ((MsgR.tail_get HO.out 0).trans (by rw [← HN.out];rfl))
  have X38:=Lib.hid x38
  clear x38
  generalize m.iA = mA at *
  have HXI : Hid (Blk wc gx 50 (withI M1 none (m.is.take 0) 0).cells):=Lib.hid (by have q:=HX5.out;rw [← HM1.out] at q ⊢;exact q)
  have Own0 : Hid (wc.ownsRow wc.heap.size 98 33 (.slice none 0 0) 0 ((m.is.take 0).flatMap Itm.cells)):=Lib.hid (World.ownsRow_nil _ _ _ _)
  have KX0 : Hid (KeepX (fun k => k = gx) wc wc):=Lib.hid (KeepX.of (Below.refl _ _))
  go_wp2_with fail
  go_loopw [4] (fun x wr => ∃ (j : Nat) (A : Option Addr) (c : Nat),j ≤ n∧x = .int .i64 j∧Hid (Blk wr gx 50 (withI M1 A (m.is.take j) c).cells)∧Hid (wr.ownsRow wc.heap.size 98 33 (.slice A j c) j ((m.is.take j).flatMap Itm.cells))∧Hid (Blk wr w.heap.size 63 m.cells)∧Hid (Blk wr (w.heap.size + 1) 50 zs.toList)∧Hid (Keep w wr)∧Hid (KeepX (fun k => k = gx) wc wr)) (fun x _ => n - (intOf x).toNat)
  case atStart => exact ⟨0,none,0,Nat.zero_le _,rfl,HXI,Own0,HB5,HR5,HKW,KX0⟩
  case round =>
   obtain ⟨j,A,c,hj,rfl,HX,Own,HB,HR,HK,KX⟩:=hrel
   clear HXI Own0 HB5 HR5 HKW KX0 HX5 HK5
   have t2:=X38.out _ HB.out
   have hlj : (m.is.take j).length = j:=by rw [List.length_take,HN.out];omega
   have HLJ:=Lib.hid hlj
   clear hlj
   by_cases hlt : j < n
   ·obtain ⟨b,off,x,ds,hmA,hbl,e0,e1,hds,hok,hget⟩:=HI.out j hlt
    subst hmA
    have hdn:=hds.n;have hdz:=hds.z;have hdi:=hds.i
    have HDS:=Lib.hid hds;have HOK:=Lib.hid hok
    have e0:=keep_cell HK.out e0
    have RE:=Lib.hid (range_keep HK.out e1)
    have d4 : (j : Int) < n:=by omega
    have HGE:=Lib.hid hget
    obtain ⟨es,hes⟩ : ∃ es : Array Value,es = (Itm.cells x).toArray:=⟨_,rfl⟩
    have HBu : Hid (Tryd.prog.built 98 [(0,u32v x.ty),(1,.agg ds)] = some es):=Lib.hid (by rw [hes];exact item_built x.ty x.h ds hok hds)
    have hel : es.toList = x.cells:=by rw [hes]
    have hez : es.size = 33:=by rw [hes];simpa using Itm.len hok
    have HEO : Hid (∀ v ∈ es.toList,v.oneCell' = true):=Lib.hid (by rw [hel];exact x.one)
    have HEL:=Lib.hid hel
    clear hget HI hds hok e1 hes hel
    go_upto_region 5 with fail
    letI iM : G.Mk:=⟨(Value.slice A j c).ownBlock⟩
    refine G.wp_region_tree (.take [0,1,2,3,4,5,6,7,8,9,10,11,12,13,14] (.force [15,16] .done)) [17,18] (by kernel_rfl) (by kernel_rfl) (fun w8 k8 => ?_)
    have HX8:=Lib.hid (HX.out.keep k8);have Own8:=Lib.hid (own_keep Own.out k8);have HB8:=Lib.hid (HB.out.keep k8);have HR8:=Lib.hid (HR.out.keep k8);have HK8:=Lib.hid (keep_trans HK.out k8)
    have KX8 : Hid (KeepX (fun k => k = gx) wc w8):=Lib.hid (KX.out.trans (KeepX.of k8) fun _ _ q => q)
    have e0:=keep_cell k8 e0;have RE8:=Lib.hid (range_keep k8 RE.out)
    clear k8 HX Own HB HR HK KX t2 RE
    have hwc:=HK8.out.size
    have hww:=keep_size_w HK1.out
    have hneX : G.Mk.m ≠ some gx:=fun q => by have:=(Own8.out.lt _ q).1;omega
    have hneT : G.Mk.m ≠ some w.heap.size:=fun q => by have:=(Own8.out.lt _ q).1;omega
    have hneB : G.Mk.m ≠ some b:=fun q => by have:=(Own8.out.lt _ q).1;omega
    have q0 : w8.cell? ⟨gx,38,none⟩ = some (.slice A j c):=(HX8.out.cell 38).trans ((MsgR.tail_get (m:=withI M1 A (m.is.take j) c) (withI_ok HOB.out (fun x hx => HO.out.i x (List.mem_of_mem_take hx))) 0).trans (by show some (Value.slice A (m.is.take j).length c) = _;rw [HLJ.out]))
    have b0:=G.aftG_cell q0 hneX
    have b1:=G.aftG_cell (X38.out _ HB8.out) hneT
    have b2:=G.aftG_cell e0 hneB
    refine G.mt_take w8 (G.Gr.refl _) ?_
    simp only [pick_cons,pick_nil,nth_zero,nth_succ]
    repeat (first | ((with_reducible refine G.wpQuiet_load_partgG b (off + j * 33 + 1) ds (Eq.trans ?_ rfl) RE8.out hneB _ hash_under rfl hdi ?_);rfl;simp only [Act.put,Array.set!_eq_setIfInBounds,List.setIfInBounds_toArray,List.set_cons_succ,List.set_cons_zero]) | ((with_reducible refine wpQuiet_buildm [(0,u32v x.ty),(1,.agg ds)] es (Eq.trans ?_ rfl) HBu.out ?_);rfl;simp only [Act.put,Array.set!_eq_setIfInBounds,List.setIfInBounds_toArray,List.set_cons_succ,List.set_cons_zero]) | go_big_quiet_step (fail))
    refine wpQuiet_nil (G.mt_force ?_)
    clear b0 b1 b2 hneX hneT hneB e0 q0
    simp only [pick_cons,pick_nil,nth_zero,nth_succ]
    refine G.fc_step rfl (fun K hK => ?_)
    refine wp_build1b itemT _ rfl es hez (by omega) rfl (hK _ _ (G.Gr.of_keep (keep_new _ _)) ?_)
    clear hK K
    simp only [Act.put,Array.set!_eq_setIfInBounds,List.setIfInBounds_toArray,List.set_cons_succ,List.set_cons_zero]
    obtain ⟨w9,hw9⟩ : ∃ w9,w9 = w8.alloc (.cells es 98):=⟨_,rfl⟩
    have HL9 : Hid (Rd w9 (some ⟨w8.heap.size,0,none⟩) es.toList):=by rw [hw9];exact Lib.hid (by simpa using Rd.new w8 es.toList 98)
    have k9 : Keep w8 w9:=by rw [hw9];exact keep_new _ _
    rw [← hw9]
    have HX9:=Lib.hid (HX8.out.keep k9);have Own9:=Lib.hid (own_keep Own8.out k9);have HB9:=Lib.hid (HB8.out.keep k9);have HR9:=Lib.hid (HR8.out.keep k9);have HK9:=Lib.hid (keep_trans HK8.out k9)
    have KX9 : Hid (KeepX (fun k => k = gx) wc w9):=Lib.hid (KX8.out.trans (KeepX.of k9) fun _ _ q => q)
    clear hw9 k9 HX8 Own8 HB8 HR8 HK8 KX8
    have hs9:=KX9.out.2.2.2.1
    refine G.fc_step rfl (fun K hK => ?_)
    refine wp_app itemT _ _ (by rfl) wc.heap.size _ j _ (by rfl) Own9.out _ 1 1 es.toList (by rfl) (by rw [Array.length_toList,hez]) HL9.out HEO.out (by omega) (by unfold maxLen;omega) hs9 ?_
    intro v' wq ownq hgq hatq
    refine hK _ _ hgq ?_
    clear hK K HL9
    simp only [Act.put,Array.set!_eq_setIfInBounds,List.setIfInBounds_toArray,List.set_cons_succ,List.set_cons_zero]
    have HXq:=Lib.hid (HX9.out.grown hgq (fun q => by have:=(Own9.out.lt _ q).1;omega))
    have HBq:=Lib.hid (HB9.out.grown hgq (fun q => by have:=(Own9.out.lt _ q).1;omega))
    have HRq:=Lib.hid (HR9.out.grown hgq (fun q => by have:=(Own9.out.lt _ q).1;omega))
    have HKq : Hid (Keep w wq):=Lib.hid (keep_grown HK9.out HK9.out.size hgq (own_base Own9.out (by omega)))
    have KXq : Hid (KeepX (fun k => k = gx) wc wq):=Lib.hid (KX9.out.grown hgq (fun i hi q => by have:=(Own9.out.lt _ q).1;omega))
    have Ownq:=Lib.hid ownq
    clear ownq hgq hatq HX9 HB9 HR9 HK9 KX9 Own9 hs9
    obtain ⟨Aw,cw,rfl,-,-,-⟩:=own_form Ownq.out
    have y3 : ∃ v,wq.cell? ⟨gx,38,none⟩ = some v:=⟨_,(HXq.out.cell 38).trans (List.getElem?_eq_getElem (by rw [MsgR.len (withI_ok HOB.out (fun x hx => HO.out.i x (List.mem_of_mem_take hx)))];omega))⟩
    obtain ⟨v3,y3⟩:=y3
    have f3:=HXq.out.frozen 38
    refine G.fc_nil (G.mt_end ?_)
    clear iM
    go_wp2
    obtain ⟨w4,hw4⟩ : ∃ w4,w4 = wq.setCell ⟨gx,38,none⟩ (.slice Aw (j + 1) cw):=⟨_,rfl⟩
    have HX4 : Hid (Blk w4 gx 50 (withI M1 Aw (m.is.take (j + 1)) cw).cells):=by
     rw [hw4]
     have q:=HXq.out.set_ 38 (.slice Aw (j + 1) cw)
     rw [set38w (withI_ok HOB.out (fun x hx => HO.out.i x (List.mem_of_mem_take hx))) Aw (m.is.take (j + 1)) (j + 1) cw (by rw [List.length_take,HN.out];omega)] at q
     exact Lib.hid q
    have HB4 : Hid (Blk w4 w.heap.size 63 m.cells):=by rw [hw4];exact Lib.hid (HBq.out.far (by simp <;> omega) _)
    have HR4 : Hid (Blk w4 (w.heap.size + 1) 50 zs.toList):=by rw [hw4];exact Lib.hid (HRq.out.far (by simp <;> omega) _)
    have Own4 : Hid (w4.ownsRow wc.heap.size 98 33 (.slice Aw (j + 1) cw) (j + 1) ((m.is.take (j + 1)).flatMap Itm.cells)):=by
     rw [hw4]
     refine Lib.hid (own_eq (ownsRow_setCell_below Ownq.out (a:=⟨gx,38,none⟩) (by omega) _) rfl ?_)
     rw [HEL.out,List.take_add_one,HGE.out,List.flatMap_append];simp
    have HK4 : Hid (Keep w w4):=by rw [hw4];exact Lib.hid (Below.setCell HKq.out (by simp <;> omega) _)
    have KX4 : Hid (KeepX (fun k => k = gx) wc w4):=by rw [hw4];exact Lib.hid (KeepB.set KXq.out 38 _)
    rw [← hw4]
    clear hw4 HXq HBq HRq Ownq HKq KXq y3 f3 HGE HEL HEO HBu HDS HOK HLJ RE8
    go_roundw
    case rel => exact ⟨j + 1,Aw,cw,by omega,by go_num,HX4,Own4,HB4,HR4,HK4,KX4⟩
    case measure => simp [intOf];omega
   ·obtain rfl : j = n:=by omega
    have d4 : ¬ (j : Int) < j:=by omega
    obtain ⟨Ai,ci,hAi,hci1,hci2,-⟩:=own_form Own.out
    obtain ⟨rfl,rfl⟩ : A = Ai∧c = ci:=by injection hAi with h1 _ h3;exact ⟨h1,h3⟩
    clear hAi
    have ht : m.is.take j = m.is:=List.take_of_length_le (by rw [HN.out];omega)
    rw [ht] at HX Own
    obtain rfl:=HM1.out
    have HO2:=Lib.hid (withI_ok HOB.out (A:=A) (c:=c) HO.out.i)
    have RH : Hid (wr.rangeAt w.heap.size 39 hv.toList):=Lib.hid (range_of HB.out 39 hv.toList (by
     rw [HHV.out.l,MsgR.cells39,List.drop_left' (MsgR.hd39_len HO.out.s)]
     unfold MsgR.blk
     rw [List.append_assoc,List.take_left' rfl]))
    have r107 : wr.cell? ⟨w.heap.size,107,none⟩ = some (u32v m.total):=(HB.out.cell 107).trans ((MsgR.blk_tail HO.out 0 (by omega)).trans rfl)
    have r108 : wr.cell? ⟨w.heap.size,108,none⟩ = some (.slice m.sA m.shs.length m.sc):=(HB.out.cell 108).trans ((MsgR.blk_tail HO.out 1 (by omega)).trans rfl)
    have r109 : wr.cell? ⟨w.heap.size,109,none⟩ = some (.slice m.fA m.fs.length m.fc):=(HB.out.cell 109).trans ((MsgR.blk_tail HO.out 2 (by omega)).trans rfl)
    obtain ⟨wp,hstp,hbp,hgp⟩:=run_store_prt (P:=Tryd.prog) 39 bs.toList HX.out (by rw [MsgR.len HO2.out,Array.length_toList,hbz];omega) (by rw [HBS.out];intro u hu;exact MsgR.one m u (by rw [MsgR.cells39];simp [hu]))
    rw [HBS.out,MsgR.splice_blk HO2.out HO.out.b] at hbp
    have HBP:=Lib.hid hbp;have HGP:=Lib.hid hgp
    have HRP:=Lib.hid (HR.out.grown hgp (fun q => by have:=Option.some.inj q;omega))
    have HKP : Hid (Keep w wp):=Lib.hid (HK.out.grown hgp HK.out.size (fun q hq => by injection hq with hq;omega))
    clear hbp hgp
    obtain ⟨M3,hM3⟩ : ∃ M3,MsgR.mk m.kind m.proto m.nonce m.height m.hA m.hs m.hc m.lA m.ls m.lc m.stop A m.is c m.bh m.total m.sA m.shs m.sc m.fA m.fs m.fc ⟨m.t.ver,iA,m.t.ins,ic,oA,m.t.outs,oc,m.t.lock⟩ = M3:=⟨_,rfl⟩
    have HBQ : Hid (Blk wp gx 50 M3.cells):=Lib.hid (by rw [← hM3];exact HBP.out)
    have HO3 : M3.ok:=by rw [← hM3];exact ⟨HO.out.k,HO.out.n,HO.out.s,HO.out.b,HO.out.h,HO.out.l,HO.out.i,HO.out.z⟩
    obtain ⟨ds,hds⟩ : ∃ ds,MsA M3 ds:=⟨_,MsA.of HO3⟩
    have hdz:=hds.z;have hdn:=hds.n;have hdi:=hds.i
    have HDS:=Lib.hid hds
    have HBx : Hid (Blk wp gx 50 ds.toList):=Lib.hid (by rw [HDS.out.l];exact HBQ.out)
    obtain ⟨w8,hst8,hb8,hg8⟩:=run_store_blk (P:=Tryd.prog) ds.toList HRP.out (by rw [Array.length_toList,Array.length_toList,hzz,hdz]) HDS.out.o
    have Hb8:=Lib.hid hb8;have Hg8:=Lib.hid hg8
    have HM3:=Lib.hid hM3
    have HO3:=Lib.hid HO3
    clear hds hb8 hg8 HBP HBQ hM3 ht
    go_wp2_with (first | ((with_reducible refine load_partg w.heap.size 39 hv (Eq.trans ?_ rfl) RH.out _ Tryd.underlying42 rfl hvi rfl ?_);rfl) | ((with_reducible refine list_bldg [(0,.agg hv),(1,u32v m.total),(2,.slice m.sA m.shs.length m.sc),(3,.slice m.fA m.fs.length m.fc)] bs (Eq.trans ?_ rfl) BB.out (Eq.trans ?_ rfl) ?_);rfl;rfl) | ((with_reducible refine load_arr gx ds (Eq.trans ?_ rfl) HBx.out _ Tryd.underlying50 rfl hdi ?_);rfl))
    have KF : Keep w w8:=HKP.out.grown Hg8.out HKP.out.size (fun q hq => by injection hq with hq;omega)
    have KX8 : KeepX (fun k => k = gx ∨ k = w.heap.size + 1) wr w8:=((KeepX.of (X:=fun k => k = gx ∨ k = w.heap.size + 1) (Below.refl wr.heap.size wr)).grown HGP.out (fun i _ q => .inl (Option.some.inj q).symm)).grown Hg8.out (fun i _ q => .inr (Option.some.inj q).symm)
    have o1:=own_kx Own.out KX8 (fun g q e => by have:=(Own.out.lt g q).1;omega)
    have hT:=HT5.out w8 KF (fun k h1 h2 h3 => (KX8.2.2.2.2 k (Nat.lt_of_lt_of_le h2 KX.out.2.2.2.1) (by rintro (e | e) <;> omega)).trans (KX.out.2.2.2.2 k h2 h3))
    have hat : M3.at_ w8:=by
     rw [← HM3.out]
     exact ⟨by rw [HM3.out];exact HO3.out,HM.out.h.keep KF,HM.out.hc,HM.out.l.keep KF,HM.out.lc,own_rd o1,⟨by rw [HN.out];exact hci1,hci2⟩,HM.out.s.keep KF,HM.out.sc,HM.out.f.keep KF,HM.out.fc,hT⟩
    exact bodyPost_ret (v:=.agg ds) (results_cell_row Tryd.results15 _ _ (w.heap.size + 1) _ _ _ _ rfl Hb8.out Tryd.underlying50 rfl (by rw [List.size_toArray,Array.length_toList];exact hdi)) rfl ⟨M3,ds,rfl,HDS.out,by rw [← HM3.out];rfl,hat,KF⟩
set_option maxRecDepth 100000 in
set_option maxHeartbeats 4000000 in
theorem plainly_any (m : MsgR) (cs : Array Value) (hA : MsA m cs) (w : World) (h : m.at_ w) (hi : m.t.ins.length ≤ 1000000) (ho : m.t.outs.length ≤ 1000000) (hit : m.is.length ≤ 1000000) :
  Calls Tryd.prog 20 #[.agg cs] w fun e w' => ∃ m' ds,e = .returned (.agg ds)∧MsB m' ds∧m'.pl = m.pl∧m'.at_ w'∧Keep w w':=by
 obtain ⟨zs,hz0,hzA⟩:=zrmsg_letter
 have hzn:=hzA.n;have hzz:=hzA.z;have hzi:=hzA.i
 have HZ:=Lib.hid hzA
 have hcn:=hA.n;have hcz:=hA.z;have hci:=hA.i
 have HA:=Lib.hid hA;have HM:=Lib.hid h;have HO:=Lib.hid h.o
 obtain ⟨ss,hss⟩ : ∃ ss,HashA m.stop ss:=⟨_,HashA.of h.o.s⟩
 obtain ⟨hv,hhv⟩ : ∃ hv,HdA m.bh hv:=⟨_,HdA.of h.o.b⟩
 have hsn:=hss.n;have hsz:=hss.z;have hsi:=hss.i
 have hvn:=hhv.n;have hvz:=hhv.z;have hvi:=hhv.i
 have HSS:=Lib.hid hss;have HHV:=Lib.hid hhv
 have TT : Hid (∀ y,Keep w y → Calls Tryd.prog 49 #[.agg #[u32v m.t.ver,.slice m.t.iA m.t.ins.length m.t.ic,.slice m.t.oA m.t.outs.length m.t.oc,u32v m.t.lock]] y fun e w' => ∃ iA ic oA oc,e = .returned (.agg #[u32v m.t.ver,.slice iA m.t.ins.length ic,.slice oA m.t.outs.length oc,u32v m.t.lock])∧(∀ W,Mid w y w' W → TxR.at ⟨m.t.ver,iA,m.t.ins,ic,oA,m.t.outs,oc,m.t.lock⟩ W)∧Keep y w'):=Lib.hid fun y hy => theirs_any m.t w y h.t hy hi ho
 have BU : Hid (∀ iA ic oA oc,Tryd.prog.built 63 [(0,.int .i64 m.kind),(1,u32v m.proto),(2,u64v m.nonce),(3,u32v m.height),(4,.slice m.hA m.hs.length m.hc),(5,.slice m.lA m.ls.length m.lc),(6,.agg ss),(9,.agg #[u32v m.t.ver,.slice iA m.t.ins.length ic,.slice oA m.t.outs.length oc,u32v m.t.lock])] = some (bareM m ⟨m.t.ver,iA,m.t.ins,ic,oA,m.t.outs,oc,m.t.lock⟩).cells.toArray):=Lib.hid fun iA ic oA oc => rmsgm_built m ⟨m.t.ver,iA,m.t.ins,ic,oA,m.t.outs,oc,m.t.lock⟩ ss h.o.s hss
 obtain ⟨bs,hbs⟩ : ∃ bs : Array Value,bs = m.blk.toArray:=⟨_,rfl⟩
 have BB : Hid (Tryd.prog.built 57 [(0,.agg hv),(1,u32v m.total),(2,.slice m.sA m.shs.length m.sc),(3,.slice m.fA m.fs.length m.fc)] = some bs):=Lib.hid (by rw [hbs];exact rblk_built m h.o.b hv hhv)
 have HBS : Hid (bs.toList = m.blk):=Lib.hid (by rw [hbs])
 have hbz : bs.size = 71:=by rw [hbs];simpa using MsgR.blk_len h.o.b
 have hbi : (Tryd.prog.info? 57).map (·.size) = some bs.size:=by rw [hbz];kernel_rfl
 have hbn : ¬ bs = #[]:=fun e => by rw [e] at hbz;simp at hbz
 clear hA h hss hhv hzA hi ho hbs
 go_enter Tryd.func20,Tryd.ntmps20
 go_upto_region 1 with fail
 obtain ⟨w1,hw1⟩ : ∃ w1,w1 = (w.alloc (.cells cs 50)).alloc (.cells zs 63):=⟨_,rfl⟩
 have HB1 : Hid (Blk w1 w.heap.size 50 m.cells):=by rw [hw1,← HA.out.l];exact Lib.hid ((Blk.new w _ cs.toList).alloc _)
 have HR1 : Hid (Blk w1 (w.heap.size + 1) 63 zs.toList):=by
  rw [hw1]
  have h2:=Blk.new (w.alloc (.cells cs 50)) 63 zs.toList
  rw [World.size_alloc] at h2
  exact Lib.hid h2
 have HK1 : Hid (Keep w w1):=by rw [hw1];exact Lib.hid (keep_trans (keep_new _ _) (keep_new _ _))
 rw [← hw1]
 clear hw1
 have hw1s:=HR1.out.lt
 have RS : Hid (w1.rangeAt w.heap.size 6 ss.toList):=Lib.hid (range_of HB1.out 6 ss.toList (by
  rw [HSS.out.l,MsgR.cells6,List.drop_left' (show m.hd6.length = 6 from rfl),List.take_left' rfl]))
 have c0 : w1.cell? ⟨w.heap.size,0,none⟩ = some (.int .i64 m.kind):=(HB1.out.cell 0).trans rfl
 have c1 : w1.cell? ⟨w.heap.size,1,none⟩ = some (u32v m.proto):=(HB1.out.cell 1).trans rfl
 have c2 : w1.cell? ⟨w.heap.size,2,none⟩ = some (u64v m.nonce):=(HB1.out.cell 2).trans rfl
 have c3 : w1.cell? ⟨w.heap.size,3,none⟩ = some (u32v m.height):=(HB1.out.cell 3).trans rfl
 have c4 : w1.cell? ⟨w.heap.size,4,none⟩ = some (.slice m.hA m.hs.length m.hc):=(HB1.out.cell 4).trans rfl
 have c5 : w1.cell? ⟨w.heap.size,5,none⟩ = some (.slice m.lA m.ls.length m.lc):=(HB1.out.cell 5).trans rfl
 have t0 : w1.cell? ⟨w.heap.size,110,none⟩ = some (u32v m.t.ver):=(HB1.out.cell 110).trans ((MsgR.tx_get HO.out 0).trans rfl)
 have t1 : w1.cell? ⟨w.heap.size,111,none⟩ = some (.slice m.t.iA m.t.ins.length m.t.ic):=(HB1.out.cell 111).trans ((MsgR.tx_get HO.out 1).trans rfl)
 have t2 : w1.cell? ⟨w.heap.size,112,none⟩ = some (.slice m.t.oA m.t.outs.length m.t.oc):=(HB1.out.cell 112).trans ((MsgR.tx_get HO.out 2).trans rfl)
 have t3 : w1.cell? ⟨w.heap.size,113,none⟩ = some (u32v m.t.lock):=(HB1.out.cell 113).trans ((MsgR.tx_get HO.out 3).trans rfl)
 go_cut [3] (fun p wx => ∃ gx iA ic oA oc,p = .pointer (some ⟨gx,0,none⟩)∧w1.heap.size ≤ gx∧Hid (Keep w1 wx)∧Hid (Blk wx gx 63 (bareM m ⟨m.t.ver,iA,m.t.ins,ic,oA,m.t.outs,oc,m.t.lock⟩).cells)∧Hid (∀ W,Keep w W → (∀ k,w1.heap.size ≤ k → k < wx.heap.size → k ≠ gx → W.heap[k]? = wx.heap[k]?) → TxR.at ⟨m.t.ver,iA,m.t.ins,ic,oA,m.t.outs,oc,m.t.lock⟩ W))
 case first =>
  refine wp_region_tree (.take [0,1,2,3,4,5,6,7,8,9,10,11,12,13,14,15] (.fork 16 (.take [17] (.force [18] .done)) 18 (.force [16] (.take [17] .done)))) [19] (by kernel_rfl) (by kernel_rfl) (fun y0 hk => ?_)
  have Q:=Lib.hid hk
  clear hk
  refine mt_take y0 (Below.refl _ _) ?_
  simp only [pick_cons,pick_nil,nth_zero,nth_succ]
  have RS0:=Lib.hid (range_keep Q.out RS.out)
  have a0:=aft_cell (keep_cell Q.out c0);have a1:=aft_cell (keep_cell Q.out c1);have a2:=aft_cell (keep_cell Q.out c2);have a3:=aft_cell (keep_cell Q.out c3);have a4:=aft_cell (keep_cell Q.out c4);have a5:=aft_cell (keep_cell Q.out c5)
  have a6:=aft_cell (keep_cell Q.out t0);have a7:=aft_cell (keep_cell Q.out t1);have a8:=aft_cell (keep_cell Q.out t2);have a9:=aft_cell (keep_cell Q.out t3)
  clear c0 c1 c2 c3 c4 c5 t0 t1 t2 t3
  repeat (first | ((with_reducible refine wpQuiet_load_partg w.heap.size 6 ss (Eq.trans ?_ rfl) RS0.out _ hash_under rfl hsi (Eq.trans ?_ rfl) ?_);rfl;rfl;simp only [Act.put,Array.set!_eq_setIfInBounds,List.setIfInBounds_toArray,List.set_cons_succ,List.set_cons_zero]) | go_big_quiet_step (fail))
  clear a0 a1 a2 a3 a4 a5 a6 a7 a8 a9 RS0
  refine wpQuiet_nil (mt_fork ?_ ?_)
  ·simp only [pick_cons,pick_nil,nth_zero,nth_succ]
   refine fc_step rfl (fun K hK => ?_)
   go_simp
   (with_reducible refine (TT.out y0 (keep_trans HK1.out Q.out)).mono ?_)
   rintro e y1 ⟨iA,ic,oA,oc,rfl,hT,hk⟩
   refine hK _ _ hk ?_
   clear hK K
   have HQ16 : w1.heap.size ≤ y0.heap.size:=Q.out.size
   have Hprev:=Q
   replace Q:=Lib.hid (keep_trans Q.out hk)
   have hs_y1 : y0.heap.size ≤ y1.heap.size:=hk.size
   have HT : Hid (∀ W,Keep w W → (∀ k,y0.heap.size ≤ k → k < y1.heap.size → W.heap[k]? = y1.heap[k]?) → TxR.at ⟨m.t.ver,iA,m.t.ins,ic,oA,m.t.outs,oc,m.t.lock⟩ W):=Lib.hid fun W h1 h2 => hT W ⟨h1,h2⟩
   obtain ⟨ds,hds⟩ : ∃ ds : Array Value,ds = (bareM m ⟨m.t.ver,iA,m.t.ins,ic,oA,m.t.outs,oc,m.t.lock⟩).cells.toArray:=⟨_,rfl⟩
   have HDS : Hid (MsB (bareM m ⟨m.t.ver,iA,m.t.ins,ic,oA,m.t.outs,oc,m.t.lock⟩) ds):=Lib.hid (by rw [hds];exact MsB.of (bareM_ok HO.out _))
   have HBU : Hid (Tryd.prog.built 63 [(0,.int .i64 m.kind),(1,u32v m.proto),(2,u64v m.nonce),(3,u32v m.height),(4,.slice m.hA m.hs.length m.hc),(5,.slice m.lA m.ls.length m.lc),(6,.agg ss),(9,.agg #[u32v m.t.ver,.slice iA m.t.ins.length ic,.slice oA m.t.outs.length oc,u32v m.t.lock])] = some ds):=Lib.hid (by rw [hds];exact BU.out _ _ _ _)
   have hdz:=HDS.out.z;have hdn:=HDS.out.n;have hdi:=HDS.out.i
   clear hT hds
   clear hk
   refine fc_nil (mt_take y1 (Below.refl _ _) ?_)
   simp only [pick_cons,pick_nil,nth_zero,nth_succ]
   repeat (first | ((with_reducible refine wpQuiet_buildm [(0,.int .i64 m.kind),(1,u32v m.proto),(2,u64v m.nonce),(3,u32v m.height),(4,.slice m.hA m.hs.length m.hc),(5,.slice m.lA m.ls.length m.lc),(6,.agg ss),(9,.agg #[u32v m.t.ver,.slice iA m.t.ins.length ic,.slice oA m.t.outs.length oc,u32v m.t.lock])] ds (Eq.trans ?_ rfl) HBU.out ?_);rfl;simp only [Act.put,Array.set!_eq_setIfInBounds,List.setIfInBounds_toArray,List.set_cons_succ,List.set_cons_zero]) | go_big_quiet_step (fail))
   refine wpQuiet_nil (mt_force ?_)
   simp only [pick_cons,pick_nil,nth_zero,nth_succ]
   refine fc_step rfl (fun K hK => ?_)
   go_simp
   refine hK _ _ (keep_new _ _) ?_
   clear hK K
   obtain ⟨y2,hy⟩ : ∃ y2,y2 = y1.alloc (.cells zs 63):=⟨_,rfl⟩
   have HX : Hid (Blk y2 y1.heap.size 63 zs.toList):=by rw [hy];exact Blk.new y1 _ zs.toList
   have hk : Keep y1 y2:=by rw [hy];exact keep_new _ _
   rw [← hy]
   clear hy
   have HXs : y1.heap.size < y2.heap.size:=HX.out.lt
   have HXn:=Q.out.size
   replace Q:=Lib.hid (keep_trans Q.out hk)
   have hs_y2 : y1.heap.size ≤ y2.heap.size:=hk.size
   replace HT:=Lib.hid (at_carry HT.out hk (Nat.le_refl _))
   clear hk
   generalize hp : y1.heap.size = gx at *
   have HXa : y1.heap.size ≤ gx:=Nat.le_of_eq hp
   have HXb : gx ≤ y1.heap.size:=Nat.le_of_eq hp.symm
   clear hp
   refine fc_nil (mt_end ?_)
   obtain ⟨wa,hsta,hba,hga⟩:=run_store_blk (P:=Tryd.prog) ds.toList HX.out (by rw [Array.length_toList,Array.length_toList,hzz,hdz]) HDS.out.o
   have Hba:=Lib.hid hba;have Hga:=Lib.hid hga
   have hga1:=hga.size;have hQs:=Q.out.size
   clear hba hga
   go_wp2
   go_meet
   refine ⟨gx,iA,ic,oA,oc,rfl,by omega,Lib.hid (Q.out.grown Hga.out (by omega) (fun q hq => by injection hq with hq;omega)),by rw [← HDS.out.l];exact Hba,Lib.hid (fun W h1 h2 => HT.out W h1 fun k a b => ?_)⟩
   have hkg : k ≠ gx:=by omega
   exact (h2 k (by omega) (by omega) hkg).trans (Hga.out.block k (by omega) (fun e => hkg (Option.some.inj e)))
  ·simp only [pick_cons,pick_nil,nth_zero,nth_succ]
   refine fc_step rfl (fun K hK => ?_)
   go_simp
   refine hK _ _ (keep_new _ _) ?_
   clear hK K
   obtain ⟨y3,hy⟩ : ∃ y3,y3 = y0.alloc (.cells zs 63):=⟨_,rfl⟩
   have HX : Hid (Blk y3 y0.heap.size 63 zs.toList):=by rw [hy];exact Blk.new y0 _ zs.toList
   have hk : Keep y0 y3:=by rw [hy];exact keep_new _ _
   rw [← hy]
   clear hy
   have HXs : y0.heap.size < y3.heap.size:=HX.out.lt
   have HXn:=Q.out.size
   replace Q:=Lib.hid (keep_trans Q.out hk)
   have hs_y3 : y0.heap.size ≤ y3.heap.size:=hk.size
   clear hk
   generalize hp : y0.heap.size = gx at *
   have HXa : y0.heap.size ≤ gx:=Nat.le_of_eq hp
   have HXb : gx ≤ y0.heap.size:=Nat.le_of_eq hp.symm
   clear hp
   refine fc_nil (mt_force ?_)
   simp only [pick_cons,pick_nil,nth_zero,nth_succ]
   refine fc_step rfl (fun K hK => ?_)
   go_simp
   (with_reducible refine (TT.out y3 (keep_trans HK1.out Q.out)).mono ?_)
   rintro e y4 ⟨iA,ic,oA,oc,rfl,hT,hk⟩
   refine hK _ _ hk ?_
   clear hK K
   have HQ16 : w1.heap.size ≤ y3.heap.size:=Q.out.size
   have Hprev:=Q
   replace Q:=Lib.hid (keep_trans Q.out hk)
   have hs_y4 : y3.heap.size ≤ y4.heap.size:=hk.size
   replace HX:=Lib.hid (HX.out.keep hk)
   have HT : Hid (∀ W,Keep w W → (∀ k,y3.heap.size ≤ k → k < y4.heap.size → W.heap[k]? = y4.heap[k]?) → TxR.at ⟨m.t.ver,iA,m.t.ins,ic,oA,m.t.outs,oc,m.t.lock⟩ W):=Lib.hid fun W h1 h2 => hT W ⟨h1,h2⟩
   obtain ⟨ds,hds⟩ : ∃ ds : Array Value,ds = (bareM m ⟨m.t.ver,iA,m.t.ins,ic,oA,m.t.outs,oc,m.t.lock⟩).cells.toArray:=⟨_,rfl⟩
   have HDS : Hid (MsB (bareM m ⟨m.t.ver,iA,m.t.ins,ic,oA,m.t.outs,oc,m.t.lock⟩) ds):=Lib.hid (by rw [hds];exact MsB.of (bareM_ok HO.out _))
   have HBU : Hid (Tryd.prog.built 63 [(0,.int .i64 m.kind),(1,u32v m.proto),(2,u64v m.nonce),(3,u32v m.height),(4,.slice m.hA m.hs.length m.hc),(5,.slice m.lA m.ls.length m.lc),(6,.agg ss),(9,.agg #[u32v m.t.ver,.slice iA m.t.ins.length ic,.slice oA m.t.outs.length oc,u32v m.t.lock])] = some ds):=Lib.hid (by rw [hds];exact BU.out _ _ _ _)
   have hdz:=HDS.out.z;have hdn:=HDS.out.n;have hdi:=HDS.out.i
   clear hT hds
   clear hk
   refine fc_nil (mt_take y4 (Below.refl _ _) ?_)
   simp only [pick_cons,pick_nil,nth_zero,nth_succ]
   repeat (first | ((with_reducible refine wpQuiet_buildm [(0,.int .i64 m.kind),(1,u32v m.proto),(2,u64v m.nonce),(3,u32v m.height),(4,.slice m.hA m.hs.length m.hc),(5,.slice m.lA m.ls.length m.lc),(6,.agg ss),(9,.agg #[u32v m.t.ver,.slice iA m.t.ins.length ic,.slice oA m.t.outs.length oc,u32v m.t.lock])] ds (Eq.trans ?_ rfl) HBU.out ?_);rfl;simp only [Act.put,Array.set!_eq_setIfInBounds,List.setIfInBounds_toArray,List.set_cons_succ,List.set_cons_zero]) | go_big_quiet_step (fail))
   refine wpQuiet_nil (mt_end ?_)
   obtain ⟨wa,hsta,hba,hga⟩:=run_store_blk (P:=Tryd.prog) ds.toList HX.out (by rw [Array.length_toList,Array.length_toList,hzz,hdz]) HDS.out.o
   have Hba:=Lib.hid hba;have Hga:=Lib.hid hga
   have hga1:=hga.size;have hQs:=Q.out.size
   clear hba hga
   go_wp2
   go_meet
   refine ⟨gx,iA,ic,oA,oc,rfl,by omega,Lib.hid (Q.out.grown Hga.out (by omega) (fun q hq => by injection hq with hq;omega)),by rw [← HDS.out.l];exact Hba,Lib.hid (fun W h1 h2 => HT.out W h1 fun k a b => ?_)⟩
   have hkg : k ≠ gx:=by omega
   exact (h2 k (by omega) (by omega) hkg).trans (Hga.out.block k (by omega) (fun e => hkg (Option.some.inj e)))
 case rest =>
  obtain ⟨gx,iA,ic,oA,oc,rfl,hgx,HK5,HX5,HT5⟩:=hcut
  clear c0 c1 c2 c3 c4 c5 t0 t1 t2 t3 RS TT BU
  have hgl:=HX5.out.lt
  have HB5:=Lib.hid (HB1.out.keep HK5.out);have HR5:=Lib.hid (HR1.out.keep HK5.out)
  have HKW:=Lib.hid (keep_trans HK1.out HK5.out)
  have HOB:=Lib.hid (bareM_ok HO.out ⟨m.t.ver,iA,m.t.ins,ic,oA,m.t.outs,oc,m.t.lock⟩)
  obtain ⟨M1,hM1⟩ : ∃ M1,bareM m ⟨m.t.ver,iA,m.t.ins,ic,oA,m.t.outs,oc,m.t.lock⟩ = M1:=⟨_,rfl⟩
  have HM1:=Lib.hid hM1
  rw [hM1] at HX5 HOB
  clear hM1
  have HI : Hid (∀ k (h : k < m.is.length),∃ (b off : Nat) (x : Itm) (ss : Array Value),m.iA = some ⟨b,off,none⟩∧b < w.heap.size∧w.cell? ⟨b,off + k * 33,none⟩ = some (u32v x.ty)∧w.rangeAt b (off + k * 33 + 1) ss.toList∧HashA x.h ss∧x.ok∧m.is[k]? = some x):=Lib.hid fun k h => item_parts HM.out.i HO.out.i h
  obtain ⟨n,hn⟩ : ∃ n,m.is.length = n:=⟨_,rfl⟩
  have HN:=Lib.hid hn
  rw [hn] at hit HI
  clear hn
  have x38 : ∀ y,Blk y w.heap.size 50 m.cells → y.cell? ⟨w.heap.size,38,none⟩ = some (.slice m.iA n m.ic):=fun y hy => (hy.cell 38).trans ((MsgR.tail_get HO.out 0).trans (by rw [← HN.out];rfl))
  have X38:=Lib.hid x38
  clear x38
  generalize m.iA = mA at *
  have HXI : Hid (Blk wc gx 63 (withI M1 none (m.is.take 0) 0).cells):=Lib.hid (by have q:=HX5.out;rw [← HM1.out] at q ⊢;exact q)
  have Own0 : Hid (wc.ownsRow wc.heap.size 97 33 (.slice none 0 0) 0 ((m.is.take 0).flatMap Itm.cells)):=Lib.hid (World.ownsRow_nil _ _ _ _)
  have KX0 : Hid (KeepX (fun k => k = gx) wc wc):=Lib.hid (KeepX.of (Below.refl _ _))
  go_wp2_with fail
  go_loopw [4] (fun x wr => ∃ (j : Nat) (A : Option Addr) (c : Nat),j ≤ n∧x = .int .i64 j∧Hid (Blk wr gx 63 (withI M1 A (m.is.take j) c).cells)∧Hid (wr.ownsRow wc.heap.size 97 33 (.slice A j c) j ((m.is.take j).flatMap Itm.cells))∧Hid (Blk wr w.heap.size 50 m.cells)∧Hid (Blk wr (w.heap.size + 1) 63 zs.toList)∧Hid (Keep w wr)∧Hid (KeepX (fun k => k = gx) wc wr)) (fun x _ => n - (intOf x).toNat)
  case atStart => exact ⟨0,none,0,Nat.zero_le _,rfl,HXI,Own0,HB5,HR5,HKW,KX0⟩
  case round =>
   obtain ⟨j,A,c,hj,rfl,HX,Own,HB,HR,HK,KX⟩:=hrel
   clear HXI Own0 HB5 HR5 HKW KX0 HX5 HK5
   have t2:=X38.out _ HB.out
   have hlj : (m.is.take j).length = j:=by rw [List.length_take,HN.out];omega
   have HLJ:=Lib.hid hlj
   clear hlj
   by_cases hlt : j < n
   ·obtain ⟨b,off,x,ds,hmA,hbl,e0,e1,hds,hok,hget⟩:=HI.out j hlt
    subst hmA
    have hdn:=hds.n;have hdz:=hds.z;have hdi:=hds.i
    have HDS:=Lib.hid hds;have HOK:=Lib.hid hok
    have e0:=keep_cell HK.out e0
    have RE:=Lib.hid (range_keep HK.out e1)
    have d4 : (j : Int) < n:=by omega
    have HGE:=Lib.hid hget
    obtain ⟨es,hes⟩ : ∃ es : Array Value,es = (Itm.cells x).toArray:=⟨_,rfl⟩
    have HBu : Hid (Tryd.prog.built 97 [(0,u32v x.ty),(1,.agg ds)] = some es):=Lib.hid (by rw [hes];exact ritem_built x.ty x.h ds hok hds)
    have hel : es.toList = x.cells:=by rw [hes]
    have hez : es.size = 33:=by rw [hes];simpa using Itm.len hok
    have HEO : Hid (∀ v ∈ es.toList,v.oneCell' = true):=Lib.hid (by rw [hel];exact x.one)
    have HEL:=Lib.hid hel
    clear hget HI hds hok e1 hes hel
    go_upto_region 5 with fail
    letI iM : G.Mk:=⟨(Value.slice A j c).ownBlock⟩
    refine G.wp_region_tree (.take [0,1,2,3,4,5,6,7,8,9,10,11,12,13,14] (.force [15,16] .done)) [17,18] (by kernel_rfl) (by kernel_rfl) (fun w8 k8 => ?_)
    have HX8:=Lib.hid (HX.out.keep k8);have Own8:=Lib.hid (own_keep Own.out k8);have HB8:=Lib.hid (HB.out.keep k8);have HR8:=Lib.hid (HR.out.keep k8);have HK8:=Lib.hid (keep_trans HK.out k8)
    have KX8 : Hid (KeepX (fun k => k = gx) wc w8):=Lib.hid (KX.out.trans (KeepX.of k8) fun _ _ q => q)
    have e0:=keep_cell k8 e0;have RE8:=Lib.hid (range_keep k8 RE.out)
    clear k8 HX Own HB HR HK KX t2 RE
    have hwc:=HK8.out.size
    have hww:=keep_size_w HK1.out
    have hneX : G.Mk.m ≠ some gx:=fun q => by have:=(Own8.out.lt _ q).1;omega
    have hneT : G.Mk.m ≠ some w.heap.size:=fun q => by have:=(Own8.out.lt _ q).1;omega
    have hneB : G.Mk.m ≠ some b:=fun q => by have:=(Own8.out.lt _ q).1;omega
    have q0 : w8.cell? ⟨gx,38,none⟩ = some (.slice A j c):=(HX8.out.cell 38).trans ((MsgR.tail_get (m:=withI M1 A (m.is.take j) c) (withI_ok HOB.out (fun x hx => HO.out.i x (List.mem_of_mem_take hx))) 0).trans (by show some (Value.slice A (m.is.take j).length c) = _;rw [HLJ.out]))
    have b0:=G.aftG_cell q0 hneX
    have b1:=G.aftG_cell (X38.out _ HB8.out) hneT
    have b2:=G.aftG_cell e0 hneB
    refine G.mt_take w8 (G.Gr.refl _) ?_
    simp only [pick_cons,pick_nil,nth_zero,nth_succ]
    repeat (first | ((with_reducible refine G.wpQuiet_load_partgG b (off + j * 33 + 1) ds (Eq.trans ?_ rfl) RE8.out hneB _ hash_under rfl hdi ?_);rfl;simp only [Act.put,Array.set!_eq_setIfInBounds,List.setIfInBounds_toArray,List.set_cons_succ,List.set_cons_zero]) | ((with_reducible refine wpQuiet_buildm [(0,u32v x.ty),(1,.agg ds)] es (Eq.trans ?_ rfl) HBu.out ?_);rfl;simp only [Act.put,Array.set!_eq_setIfInBounds,List.setIfInBounds_toArray,List.set_cons_succ,List.set_cons_zero]) | go_big_quiet_step (fail))
    refine wpQuiet_nil (G.mt_force ?_)
    clear b0 b1 b2 hneX hneT hneB e0 q0
    simp only [pick_cons,pick_nil,nth_zero,nth_succ]
    refine G.fc_step rfl (fun K hK => ?_)
    refine wp_build1b ritemT _ rfl es hez (by omega) rfl (hK _ _ (G.Gr.of_keep (keep_new _ _)) ?_)
    clear hK K
    simp only [Act.put,Array.set!_eq_setIfInBounds,List.setIfInBounds_toArray,List.set_cons_succ,List.set_cons_zero]
    obtain ⟨w9,hw9⟩ : ∃ w9,w9 = w8.alloc (.cells es 97):=⟨_,rfl⟩
    have HL9 : Hid (Rd w9 (some ⟨w8.heap.size,0,none⟩) es.toList):=by rw [hw9];exact Lib.hid (by simpa using Rd.new w8 es.toList 97)
    have k9 : Keep w8 w9:=by rw [hw9];exact keep_new _ _
    rw [← hw9]
    have HX9:=Lib.hid (HX8.out.keep k9);have Own9:=Lib.hid (own_keep Own8.out k9);have HB9:=Lib.hid (HB8.out.keep k9);have HR9:=Lib.hid (HR8.out.keep k9);have HK9:=Lib.hid (keep_trans HK8.out k9)
    have KX9 : Hid (KeepX (fun k => k = gx) wc w9):=Lib.hid (KX8.out.trans (KeepX.of k9) fun _ _ q => q)
    clear hw9 k9 HX8 Own8 HB8 HR8 HK8 KX8
    have hs9:=KX9.out.2.2.2.1
    refine G.fc_step rfl (fun K hK => ?_)
    refine wp_app ritemT _ _ (by rfl) wc.heap.size _ j _ (by rfl) Own9.out _ 1 1 es.toList (by rfl) (by rw [Array.length_toList,hez]) HL9.out HEO.out (by omega) (by unfold maxLen;omega) hs9 ?_
    intro v' wq ownq hgq hatq
    refine hK _ _ hgq ?_
    clear hK K HL9
    simp only [Act.put,Array.set!_eq_setIfInBounds,List.setIfInBounds_toArray,List.set_cons_succ,List.set_cons_zero]
    have HXq:=Lib.hid (HX9.out.grown hgq (fun q => by have:=(Own9.out.lt _ q).1;omega))
    have HBq:=Lib.hid (HB9.out.grown hgq (fun q => by have:=(Own9.out.lt _ q).1;omega))
    have HRq:=Lib.hid (HR9.out.grown hgq (fun q => by have:=(Own9.out.lt _ q).1;omega))
    have HKq : Hid (Keep w wq):=Lib.hid (keep_grown HK9.out HK9.out.size hgq (own_base Own9.out (by omega)))
    have KXq : Hid (KeepX (fun k => k = gx) wc wq):=Lib.hid (KX9.out.grown hgq (fun i hi q => by have:=(Own9.out.lt _ q).1;omega))
    have Ownq:=Lib.hid ownq
    clear ownq hgq hatq HX9 HB9 HR9 HK9 KX9 Own9 hs9
    obtain ⟨Aw,cw,rfl,-,-,-⟩:=own_form Ownq.out
    have y3 : ∃ v,wq.cell? ⟨gx,38,none⟩ = some v:=⟨_,(HXq.out.cell 38).trans (List.getElem?_eq_getElem (by rw [MsgR.len (withI_ok HOB.out (fun x hx => HO.out.i x (List.mem_of_mem_take hx)))];omega))⟩
    obtain ⟨v3,y3⟩:=y3
    have f3:=HXq.out.frozen 38
    refine G.fc_nil (G.mt_end ?_)
    clear iM
    go_wp2
    obtain ⟨w4,hw4⟩ : ∃ w4,w4 = wq.setCell ⟨gx,38,none⟩ (.slice Aw (j + 1) cw):=⟨_,rfl⟩
    have HX4 : Hid (Blk w4 gx 63 (withI M1 Aw (m.is.take (j + 1)) cw).cells):=by
     rw [hw4]
     have q:=HXq.out.set_ 38 (.slice Aw (j + 1) cw)
     rw [set38w (withI_ok HOB.out (fun x hx => HO.out.i x (List.mem_of_mem_take hx))) Aw (m.is.take (j + 1)) (j + 1) cw (by rw [List.length_take,HN.out];omega)] at q
     exact Lib.hid q
    have HB4 : Hid (Blk w4 w.heap.size 50 m.cells):=by rw [hw4];exact Lib.hid (HBq.out.far (by simp <;> omega) _)
    have HR4 : Hid (Blk w4 (w.heap.size + 1) 63 zs.toList):=by rw [hw4];exact Lib.hid (HRq.out.far (by simp <;> omega) _)
    have Own4 : Hid (w4.ownsRow wc.heap.size 97 33 (.slice Aw (j + 1) cw) (j + 1) ((m.is.take (j + 1)).flatMap Itm.cells)):=by
     rw [hw4]
     refine Lib.hid (own_eq (ownsRow_setCell_below Ownq.out (a:=⟨gx,38,none⟩) (by omega) _) rfl ?_)
     rw [HEL.out,List.take_add_one,HGE.out,List.flatMap_append];simp
    have HK4 : Hid (Keep w w4):=by rw [hw4];exact Lib.hid (Below.setCell HKq.out (by simp <;> omega) _)
    have KX4 : Hid (KeepX (fun k => k = gx) wc w4):=by rw [hw4];exact Lib.hid (KeepB.set KXq.out 38 _)
    rw [← hw4]
    clear hw4 HXq HBq HRq Ownq HKq KXq y3 f3 HGE HEL HEO HBu HDS HOK HLJ RE8
    go_roundw
    case rel => exact ⟨j + 1,Aw,cw,by omega,by go_num,HX4,Own4,HB4,HR4,HK4,KX4⟩
    case measure => simp [intOf];omega
   ·obtain rfl : j = n:=by omega
    have d4 : ¬ (j : Int) < j:=by omega
    obtain ⟨Ai,ci,hAi,hci1,hci2,-⟩:=own_form Own.out
    obtain ⟨rfl,rfl⟩ : A = Ai∧c = ci:=by injection hAi with h1 _ h3;exact ⟨h1,h3⟩
    clear hAi
    have ht : m.is.take j = m.is:=List.take_of_length_le (by rw [HN.out];omega)
    rw [ht] at HX Own
    obtain rfl:=HM1.out
    have HO2:=Lib.hid (withI_ok HOB.out (A:=A) (c:=c) HO.out.i)
    have RH : Hid (wr.rangeAt w.heap.size 39 hv.toList):=Lib.hid (range_of HB.out 39 hv.toList (by
     rw [HHV.out.l,MsgR.cells39,List.drop_left' (MsgR.hd39_len HO.out.s)]
     unfold MsgR.blk
     rw [List.append_assoc,List.take_left' rfl]))
    have r107 : wr.cell? ⟨w.heap.size,107,none⟩ = some (u32v m.total):=(HB.out.cell 107).trans ((MsgR.blk_tail HO.out 0 (by omega)).trans rfl)
    have r108 : wr.cell? ⟨w.heap.size,108,none⟩ = some (.slice m.sA m.shs.length m.sc):=(HB.out.cell 108).trans ((MsgR.blk_tail HO.out 1 (by omega)).trans rfl)
    have r109 : wr.cell? ⟨w.heap.size,109,none⟩ = some (.slice m.fA m.fs.length m.fc):=(HB.out.cell 109).trans ((MsgR.blk_tail HO.out 2 (by omega)).trans rfl)
    obtain ⟨wp,hstp,hbp,hgp⟩:=run_store_prt (P:=Tryd.prog) 39 bs.toList HX.out (by rw [MsgR.len HO2.out,Array.length_toList,hbz];omega) (by rw [HBS.out];intro u hu;exact MsgR.one m u (by rw [MsgR.cells39];simp [hu]))
    rw [HBS.out,MsgR.splice_blk HO2.out HO.out.b] at hbp
    have HBP:=Lib.hid hbp;have HGP:=Lib.hid hgp
    have HRP:=Lib.hid (HR.out.grown hgp (fun q => by have:=Option.some.inj q;omega))
    have HKP : Hid (Keep w wp):=Lib.hid (HK.out.grown hgp HK.out.size (fun q hq => by injection hq with hq;omega))
    clear hbp hgp
    obtain ⟨M3,hM3⟩ : ∃ M3,MsgR.mk m.kind m.proto m.nonce m.height m.hA m.hs m.hc m.lA m.ls m.lc m.stop A m.is c m.bh m.total m.sA m.shs m.sc m.fA m.fs m.fc ⟨m.t.ver,iA,m.t.ins,ic,oA,m.t.outs,oc,m.t.lock⟩ = M3:=⟨_,rfl⟩
    have HBQ : Hid (Blk wp gx 63 M3.cells):=Lib.hid (by rw [← hM3];exact HBP.out)
    have HO3 : M3.ok:=by rw [← hM3];exact ⟨HO.out.k,HO.out.n,HO.out.s,HO.out.b,HO.out.h,HO.out.l,HO.out.i,HO.out.z⟩
    obtain ⟨ds,hds⟩ : ∃ ds,MsB M3 ds:=⟨_,MsB.of HO3⟩
    have hdz:=hds.z;have hdn:=hds.n;have hdi:=hds.i
    have HDS:=Lib.hid hds
    have HBx : Hid (Blk wp gx 63 ds.toList):=Lib.hid (by rw [HDS.out.l];exact HBQ.out)
    obtain ⟨w8,hst8,hb8,hg8⟩:=run_store_blk (P:=Tryd.prog) ds.toList HRP.out (by rw [Array.length_toList,Array.length_toList,hzz,hdz]) HDS.out.o
    have Hb8:=Lib.hid hb8;have Hg8:=Lib.hid hg8
    have HM3:=Lib.hid hM3
    have HO3:=Lib.hid HO3
    clear hds hb8 hg8 HBP HBQ hM3 ht
    go_wp2_with (first | ((with_reducible refine load_partg w.heap.size 39 hv (Eq.trans ?_ rfl) RH.out _ Tryd.underlying42 rfl hvi rfl ?_);rfl) | ((with_reducible refine list_bldg [(0,.agg hv),(1,u32v m.total),(2,.slice m.sA m.shs.length m.sc),(3,.slice m.fA m.fs.length m.fc)] bs (Eq.trans ?_ rfl) BB.out (Eq.trans ?_ rfl) ?_);rfl;rfl) | ((with_reducible refine load_arr gx ds (Eq.trans ?_ rfl) HBx.out _ Tryd.underlying63 rfl hdi ?_);rfl))
    have KF : Keep w w8:=HKP.out.grown Hg8.out HKP.out.size (fun q hq => by injection hq with hq;omega)
    have KX8 : KeepX (fun k => k = gx ∨ k = w.heap.size + 1) wr w8:=((KeepX.of (X:=fun k => k = gx ∨ k = w.heap.size + 1) (Below.refl wr.heap.size wr)).grown HGP.out (fun i _ q => .inl (Option.some.inj q).symm)).grown Hg8.out (fun i _ q => .inr (Option.some.inj q).symm)
    have o1:=own_kx Own.out KX8 (fun g q e => by have:=(Own.out.lt g q).1;omega)
    have hT:=HT5.out w8 KF (fun k h1 h2 h3 => (KX8.2.2.2.2 k (Nat.lt_of_lt_of_le h2 KX.out.2.2.2.1) (by rintro (e | e) <;> omega)).trans (KX.out.2.2.2.2 k h2 h3))
    have hat : M3.at_ w8:=by
     rw [← HM3.out]
     exact ⟨by rw [HM3.out];exact HO3.out,HM.out.h.keep KF,HM.out.hc,HM.out.l.keep KF,HM.out.lc,own_rd o1,⟨by rw [HN.out];exact hci1,hci2⟩,HM.out.s.keep KF,HM.out.sc,HM.out.f.keep KF,HM.out.fc,hT⟩
    exact bodyPost_ret (v:=.agg ds) (results_cell_row Tryd.results20 _ _ (w.heap.size + 1) _ _ _ _ rfl Hb8.out Tryd.underlying63 rfl (by rw [List.size_toArray,Array.length_toList];exact hdi)) rfl ⟨M3,ds,rfl,HDS.out,by rw [← HM3.out];rfl,hat,KF⟩
end Go.Proofs.YtffpanlpbdnafaaDoor
/- peer.Handle (printed by gen_qg.py) -/
set_option linter.unusedSimpArgs false
set_option linter.unusedVariables false
namespace Go.Proofs.YtffpanlpbdnafaaDoor
open Go.RowKit
attribute [local go_sem ↓] Go.wp_at_zero Go.wp_at_succ
def hdlP (p : PeR) (m : MsgR) : PeR × List MsgR × Int :=
 if (takenP p).stage = 3 then (takenP p,[],16)
 else if fitsB m = false then ((takenP p).ban,[],2)
 else if (takenP p).stage = 0∧m.kind = 0 then ({ takenP p with stage:=1,nonce:=m.nonce,height:=m.height },[{ msgZ 0 with proto:=70015,nonce:=m.nonce },msgZ 1],0)
 else if (takenP p).stage = 1∧m.kind = 1 then ({ takenP p with stage:=2 },[],0)
 else if (takenP p).stage = 2∧m.kind = 2 then (takenP p,[{ msgZ 3 with nonce:=m.nonce }],0)
 else if (takenP p).stage = 2∧m.kind = 5 then ({ takenP p with asked:=false,misses:=0 },[],0)
 else if (takenP p).stage = 2∧m.kind ≠ 0∧m.kind ≠ 1 then (takenP p,[],0)
 else ((takenP p).ban,[],15)
theorem ev_guard : Tryd.prog.eqGuardType Tryd.prog.depth 89 = false:=by kernel_rfl
theorem ev_stood : Tryd.prog.stoodInHeld 89 = false:=by kernel_rfl
theorem ev_struct : Tryd.prog.underlying 89 = some (.struct (Tryd.prog.fieldsOf 89)):=by kernel_rfl
theorem ev_fields : ((Tryd.prog.fieldsOf 89).toList.map fun f => (f.name != "_", f.type, f.offset)) = [(true, 3, 0), (true, 3, 1)] := by kernel_rfl
theorem int_agg (w : World) : (isAgg 3).run Tryd.prog w = .ok false w:=by kernel_rfl
theorem part_iv {cs : Array Value} {off : Nat} {v : Value} (h : cs[off]? = some v) (w : World) : (part 3 cs off).run Tryd.prog w = .ok v w:=by
 simp only [part,Sem.run_bind,int_agg,Result.andThen_ok,Bool.false_eq_true,if_false,h,Sem.run_pure]
theorem ev_in (a b c d : Int) (w : World) : (Op.equalIn 10000 89 (.agg #[iv a,iv b]) (.agg #[iv c,iv d])).run Tryd.prog w = .ok ((a == c) && ((b == d) && true)) w:=by
 rw [show (10000 : Nat) = 9998 + 2 from rfl,run_equalIn_agg w 9999 _ _ _ ev_struct ev_stood,eqF_of Tryd.prog,ev_fields]
 refine eqF_step (part_iv rfl w) (part_iv rfl w) (run_equalIn_int w 9998 _ .i64 .i64 _ _ Tryd.underlying3) (eqF_step (part_iv rfl w) (part_iv rfl w) (run_equalIn_int w 9998 _ .i64 .i64 _ _ Tryd.underlying3) ?_)
 rw [eqF];rfl
theorem event_eq (a b c d : Int) (w : World) : (Go.binOp .eql 89 (.agg #[iv a,iv b]) (.agg #[iv c,iv d])).run Tryd.prog w = .ok (.bool ((a == c) && ((b == d) && true))) w:=by
 rw [run_eql_struct,ev_in];rfl
theorem ev_t {a b c d : Int} (h : a = c∧b = d) : ((a == c) && ((b == d) && true)) = true:=by obtain ⟨rfl,rfl⟩:=h;simp
theorem ev_f {a b c d : Int} (h : ¬ (a = c∧b = d)) : ((a == c) && ((b == d) && true)) = false:=by
 rw [Bool.eq_false_iff];intro q;apply h;simpa using q
set_option maxRecDepth 100000 in
theorem msgsT : ElT Tryd.prog 32 50 (Value.agg zmsg) 114 336:=ElT.mk' Tryd.underlying32 (by kernel_rfl) zmsg_size (by omega)
theorem pong_built (n : Nat) (h : n < 2 ^ 64) : ∃ ks,MsA { msgZ 3 with nonce:=n } ks∧Tryd.prog.built 50 [(0,.int .i64 3),(2,u64v n)] = some ks:=by
 have ho:=msgZ_ok 3 (by omega)
 exact ⟨_,MsA.of (m:={ msgZ 3 with nonce:=n }) ⟨ho.k,h,ho.s,ho.b,ho.h,ho.l,ho.i,ho.z⟩,by kernel_rfl⟩
theorem hello_built (n : Nat) (h : n < 2 ^ 64) : ∃ ks,MsA { msgZ 0 with proto:=70015,nonce:=n } ks∧Tryd.prog.built 50 [(0,.int .i64 0),(1,.int .u32 70015),(2,u64v n)] = some ks:=by
 have ho:=msgZ_ok 0 (by omega)
 exact ⟨_,MsA.of (m:={ msgZ 0 with proto:=70015,nonce:=n }) ⟨ho.k,h,ho.s,ho.b,ho.h,ho.l,ho.i,ho.z⟩,by kernel_rfl⟩
theorem foldl_setoff (off : Nat) : ∀ (l : List Value) (k : Nat) (acc : Array Value),off + k + l.length ≤ acc.size → (l.zipIdx k).foldl (fun cs x => cs.setIfInBounds (off + x.2) x.1) acc = (acc.toList.take (off + k) ++ l ++ acc.toList.drop (off + k + l.length)).toArray
 | [],k,acc,h => by simp
 | v :: r,k,acc,h => by
   rw [List.zipIdx_cons,List.foldl_cons,foldl_setoff off r (k + 1) _ (by simp at h ⊢;omega)]
   have hk : off + k < acc.size:=by simp at h;omega
   congr 1
   rw [Array.toList_setIfInBounds,← Nat.add_assoc,List.take_succ_eq_append_getElem (by simpa using hk),List.getElem_set_self,List.take_set_of_le (Nat.le_refl _),List.drop_set_of_lt (by omega)]
   have e : off + k + (v :: r).length = off + k + 1 + r.length:=by simp;omega
   simp only [e,List.append_assoc,List.singleton_append,List.cons_append,List.nil_append]
theorem fill_step {place : Nat → Option (Nat × Nat)} {acc : Array Value} {i off size : Nat} {v : Value} {rest : List (Nat × Value)} (hp : place i = some (off,size)) (hv : v.cells.size = size) (ho : off + size ≤ acc.size) :
  Instr.fill place acc ((i,v) :: rest) = Instr.fill place (acc.toList.take off ++ v.cells.toList ++ acc.toList.drop (off + size)).toArray rest:=by
 rw [Instr.fill,hp]
 simp only []
 rw [if_neg (by simp [hv];omega)]
 congr 1
 rw [← Array.foldl_toList,Array.toList_zipIdx]
 have:=foldl_setoff off v.cells.toList 0 acc (by simp [hv];omega)
 rw [Nat.add_zero] at this
 rw [show v.cells.toList.length = size from by simpa using hv] at this
 exact this
theorem wp_build2b {P : Program} {t e : TypeId} {zc : Array Value} {size bytes : Nat} (T : ElT P t e (.agg zc) size bytes) {o : Oper} {a : Act} {w : World} {K : Act → World → Prop} {Q : Exit → Act → World → Prop} (x y : Operand) (ho : o.op = .buildSlice t 2 #[(0,x),(1,y)])
  (cs ds : Array Value) (hz : cs.size = size) (hzd : ds.size = size) (hsm : size ≤ 1000) (hx : a.eval x = .agg cs) (hy : a.eval y = .agg ds)
  (h : K (a.put o.dst (.slice (some ⟨w.heap.size,0,none⟩) 2 2)) (w.alloc (.cells (cs.toList ++ ds.toList).toArray e))) : o.wp P a w K Q:=by
 obtain ⟨i,hi,hiz,his,_⟩:=T.info
 have hzc : zc.size = size:=T.zs
 have hp:=T.pos
 refine wp_buildSlice t e 2 _ ho (cs.toList ++ ds.toList).toArray i (.agg zc) T.und hi hiz (by rw [his];omega) (by rw [his];omega) ?_ h
 have hc : (Value.agg cs).cells = cs:=rfl
 have hd : (Value.agg ds).cells = ds:=rfl
 have hcl : cs.toList.length = size:=by simpa using hz
 have hdl : ds.toList.length = size:=by simpa using hzd
 simp only [List.map_toArray,List.map_cons,List.map_nil,hx,hy,his]
 rw [fill_step (off:=0 * size) (size:=size) rfl (by rw [hc,hz]) (by simp;omega)]
 rw [fill_step (off:=1 * size) (size:=size) rfl (by rw [hd,hzd]) (by simp [hc,hz];omega)]
 rw [Instr.fill]
 congr 2
 rw [hc,hd,Nat.zero_mul,Nat.one_mul,List.take_zero,List.nil_append]
 rw [List.take_append_of_le_length (by omega),List.take_of_length_le (by omega)]
 have : List.drop (size + size) (cs.toList ++ List.drop (0 + size) ((Array.range (2 * size)).map fun j => (Value.agg zc).cells[j % (Value.agg zc).cells.size]!).toList) = []:=List.drop_eq_nil_of_le (by simp [hz];omega)
 simp only [] at this ⊢
 rw [this,List.append_nil]
def Hdl (R : PeR × List MsgR × Int) (w : World) (e : Ending) (w' : World) : Prop :=
 ∃ ds A n,e = .returned (.tuple #[.agg ds,.slice A R.2.1.length n,iv R.2.2])∧PeA R.1 ds∧R.2.1.length ≤ n∧n ≤ 2∧Rd w' A (R.2.1.flatMap MsgR.cells)∧Keep w w'
set_option maxRecDepth 100000 in
set_option maxHeartbeats 4000000 in
theorem handle_any (p : PeR) (cs : Array Value) (hA : PeA p cs) (hr : p.rs = []) (m : MsgR) (ms : Array Value) (hM : MsA m ms) (w : World) (hm : m.at_ w) :
  Calls Tryd.prog 8 #[.agg cs,.agg ms] w (Hdl (hdlP p m) w):=by
 have HT : Hid (hdlP p m = _):=Lib.hid (hdlP.eq_1 p m)
 generalize hdlP p m = R at *
 obtain ⟨zs,hz0,hzA⟩:=zpeer_letter
 have FT : Hid (∀ y,Keep w y → Calls Tryd.prog 16 #[.agg ms] y fun e w' => e = .returned (.bool (fitsB m))∧Keep y w'):=Lib.hid fun y hy => fits_any m ms hM hm.o y (hm.t.keep hy)
 have TK : Hid (∀ y,Calls Tryd.prog 26 #[.agg cs] y fun e w' => ∃ ds,e = .returned (.agg ds)∧PeA (takenP p) ds∧Keep y w'):=Lib.hid fun y => ptaken_any p cs hA hr y
 have hcn:=hA.n;have hcz:=hA.z;have hci:=hA.i
 have hzn:=hzA.n;have hzz:=hzA.z
 have HA:=Lib.hid hA;have HZ:=Lib.hid hzA
 have hmn:=hM.n;have hmz:=hM.z;have hmi:=hM.i
 have HMS:=Lib.hid hM
 have HNN:=Lib.hid hm.o.n
 clear hA hzA hr hM hm
 generalize takenP p = q at *
 generalize fitsB m = b at *
 go_enter Tryd.func8,Tryd.ntmps8
 go_upto_region 1 with fail
 obtain ⟨w1,hw1⟩ : ∃ w1,w1 = ((w.alloc (.cells cs 31)).alloc (.cells ms 50)).alloc (.cells zs 31):=⟨_,rfl⟩
 have HB1 : Hid (Blk w1 w.heap.size 31 cs.toList):=by rw [hw1];exact Lib.hid (((Blk.new w _ cs.toList).alloc _).alloc _)
 have HM1 : Hid (Blk w1 (w.heap.size + 1) 50 ms.toList):=by
  rw [hw1]
  have h2:=Blk.new (w.alloc (.cells cs 31)) 50 ms.toList
  rw [World.size_alloc] at h2
  exact Lib.hid (h2.alloc _)
 have HR1 : Hid (Blk w1 (w.heap.size + 2) 31 zs.toList):=by
  rw [hw1]
  have h2:=Blk.new ((w.alloc (.cells cs 31)).alloc (.cells ms 50)) 31 zs.toList
  rw [World.size_alloc,World.size_alloc] at h2
  exact Lib.hid h2
 have HK1 : Hid (Keep w w1):=by rw [hw1];exact Lib.hid (keep_trans (keep_trans (keep_new _ _) (keep_new _ _)) (keep_new _ _))
 rw [← hw1]
 clear hw1
 go_wp2_with ((with_reducible refine load_arr w.heap.size cs (Eq.trans ?_ rfl) HB1.out _ Tryd.underlying31 rfl hci ?_);rfl)
 refine (TK.out _).mono ?_
 clear TK
 rintro e w2 ⟨qs,rfl,hqA,k2⟩
 have hqn:=hqA.n;have hqz:=hqA.z;have hqi:=hqA.i
 have HQ:=Lib.hid hqA
 have HK2:=Lib.hid (keep_trans HK1.out k2)
 obtain ⟨w3,hst3,hb3,hg3⟩:=run_store_blk (P:=Tryd.prog) qs.toList (HB1.out.keep k2) (by rw [Array.length_toList,Array.length_toList,hcz,hqz]) HQ.out.o
 have HB3 : Hid (Blk w3 w.heap.size 31 q.cells):=by rw [← HQ.out.l];exact Lib.hid hb3
 have HBc3 : Hid (Blk w3 w.heap.size 31 qs.toList):=Lib.hid hb3
 have HM3 : Hid (Blk w3 (w.heap.size + 1) 50 ms.toList):=Lib.hid ((HM1.out.keep k2).grown hg3 (fun e => by injection e with e;omega))
 have HR3 : Hid (Blk w3 (w.heap.size + 2) 31 zs.toList):=Lib.hid ((HR1.out.keep k2).grown hg3 (fun e => by injection e with e;omega))
 have HK3 : Hid (Keep w w3):=Lib.hid (HK2.out.grown hg3 HK2.out.size (fun q hq => by injection hq with hq;omega))
 clear k2 HB1 HR1 HK1 HM1 HK2 hqA hb3 hg3
 go_upto_region 2 with fail
 clear hst3
 have r0 : w3.cell? ⟨w.heap.size,0,none⟩ = some (iv q.stage):=(HB3.out.cell 0).trans rfl
 by_cases h3 : q.stage = 3
 ·have d0 : (q.stage == 3) = true:=by rw [h3];rfl
  have hR : R = (q,[],16):=by rw [HT.out,if_pos h3]
  clear h3
  obtain ⟨w8,hst8,hb8,hg8⟩:=run_store_blk (P:=Tryd.prog) qs.toList HR3.out (by rw [Array.length_toList,Array.length_toList,hzz,HQ.out.z]) HQ.out.o
  have Hb8:=Lib.hid hb8;have Hg8:=Lib.hid hg8
  have hdi8:=HQ.out.i
  have hdn8:=HQ.out.n
  have hdz8:=HQ.out.z
  have HRE:=Lib.hid hR
  clear hb8 hg8 hR HT
  go_wp2_with ((with_reducible refine load_arr w.heap.size qs (Eq.trans ?_ rfl) HBc3.out _ Tryd.underlying31 rfl hdi8 ?_);rfl)
  exact bodyPost_ret (v:=.tuple #[.agg qs,.slice none 0 0,iv 16]) (results_cell_tmp_tmp Tryd.results8 _ _ (w.heap.size + 2) _ _ _ _ rfl Hb8.out Tryd.underlying31 rfl (by rw [List.size_toArray,Array.length_toList];exact hdi8)) rfl (by
   rw [HRE.out]
   exact ⟨qs,none,0,rfl,HQ.out,Nat.le_refl _,Nat.zero_le _,Rd.nil _ _,HK3.out.grown Hg8.out HK3.out.size (fun q hq => by injection hq with hq;omega)⟩)
 have d0 : (q.stage == 3) = false:=by rw [beq_eq_false_iff_ne];exact h3
 have HT2:=Lib.hid (HT.out.trans (if_neg h3))
 clear h3 HT
 go_wp2_with ((with_reducible refine load_arr (w.heap.size + 1) ms (Eq.trans ?_ rfl) HM3.out _ Tryd.underlying50 rfl hmi ?_);rfl)
 refine (FT.out _ HK3.out).mono ?_
 clear FT r0
 rintro e w4 ⟨rfl,k4⟩
 have HBc4:=Lib.hid (HBc3.out.keep k4)
 have HB4:=Lib.hid (HB3.out.keep k4)
 have HM4 : Hid (Blk w4 (w.heap.size + 1) 50 m.cells):=by rw [← HMS.out.l];exact Lib.hid (HM3.out.keep k4)
 have HR4:=Lib.hid (HR3.out.keep k4)
 have HK4:=Lib.hid (keep_trans HK3.out k4)
 clear k4 HBc3 HB3 HM3 HR3 HK3
 cases b
 ·have hR : R = (q.ban,[],2):=by rw [HT2.out,if_pos rfl]
  have hR0:=hR
  have HRE:=Lib.hid hR
  clear hR hR0 HT2
  go_wp2_with ((with_reducible refine load_arr w.heap.size qs (Eq.trans ?_ rfl) HBc4.out _ Tryd.underlying31 rfl hqi ?_);rfl)
  refine (banned_any _ qs HQ.out _).mono ?_
  rintro e w5 ⟨bs,rfl,hbA,k5⟩
  have hbn:=hbA.n;have hbz:=hbA.z;have hbi:=hbA.i
  have HBA:=Lib.hid hbA
  have HK5:=Lib.hid (keep_trans HK4.out k5)
  obtain ⟨w8,hst8,hb8,hg8⟩:=run_store_blk (P:=Tryd.prog) bs.toList (HR4.out.keep k5) (by rw [Array.length_toList,Array.length_toList,hzz,hbz]) hbA.o
  have Hb8:=Lib.hid hb8;have Hg8:=Lib.hid hg8
  clear hb8 hg8 hbA k5
  go_wp2
  exact bodyPost_ret (v:=.tuple #[.agg bs,.slice none 0 0,iv 2]) (results_cell_tmp_tmp Tryd.results8 _ _ (w.heap.size + 2) _ _ _ _ rfl Hb8.out Tryd.underlying31 rfl (by rw [List.size_toArray,Array.length_toList];exact hbi)) rfl (by
   rw [HRE.out]
   exact ⟨bs,none,0,rfl,HBA.out,Nat.le_refl _,Nat.zero_le _,Rd.nil _ _,HK5.out.grown Hg8.out HK5.out.size (fun q hq => by injection hq with hq;omega)⟩)
 have HT:=Lib.hid (HT2.out.trans (if_neg (by decide)))
 clear HT2
 have r0 : w4.cell? ⟨w.heap.size,0,none⟩ = some (iv q.stage):=(HB4.out.cell 0).trans rfl
 have m0 : w4.cell? ⟨w.heap.size + 1,0,none⟩ = some (iv m.kind):=(HM4.out.cell 0).trans rfl
 have hgd:=ev_guard
 by_cases c1 : q.stage = 0∧m.kind = 0
 ·have hR : R = ({ q with stage:=1,nonce:=m.nonce,height:=m.height },[{ msgZ 0 with proto:=70015,nonce:=m.nonce },msgZ 1],0):=HT.out.trans (if_pos c1)
  have he1 : ∀ w,(Go.binOp .eql 89 (.agg #[iv q.stage,iv m.kind]) (.agg #[iv 0,iv 0])).run Tryd.prog w = .ok (.bool true) w:=fun w => by rw [event_eq,ev_t c1]
  have hi1 : ∀ w,(Op.equalIn 10000 89 (.agg #[iv q.stage,iv m.kind]) (.agg #[iv 0,iv 0])).run Tryd.prog w = .ok true w:=fun w => by rw [ev_in,ev_t c1]
  have HC:=Lib.hid c1
  clear c1 HT
  have m2 : w4.cell? ⟨w.heap.size + 1,2,none⟩ = some (u64v m.nonce):=(HM4.out.cell 2).trans rfl
  have m3 : w4.cell? ⟨w.heap.size + 1,3,none⟩ = some (u32v m.height):=(HM4.out.cell 3).trans rfl
  have HRE:=Lib.hid hR
  clear hR
  go_upto_region 8 with fail
  letI iM : G.Mk:=⟨some w.heap.size⟩
  refine G.wp_region_tree (.take [0,1,2,3,4] (.force [5] (.take [6] (.force [7] (.take [8] (.force [9] .done)))))) [] (by kernel_rfl) (by kernel_rfl) (fun wa ka => ?_)
  have hneG : G.Mk.m ≠ some (w.heap.size + 1):=fun q => by have e : w.heap.size = w.heap.size + 1:=Option.some.inj q;omega
  have HBa:=Lib.hid (HB4.out.keep ka);have HMa:=Lib.hid (HM4.out.keep ka);have HRa:=Lib.hid (HR4.out.keep ka);have HKa:=Lib.hid (keep_trans HK4.out ka)
  have b2:=G.aftG_cell (keep_cell ka m2) hneG
  have b3:=G.aftG_cell (keep_cell ka m3) hneG
  clear ka HB4 HM4 HR4 HK4 HBc4 m2 m3 m0 r0 hgd he1 hi1
  refine G.mt_take wa (G.Gr.refl _) ?_
  simp only [pick_cons,pick_nil,nth_zero,nth_succ]
  repeat (go_big_quiet_step (fail))
  refine wpQuiet_nil (G.mt_force ?_)
  clear b2 b3 hneG
  simp only [pick_cons,pick_nil,nth_zero,nth_succ]
  refine G.fc_step rfl (fun K hK => ?_)
  obtain ⟨v0,z0⟩ : ∃ v,wa.cell? ⟨w.heap.size,0,none⟩ = some v:=⟨_,(HBa.out.cell 0).trans rfl⟩
  have y0:=HBa.out.frozen 0
  go_simp
  refine hK _ _ (show G.Gr wa _ from grown_set (grown_refl wa _)) ?_
  clear hK K z0 y0
  obtain ⟨wb0,hwb⟩ : ∃ wb,wb = wa.setCell ⟨w.heap.size,0,none⟩ (.int .i64 1):=⟨_,rfl⟩
  have HBb0 : Hid (Blk wb0 w.heap.size 31 (PeR.cells { q with stage:=1 })):=by
   rw [hwb]
   have q:=HBa.out.set_ 0 (.int .i64 1)
   exact Lib.hid q
  have HMb0 : Hid (Blk wb0 (w.heap.size + 1) 50 m.cells):=by rw [hwb];exact Lib.hid (HMa.out.far (by simp) _)
  have HRb0 : Hid (Blk wb0 (w.heap.size + 2) 31 zs.toList):=by rw [hwb];exact Lib.hid (HRa.out.far (by simp) _)
  have HKb0 : Hid (Keep w wb0):=by rw [hwb];exact Lib.hid (Below.setCell HKa.out (by simp) _)
  rw [← hwb]
  clear hwb HBa HMa HRa HKa
  refine G.fc_nil (G.mt_take _ (G.Gr.refl _) ?_)
  simp only [pick_cons,pick_nil,nth_zero,nth_succ]
  repeat (go_big_quiet_step (fail))
  refine wpQuiet_nil (G.mt_force ?_)
  simp only [pick_cons,pick_nil,nth_zero,nth_succ]
  refine G.fc_step rfl (fun K hK => ?_)
  obtain ⟨v0,z0⟩ : ∃ v,wb0.cell? ⟨w.heap.size,1,none⟩ = some v:=⟨_,(HBb0.out.cell 1).trans rfl⟩
  have y0:=HBb0.out.frozen 1
  go_simp
  refine hK _ _ (show G.Gr wb0 _ from grown_set (grown_refl wb0 _)) ?_
  clear hK K z0 y0
  obtain ⟨wb1,hwb⟩ : ∃ wb,wb = wb0.setCell ⟨w.heap.size,1,none⟩ (u64v m.nonce):=⟨_,rfl⟩
  have HBb1 : Hid (Blk wb1 w.heap.size 31 (PeR.cells { q with stage:=1,nonce:=m.nonce })):=by
   rw [hwb]
   have q:=HBb0.out.set_ 1 (u64v m.nonce)
   exact Lib.hid q
  have HMb1 : Hid (Blk wb1 (w.heap.size + 1) 50 m.cells):=by rw [hwb];exact Lib.hid (HMb0.out.far (by simp) _)
  have HRb1 : Hid (Blk wb1 (w.heap.size + 2) 31 zs.toList):=by rw [hwb];exact Lib.hid (HRb0.out.far (by simp) _)
  have HKb1 : Hid (Keep w wb1):=by rw [hwb];exact Lib.hid (Below.setCell HKb0.out (by simp) _)
  rw [← hwb]
  clear hwb HBb0 HMb0 HRb0 HKb0
  refine G.fc_nil (G.mt_take _ (G.Gr.refl _) ?_)
  simp only [pick_cons,pick_nil,nth_zero,nth_succ]
  repeat (go_big_quiet_step (fail))
  refine wpQuiet_nil (G.mt_force ?_)
  simp only [pick_cons,pick_nil,nth_zero,nth_succ]
  refine G.fc_step rfl (fun K hK => ?_)
  obtain ⟨v0,z0⟩ : ∃ v,wb1.cell? ⟨w.heap.size,2,none⟩ = some v:=⟨_,(HBb1.out.cell 2).trans rfl⟩
  have y0:=HBb1.out.frozen 2
  go_simp
  refine hK _ _ (show G.Gr wb1 _ from grown_set (grown_refl wb1 _)) ?_
  clear hK K z0 y0
  obtain ⟨wb2,hwb⟩ : ∃ wb,wb = wb1.setCell ⟨w.heap.size,2,none⟩ (u32v m.height):=⟨_,rfl⟩
  have HBb2 : Hid (Blk wb2 w.heap.size 31 (PeR.cells { q with stage:=1,nonce:=m.nonce,height:=m.height })):=by
   rw [hwb]
   have q:=HBb1.out.set_ 2 (u32v m.height)
   exact Lib.hid q
  have HMb2 : Hid (Blk wb2 (w.heap.size + 1) 50 m.cells):=by rw [hwb];exact Lib.hid (HMb1.out.far (by simp) _)
  have HRb2 : Hid (Blk wb2 (w.heap.size + 2) 31 zs.toList):=by rw [hwb];exact Lib.hid (HRb1.out.far (by simp) _)
  have HKb2 : Hid (Keep w wb2):=by rw [hwb];exact Lib.hid (Below.setCell HKb1.out (by simp) _)
  rw [← hwb]
  clear hwb HBb1 HMb1 HRb1 HKb1
  refine G.fc_nil (G.mt_end ?_)
  clear iM
  obtain ⟨ds,hds⟩ : ∃ ds,PeA { q with stage:=1,nonce:=m.nonce,height:=m.height } ds:=⟨_,PeA.of _⟩
  have HDS:=Lib.hid hds
  have HBx : Hid (Blk wb2 w.heap.size 31 ds.toList):=by rw [HDS.out.l];exact HBb2
  clear hds HBb2
  have m2 : wb2.cell? ⟨w.heap.size + 1,2,none⟩ = some (u64v m.nonce):=(HMb2.out.cell 2).trans rfl
  obtain ⟨ys,hyz,hyA⟩:=zmsg_letter
  obtain ⟨ks,hks,hbu⟩:=hello_built m.nonce HNN.out
  obtain ⟨vs,hvs,hbv⟩ : ∃ vs,MsA (msgZ 1) vs∧Tryd.prog.built 50 [(0,.int .i64 1)] = some vs:=⟨_,MsA.of (msgZ_ok 1 (by omega)),by kernel_rfl⟩
  have hyn:=hyA.n;have hkn:=hks.n;have hkz:=hks.z;have hyzz:=hyA.z;have hki:=hks.i;have hvz:=hvs.z
  have HKS:=Lib.hid hks;have HVS:=Lib.hid hvs;have HBu:=Lib.hid hbu;have HBv:=Lib.hid hbv
  have hst : (storeCells ⟨wb2.heap.size,0,none⟩ ks.toList 0).run Tryd.prog (wb2.alloc (.cells ys 50)) = .ok () (wb2.alloc (.cells ks 50)):=run_storeCells_new (P:=Tryd.prog) wb2 50 ys ks HKS.out.i (hyA.z.trans hkz.symm) (by have:=all_oneCell_toArray HKS.out.o;simpa using this)
  clear hks hvs hbu hbv hyA
  go_upto_region 10 with ((with_reducible refine list_bldg [(0,.int .i64 0),(1,.int .u32 70015),(2,u64v m.nonce)] ks (Eq.trans ?_ rfl) HBu.out (Eq.trans ?_ rfl) ?_);rfl;rfl)
  obtain ⟨w5,hw5⟩ : ∃ w5,w5 = wb2.alloc (.cells ks 50):=⟨_,rfl⟩
  have HH5 : Hid (Blk w5 wb2.heap.size 50 ks.toList):=by rw [hw5];exact Lib.hid (Blk.new wb2 _ ks.toList)
  have HB5 : Hid (Blk w5 w.heap.size 31 ds.toList):=by rw [hw5];exact Lib.hid (HBx.out.alloc _)
  have HR5 : Hid (Blk w5 (w.heap.size + 2) 31 zs.toList):=by rw [hw5];exact Lib.hid (HRb2.out.alloc _)
  have HK5 : Hid (Keep w w5):=by rw [hw5];exact Lib.hid (keep_trans HKb2.out (keep_new _ _))
  rw [← hw5]
  have hl2:=HRb2.out.lt
  clear hw5 hst HBx HRb2 HKb2 HMb2 m2
  generalize wb2.heap.size = hn at *
  letI iM : G.Mk:=⟨some (w.heap.size + 2)⟩
  refine G.wp_region_tree (.take [0,1,2] (.fork 3 (.force [4] (.take [5,6] .done)) 4 (.force [3] (.take [5,6] .done)))) [] (by kernel_rfl) (by kernel_rfl) (fun wa ka => ?_)
  have hne0 : G.Mk.m ≠ some w.heap.size:=fun q => by have e : w.heap.size + 2 = w.heap.size:=Option.some.inj q;omega
  have hne1 : G.Mk.m ≠ some hn:=fun q => by have e : w.heap.size + 2 = hn:=Option.some.inj q;omega
  have HBa:=Lib.hid (HB5.out.keep ka);have HHa:=Lib.hid (HH5.out.keep ka);have HRa:=Lib.hid (HR5.out.keep ka);have HKa:=Lib.hid (keep_trans HK5.out ka)
  have hdi:=HDS.out.i
  have b2:=hdi
  clear ka HB5 HR5 HK5 HH5
  refine G.mt_take wa (G.Gr.refl _) ?_
  simp only [pick_cons,pick_nil,nth_zero,nth_succ]
  repeat (first
   | ((with_reducible refine G.wpQuiet_load_arrG w.heap.size ds (Eq.trans ?_ rfl) HBa.out hne0 _ Tryd.underlying31 rfl hdi ?_);rfl;simp only [Act.put,Array.set!_eq_setIfInBounds,List.setIfInBounds_toArray,List.set_cons_succ,List.set_cons_zero])
   | ((with_reducible refine G.wpQuiet_load_arrG hn ks (Eq.trans ?_ rfl) HHa.out hne1 _ Tryd.underlying50 rfl hki ?_);rfl;simp only [Act.put,Array.set!_eq_setIfInBounds,List.setIfInBounds_toArray,List.set_cons_succ,List.set_cons_zero])
   | ((with_reducible refine wpQuiet_buildm [(0,.int .i64 1)] vs (Eq.trans ?_ rfl) HBv.out ?_);rfl;simp only [Act.put,Array.set!_eq_setIfInBounds,List.setIfInBounds_toArray,List.set_cons_succ,List.set_cons_zero])
   | go_big_quiet_step (fail))
  refine wpQuiet_nil (G.mt_fork ?_ ?_)
  ·simp only [pick_cons,pick_nil,nth_zero,nth_succ]
   refine G.fc_step rfl (fun K hK => ?_)
   refine wp_build2b msgsT _ _ (by rfl) ks vs hkz hvz (by omega) (by rfl) (by rfl) ?_
   refine hK _ _ (G.Gr.of_keep (keep_new _ _)) ?_
   clear hK K
   obtain ⟨wb,hwb⟩ : ∃ wb,wb = wa.alloc (.cells (ks.toList ++ vs.toList).toArray 50):=⟨_,rfl⟩
   have HRb : Hid (Blk wb (w.heap.size + 2) 31 zs.toList):=by rw [hwb];exact Lib.hid (HRa.out.alloc _)
   have HNb : Hid (Blk wb wa.heap.size 50 (ks.toList ++ vs.toList)):=by rw [hwb];exact Lib.hid (Blk.new wa _ ((ks.toList ++ vs.toList)))
   have HKb : Hid (Keep w wb):=by rw [hwb];exact Lib.hid (keep_trans HKa.out (keep_new _ _))
   have hlt:=HRa.out.lt
   have HdI:=HDS.out.i
   rw [← hwb]
   clear hwb b2 hne0 hne1 HBa HRa HKa
   obtain ⟨w8,hst8,hb8,hg8⟩:=run_store_blk (P:=Tryd.prog) ds.toList HRb.out (by rw [Array.length_toList,Array.length_toList,hzz,HDS.out.z]) HDS.out.o
   have HZ8:=Lib.hid hb8
   have HN8 : Hid (Blk w8 wa.heap.size 50 (ks.toList ++ vs.toList)):=Lib.hid (HNb.out.grown hg8 (fun e => by injection e with e;omega))
   have HK8 : Hid (Keep w w8):=Lib.hid (HKb.out.grown hg8 HKb.out.size (fun q hq => by injection hq with hq;omega))
   clear hb8 HRb HNb HKb
   refine G.fc_nil (G.mt_force ?_)
   simp only [pick_cons,pick_nil,nth_zero,nth_succ]
   refine G.fc_step rfl (fun K hK => ?_)
   have hAz:=HDS.out.z;have hAn:=HDS.out.n
   go_simp
   refine hK _ _ (show G.Gr wb w8 from hg8) ?_
   clear hK K hst8 hg8
   refine G.fc_nil (G.mt_take _ (G.Gr.refl _) ?_)
   simp only [pick_cons,pick_nil,nth_zero,nth_succ]
   repeat (go_big_quiet_step (fail))
   refine wpQuiet_nil (G.mt_end ?_)
   clear iM
   go_wp2
   exact bodyPost_ret (v:=.tuple #[.agg ds,.slice (some ⟨wa.heap.size,0,none⟩) 2 2,iv 0]) (results_cell_tmp_tmp Tryd.results8 _ _ (w.heap.size + 2) _ _ _ _ rfl HZ8.out Tryd.underlying31 rfl (by rw [List.size_toArray,Array.length_toList];exact HdI)) rfl (by
    rw [HRE.out]
    exact ⟨ds,_,2,rfl,HDS.out,Nat.le_refl _,by omega,by have q:=HN8.out.rd;rw [HKS.out.l,HVS.out.l] at q;simpa using q,HK8.out⟩)
  ·simp only [pick_cons,pick_nil,nth_zero,nth_succ]
   have hlt:=HRa.out.lt
   have HdI:=HDS.out.i
   obtain ⟨w7,hst8,hb7,hg8⟩:=run_store_blk (P:=Tryd.prog) ds.toList HRa.out (by rw [Array.length_toList,Array.length_toList,hzz,HDS.out.z]) HDS.out.o
   have HZ7:=Lib.hid hb7
   have HK7 : Hid (Keep w w7):=Lib.hid (HKa.out.grown hg8 HKa.out.size (fun q hq => by injection hq with hq;omega))
   clear hb7 b2 hne0 hne1
   refine G.fc_step rfl (fun K hK => ?_)
   have hAz:=HDS.out.z;have hAn:=HDS.out.n
   go_simp
   refine hK _ _ (show G.Gr wa w7 from hg8) ?_
   clear hK K hst8 hg8 HBa HRa HKa
   refine G.fc_nil (G.mt_force ?_)
   simp only [pick_cons,pick_nil,nth_zero,nth_succ]
   refine G.fc_step rfl (fun K hK => ?_)
   refine wp_build2b msgsT _ _ (by rfl) ks vs hkz hvz (by omega) (by rfl) (by rfl) ?_
   refine hK _ _ (G.Gr.of_keep (keep_new _ _)) ?_
   clear hK K
   obtain ⟨w8,hwb⟩ : ∃ wb,wb = w7.alloc (.cells (ks.toList ++ vs.toList).toArray 50):=⟨_,rfl⟩
   have HZ8 : Hid (Blk w8 (w.heap.size + 2) 31 ds.toList):=by rw [hwb];exact Lib.hid (HZ7.out.alloc _)
   have HN8 : Hid (Blk w8 w7.heap.size 50 (ks.toList ++ vs.toList)):=by rw [hwb];exact Lib.hid (Blk.new w7 _ ((ks.toList ++ vs.toList)))
   have HK8 : Hid (Keep w w8):=by rw [hwb];exact Lib.hid (keep_trans HK7.out (keep_new _ _))
   rw [← hwb]
   clear hwb HZ7 HK7
   simp only [Act.put,Array.set!_eq_setIfInBounds,List.setIfInBounds_toArray,List.set_cons_succ,List.set_cons_zero]
   refine G.fc_nil (G.mt_take _ (G.Gr.refl _) ?_)
   simp only [pick_cons,pick_nil,nth_zero,nth_succ]
   repeat (go_big_quiet_step (fail))
   refine wpQuiet_nil (G.mt_end ?_)
   clear iM
   go_wp2
   exact bodyPost_ret (v:=.tuple #[.agg ds,.slice (some ⟨w7.heap.size,0,none⟩) 2 2,iv 0]) (results_cell_tmp_tmp Tryd.results8 _ _ (w.heap.size + 2) _ _ _ _ rfl HZ8.out Tryd.underlying31 rfl (by rw [List.size_toArray,Array.length_toList];exact HdI)) rfl (by
    rw [HRE.out]
    exact ⟨ds,_,2,rfl,HDS.out,Nat.le_refl _,by omega,by have q:=HN8.out.rd;rw [HKS.out.l,HVS.out.l] at q;simpa using q,HK8.out⟩)
 have he1 : ∀ w,(Go.binOp .eql 89 (.agg #[iv q.stage,iv m.kind]) (.agg #[iv 0,iv 0])).run Tryd.prog w = .ok (.bool false) w:=fun w => by rw [event_eq,ev_f c1]
 have hi1 : ∀ w,(Op.equalIn 10000 89 (.agg #[iv q.stage,iv m.kind]) (.agg #[iv 0,iv 0])).run Tryd.prog w = .ok false w:=fun w => by rw [ev_in,ev_f c1]
 have HT1:=Lib.hid (HT.out.trans (if_neg c1))
 clear HT c1
 by_cases c2 : q.stage = 1∧m.kind = 1
 ·have hR : R = ({ q with stage:=2 },[],0):=HT1.out.trans (if_pos c2)
  have he2 : ∀ w,(Go.binOp .eql 89 (.agg #[iv q.stage,iv m.kind]) (.agg #[iv 1,iv 1])).run Tryd.prog w = .ok (.bool true) w:=fun w => by rw [event_eq,ev_t c2]
  have hi2 : ∀ w,(Op.equalIn 10000 89 (.agg #[iv q.stage,iv m.kind]) (.agg #[iv 1,iv 1])).run Tryd.prog w = .ok true w:=fun w => by rw [ev_in,ev_t c2]
  have HRE:=Lib.hid hR
  have f0:=HB4.out.frozen 0
  clear c2 HT1 hR
  go_upto_region 13 with fail
  obtain ⟨wx,hwx⟩ : ∃ wx,wx = (w4.setCell ⟨w.heap.size,0,none⟩ (.int .i64 2)):=⟨_,rfl⟩
  have HX : Blk wx w.heap.size 31 ({ q with stage:=2 }).cells:=by rw [hwx];exact (HB4.out.set_ 0 (.int .i64 2))
  have HRX : Hid (Blk wx (w.heap.size + 2) 31 zs.toList):=by rw [hwx];exact Lib.hid (HR4.out.far (by simp <;> omega) _)
  have HKX : Hid (Keep w wx):=by rw [hwx];exact Lib.hid (Below.setCell HK4.out (by simp <;> omega) _)
  rw [← hwx]
  clear hwx
  obtain ⟨ds,hds⟩ : ∃ ds,PeA ({ q with stage:=2 }) ds:=⟨_,PeA.of _⟩
  have HDS:=Lib.hid hds
  have HBx : Hid (Blk wx w.heap.size 31 ds.toList):=by rw [HDS.out.l];exact Lib.hid HX
  clear hds HX HR4 HK4 HB4 HBc4
  obtain ⟨w8,hst8,hb8,hg8⟩:=run_store_blk (P:=Tryd.prog) ds.toList HRX.out (by rw [Array.length_toList,Array.length_toList,hzz,HDS.out.z]) HDS.out.o
  have Hb8:=Lib.hid hb8;have Hg8:=Lib.hid hg8
  have hdi8:=HDS.out.i
  have hdn8:=HDS.out.n
  have hdz8:=HDS.out.z
  clear hb8 hg8
  go_wp2_with ((with_reducible refine load_arr w.heap.size ds (Eq.trans ?_ rfl) HBx.out _ Tryd.underlying31 rfl hdi8 ?_);rfl)
  exact bodyPost_ret (v:=.tuple #[.agg ds,.slice none 0 0,iv 0]) (results_cell_tmp_tmp Tryd.results8 _ _ (w.heap.size + 2) _ _ _ _ rfl Hb8.out Tryd.underlying31 rfl (by rw [List.size_toArray,Array.length_toList];exact hdi8)) rfl (by
   rw [HRE.out]
   exact ⟨ds,none,0,rfl,HDS.out,Nat.le_refl _,Nat.zero_le _,Rd.nil _ _,HKX.out.grown Hg8.out HKX.out.size (fun q hq => by injection hq with hq;omega)⟩)
 have he2 : ∀ w,(Go.binOp .eql 89 (.agg #[iv q.stage,iv m.kind]) (.agg #[iv 1,iv 1])).run Tryd.prog w = .ok (.bool false) w:=fun w => by rw [event_eq,ev_f c2]
 have hi2 : ∀ w,(Op.equalIn 10000 89 (.agg #[iv q.stage,iv m.kind]) (.agg #[iv 1,iv 1])).run Tryd.prog w = .ok false w:=fun w => by rw [ev_in,ev_f c2]
 have HT2:=Lib.hid (HT1.out.trans (if_neg c2))
 clear HT1 c2
 by_cases c3 : q.stage = 2∧m.kind = 2
 ·have hR : R = (q,[{ msgZ 3 with nonce:=m.nonce }],0):=HT2.out.trans (if_pos c3)
  have he3 : ∀ w,(Go.binOp .eql 89 (.agg #[iv q.stage,iv m.kind]) (.agg #[iv 2,iv 2])).run Tryd.prog w = .ok (.bool true) w:=fun w => by rw [event_eq,ev_t c3]
  have hi3 : ∀ w,(Op.equalIn 10000 89 (.agg #[iv q.stage,iv m.kind]) (.agg #[iv 2,iv 2])).run Tryd.prog w = .ok true w:=fun w => by rw [ev_in,ev_t c3]
  clear c3 HT2
  have HRE:=Lib.hid hR
  have m2 : w4.cell? ⟨w.heap.size + 1,2,none⟩ = some (u64v m.nonce):=(HM4.out.cell 2).trans rfl
  obtain ⟨ks,hks,hbu⟩:=pong_built m.nonce HNN.out
  have hkz:=hks.z;have hkn:=hks.n;have hki:=hks.i
  have HKS:=Lib.hid hks;have HBu:=Lib.hid hbu
  clear hR hks hbu
  go_upto_region 15 with fail
  letI iM : G.Mk:=⟨some (w.heap.size + 2)⟩
  refine G.wp_region_tree (.take [0,1,2,3] (.fork 4 (.force [5] (.take [6,7] .done)) 5 (.force [4] (.take [6,7] .done)))) [] (by kernel_rfl) (by kernel_rfl) (fun wa ka => ?_)
  have hne0 : G.Mk.m ≠ some w.heap.size:=fun q => by have e : w.heap.size + 2 = w.heap.size:=Option.some.inj q;omega
  have hne1 : G.Mk.m ≠ some (w.heap.size + 1):=fun q => by have e : w.heap.size + 2 = w.heap.size + 1:=Option.some.inj q;omega
  have HBa:=Lib.hid (HBc4.out.keep ka);have HRa:=Lib.hid (HR4.out.keep ka);have HKa:=Lib.hid (keep_trans HK4.out ka)
  have b2:=G.aftG_cell (keep_cell ka m2) hne1
  have RGa : Hid (wa.rangeAt w.heap.size 0 qs.toList):=Lib.hid (range_of HBa.out 0 qs.toList (by simp [List.take_of_length_le]))
  clear ka HB4 HM4 HR4 HK4 HBc4 m2 m0 r0 hgd he1 hi1 he2 hi2 he3 hi3 hne1
  refine G.mt_take wa (G.Gr.refl _) ?_
  simp only [pick_cons,pick_nil,nth_zero,nth_succ]
  repeat (first
   | ((with_reducible refine G.wpQuiet_load_arrG w.heap.size qs (Eq.trans ?_ rfl) HBa.out hne0 _ Tryd.underlying31 rfl hqi ?_);rfl;simp only [Act.put,Array.set!_eq_setIfInBounds,List.setIfInBounds_toArray,List.set_cons_succ,List.set_cons_zero])
   | ((with_reducible refine wpQuiet_buildm [(0,.int .i64 3),(2,u64v m.nonce)] ks (Eq.trans ?_ rfl) HBu.out ?_);rfl;simp only [Act.put,Array.set!_eq_setIfInBounds,List.setIfInBounds_toArray,List.set_cons_succ,List.set_cons_zero])
   | go_big_quiet_step (fail))
  refine wpQuiet_nil (G.mt_fork ?_ ?_)
  ·simp only [pick_cons,pick_nil,nth_zero,nth_succ]
   refine G.fc_step rfl (fun K hK => ?_)
   refine wp_build1b msgsT _ (by rfl) ks hkz (by omega) (by rfl) ?_
   refine hK _ _ (G.Gr.of_keep (keep_new _ _)) ?_
   clear hK K
   obtain ⟨wb,hwb⟩ : ∃ wb,wb = wa.alloc (.cells ks 50):=⟨_,rfl⟩
   have HRb : Hid (Blk wb (w.heap.size + 2) 31 zs.toList):=by rw [hwb];exact Lib.hid (HRa.out.alloc _)
   have HNb : Hid (Blk wb wa.heap.size 50 ks.toList):=by rw [hwb];exact Lib.hid (Blk.new wa _ (ks.toList))
   have HKb : Hid (Keep w wb):=by rw [hwb];exact Lib.hid (keep_trans HKa.out (keep_new _ _))
   have hlt:=HRa.out.lt
   have HdI:=HQ.out.i
   rw [← hwb]
   clear hwb b2 hne0 RGa HBa HRa HKa
   obtain ⟨w8,hst8,hb8,hg8⟩:=run_store_blk (P:=Tryd.prog) qs.toList HRb.out (by rw [Array.length_toList,Array.length_toList,hzz,HQ.out.z]) HQ.out.o
   have HZ8:=Lib.hid hb8
   have HN8 : Hid (Blk w8 wa.heap.size 50 ks.toList):=Lib.hid (HNb.out.grown hg8 (fun e => by injection e with e;omega))
   have HK8 : Hid (Keep w w8):=Lib.hid (HKb.out.grown hg8 HKb.out.size (fun q hq => by injection hq with hq;omega))
   clear hb8 HRb HNb HKb
   refine G.fc_nil (G.mt_force ?_)
   simp only [pick_cons,pick_nil,nth_zero,nth_succ]
   refine G.fc_step rfl (fun K hK => ?_)
   have hAz:=HQ.out.z;have hAn:=HQ.out.n
   go_simp
   refine hK _ _ (show G.Gr wb w8 from hg8) ?_
   clear hK K hst8 hg8
   refine G.fc_nil (G.mt_take _ (G.Gr.refl _) ?_)
   simp only [pick_cons,pick_nil,nth_zero,nth_succ]
   repeat (go_big_quiet_step (fail))
   refine wpQuiet_nil (G.mt_end ?_)
   clear iM
   go_wp2
   exact bodyPost_ret (v:=.tuple #[.agg qs,.slice (some ⟨wa.heap.size,0,none⟩) 1 1,iv 0]) (results_cell_tmp_tmp Tryd.results8 _ _ (w.heap.size + 2) _ _ _ _ rfl HZ8.out Tryd.underlying31 rfl (by rw [List.size_toArray,Array.length_toList];exact HdI)) rfl (by
    rw [HRE.out]
    exact ⟨qs,_,1,rfl,HQ.out,Nat.le_refl _,by omega,by have q:=HN8.out.rd;rw [HKS.out.l] at q;simpa using q,HK8.out⟩)
  ·simp only [pick_cons,pick_nil,nth_zero,nth_succ]
   have hlt:=HRa.out.lt
   have HdI:=HQ.out.i
   obtain ⟨w7,hst8,hb7,hg8⟩:=run_store_blk (P:=Tryd.prog) qs.toList HRa.out (by rw [Array.length_toList,Array.length_toList,hzz,HQ.out.z]) HQ.out.o
   have HZ7:=Lib.hid hb7
   have HK7 : Hid (Keep w w7):=Lib.hid (HKa.out.grown hg8 HKa.out.size (fun q hq => by injection hq with hq;omega))
   clear hb7 b2 hne0 RGa
   refine G.fc_step rfl (fun K hK => ?_)
   have hAz:=HQ.out.z;have hAn:=HQ.out.n
   go_simp
   refine hK _ _ (show G.Gr wa w7 from hg8) ?_
   clear hK K hst8 hg8 HBa HRa HKa
   refine G.fc_nil (G.mt_force ?_)
   simp only [pick_cons,pick_nil,nth_zero,nth_succ]
   refine G.fc_step rfl (fun K hK => ?_)
   refine wp_build1b msgsT _ (by rfl) ks hkz (by omega) (by rfl) ?_
   refine hK _ _ (G.Gr.of_keep (keep_new _ _)) ?_
   clear hK K
   obtain ⟨w8,hwb⟩ : ∃ wb,wb = w7.alloc (.cells ks 50):=⟨_,rfl⟩
   have HZ8 : Hid (Blk w8 (w.heap.size + 2) 31 qs.toList):=by rw [hwb];exact Lib.hid (HZ7.out.alloc _)
   have HN8 : Hid (Blk w8 w7.heap.size 50 ks.toList):=by rw [hwb];exact Lib.hid (Blk.new w7 _ (ks.toList))
   have HK8 : Hid (Keep w w8):=by rw [hwb];exact Lib.hid (keep_trans HK7.out (keep_new _ _))
   rw [← hwb]
   clear hwb HZ7 HK7
   simp only [Act.put,Array.set!_eq_setIfInBounds,List.setIfInBounds_toArray,List.set_cons_succ,List.set_cons_zero]
   refine G.fc_nil (G.mt_take _ (G.Gr.refl _) ?_)
   simp only [pick_cons,pick_nil,nth_zero,nth_succ]
   repeat (go_big_quiet_step (fail))
   refine wpQuiet_nil (G.mt_end ?_)
   clear iM
   go_wp2
   exact bodyPost_ret (v:=.tuple #[.agg qs,.slice (some ⟨w7.heap.size,0,none⟩) 1 1,iv 0]) (results_cell_tmp_tmp Tryd.results8 _ _ (w.heap.size + 2) _ _ _ _ rfl HZ8.out Tryd.underlying31 rfl (by rw [List.size_toArray,Array.length_toList];exact HdI)) rfl (by
    rw [HRE.out]
    exact ⟨qs,_,1,rfl,HQ.out,Nat.le_refl _,by omega,by have q:=HN8.out.rd;rw [HKS.out.l] at q;simpa using q,HK8.out⟩)
 have he3 : ∀ w,(Go.binOp .eql 89 (.agg #[iv q.stage,iv m.kind]) (.agg #[iv 2,iv 2])).run Tryd.prog w = .ok (.bool false) w:=fun w => by rw [event_eq,ev_f c3]
 have hi3 : ∀ w,(Op.equalIn 10000 89 (.agg #[iv q.stage,iv m.kind]) (.agg #[iv 2,iv 2])).run Tryd.prog w = .ok false w:=fun w => by rw [ev_in,ev_f c3]
 have HT3:=Lib.hid (HT2.out.trans (if_neg c3))
 clear HT2 c3
 by_cases c4 : q.stage = 2∧m.kind = 5
 ·have hR : R = ({ q with asked:=false,misses:=0 },[],0):=HT3.out.trans (if_pos c4)
  have he4 : ∀ w,(Go.binOp .eql 89 (.agg #[iv q.stage,iv m.kind]) (.agg #[iv 2,iv 5])).run Tryd.prog w = .ok (.bool true) w:=fun w => by rw [event_eq,ev_t c4]
  have hi4 : ∀ w,(Op.equalIn 10000 89 (.agg #[iv q.stage,iv m.kind]) (.agg #[iv 2,iv 5])).run Tryd.prog w = .ok true w:=fun w => by rw [ev_in,ev_t c4]
  have HRE:=Lib.hid hR
  have f3:=HB4.out.frozen 3
  have f5:=HB4.out.frozen 5
  have r3 : w4.cell? ⟨w.heap.size,3,none⟩ = some (.bool q.asked):=(HB4.out.cell 3).trans rfl
  have r5 : w4.cell? ⟨w.heap.size,5,none⟩ = some (iv q.misses):=(HB4.out.cell 5).trans rfl
  clear c4 HT3 hR
  go_upto_region 18 with fail
  obtain ⟨wx,hwx⟩ : ∃ wx,wx = ((w4.setCell ⟨w.heap.size,3,none⟩ (.bool false)).setCell ⟨w.heap.size,5,none⟩ (.int .i64 0)):=⟨_,rfl⟩
  have HX : Blk wx w.heap.size 31 ({ q with asked:=false,misses:=0 }).cells:=by rw [hwx];exact ((HB4.out.set_ 3 (.bool false)).set_ 5 (.int .i64 0))
  have HRX : Hid (Blk wx (w.heap.size + 2) 31 zs.toList):=by rw [hwx];exact Lib.hid ((HR4.out.far (by simp <;> omega) _).far (by simp <;> omega) _)
  have HKX : Hid (Keep w wx):=by rw [hwx];exact Lib.hid (Below.setCell (Below.setCell HK4.out (by simp <;> omega) _) (by simp <;> omega) _)
  rw [← hwx]
  clear hwx r3 r5 f3 f5
  obtain ⟨ds,hds⟩ : ∃ ds,PeA ({ q with asked:=false,misses:=0 }) ds:=⟨_,PeA.of _⟩
  have HDS:=Lib.hid hds
  have HBx : Hid (Blk wx w.heap.size 31 ds.toList):=by rw [HDS.out.l];exact Lib.hid HX
  clear hds HX HR4 HK4 HB4 HBc4
  obtain ⟨w8,hst8,hb8,hg8⟩:=run_store_blk (P:=Tryd.prog) ds.toList HRX.out (by rw [Array.length_toList,Array.length_toList,hzz,HDS.out.z]) HDS.out.o
  have Hb8:=Lib.hid hb8;have Hg8:=Lib.hid hg8
  have hdi8:=HDS.out.i
  have hdn8:=HDS.out.n
  have hdz8:=HDS.out.z
  clear hb8 hg8
  go_wp2_with ((with_reducible refine load_arr w.heap.size ds (Eq.trans ?_ rfl) HBx.out _ Tryd.underlying31 rfl hdi8 ?_);rfl)
  exact bodyPost_ret (v:=.tuple #[.agg ds,.slice none 0 0,iv 0]) (results_cell_tmp_tmp Tryd.results8 _ _ (w.heap.size + 2) _ _ _ _ rfl Hb8.out Tryd.underlying31 rfl (by rw [List.size_toArray,Array.length_toList];exact hdi8)) rfl (by
   rw [HRE.out]
   exact ⟨ds,none,0,rfl,HDS.out,Nat.le_refl _,Nat.zero_le _,Rd.nil _ _,HKX.out.grown Hg8.out HKX.out.size (fun q hq => by injection hq with hq;omega)⟩)
 have he4 : ∀ w,(Go.binOp .eql 89 (.agg #[iv q.stage,iv m.kind]) (.agg #[iv 2,iv 5])).run Tryd.prog w = .ok (.bool false) w:=fun w => by rw [event_eq,ev_f c4]
 have hi4 : ∀ w,(Op.equalIn 10000 89 (.agg #[iv q.stage,iv m.kind]) (.agg #[iv 2,iv 5])).run Tryd.prog w = .ok false w:=fun w => by rw [ev_in,ev_f c4]
 have HT4:=Lib.hid (HT3.out.trans (if_neg c4))
 clear HT3 c4
 by_cases h5 : q.stage = 2
 ·have d5 : (q.stage == 2) = true:=by rw [h5];rfl
  by_cases h6 : m.kind = 0
  ·have d6 : (m.kind != 0) = false:=by rw [h6];rfl
   have hR : R = (q.ban,[],15):=HT4.out.trans (if_neg (fun h => h.2.1 h6))
   clear h5 h6
   have hR0:=hR
   have HRE:=Lib.hid hR
   clear hR hR0 HT4
   go_wp2_with ((with_reducible refine load_arr w.heap.size qs (Eq.trans ?_ rfl) HBc4.out _ Tryd.underlying31 rfl hqi ?_);rfl)
   refine (banned_any _ qs HQ.out _).mono ?_
   rintro e w5 ⟨bs,rfl,hbA,k5⟩
   have hbn:=hbA.n;have hbz:=hbA.z;have hbi:=hbA.i
   have HBA:=Lib.hid hbA
   have HK5:=Lib.hid (keep_trans HK4.out k5)
   obtain ⟨w8,hst8,hb8,hg8⟩:=run_store_blk (P:=Tryd.prog) bs.toList (HR4.out.keep k5) (by rw [Array.length_toList,Array.length_toList,hzz,hbz]) hbA.o
   have Hb8:=Lib.hid hb8;have Hg8:=Lib.hid hg8
   clear hb8 hg8 hbA k5
   go_wp2
   exact bodyPost_ret (v:=.tuple #[.agg bs,.slice none 0 0,iv 15]) (results_cell_tmp_tmp Tryd.results8 _ _ (w.heap.size + 2) _ _ _ _ rfl Hb8.out Tryd.underlying31 rfl (by rw [List.size_toArray,Array.length_toList];exact hbi)) rfl (by
    rw [HRE.out]
    exact ⟨bs,none,0,rfl,HBA.out,Nat.le_refl _,Nat.zero_le _,Rd.nil _ _,HK5.out.grown Hg8.out HK5.out.size (fun q hq => by injection hq with hq;omega)⟩)
  ·have d6 : (m.kind != 0) = true:=by simpa [bne_iff_ne] using h6
   by_cases h7 : m.kind = 1
   ·have d7 : (m.kind != 1) = false:=by rw [h7];rfl
    have hR : R = (q.ban,[],15):=HT4.out.trans (if_neg (fun h => h.2.2 h7))
    clear h5 h6 h7
    have hR0:=hR
    have HRE:=Lib.hid hR
    clear hR hR0 HT4
    go_wp2_with ((with_reducible refine load_arr w.heap.size qs (Eq.trans ?_ rfl) HBc4.out _ Tryd.underlying31 rfl hqi ?_);rfl)
    refine (banned_any _ qs HQ.out _).mono ?_
    rintro e w5 ⟨bs,rfl,hbA,k5⟩
    have hbn:=hbA.n;have hbz:=hbA.z;have hbi:=hbA.i
    have HBA:=Lib.hid hbA
    have HK5:=Lib.hid (keep_trans HK4.out k5)
    obtain ⟨w8,hst8,hb8,hg8⟩:=run_store_blk (P:=Tryd.prog) bs.toList (HR4.out.keep k5) (by rw [Array.length_toList,Array.length_toList,hzz,hbz]) hbA.o
    have Hb8:=Lib.hid hb8;have Hg8:=Lib.hid hg8
    clear hb8 hg8 hbA k5
    go_wp2
    exact bodyPost_ret (v:=.tuple #[.agg bs,.slice none 0 0,iv 15]) (results_cell_tmp_tmp Tryd.results8 _ _ (w.heap.size + 2) _ _ _ _ rfl Hb8.out Tryd.underlying31 rfl (by rw [List.size_toArray,Array.length_toList];exact hbi)) rfl (by
     rw [HRE.out]
     exact ⟨bs,none,0,rfl,HBA.out,Nat.le_refl _,Nat.zero_le _,Rd.nil _ _,HK5.out.grown Hg8.out HK5.out.size (fun q hq => by injection hq with hq;omega)⟩)
   ·have d7 : (m.kind != 1) = true:=by simpa [bne_iff_ne] using h7
    have hR : R = (q,[],0):=HT4.out.trans (if_pos ⟨h5,h6,h7⟩)
    clear h5 h6 h7
    obtain ⟨w8,hst8,hb8,hg8⟩:=run_store_blk (P:=Tryd.prog) qs.toList HR4.out (by rw [Array.length_toList,Array.length_toList,hzz,HQ.out.z]) HQ.out.o
    have Hb8:=Lib.hid hb8;have Hg8:=Lib.hid hg8
    have hdi8:=HQ.out.i
    have hdn8:=HQ.out.n
    have hdz8:=HQ.out.z
    have HRE:=Lib.hid hR
    clear hb8 hg8 hR HT4
    go_wp2_with ((with_reducible refine load_arr w.heap.size qs (Eq.trans ?_ rfl) HBc4.out _ Tryd.underlying31 rfl hdi8 ?_);rfl)
    exact bodyPost_ret (v:=.tuple #[.agg qs,.slice none 0 0,iv 0]) (results_cell_tmp_tmp Tryd.results8 _ _ (w.heap.size + 2) _ _ _ _ rfl Hb8.out Tryd.underlying31 rfl (by rw [List.size_toArray,Array.length_toList];exact hdi8)) rfl (by
     rw [HRE.out]
     exact ⟨qs,none,0,rfl,HQ.out,Nat.le_refl _,Nat.zero_le _,Rd.nil _ _,HK4.out.grown Hg8.out HK4.out.size (fun q hq => by injection hq with hq;omega)⟩)
 ·have d5 : (q.stage == 2) = false:=by rw [beq_eq_false_iff_ne];exact h5
  have hR : R = (q.ban,[],15):=HT4.out.trans (if_neg (fun h => h5 h.1))
  clear h5
  have hR0:=hR
  have HRE:=Lib.hid hR
  clear hR hR0 HT4
  go_wp2_with ((with_reducible refine load_arr w.heap.size qs (Eq.trans ?_ rfl) HBc4.out _ Tryd.underlying31 rfl hqi ?_);rfl)
  refine (banned_any _ qs HQ.out _).mono ?_
  rintro e w5 ⟨bs,rfl,hbA,k5⟩
  have hbn:=hbA.n;have hbz:=hbA.z;have hbi:=hbA.i
  have HBA:=Lib.hid hbA
  have HK5:=Lib.hid (keep_trans HK4.out k5)
  obtain ⟨w8,hst8,hb8,hg8⟩:=run_store_blk (P:=Tryd.prog) bs.toList (HR4.out.keep k5) (by rw [Array.length_toList,Array.length_toList,hzz,hbz]) hbA.o
  have Hb8:=Lib.hid hb8;have Hg8:=Lib.hid hg8
  clear hb8 hg8 hbA k5
  go_wp2
  exact bodyPost_ret (v:=.tuple #[.agg bs,.slice none 0 0,iv 15]) (results_cell_tmp_tmp Tryd.results8 _ _ (w.heap.size + 2) _ _ _ _ rfl Hb8.out Tryd.underlying31 rfl (by rw [List.size_toArray,Array.length_toList];exact hbi)) rfl (by
   rw [HRE.out]
   exact ⟨bs,none,0,rfl,HBA.out,Nat.le_refl _,Nat.zero_le _,Rd.nil _ _,HK5.out.grown Hg8.out HK5.out.size (fun q hq => by injection hq with hq;omega)⟩)
end Go.Proofs.YtffpanlpbdnafaaDoor
/- frame.Sane, peer.Sane, taken, Judge of any peer (printed by gen_ql.py) -/
set_option linter.unusedSimpArgs false
set_option linter.unusedVariables false
namespace Go.Proofs.YtffpanlpbdnafaaDoor
open Go.RowKit
attribute [local go_sem ↓] Go.wp_at_zero Go.wp_at_succ
structure PeR.at_ (p : PeR) (w : World) : Prop where
 r : Rd w p.rA (p.rs.map u8v)
 c : p.rs.length ≤ p.rc∧p.rc ≤ maxLen
 b : p.rs.length ≤ 1000000000
theorem PeR.at_.keep {p : PeR} {w w' : World} (h : p.at_ w) (k : Keep w w') : p.at_ w':=⟨h.r.keep k,h.c,h.b⟩
end Go.Proofs.YtffpanlpbdnafaaDoor
/- Judge of any peer; Feed, Send, Ask of one that is banned; the law's side (printed by gen_qm.py) -/
set_option linter.unusedSimpArgs false
set_option linter.unusedVariables false
namespace Go.Proofs.YtffpanlpbdnafaaDoor
open Go.RowKit
attribute [local go_sem ↓] Go.wp_at_zero Go.wp_at_succ
theorem bnd_bnd (n : Int) : bndF (bndF n) = bndF n:=by unfold bndF;omega
structure BanQ (q : PeR) : Prop where
 s : q.stage = 3
 a : q.asked = false
 r : q.rs = []
 n : saneP q = true
theorem BanQ.taken {q : PeR} (h : BanQ q) : takenP q = q:=by unfold takenP;rw [if_pos h.n]
end Go.Proofs.YtffpanlpbdnafaaDoor
/- frame.Feed of a stream of which nothing is left (printed by gen_rd.py) -/
set_option linter.unusedSimpArgs false
set_option linter.unusedVariables false
namespace Go.Proofs.YtffpanlpbdnafaaDoor
open Go.RowKit
attribute [local go_sem] Oper.semAt_some
attribute [local go_sem ↓] Go.wp_at_zero Go.wp_at_succ
theorem KX.keep {B : Nat} {X : Nat → Prop} {A C : World} (h : Keep A C) : KX B X A C:=⟨h.os,h.tape,h.output,h.size,fun k _ h2 _ => h.block k h2⟩
theorem KX.grown {B : Nat} {X : Nat → Prop} {A C : World} {row : Option Nat} (h : A.grownBy C row) (hr : ∀ r,row = some r → B ≤ r ∨ X r) : KX B X A C:=⟨h.os,h.tape,h.output,h.size,fun k h1 h2 h3 => h.block k h2 (fun e => by
 rcases hr k e.symm with q | q
 ·omega
 ·exact h3 q)⟩
theorem own_ge {w : World} {base : Nat} {e : TypeId} {size : Nat} {v : Value} {n : Nat} {xs : List Value} (h : w.ownsRow base e size v n xs) : ∀ r,v.ownBlock = some r → base ≤ r∧∃ o : Obj,w.heap[r]? = some o∧o.isCells = true:=by
 intro r hr
 rcases h.2 with ⟨rfl,_⟩ | ⟨g,cap,cur,rfl,hb,hg,_⟩
 ·cases hr
 ·have e : g = r:=by simpa [Value.ownBlock] using hr
  subst e
  exact ⟨hb,_,hg,rfl⟩
theorem grown_setc (w : World) (g o : Nat) (u : Value) : w.grownBy (w.setCell ⟨g,o,none⟩ u) (some g):=⟨rfl,rfl,rfl,by rw [World.size_setCell];exact Nat.le_refl _,fun k _ hk => Below.heap_setCell _ _ _ k (fun e => hk (by rw [e]))⟩
theorem msgT : ElT Tryd.prog 101 71 (.agg #[.string ⟨#[]⟩,.slice none 0 0]) 2 40:=ElT.mk' Tryd.underlying101 (by kernel_rfl) rfl (by omega)
theorem build_msg (v0 v1 : Value) (y : World) : (Instr.buildSlice 101 1 #[(0,.agg #[v0,v1])]).run Tryd.prog y = .ok (.slice (some ⟨y.heap.size,0,none⟩) 1 1) (y.alloc (.cells #[v0,v1] 71)):=by
 obtain ⟨i,hi,hiz,his,_⟩:=msgT.info
 refine run_buildSlice y 101 71 1 _ #[v0,v1] i _ msgT.und hi hiz (by rw [his];decide) (by rw [his];decide) ?_
 rw [his]
 rw [fill_step (off:=0 * 2) (size:=2) rfl rfl (by simp)]
 rw [Instr.fill]
 simp [Value.cells]
theorem own_far {w : World} {B : Nat} {e : TypeId} {size : Nat} {v : Value} {n : Nat} {xs : List Value} (h : w.ownsRow B e size v n xs) {p : Addr} (hp : p.block < B) (u : Value) : (w.setCell p u).ownsRow B e size v n xs:=by
 refine ⟨h.1,?_⟩
 rcases h.2 with h1 | ⟨g,cap,cur,rfl,hb,hg,h4⟩
 ·exact .inl h1
 ·exact .inr ⟨g,cap,cur,rfl,hb,(Below.heap_setCell _ _ _ g (by omega)).trans hg,h4⟩
theorem rdx_far {w : World} {B n : Nat} {row : Option Nat} {A : Option Addr} {xs : List Value} (h : RdX row w A xs) (hf : FreshA B A n) (hn : n = 0 → xs = []) {p : Addr} (hp : p.block < B) (u : Value) : RdX row (w.setCell p u) A xs:=by
 rcases hf with h0 | ⟨b,off,rfl,hb⟩
 ·rw [hn h0];exact .inl rfl
 ·exact h.setCell' u (fun b' off' e => by cases e;omega)
theorem nil_of {p : List UInt8} (h : p.length = 0) : p.map u8v = []:=by rw [List.eq_nil_of_length_eq_zero h];rfl
theorem wpListIn_appR {F : Fence} {n : Nat} {P : Program} {w : World} {ops : Array Oper} {rest : List Oper} {o : Oper} {a : Act} {Q : Exit → Act → World → Prop}
  (hg : o.guard = none) (s x : Operand) (t : TypeId) (hop : o.op = Op.call { callee:=Callee.builtin Builtin.append,args:=#[s,x],argTypes:=#[t,t] }) (v u v' : Value) (w' : World)
  (hs : a.eval s = v) (hx : a.eval x = u) (hrun : (Builtin.append_ #[t,t] o.type #[v,u]).run P w = .ok v' w') (h : wpListIn F n P ops Q rest (a.put o.dst v') w') : wpListIn F n P ops Q (o :: rest) a w:=by
 refine wpListIn_plain hg fun K hK' => ?_
 unfold Oper.wpIn
 refine ⟨?_,?_⟩
 ·simp [Oper.about,hop,resolve,Target.leads,Sem.run_pure]
 ·rw [Oper.semAt_plain F _ _ (by rw [hop];intro c hc';cases hc')]
  simp [execOp,hop,resolve,invoke,builtin,hs,hx,hrun,Result.andThen]
  exact hK' _ _ h
theorem cns_len (l : List Ev) : 24 * l.length ≤ cnsE l:=by
 induction l with
 | nil => exact Nat.le_refl _
 | cons y l ih => rw [cnsE_cons,List.length_cons];omega
theorem okR_le (l : List EvR) : (okR l).length ≤ l.length:=List.length_filter_le ..
theorem rdx_grownq {w w' : World} {B n q : Nat} {row : Option Nat} {A : Option Addr} {xs : List Value} (h : RdX row w A xs) (hf : FreshA B A n) (hn : n = 0 → xs = []) (hg : w.grownBy w' (some q)) (hq : q < B) : RdX row w' A xs:=by
 rcases hf with h0 | ⟨b,off,rfl,hb⟩
 ·rw [hn h0];exact .inl rfl
 ·rcases h with h1 | ⟨b',off',e,h2,h3⟩
  ·exact .inl h1
  ·cases e
   exact .inr ⟨b,off,rfl,h2,fun j hj => grown_cell hg (h3 j hj) (fun e => by injection e with e;omega)⟩
theorem own_grownq {w w' : World} {B : Nat} {e : TypeId} {size : Nat} {v : Value} {n q : Nat} {xs : List Value} (h : w.ownsRow B e size v n xs) (hg : w.grownBy w' (some q)) (hq : q < B) : w'.ownsRow B e size v n xs:=by
 refine ⟨h.1,?_⟩
 rcases h.2 with h1 | ⟨g,cap,cur,rfl,hb,hgg,h4⟩
 ·exact .inl h1
 ·exact .inr ⟨g,cap,cur,rfl,hb,(hg.block g (Array.getElem?_eq_some_iff.1 hgg).1 (fun e => by injection e with e;omega)).trans hgg,h4⟩
theorem keep_putObj {w w' : World} (h : Keep w w') {D : Nat} (o : Obj) (hD : w.heap.size ≤ D) : Keep w (w'.putObj D o) :=
 ⟨h.os,h.tape,h.output,by rw [World.putObj_size];exact h.size,fun k hk => (World.putObj_heap_other (by omega)).trans (h.block k hk)⟩
theorem okR_snoc0 {pre : List EvR} {x : EvR} (h : x.e = 0) : okR (pre ++ [x]) = okR pre ++ [x]:=by simp [okR,h]
theorem okR_snoc1 {pre : List EvR} {x : EvR} (h : x.e ≠ 0) : okR (pre ++ [x]) = okR pre:=by simp [okR,h]
theorem okE_map (pre : List EvR) : okE (pre.map EvR.ev) = (okR pre).map EvR.ev:=by
 unfold okE okR
 rw [List.filter_map]
 rfl
theorem rst_snoc0 {cl : List UInt8} {pre : List EvR} {x : EvR} (h : x.e = 0) : rstE cl (pre ++ [x]) = (rstE cl pre).drop (24 + x.p.length):=by
 unfold rstE
 rw [okE_map,okE_map,okR_snoc0 h,List.map_append,cnsE_app,List.drop_drop]
 congr 1
theorem rst_snoc1 {cl : List UInt8} {pre : List EvR} {x : EvR} (h : x.e ≠ 0) : rstE cl (pre ++ [x]) = rstE cl pre:=by
 unfold rstE
 rw [okE_map,okE_map,okR_snoc1 h]
theorem out_snoc {cl : List UInt8} {pre : List EvR} {x : EvR} : outE cl ((pre ++ [x]).map EvR.ev) = if x.e = 0 then ([],0) else if x.e = 1 then (rstE cl pre,0) else ([],x.e):=by
 have e : (pre ++ [x]).map EvR.ev = pre.map EvR.ev ++ [x.ev]:=by simp
 unfold outE
 rw [e,List.getLast?_concat]
 show (if x.e = 0 then _ else if x.e = 1 then _ else _) = _
 by_cases h0 : x.e = 0
 ·rw [if_pos h0,if_pos h0]
 ·rw [if_neg h0,if_neg h0]
  by_cases h1 : x.e = 1
  ·rw [if_pos h1,if_pos h1]
   have:=rst_snoc1 (cl:=cl) (pre:=pre) h0
   unfold rstE at this ⊢
   rw [← this,e]
  ·rw [if_neg h1,if_neg h1];rfl
theorem out_zero {cl : List UInt8} {pre : List EvR} (h : ∀ y ∈ pre.map EvR.ev,y.2 = 0) : outE cl (pre.map EvR.ev) = ([],0):=by
 unfold outE
 cases hl : (pre.map EvR.ev).getLast? with
 | none => rfl
 | some y =>
   have:=h y (List.mem_of_getLast? hl)
   show (if y.2 = 0 then _ else _) = _
   rw [if_pos this]
set_option maxRecDepth 100000 in
set_option maxHeartbeats 8000000 in
theorem ffeed_nil (g : UInt32) (n : Int) (A : Option Addr) (c : Nat) (bs : Array Value) (hA : BuA (bufL g n A 0 c 0) bs) (hn : n = bndF n) (C : Option Addr) (cl : List UInt8) (M cc : Nat) (w : World) (hM : cl.length = M) (hb : M ≤ 1000000000) (hc : M ≤ cc∧cc ≤ maxLen) (hr : Rd w C (cl.map u8v)) (hS : ShaOk w) :
  Calls Tryd.prog 37 #[.agg bs,.slice C M cc] w fun e w' => ∃ (ds : Array Value) (L : Option Addr) (lc : Nat) (xs : List EvR) (RA : Option Addr) (rc : Nat),e = .returned (.tuple #[.agg ds,.slice L (okR xs).length lc])∧xs.map EvR.ev = evs g n cl∧BuA (bufL g n RA (outE cl (evs g n cl)).1.length rc (outE cl (evs g n cl)).2) ds ∧
   ((outE cl (evs g n cl)).1.length ≤ rc∧rc ≤ maxLen∧Rd w' RA ((outE cl (evs g n cl)).1.map u8v))∧Rd w' L ((okR xs).flatMap EvR.mcells)∧(∀ x ∈ okR xs,x.at_ w')∧Keep w w':=by
 have FS : Hid (∀ y,Calls Tryd.prog 29 #[.agg bs] y fun e w' => e = .returned (.bool true)∧Keep y w'):=Lib.hid fun y => by
  have q:=fsane_nil g n A c 0 bs hA y
  rwa [show fsaneB n = true from decide_eq_true hn] at q
 have FN : Hid (∀ y,Calls Tryd.prog 28 #[u32v g,iv n] y fun e w' => ∃ ks,e = .returned (.agg ks)∧BuA (bufL g n none 0 0 0) ks∧Keep y w'):=Lib.hid fun y => by
  have q:=fnew_any g n y
  rwa [← hn] at q
 have MK : Hid (∀ y,Calls Tryd.prog 55 #[u32v g,iv n,.slice C M cc] y fun e w' => e = .returned (.func (.func 68) #[] #[.pointer (some ⟨y.heap.size,0,none⟩),.pointer (some ⟨y.heap.size + 1,0,none⟩),.pointer (some ⟨y.heap.size + 2,0,none⟩)]) ∧
   (Blk w' y.heap.size 22 [u32v g]∧Blk w' (y.heap.size + 1) 3 [iv n]∧Blk w' (y.heap.size + 2) 26 [.slice C M cc])∧w'.heap.size = y.heap.size + 3∧Keep y w'):=Lib.hid fun y => maker_any g n C M cc y
 have KSO : ∀ ks : Array Value,(∀ v ∈ ks.toList,v.oneCell' = true) → (ks.all fun v => v.oneCell') = true:=fun ks h => by have q:=all_oneCell_toArray h;simpa using q
 obtain ⟨zs,hz0,hzA⟩:=zbuf_letter
 have hzn:=hzA.n;have hzz:=hzA.z
 have hbn:=hA.n;have hbz:=hA.z;have hbi:=hA.i
 have HZ:=Lib.hid hzA;have HBA:=Lib.hid hA
 have HM:=Lib.hid hM;have HMB:=Lib.hid hb;have HC:=Lib.hid hc;have HR:=Lib.hid hr;have HS:=Lib.hid hS
 clear hA hzA hn hM hb hc hr hS
 refine (callsIn_wide (n:=1)).1 (callsIn_of_wp_marks Tryd.func37 rfl trivial (wpIn_wide.2 ?_))
 simp only [Tryd.ntmps37,List.size_toArray,List.length_cons,List.length_nil,Nat.reduceAdd,Nat.reduceSub,Array.replicate_succ,Array.replicate_zero,List.push_toArray,List.append_toArray,List.nil_append,List.cons_append]
 go_upto_region 1 with fail
 obtain ⟨w1,hw1⟩ : ∃ w1,w1 = (w.alloc (.cells bs 29)).alloc (.cells zs 29):=⟨_,rfl⟩
 have H2 : Hid (Blk w1 w.heap.size 29 bs.toList):=by rw [hw1];exact Lib.hid ((Blk.new w _ bs.toList).alloc _)
 have H4 : Hid (Blk w1 (w.heap.size + 1) 29 zs.toList):=by
  rw [hw1]
  have h2:=Blk.new (w.alloc (.cells bs 29)) 29 zs.toList
  rw [World.size_alloc] at h2
  exact Lib.hid h2
 have HK1 : Hid (Keep w w1):=by rw [hw1];exact Lib.hid (keep_trans (keep_new _ _) (keep_new _ _))
 rw [← hw1]
 clear hw1
 go_upto_region 3 with (first | ((with_reducible refine load_arr w.heap.size bs (Eq.trans ?_ rfl) H2.out _ Tryd.underlying29 rfl hbi ?_);rfl) | (go_at_call 29;refine (FS.out _).mono ?_;rintro e w2 ⟨rfl,k⟩;replace H2:=Lib.hid (H2.out.keep k);replace H4:=Lib.hid (H4.out.keep k);have HK2:=Lib.hid (keep_trans HK1.out k);clear k))
 replace H2 : Hid (Blk w2 w.heap.size 29 (bufL g n A 0 c 0)):=by rw [← HBA.out.l];exact H2
 have r0 : w2.cell? ⟨w.heap.size,0,none⟩ = some (u32v g):=(H2.out.cell 0).trans rfl
 have r1 : w2.cell? ⟨w.heap.size,1,none⟩ = some (iv n):=(H2.out.cell 1).trans rfl
 have r2 : w2.cell? ⟨w.heap.size,2,none⟩ = some (.slice A 0 c):=(H2.out.cell 2).trans rfl
 have r3 : w2.cell? ⟨w.heap.size,3,none⟩ = some (iv 0):=(H2.out.cell 3).trans rfl
 go_upto_region 6 with fail
 obtain ⟨w3,hw3⟩ : ∃ y,y = w2.alloc (.cells #[.slice C M cc] 26):=⟨_,rfl⟩
 have hk3 : Keep w2 w3:=by rw [hw3];exact keep_new _ _
 have H6 : Hid (Blk w3 w2.heap.size 26 [.slice C M cc]):=by rw [hw3];exact Lib.hid (Blk.new w2 _ [.slice C M cc])
 rw [← hw3]
 clear hw3
 replace r0:=keep_cell hk3 r0;replace r1:=keep_cell hk3 r1;replace r2:=keep_cell hk3 r2
 have hb4 : w.heap.size + 1 < w2.heap.size:=H4.out.lt
 replace H4:=Lib.hid (H4.out.keep hk3)
 have HK3:=Lib.hid (keep_trans HK2.out hk3)
 clear hk3 r3 HK1 HK2 H2 FS
 generalize w2.heap.size = b6 at *
 go_upto_region 11 with (first | (go_at_call 28;refine (FN.out _).mono ?_;rintro e w4 ⟨ks,rfl,hkA,k⟩;replace H6:=Lib.hid (H6.out.keep k);replace H4:=Lib.hid (H4.out.keep k);have HK4:=Lib.hid (keep_trans HK3.out k);replace r0:=keep_cell k r0;replace r1:=keep_cell k r1;have hkn:=hkA.n;have hkz:=hkA.z;have HKA:=Lib.hid hkA;have hst : (storeCells ⟨w4.heap.size,0,none⟩ ks.toList 0).run Tryd.prog (w4.alloc (.cells zs 29)) = .ok () (w4.alloc (.cells ks 29)):=run_storeCells_new (P:=Tryd.prog) w4 29 zs ks hkA.i (hzz.trans hkA.z.symm) (KSO _ hkA.o);clear k hkA))
 obtain ⟨w5,hw5⟩ : ∃ y,y = w4.alloc (.cells ks 29):=⟨_,rfl⟩
 have hk5 : Keep w4 w5:=by rw [hw5];exact keep_new _ _
 have H7 : Hid (Blk w5 w4.heap.size 29 (bufL g n none 0 0 0)):=by rw [hw5,← HKA.out.l];exact Lib.hid (Blk.new w4 _ ks.toList)
 rw [← hw5]
 clear hw5
 replace r0:=keep_cell hk5 r0;replace r1:=keep_cell hk5 r1
 have hb6 : b6 < w4.heap.size:=H6.out.lt
 replace H4:=Lib.hid (H4.out.keep hk5)
 replace H6:=Lib.hid (H6.out.keep hk5)
 have HK5:=Lib.hid (keep_trans HK4.out hk5)
 clear hk5 HK3 HK4 FN hst r2
 generalize w4.heap.size = b7 at *
 go_upto_region 12 with fail
 obtain ⟨w6,hw6⟩ : ∃ y,y = w5.alloc (.cells #[.slice none 0 0] 101):=⟨_,rfl⟩
 have hk6 : Keep w5 w6:=by rw [hw6];exact keep_new _ _
 have H8 : Hid (Blk w6 w5.heap.size 101 [.slice none 0 0]):=by rw [hw6];exact Lib.hid (Blk.new w5 _ [.slice none 0 0])
 rw [← hw6]
 clear hw6
 replace r0:=keep_cell hk6 r0;replace r1:=keep_cell hk6 r1
 have hb7 : b7 < w5.heap.size:=H7.out.lt
 replace H4:=Lib.hid (H4.out.keep hk6)
 replace H6:=Lib.hid (H6.out.keep hk6)
 replace H7:=Lib.hid (H7.out.keep hk6)
 have HK6:=Lib.hid (keep_trans HK5.out hk6)
 have hb8 : w5.heap.size < w6.heap.size:=H8.out.lt
 clear hk6 HK5
 generalize w5.heap.size = b8 at *
 have r6 : w6.cell? ⟨b6,0,none⟩ = some (.slice C M cc):=(H6.out.cell 0).trans rfl
 go_wp2_with (go_at_call 55;refine (MK.out _).mono ?_;rintro e w7 ⟨rfl,⟨k1,k2,k3⟩,k4,k⟩)
 have hlt7:=k4
 have HG:=Lib.hid k1;have HMo:=Lib.hid k2;have HBb:=Lib.hid k3
 replace H4:=Lib.hid (H4.out.keep k)
 replace H6:=Lib.hid (H6.out.keep k)
 replace H7:=Lib.hid (H7.out.keep k)
 replace H8:=Lib.hid (H8.out.keep k)
 have HK7:=Lib.hid (keep_trans HK6.out k)
 clear k k1 k2 k3 k4 r0 r1 r6 HK6 MK
 obtain ⟨gb,hgb⟩ : ∃ gb,gb = w6.heap.size:=⟨_,rfl⟩
 rw [← hgb] at HG HMo HBb hlt7 hb8
 rw [← hgb]
 clear hgb
 have hlt8 : gb + 3 ≤ w7.heap.size:=by omega
 clear hlt7
 have hkw : ∀ y,KX w7.heap.size (fun k => (k = b6 ∨ k = b7 ∨ k = b8) ∨ k = gb + 2) w7 y → Keep w y:=fun y hy =>
  ⟨hy.os.trans HK7.out.os,hy.tape.trans HK7.out.tape,hy.output.trans HK7.out.output,Nat.le_trans HK7.out.size hy.size,fun k hk => (hy.block k (Nat.lt_of_lt_of_le hk HK7.out.size) (Nat.lt_of_lt_of_le hk HK7.out.size) (fun q => by omega)).trans (HK7.out.block k hk)⟩
 refine wp_rangeFuncM (α:=EvR) (gf:=68) (lb:=#[.pointer (some ⟨gb,0,none⟩),.pointer (some ⟨gb + 1,0,none⟩),.pointer (some ⟨gb + 2,0,none⟩)]) rfl (enters_of Tryd.func68 (by kernel_rfl) rfl) EvR.vals (fun _ => rfl)
  (fun pre x wr W => EvR.at_ x W∧FreshA wr.heap.size x.P x.p.length∧∃ post,pre.map EvR.ev ++ x.ev :: post = evs g n cl) (fun xs => xs.map EvR.ev = evs g n cl) (gb + 2) (fun k => k = b6 ∨ k = b7 ∨ k = b8) (FdI g n cl w7.heap.size b6 b7 b8 (gb + 2) w7) ?hseq ?hGi ?hI ?h0 ?hround ?hdone
 case hseq =>
  intro l J W1 hk hJ0 hJG hY
  refine msgs_any g n cl l w7.heap.size gb (gb + 1) (gb + 2) (fun k => k = b6 ∨ k = b7 ∨ k = b8) w7 J W1 hJG hY C cc (by have:=HM.out;have:=HMB.out;omega) (by rw [HM.out];exact HC.out) ?_ ?_ ⟨by omega,by omega,by omega⟩ ⟨by omega,by omega,by omega⟩ ⟨by omega,by omega⟩ ⟨hk.os,hk.tape,hk.output,hk.size,fun k _ h2 _ => hk.block k h2⟩ (HG.out.keep hk) (HMo.out.keep hk) (by rw [HM.out];exact HBb.out.keep hk) hJ0
  ·intro y hy
   exact HR.out.keep (hkw y hy)
  ·intro y hy
   exact HS.out.keep (hkw y hy)
 case hGi => exact fun pre P1 P2 h hg => FdI.stp (by omega) ⟨by omega,by omega,by omega⟩ h ⟨some (gb + 2),hg.1,fun r e => Or.inl (by cases e;rfl)⟩
 case hI => exact fun pre P1 P2 row h hg hr => FdI.stp (by omega) ⟨by omega,by omega,by omega⟩ h ⟨row,hg,fun r e => Or.inr (hr r e)⟩
 case h0 =>
  have e0 : rstE cl [] = cl:=rfl
  unfold FdI
  rw [e0]
  refine ⟨C,cc,none,0,none,0,KX.refl _ _ _,⟨by rw [HM.out];exact HC.out,by rw [HM.out];exact H6.out,fun y hy => HR.out.keep (hkw y hy)⟩,⟨H8.out,⟨rfl,.inl ⟨rfl,rfl⟩⟩⟩,fun x hx => (by cases hx),H7.out,⟨Nat.le_refl _,Nat.zero_le _⟩,.inl rfl,Or.inl rfl⟩
 case hround =>
  clear hkw
  rintro l pre x wr W hl hi hkw ⟨hx,hf,post,hp⟩
  obtain ⟨A',c',L,lc,RA,rc,h1,⟨h2,h3,h4⟩,⟨h5,h6⟩,h7,h8,h9,h10,h11⟩:=hi
  obtain ⟨e0,e1,e2,e3,e4⟩:=evL_at g n _ cl (pre.map EvR.ev) x.ev post hp
  have hrst : rstE cl pre = cl.drop (cnsE (pre.map EvR.ev)):=by unfold rstE;rw [okE_all e0]
  rw [← hrst] at e3
  clear hrst
  rw [out_zero e0] at h8 h9 h10 h11
  have hlen : (okR pre).length ≤ 50000000:=by
   have q1:=cns_len (pre.map EvR.ev)
   have q2:=okR_le pre
   have q3:=HM.out;have q4:=HMB.out
   rw [List.length_map] at q1
   omega
  have hrowlt : ∀ r,(Value.slice L (okR pre).length lc).ownBlock = some r → r < wr.heap.size:=fun r e => by
   obtain ⟨o,ho,_⟩:=(own_ge h6 r e).2
   exact (Array.getElem?_eq_some_iff.1 ho).1
  have hBr : w7.heap.size ≤ wr.heap.size:=h1.size
  have hfB : FreshA w7.heap.size x.P x.p.length:=hf.mono hBr
  have hkx1 : KX w7.heap.size (fun k => (k = b6 ∨ k = b7 ∨ k = b8) ∨ k = gb + 2) w7 W:=h1.trans (KX.keep hkw)
  replace h3:=h3.keep hkw;replace h5:=h5.keep hkw;replace h8:=h8.keep hkw
  replace h6:=own_keep h6 hkw
  have h7' : ∀ y ∈ okR pre,(y.p.length ≤ y.pc∧y.pc ≤ maxLen)∧RdX (Value.slice L (okR pre).length lc).ownBlock W y.P (y.p.map u8v)∧FreshA w7.heap.size y.P y.p.length:=fun y hy => ⟨(h7 y hy).1,(h7 y hy).2.1.keep hkw,(h7 y hy).2.2⟩
  clear h7 h1 hp e1 e2 e4
  have hz : ∀ t : Array Value,(#[53,54].zip x.vals).foldl (fun t (p,v) => t.setIfInBounds p v) t = (t.setIfInBounds 53 (.agg #[.string (str x.c),.slice x.P x.p.length x.pc])).setIfInBounds 54 (iv x.e):=fun t => by simp [EvR.vals]
  rw [hz]
  simp only [List.setIfInBounds_toArray,List.set_cons_succ,List.set_cons_zero]
  clear hz
  have hWB : w7.heap.size ≤ W.heap.size:=Nat.le_trans hBr hkw.size
  have hlW : ∀ (o : Obj),(W.alloc o).heap[l]? = W.heap[l]? ∨ True:=fun _ => Or.inr trivial
  clear hlW
  gi_wp2
  obtain ⟨Wa,hWa⟩ : ∃ y,y = W.alloc (.cells #[.string (str x.c),.slice x.P x.p.length x.pc] 71):=⟨_,rfl⟩
  have hka : Keep W Wa:=by rw [hWa];exact keep_new _ _
  have hm : Blk Wa W.heap.size 71 [.string (str x.c),.slice x.P x.p.length x.pc]:=by rw [hWa];exact Blk.new W _ [.string (str x.c),.slice x.P x.p.length x.pc]
  have hkf : KeepsFrom w7.heap.size W Wa:=by rw [hWa];exact (KeepsOthers.alloc _ _).from _
  rw [← hWa]
  clear hWa
  refine ⟨hkf,KX.keep hka,fun st xr hlr => ?_⟩
  clear hkf
  have hst : Stp w7.heap.size (gb + 2) Wa (Wa.putObj l (.loop st)):=⟨some l,grownBy_putObj' _ _ _,fun r e => by cases e;exact Or.inr ⟨hl,_,hlr,rfl⟩⟩
  have hmB : gb + 2 < W.heap.size:=by omega
  replace h3:=hst.Blk (h3.keep hka) (show b6 ≠ gb + 2 by omega)
  replace h5:=hst.Blk (h5.keep hka) (show b8 ≠ gb + 2 by omega)
  replace h8:=hst.Blk (h8.keep hka) (show b7 ≠ gb + 2 by omega)
  replace h6:=hst.own (by omega) (own_keep h6 hka)
  replace hm:=hst.Blk hm (by omega)
  have h7 : ∀ y ∈ okR pre,(y.p.length ≤ y.pc∧y.pc ≤ maxLen)∧RdX (Value.slice L (okR pre).length lc).ownBlock (Wa.putObj l (.loop st)) y.P (y.p.map u8v)∧FreshA w7.heap.size y.P y.p.length:=fun y hy => ⟨(h7' y hy).1,hst.rdx (by omega) ((h7' y hy).2.1.keep hka) (h7' y hy).2.2 (fun e => by rw [List.eq_nil_of_length_eq_zero e];rfl),(h7' y hy).2.2⟩
  have hkx2:=hst.kx (X:=fun k => (k = b6 ∨ k = b7 ∨ k = b8) ∨ k = gb + 2) (Or.inr rfl) (hkx1.trans (KX.keep hka))
  have hxr : Rd W x.P (x.p.map u8v):=hx.2.2
  have hxX : ∀ row : Option Nat,(∀ r,row = some r → r < wr.heap.size) → RdX row (Wa.putObj l (.loop st)) x.P (x.p.map u8v):=fun row hrow => by
   refine hst.rdx (by omega) ?_ hfB (fun e => by rw [List.eq_nil_of_length_eq_zero e];rfl)
   exact RdX.of_fresh (base:=wr.heap.size) (n:=x.p.length) ((hxr.keep hka)) hf (by simp) hrow
  have hWb : w7.heap.size ≤ (Wa.putObj l (.loop st)).heap.size:=by rw [World.putObj_size];exact Nat.le_trans hWB hka.size
  obtain ⟨bm,hbm⟩ : ∃ bm,bm = W.heap.size:=⟨_,rfl⟩
  rw [← hbm] at hm hmB
  rw [← hbm]
  have hbmB : w7.heap.size ≤ bm:=by omega
  have hbmW : wr.heap.size ≤ bm:=by have:=hkw.size;omega
  clear hbm h7' hkx1 hst hka hlr hxr
  generalize Wa.putObj l (.loop st) = Wb at *
  have H3:=Lib.hid h3;have H5:=Lib.hid h5;have H6':=Lib.hid h6;have H7':=Lib.hid h7;have H8':=Lib.hid h8;have HM':=Lib.hid hm;have HKX:=Lib.hid hkx2;have HXX:=Lib.hid hxX
  clear h3 h5 h6 h7 h8 hm hkx2 hxX
  have c3 : Wb.cell? ⟨b6,0,none⟩ = some (.slice A' (rstE cl pre).length c'):=(H3.out.cell 0).trans rfl
  have c5 : Wb.cell? ⟨b8,0,none⟩ = some (.slice L (okR pre).length lc):=(H5.out.cell 0).trans rfl
  have cm0 : Wb.cell? ⟨bm,0,none⟩ = some (.string (str x.c)):=(HM'.out.cell 0).trans rfl
  have cm1 : Wb.cell? ⟨bm,1,none⟩ = some (.slice x.P x.p.length x.pc):=(HM'.out.cell 1).trans rfl
  have f3:=H3.out.frozen 0;have f5:=H5.out.frozen 0;have f8:=H8'.out.frozen 3;have f82:=H8'.out.frozen 2
  have c83 : Wb.cell? ⟨b7,3,none⟩ = some (iv 0):=(H8'.out.cell 3).trans rfl
  have c82 : Wb.cell? ⟨b7,2,none⟩ = some (.slice RA 0 rc):=(H8'.out.cell 2).trans rfl
  by_cases hx0 : x.e = 0
  ·have d0 : (x.e == 0) = true:=by rw [hx0];rfl
   have HX0:=Lib.hid hx0
   obtain ⟨k,hk⟩ : ∃ k,(okR pre).length = k:=⟨_,rfl⟩
   have hfit : 24 + x.p.length ≤ (rstE cl pre).length:=e3 hx0
   have hzl : (rstE cl pre).length ≤ 1000000000:=by
    have:=HM.out;have:=HMB.out
    unfold rstE
    rw [List.length_drop];omega
   have hbd:=build_msg (.string (str x.c)) (.slice x.P x.p.length x.pc)
   obtain ⟨v',Wd,hrun,hown,hgrow,halt⟩:=Rd.run_append msgT (Wb.alloc (.cells #[.string (str x.c),.slice x.P x.p.length x.pc] 71)) w7.heap.size 101 (.slice L (okR pre).length lc) (okR pre).length ((okR pre).flatMap EvR.mcells) (own_keep H6'.out (keep_new _ _)) (some ⟨Wb.heap.size,0,none⟩) 1 1 x.mcells rfl (Blk.new Wb 71 x.mcells).rd (by intro u hu;simp only [EvR.mcells,List.mem_cons,List.not_mem_nil,or_false] at hu;rcases hu with rfl | rfl <;> rfl) (by omega) (by show _ ≤ 9223372036854775807;omega) (by rw [World.size_alloc];omega)
   obtain ⟨L2,lc2,rfl,hl2,hl3,hL2⟩:=own_form hown
   have hgr : ∀ r,(Value.slice L (okR pre).length lc).ownBlock = some r → w7.heap.size ≤ r:=fun r e => (own_ge H6'.out r e).1
   have B5d : Blk Wd b8 101 [.slice L (okR pre).length lc]:=(H5.out.alloc _).grown hgrow (fun e => by have:=hgr _ e;omega)
   have B3d : Blk Wd b6 26 [.slice A' (rstE cl pre).length c']:=(H3.out.alloc _).grown hgrow (fun e => by have:=hgr _ e;omega)
   have B7d : Blk Wd b7 29 (bufL g n RA 0 rc 0):=(H8'.out.alloc _).grown hgrow (fun e => by have:=hgr _ e;omega)
   have hbmne : (Value.slice L (okR pre).length lc).ownBlock ≠ some bm:=fun e => by have:=hrowlt _ e;omega
   have Bmd : Blk Wd bm 71 [.string (str x.c),.slice x.P x.p.length x.pc]:=(HM'.out.alloc _).grown hgrow hbmne
   have hc5 : Wd.cell? ⟨b8,0,none⟩ = some (.slice L (okR pre).length lc):=(B5d.cell 0).trans rfl
   have hf5:=B5d.frozen 0
   have B3e:=B3d.far (p:=⟨b8,0,none⟩) (show b6 ≠ b8 by omega) (.slice L2 ((okR pre).length + 1) lc2)
   have Bme:=Bmd.far (p:=⟨b8,0,none⟩) (show bm ≠ b8 by omega) (.slice L2 ((okR pre).length + 1) lc2)
   have ce3 : (Wd.setCell ⟨b8,0,none⟩ (.slice L2 ((okR pre).length + 1) lc2)).cell? ⟨b6,0,none⟩ = some (.slice A' (rstE cl pre).length c'):=(B3e.cell 0).trans rfl
   have cem : (Wd.setCell ⟨b8,0,none⟩ (.slice L2 ((okR pre).length + 1) lc2)).cell? ⟨bm,1,none⟩ = some (.slice x.P x.p.length x.pc):=(Bme.cell 1).trans rfl
   have fe3:=B3e.frozen 0
   obtain ⟨A2,hA2⟩ : ∃ A2,A2 = (if c' = 24 + x.p.length then A' else A'.map (·.add ((24 + x.p.length) * 1))):=⟨_,rfl⟩
   have hsl : ∀ y,(Instr.slice 26 (.slice A' (rstE cl pre).length c') (some (.int .i64 (24 + (x.p.length : Int)))) none none).run Tryd.prog y = .ok (.slice A2 ((rstE cl pre).length - (24 + x.p.length)) (c' - (24 + x.p.length))) y:=fun y => by
    have q:=slice_rest A' (rstE cl pre).length c' (24 + x.p.length) hfit h2.1 y
    rw [← hA2] at q
    rw [show (24 + (x.p.length : Int)) = ((24 + x.p.length : Nat) : Int) from by omega]
    exact q
   have hpl : x.p.length ≤ 1000000000:=by omega
   have HGR:=Lib.hid hgrow;have HOWN:=Lib.hid hown;have HFT:=Lib.hid hfit;have HA2:=Lib.hid hA2;have HALT:=Lib.hid halt;have HL23:=Lib.hid (show (okR pre).length + 1 ≤ lc2∧lc2 ≤ maxLen from ⟨hl2,hl3⟩)
   have D3:=Lib.hid B3e;have D7:=Lib.hid B7d;have D5:=Lib.hid B5d
   clear hx0 hzl hgrow hown hfit hA2 halt hgr B5d B3d B7d Bmd B3e Bme hl2 hl3 hL2 hbmne hk
   gi_wp2_with (gi_at_builtin;refine wpListIn_appR rfl _ _ _ rfl _ _ _ _ rfl rfl hrun ?_)
   have hgr:=HGR.out
   have hro:=own_keep H6'.out (keep_new Wb (.cells #[.string (str x.c),.slice x.P x.p.length x.pc] 71))
   have hk1 : KeepsOthers Wb Wd:=(KeepsOthers.alloc _ _).trans (KeepsOthers.of_grownBy hgr (fun j o e ho => by
    obtain ⟨o',h1,h2⟩:=(own_ge hro j e).2
    rw [ho] at h1;cases h1;exact h2))
   have hkd : ∀ X : Nat → Prop,KX w7.heap.size X Wb Wd:=fun X => (KX.keep (keep_new _ _)).trans (KX.grown hgr (fun r e => Or.inl (own_ge hro r e).1))
   refine ⟨(hk1.trans ((KeepsOthers.setCell _ _ _).trans (KeepsOthers.setCell _ _ _))).from _,(hkd _).trans ((KX.grown (grown_setc _ _ _ _) (fun r e => by cases e;exact Or.inr (Or.inr (Or.inr rfl)))).trans (KX.grown (grown_setc _ _ _ _) (fun r e => by cases e;exact Or.inr (Or.inl rfl)))),?_⟩
   unfold FdI
   rw [rst_snoc0 HX0.out,okR_snoc0 HX0.out,out_snoc,if_pos HX0.out,List.length_append,List.length_singleton,List.flatMap_append,List.length_drop]
   have hmv : ∀ (y : EvR),RdX (Value.slice L (okR pre).length lc).ownBlock Wb y.P (y.p.map u8v) → FreshA w7.heap.size y.P y.p.length → RdX (Value.slice L2 ((okR pre).length + 1) lc2).ownBlock ((Wd.setCell ⟨b8,0,none⟩ (.slice L2 ((okR pre).length + 1) lc2)).setCell ⟨b6,0,none⟩ (.slice A2 ((rstE cl pre).length - (24 + x.p.length)) (c' - (24 + x.p.length)))) y.P (y.p.map u8v):=fun y q2 q3 => by
    have q4:=(q2.keep (keep_new Wb (.cells #[.string (str x.c),.slice x.P x.p.length x.pc] 71))).grown hgr HALT.out
    exact rdx_far (rdx_far q4 q3 nil_of (p:=⟨b8,0,none⟩) (show b8 < _ by omega) _) q3 nil_of (p:=⟨b6,0,none⟩) (show b6 < _ by omega) _
   refine ⟨A2,c' - (24 + x.p.length),L2,lc2,RA,rc,HKX.out.trans ((hkd _).trans ((KX.grown (grown_setc _ _ _ _) (fun r e => by cases e;exact Or.inr (Or.inl (Or.inr (Or.inr rfl))))).trans (KX.grown (grown_setc _ _ _ _) (fun r e => by cases e;exact Or.inr (Or.inl (Or.inl rfl)))))),⟨⟨by have:=h2.1;omega,Nat.le_trans (Nat.sub_le _ _) h2.2⟩,D3.out.set_ 0 _,fun y hy => ?_⟩,⟨(D5.out.set_ 0 _).far (p:=⟨b6,0,none⟩) (show b8 ≠ b6 by omega) _,?_⟩,fun y hy => ?_,(D7.out.far (p:=⟨b8,0,none⟩) (show b7 ≠ b8 by omega) _).far (p:=⟨b6,0,none⟩) (show b7 ≠ b6 by omega) _,h9,.inl rfl,Or.inl rfl⟩
   ·have q:=(h4 y hy).drop (k:=24 + x.p.length) (cap:=c') (by rw [List.length_map];exact HFT.out) (by rw [List.length_map];exact h2.1)
    rw [← HA2.out,← List.map_drop] at q
    exact q
   ·have q:=own_far (own_far HOWN.out (p:=⟨b8,0,none⟩) (show b8 < _ by omega) (.slice L2 ((okR pre).length + 1) lc2)) (p:=⟨b6,0,none⟩) (show b6 < _ by omega) (.slice A2 ((rstE cl pre).length - (24 + x.p.length)) (c' - (24 + x.p.length)))
    simpa using q
   ·rcases List.mem_append.1 hy with hy | hy
    ·obtain ⟨q1,q2,q3⟩:=H7'.out y hy
     exact ⟨q1,hmv y q2 q3,q3⟩
    ·obtain rfl:=List.mem_singleton.1 hy
     exact ⟨⟨hx.1,hx.2.1⟩,hmv _ (HXX.out _ hrowlt) hfB,hfB⟩
  by_cases hx1 : x.e = 1
  ·have d0 : (x.e == 0) = false:=by rw [hx1];rfl
   have d1 : (x.e == 1) = true:=by rw [hx1];rfl
   have HX0:=Lib.hid hx0;have HX1:=Lib.hid hx1
   have HRP : Hid (Rd Wb A' ((rstE cl pre).map u8v)):=Lib.hid (h4 Wb HKX.out)
   have hzl : (rstE cl pre).length ≤ 1000000000:=by
    have:=HM.out;have:=HMB.out
    unfold rstE
    rw [List.length_drop];omega
   have CL : Hid (Calls Tryd.prog 45 #[.slice A' (rstE cl pre).length c'] Wb fun e w' => ∃ P pc,e = .returned (.slice P (rstE cl pre).length pc)∧((rstE cl pre).length ≤ pc∧pc ≤ maxLen)∧Rd w' P ((rstE cl pre).map u8v)∧FreshA Wb.heap.size P (rstE cl pre).length∧Keep Wb w'):=Lib.hid (by
    refine (clone_any A' (rstE cl pre) c' Wb (by omega) HRP.out).mono ?_
    rintro e w' ⟨v,q1,q2,q3⟩
    obtain ⟨P,pc,rfl,q4,q5,q6⟩:=own_form q2
    exact ⟨P,pc,q1,⟨q4,q5⟩,q6,own_fresh q2,q3⟩)
   have HZL:=Lib.hid hzl
   clear hx0 hx1 hzl
   gi_wp2_with (refine ⟨trivial,rfl,?_⟩;gi_at_call 45;refine (CallsIn.inRound l (callsIn_wide.2 CL.out)).mono ?_;rintro e Wc ⟨P2,pc2,rfl,hp1,hp2,hp3,kc⟩;have HP1:=Lib.hid hp1;have HP2:=Lib.hid hp2;have HP3:=Lib.hid hp3;have HKC:=Lib.hid kc;replace c82:=keep_cell kc c82;replace f82:=(H8'.out.keep kc).frozen 2;clear hp1 hp2 hp3 kc)
   have hkc:=HKC.out
   have hBc : w7.heap.size ≤ Wb.heap.size:=hWb
   have hko : KeepsOthers Wb Wc:=⟨hkc.size,fun k o h _ => (hkc.block k (Array.getElem?_eq_some_iff.1 h).1).trans h⟩
   refine ⟨(hko.trans (KeepsOthers.setCell _ _ _)).from _,(KX.keep hkc).trans (KX.grown (grown_setc _ _ _ _) (fun r e => by cases e;exact Or.inr (Or.inr (Or.inl rfl)))),?_⟩
   unfold FdI
   rw [rst_snoc1 HX0.out,okR_snoc1 HX0.out,out_snoc,if_neg HX0.out,if_pos HX1.out]
   refine ⟨A',c',L,lc,P2,pc2,(HKX.out.trans (KX.keep hkc)).trans (KX.grown (grown_setc _ _ _ _) (fun r e => by cases e;exact Or.inr (Or.inl (Or.inr (Or.inl rfl))))),⟨h2,(H3.out.keep hkc).far (p:=⟨b7,2,none⟩) (show b6 ≠ b7 by omega) _,h4⟩,⟨(H5.out.keep hkc).far (p:=⟨b7,2,none⟩) (show b8 ≠ b7 by omega) _,own_far (own_keep H6'.out hkc) (p:=⟨b7,2,none⟩) (show b7 < _ by omega) _⟩,fun y hy => ?_,(H8'.out.keep hkc).set_ 2 _,HP1.out,?_,HP3.out.mono hBc⟩
   ·obtain ⟨q1,q2,q3⟩:=H7'.out y hy
    exact ⟨q1,rdx_far (q2.keep hkc) q3 nil_of (p:=⟨b7,2,none⟩) (show b7 < _ by omega) _,q3⟩
   ·exact rdx_far (RdX.of_fresh (row:=none) HP2.out (HP3.out.mono hBc) (by simp) (fun k e => by cases e)) (HP3.out.mono hBc) nil_of (p:=⟨b7,2,none⟩) (show b7 < _ by omega) _
  ·have d0 : (x.e == 0) = false:=by rw [beq_eq_false_iff_ne];exact hx0
   have d1 : (x.e == 1) = false:=by rw [beq_eq_false_iff_ne];exact hx1
   have HX0:=Lib.hid hx0;have HX1:=Lib.hid hx1
   clear hx0 hx1
   gi_wp2
   refine ⟨(KeepsOthers.setCell _ _ _).from _,KX.grown (grown_setc _ _ _ _) (fun r e => by cases e;exact Or.inr (Or.inr (Or.inl rfl))),?_⟩
   unfold FdI
   rw [rst_snoc1 HX0.out,okR_snoc1 HX0.out,out_snoc,if_neg HX0.out,if_neg HX1.out]
   refine ⟨A',c',L,lc,RA,rc,HKX.out.trans (KX.grown (grown_setc _ _ _ _) (fun r e => by cases e;exact Or.inr (Or.inl (Or.inr (Or.inl rfl))))),⟨h2,H3.out.far (p:=⟨b7,3,none⟩) (show b6 ≠ b7 by omega) _,h4⟩,⟨H5.out.far (p:=⟨b7,3,none⟩) (show b8 ≠ b7 by omega) _,own_far H6'.out (p:=⟨b7,3,none⟩) (show b7 < _ by omega) _⟩,fun y hy => ?_,H8'.out.set_ 3 _,⟨Nat.zero_le _,h9.2⟩,.inl rfl,Or.inl rfl⟩
   obtain ⟨q1,q2,q3⟩:=H7'.out y hy
   exact ⟨q1,rdx_far q2 q3 nil_of (p:=⟨b7,3,none⟩) (show b7 < _ by omega) _,q3⟩
 case hdone =>
  rintro D xs W hD hxs hi hKD
  have hi0:=hi
  obtain ⟨A',c',L,lc,RA,rc,h1,⟨h2,h3,h4⟩,⟨h5,h6⟩,h7,h8,h9,h10,h11⟩:=hi
  rw [hxs] at h8 h9 h10 h11
  have hkW : Keep w W:=hkw W h1
  have h4' : Blk W (w.heap.size + 1) 29 zs.toList:=(h1.block _ (by have:=H4.out.lt;omega) H4.out.lt (fun q => by omega)).trans H4.out
  generalize hO : outE cl (evs g n cl) = O at *
  obtain ⟨ks2,hk2⟩ : ∃ ks2,BuA (bufL g n RA O.1.length rc O.2) ks2:=⟨_,BuA.of ..⟩
  go_upto_region 22 with fail
  have hkn:=hk2.n;have hkz:=hk2.z;have hki:=hk2.i
  have HKS:=Lib.hid hk2;have HKW:=Lib.hid hkW;have H4':=Lib.hid h4';have H5':=Lib.hid h5;have H6'':=Lib.hid h6;have H7'':=Lib.hid h7
  have H8'' : Hid (Blk W b7 29 ks2.toList):=by rw [hk2.l];exact Lib.hid h8
  have H9':=Lib.hid h9;have H10':=Lib.hid h10;have H11':=Lib.hid h11;have HXS:=Lib.hid hxs;have HKD:=Lib.hid hKD;have HOO:=Lib.hid hO
  clear hk2 hkW h4' h5 h6 h7 h8 h9 h10 h11 hxs hKD hO h1 h2 h3 h4 hi0 hkw
  letI iM : G.Mk:=⟨some (w.heap.size + 1)⟩
  refine G.wp_region_tree (.take [0,1] (.force [2] (.take [3] .done))) [] (by kernel_rfl) (by kernel_rfl) (fun wa ka => ?_)
  have hne7 : G.Mk.m ≠ some b7:=fun q => by have e : w.heap.size + 1 = b7:=Option.some.inj q;omega
  have hne8 : G.Mk.m ≠ some b8:=fun q => by have e : w.heap.size + 1 = b8:=Option.some.inj q;omega
  have B8:=G.aftG_cell (keep_cell ka (show W.cell? ⟨b8,0,none⟩ = some (.slice L (okR xs).length lc) from (H5'.out.cell 0).trans rfl)) hne8
  have B7:=Lib.hid (H8''.out.keep ka)
  have B4:=Lib.hid (H4'.out.keep ka)
  have KA:=Lib.hid ka
  clear ka
  refine G.mt_take wa (G.Gr.refl _) ?_
  simp only [pick_cons,pick_nil,nth_zero,nth_succ]
  repeat (first | ((with_reducible refine G.wpQuiet_load_arrG b7 ks2 (Eq.trans ?_ rfl) B7.out hne7 _ Tryd.underlying29 rfl hki ?_);rfl;simp only [Act.put,Array.set!_eq_setIfInBounds,List.setIfInBounds_toArray,List.set_cons_succ,List.set_cons_zero]) | go_big_quiet_step (fail))
  clear B8 hne7 hne8
  obtain ⟨w8,hst8,hb8',hg8⟩:=run_store_blk (P:=Tryd.prog) ks2.toList B4.out (by rw [Array.length_toList,Array.length_toList,hzz,hkz]) HKS.out.o
  have HB8:=Lib.hid hb8'
  refine wpQuiet_nil (G.mt_force ?_)
  simp only [pick_cons,pick_nil,nth_zero,nth_succ]
  refine G.fc_step rfl (fun K hK => ?_)
  go_simp
  refine hK _ _ (show G.Gr wa w8 from hg8) ?_
  have HG8:=Lib.hid hg8
  clear hK K hst8 hg8 hb8'
  refine G.fc_nil (G.mt_take _ (G.Gr.refl _) ?_)
  simp only [pick_cons,pick_nil,nth_zero,nth_succ]
  repeat (go_big_quiet_step (fail))
  refine wpQuiet_nil (G.mt_end ?_)
  clear iM
  go_wp2
  have hq : w.heap.size + 1 < w7.heap.size:=by omega
  have hDq : w.heap.size + 1 ≠ D:=by omega
  have hK8 : w8.heap[D]? = some (.deferred (some [])):=(HG8.out.block D (by have:=(Array.getElem?_eq_some_iff.1 HKD.out).1;have:=KA.out.size;omega) (fun e => by injection e with e;omega)).trans ((KA.out.block D (Array.getElem?_eq_some_iff.1 HKD.out).1).trans HKD.out)
  have hstp : Stp w7.heap.size (gb + 2) w8 (w8.putObj D (.deferred none)):=⟨some D,grownBy_putObj' _ _ _,fun r e => by cases e;exact Or.inr ⟨hD,_,hK8,rfl⟩⟩
  have hB9 : Blk (w8.putObj D (.deferred none)) (w.heap.size + 1) 29 ks2.toList:=(World.putObj_heap_other hDq).trans HB8.out
  have hmv : ∀ (row : Option Nat) (P : Option Addr) (l : List UInt8),RdX row W P (l.map u8v) → FreshA w7.heap.size P l.length → Rd (w8.putObj D (.deferred none)) P (l.map u8v):=fun row P l q1 q2 =>
   (hstp.rdx (by omega) (rdx_grownq (q1.keep KA.out) q2 nil_of HG8.out hq) q2 nil_of).rd
  refine ⟨by simp,.inl ⟨D,_,rfl,run_takeDeferred hK8,?_⟩⟩
  refine ⟨.tuple #[.agg ks2,.slice L (okR xs).length lc],results_cell_tmp_row Tryd.results37 _ _ (w.heap.size + 1) _ _ _ _ rfl hB9 Tryd.underlying29 rfl (by rw [List.size_toArray,Array.length_toList];exact hki),ks2,L,lc,xs,RA,rc,rfl,HXS.out,?_⟩
  rw [HOO.out]
  refine ⟨HKS.out,⟨H9'.out.1,H9'.out.2,hmv _ _ _ H10'.out H11'.out⟩,own_rd (hstp.own (by omega) (own_grownq (own_keep H6''.out KA.out) HG8.out hq)),fun x hx => ?_,keep_putObj ((keep_trans HKW.out KA.out).grown HG8.out (keep_trans HKW.out KA.out).size (fun r hr => by injection hr with hr;omega)) _ (by omega)⟩
  obtain ⟨q1,q2,q3⟩:=H7''.out x hx
  exact ⟨q1.1,q1.2,hmv _ _ _ q2 q3⟩
end Go.Proofs.YtffpanlpbdnafaaDoor
/- What a peer is fed, plainly; messages in a row that is appended to. -/
set_option linter.unusedSimpArgs false
set_option linter.unusedVariables false
namespace Go.Proofs.YtffpanlpbdnafaaDoor
open Go.RowKit
def feedL : List (List UInt8 × List UInt8) → List MsgR × Int
 | [] => ([],0)
 | x :: l => if (kindN x.1).2 = true then if (wgetN x.1 x.2).2 = 0 then ((wgetN x.1 x.2).1 :: (feedL l).1,(feedL l).2) else ([],(wgetN x.1 x.2).2) else feedL l
def PeR.pl (p : PeR) : PeR:={ p with rA:=none,rc:=0 }
def feedO (q : PeR) (O : List UInt8 × Int) (F : List MsgR × Int) : PeR × List MsgR × Int :=
 if F.2 = 0 then
  if O.2 = 0 then ({ q with rA:=none,rs:=O.1,rc:=0,bad:=O.2 },F.1,0)
  else (PeR.ban { q with rA:=none,rs:=O.1,rc:=0,bad:=O.2 },F.1,O.2)
 else (PeR.ban { q with rA:=none,rs:=O.1,rc:=0,bad:=O.2 },F.1,F.2)
def feedP (q : PeR) (cl : List UInt8) : PeR × List MsgR × Int:=feedO q (outE cl (evs q.magic q.cap cl)) (feedL ((okE (evs q.magic q.cap cl)).map Prod.fst))
def FeedQ (R : PeR × List MsgR × Int) (w : World) (e : Ending) (w' : World) : Prop:=∃ (ds : Array Value) (z : PeR) (L : Option Addr) (lc : Nat) (ms : List MsgR),
 e = .returned (.tuple #[.agg ds,.slice L ms.length lc,iv R.2.2])∧PeA z ds∧z.at_ w'∧z.pl = R.1∧ms.map MsgR.pl = R.2.1∧(ms.length ≤ lc∧lc ≤ maxLen)∧Rd w' L (ms.flatMap MsgR.cells)∧(∀ m ∈ ms,m.at_ w')∧Keep w w'
def FI (X : List EvR) (F : List MsgR × Int) (ms : List MsgR) (k : Nat) : Prop:=ms.map MsgR.pl ++ (feedL ((X.drop k).map fun x => (x.c,x.p))).1 = F.1∧(feedL ((X.drop k).map fun x => (x.c,x.p))).2 = F.2
section
variable {X : List EvR} {F : List MsgR × Int} {ms : List MsgR} {k : Nat}
theorem FI.start (h : feedL (X.map fun x => (x.c,x.p)) = F) : FI X F [] 0:=by unfold FI;rw [List.drop_zero,h];exact ⟨rfl,rfl⟩
theorem FI.fin (h : FI X F ms X.length) : ms.map MsgR.pl = F.1∧F.2 = 0:=by
 unfold FI at h
 rw [List.drop_length] at h
 exact ⟨by simpa [feedL] using h.1,h.2.symm⟩
theorem FI.skip (h : FI X F ms k) (hk : k < X.length) (h0 : (kindN X[k].c).2 = false) : FI X F ms (k + 1):=by
 unfold FI at h ⊢
 rw [List.drop_eq_getElem_cons hk,List.map_cons,feedL,if_neg (by rw [h0];decide)] at h
 exact h
theorem FI.next (h : FI X F ms k) (hk : k < X.length) (h0 : (kindN X[k].c).2 = true) (h1 : (wgetN X[k].c X[k].p).2 = 0) (m : MsgR) (hm : m.pl = (wgetN X[k].c X[k].p).1) : FI X F (ms ++ [m]) (k + 1):=by
 unfold FI at h ⊢
 rw [List.drop_eq_getElem_cons hk,List.map_cons,feedL,if_pos h0,if_pos h1] at h
 rw [List.map_append,List.append_assoc]
 refine ⟨?_,h.2⟩
 rw [← h.1,List.map_cons,hm]
 rfl
theorem FI.stop (h : FI X F ms k) (hk : k < X.length) (h0 : (kindN X[k].c).2 = true) (h1 : (wgetN X[k].c X[k].p).2 ≠ 0) : ms.map MsgR.pl = F.1∧F.2 = (wgetN X[k].c X[k].p).2:=by
 unfold FI at h
 rw [List.drop_eq_getElem_cons hk,List.map_cons,feedL,if_pos h0,if_neg h1] at h
 exact ⟨by simpa using h.1,h.2.symm⟩
end
def AtM (B : Nat) (w : World) (v : Value) (ms : List MsgR) : Prop:=∀ W : World,(∀ k,B ≤ k → k < w.heap.size → v.ownBlock ≠ some k → W.heap[k]? = w.heap[k]?) → ∀ q ∈ ms,q.at_ W
theorem AtM.more {B : Nat} {wr w4 w5 : World} {v v' : Value} {qs : List MsgR} {q : MsgR} {n size : Nat} {e : TypeId} {xs : List Value} (h : AtM B wr v qs) (own : wr.ownsRow B e size v n xs) (hB : B ≤ wr.heap.size) (hk : Keep wr w4) (hg : w4.grownBy w5 v.ownBlock)
  (hv : v'.ownBlock = v.ownBlock ∨ v'.ownBlock = some w4.heap.size) (hm : ∀ W,MidF (fun _ => True) wr w4 W → q.at_ W) : AtM B w5 v' (qs ++ [q]):=by
 intro W hW
 have g4 : ∀ k,B ≤ k → k < w4.heap.size → v.ownBlock ≠ some k → W.heap[k]? = w4.heap[k]?:=fun k h1 h2 h3 =>
  (hW k h1 (Nat.lt_of_lt_of_le h2 hg.size) (by
   rcases hv with e | e
   ·rw [e];exact h3
   ·rw [e];intro q;cases q;omega)).trans (hg.block k h2 (Ne.symm h3))
 intro x hx
 rcases List.mem_append.1 hx with hx | hx
 ·exact h W (fun k h1 h2 h3 => (g4 k h1 (Nat.lt_of_lt_of_le h2 hk.size) h3).trans (hk.block k h2)) x hx
 ·obtain rfl : x = q:=by simpa using hx
  exact hm W ⟨trivial,fun k h1 h2 => g4 k (Nat.le_trans hB h1) h2 (fun e => by have:=(own.lt k e).2;omega)⟩
theorem AtM.keep {B : Nat} {w w' : World} {v : Value} {ms : List MsgR} (h : AtM B w v ms) (k : Keep w w') : AtM B w' v ms:=fun W hW => h W (fun j h1 h2 h3 => (hW j h1 (Nat.lt_of_lt_of_le h2 k.size) h3).trans (k.block j h2))
theorem evs_cns (g : UInt32) (n : Int) (cl : List UInt8) : cnsE (okE (evs g n cl)) ≤ cl.length:=by
 rcases List.eq_nil_or_concat (evs g n cl) with h | ⟨pre,x,h⟩
 ·rw [h];exact Nat.zero_le _
 ·rw [List.concat_eq_append] at h
  obtain ⟨h1,h2,-,h4,-⟩:=evL_at g n _ cl pre x [] h.symm
  rw [h]
  have e : okE (pre ++ [x]) = okE pre ++ okE [x]:=List.filter_append ..
  rw [e,okE_all h1,cnsE_app]
  by_cases hx : x.2 = 0
  ·have h5:=h4 hx
   rw [List.length_drop] at h5
   have e2 : okE [x] = [x]:=okE_all (fun y hy => by rw [List.mem_singleton.1 hy];exact hx)
   rw [e2,cnsE_cons]
   show _ + (_ + 0) ≤ _
   omega
  ·have e2 : okE [x] = []:=by simp [okE,hx]
   rw [e2]
   exact h2
theorem cns_mem {l : List Ev} {y : Ev} (h : y ∈ l) : y.1.2.length ≤ cnsE l:=by
 induction l with
 | nil => cases h
 | cons x l ih =>
   rw [cnsE_cons]
   rcases List.mem_cons.1 h with rfl | h
   ·omega
   ·have:=ih h;omega
theorem outE_le (cl : List UInt8) (l : List Ev) : (outE cl l).1.length ≤ cl.length:=by
 unfold outE
 cases l.getLast? with
 | none => exact Nat.zero_le _
 | some y =>
   show (if y.2 = 0 then _ else if y.2 = 1 then _ else _ : List UInt8 × Int).1.length ≤ _
   by_cases h0 : y.2 = 0
   ·rw [if_pos h0];exact Nat.zero_le _
   ·rw [if_neg h0]
    by_cases h1 : y.2 = 1
    ·rw [if_pos h1];show (cl.drop _).length ≤ _;rw [List.length_drop];omega
    ·rw [if_neg h1];exact Nat.zero_le _
theorem taken_nil {p : PeR} (h : p.rs = []) : (takenP p).rs = []:=by
 unfold takenP
 by_cases hs : saneP p = true
 ·rw [if_pos hs];exact h
 ·rw [if_neg hs];rfl
theorem taken_cap (p : PeR) : (takenP p).cap = bndF (takenP p).cap:=by
 unfold takenP
 by_cases hs : saneP p = true
 ·rw [if_pos hs]
  simp only [saneP,fsaneB,Bool.and_eq_true,decide_eq_true_eq] at hs
  exact hs.2
 ·rw [if_neg hs]
  show bndF p.cap = bndF (bndF p.cap)
  rw [bnd_bnd]
end Go.Proofs.YtffpanlpbdnafaaDoor
