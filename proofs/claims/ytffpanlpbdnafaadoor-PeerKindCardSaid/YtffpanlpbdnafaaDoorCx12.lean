/- Texts merged by pack.py: Pi, Rtl, Qh, Rkp, Rfs, Plq, Rft. -/
import Derived.Test.YtffpanlpbdnafaaDoorCx11
import Derived.Test.YtffpanlpbdnafaaDoorCx10
import Derived.Test.YtffpanlpbdnafaaDoorCx1
import Derived.Test.YtffpanlpbdnafaaDoorCx5
/- Same: of messages that are the same. (printed by gen_pi.py) -/
set_option linter.unusedSimpArgs false
set_option linter.unusedVariables false
namespace Go.Proofs.YtffpanlpbdnafaaDoor
open Go.RowKit
attribute [local go_sem ↓] Go.wp_at_zero Go.wp_at_succ
theorem pl_split {a b : MsgR} (h : a.pl = b.pl) : ∃ hA hc lA lc iA ic sA sc fA fc t,b = ⟨a.kind,a.proto,a.nonce,a.height,hA,a.hs,hc,lA,a.ls,lc,a.stop,iA,a.is,ic,a.bh,a.total,sA,a.shs,sc,fA,a.fs,fc,t⟩∧t.pl = a.t.pl:=by
 obtain ⟨k,p,n,h0,hA,hs,hc,lA,ls,lc,stop,iA,is,ic,bh,total,sA,shs,sc,fA,fs,fc,t⟩:=a
 obtain ⟨k',p',n',h',hA',hs',hc',lA',ls',lc',stop',iA',is',ic',bh',total',sA',shs',sc',fA',fs',fc',t'⟩:=b
 unfold MsgR.pl at h
 injection h with e1 e2 e3 e4 _ e5 _ _ e6 _ e7 _ e8 _ e9 e10 _ e11 _ _ e12 _ e13
 subst e1 e2 e3 e4 e5 e6 e7 e8 e9 e10 e11 e12
 exact ⟨hA',hc',lA',lc',iA',ic',sA',sc',fA',fc',t',rfl,e13.symm⟩
set_option maxRecDepth 100000 in
set_option maxHeartbeats 16000000 in
theorem same09 (a b : MsgR) (as_ bs : Array Value) (hA : MsB a as_) (hB : MsB b bs) (w : World) (ha : a.at_ w) (hb : b.at_ w) (hp : a.pl = b.pl) (hi : a.t.ins.length ≤ 1000000) (ho : a.t.outs.length ≤ 1000000)
  (h1 : a.hs.length ≤ 1000000) (h2 : a.ls.length ≤ 1000000) (h3 : a.is.length ≤ 1000000) (h4 : a.shs.length ≤ 1000000) :
  Calls Tryd.prog 19 #[.agg as_,.agg bs] w fun e w' => e = .returned (.bool true)∧Keep w w':=by
 obtain ⟨gA,gc,mA,mc,jA,jc,qA,qc,gfA,gfc,t',rfl,htp⟩:=pl_split hp
 have S7 : Hid (∀ y,Keep w y → Calls Tryd.prog 46 #[.slice a.hA a.hs.length a.hc,.slice gA a.hs.length gc] y fun e w' => e = .returned (.bool true)∧Keep y w'):=Lib.hid fun y hy => same07 a.hA a.hs a.hc gA gc y (ha.h.keep hy) (hb.h.keep hy) ha.o.h h1
 have S3 : Hid (∀ y,Keep w y → Calls Tryd.prog 47 #[.slice a.lA a.ls.length a.lc,.slice mA a.ls.length mc] y fun e w' => e = .returned (.bool true)∧Keep y w'):=Lib.hid fun y hy => same03 a.lA a.ls a.lc mA mc y (ha.l.keep hy) (hb.l.keep hy) ha.o.l h2
 have S4 : Hid (∀ y,Keep w y → Calls Tryd.prog 47 #[.slice a.sA a.shs.length a.sc,.slice qA a.shs.length qc] y fun e w' => e = .returned (.bool true)∧Keep y w'):=Lib.hid fun y hy => same03 a.sA a.shs a.sc qA qc y (ha.s.keep hy) (hb.s.keep hy) ha.o.z h4
 have lt1 : t'.ins.length = a.t.ins.length:=by have q:=congrArg List.length (congrArg TxR.ins htp : t'.pl.ins = a.t.pl.ins);unfold TxR.pl at q;simpa using q
 have lt2 : t'.outs.length = a.t.outs.length:=by have q:=congrArg List.length (congrArg TxR.outs htp : t'.pl.outs = a.t.pl.outs);unfold TxR.pl at q;simpa using q
 have S8 : Hid (∀ y,Keep w y → Calls Tryd.prog 48 #[.agg #[u32v a.t.ver,.slice a.t.iA a.t.ins.length a.t.ic,.slice a.t.oA a.t.outs.length a.t.oc,u32v a.t.lock],.agg #[u32v t'.ver,.slice t'.iA t'.ins.length t'.ic,.slice t'.oA t'.outs.length t'.oc,u32v t'.lock]] y fun e w' => e = .returned (.bool true)∧Keep y w'):=Lib.hid fun y hy => same08 a.t t' y (ha.t.keep hy) (hb.t.keep hy) htp.symm hi ho
 have HI : Hid (∀ k,k < a.is.length → ∃ (b1 off b2 off2 : Nat) (x : Itm) (xs : Array Value),a.iA = some ⟨b1,off,none⟩∧jA = some ⟨b2,off2,none⟩∧ItB x xs∧x.ok∧w.rangeAt b1 (off + k * 33) xs.toList∧w.rangeAt b2 (off2 + k * 33) xs.toList):=Lib.hid fun k hk => by
  obtain ⟨b1,off,e1,-,e2⟩:=item_at ha.i ha.o.i hk
  obtain ⟨b2,off2,e3,-,e4⟩:=item_at hb.i ha.o.i hk
  have hok:=ha.o.i _ (List.getElem_mem hk)
  exact ⟨b1,off,b2,off2,_,_,e1,e3,ItB.of hok,hok,by rw [(ItB.of hok).l];exact e2,by rw [(ItB.of hok).l];exact e4⟩
 have HOA:=Lib.hid ha.o;have HOB:=Lib.hid hb.o
 have RF1:=Lib.hid ha.f;have RF2:=Lib.hid hb.f
 have han:=hA.n;have haz:=hA.z;have hai:=hA.i
 have hbn:=hB.n;have hbz:=hB.z;have hbi:=hB.i
 have HA:=Lib.hid hA;have HB:=Lib.hid hB
 obtain ⟨ss,hss⟩ : ∃ ss,HashA a.stop ss:=⟨_,HashA.of ha.o.s⟩
 obtain ⟨hv,hhv⟩ : ∃ hv,HdA a.bh hv:=⟨_,HdA.of ha.o.b⟩
 have hsn:=hss.n;have hsz:=hss.z;have hsi:=hss.i
 have hvn:=hhv.n;have hvz:=hhv.z;have hvi:=hhv.i
 have ne1 : ∀ w,(Go.binOp .neq 39 (.agg ss) (.agg ss)).run Tryd.prog w = .ok (.bool false) w:=fun w => hash_neqS hss hss ha.o.s w
 have ne2 : ∀ w,(Op.equalIn 10000 39 (.agg ss) (.agg ss)).run Tryd.prog w = .ok true w:=fun w => hash_inS hss hss ha.o.s w
 have ne3 : ∀ w,(Go.binOp .eql 42 (.agg hv) (.agg hv)).run Tryd.prog w = .ok (.bool true) w:=fun w => hd_eqlS hhv hhv ha.o.b w
 have ne4 : ∀ w,(Op.equalIn 10000 42 (.agg hv) (.agg hv)).run Tryd.prog w = .ok true w:=fun w => hd_inS hhv hhv ha.o.b w
 have hgd:=hash_guard;have hgd2:=hd_guard;have hgd3:=ritem_guard
 have HSS:=Lib.hid hss;have HHV:=Lib.hid hhv
 clear hA hB ha hb hp htp lt1 lt2 hss hhv hi ho h1 h2 h4
 go_enter Tryd.func19,Tryd.ntmps19
 go_upto_region 1 with fail
 obtain ⟨w1,hw1⟩ : ∃ w1,w1 = (w.alloc (.cells as_ 63)).alloc (.cells bs 63):=⟨_,rfl⟩
 have HX1 : Hid (Blk w1 w.heap.size 63 a.cells):=by rw [hw1,← HA.out.l];exact Lib.hid ((Blk.new w _ as_.toList).alloc _)
 have HY1 : Hid (Blk w1 (w.heap.size + 1) 63 (MsgR.cells ⟨a.kind,a.proto,a.nonce,a.height,gA,a.hs,gc,mA,a.ls,mc,a.stop,jA,a.is,jc,a.bh,a.total,qA,a.shs,qc,gfA,a.fs,gfc,t'⟩)):=by
  rw [hw1,← HB.out.l]
  have q:=Blk.new (w.alloc (.cells as_ 63)) 63 bs.toList
  rw [World.size_alloc] at q
  exact Lib.hid q
 have HK1 : Hid (Keep w w1):=by rw [hw1];exact Lib.hid (keep_trans (keep_new _ _) (keep_new _ _))
 rw [← hw1]
 clear hw1
 obtain ⟨bm,hbm⟩ : ∃ bm : MsgR,bm = ⟨a.kind,a.proto,a.nonce,a.height,gA,a.hs,gc,mA,a.ls,mc,a.stop,jA,a.is,jc,a.bh,a.total,qA,a.shs,qc,gfA,a.fs,gfc,t'⟩:=⟨_,rfl⟩
 have HBM:=Lib.hid hbm
 rw [← hbm] at HY1 HOB
 clear hbm
 have XC : Hid (∀ y,Blk y w.heap.size 63 a.cells → (y.cell? ⟨w.heap.size,38,none⟩ = some (.slice a.iA a.is.length a.ic)∧y.cell? ⟨w.heap.size,107,none⟩ = some (u32v a.total)∧y.cell? ⟨w.heap.size,108,none⟩ = some (.slice a.sA a.shs.length a.sc)∧y.cell? ⟨w.heap.size,109,none⟩ = some (.slice a.fA a.fs.length a.fc) ∧
   y.cell? ⟨w.heap.size,110,none⟩ = some (u32v a.t.ver)∧y.cell? ⟨w.heap.size,111,none⟩ = some (.slice a.t.iA a.t.ins.length a.t.ic)∧y.cell? ⟨w.heap.size,112,none⟩ = some (.slice a.t.oA a.t.outs.length a.t.oc)∧y.cell? ⟨w.heap.size,113,none⟩ = some (u32v a.t.lock) ∧
   y.rangeAt w.heap.size 6 ss.toList∧y.rangeAt w.heap.size 39 hv.toList)):=Lib.hid fun y h => ⟨(h.cell 38).trans ((MsgR.tail_get HOA.out 0).trans rfl),(h.cell 107).trans ((MsgR.blk_tail HOA.out 0 (by omega)).trans rfl),(h.cell 108).trans ((MsgR.blk_tail HOA.out 1 (by omega)).trans rfl),(h.cell 109).trans ((MsgR.blk_tail HOA.out 2 (by omega)).trans rfl),
   (h.cell 110).trans ((MsgR.tx_get HOA.out 0).trans rfl),(h.cell 111).trans ((MsgR.tx_get HOA.out 1).trans rfl),(h.cell 112).trans ((MsgR.tx_get HOA.out 2).trans rfl),(h.cell 113).trans ((MsgR.tx_get HOA.out 3).trans rfl),
   range_of h 6 ss.toList (by rw [HSS.out.l,MsgR.cells6,List.drop_left' (show a.hd6.length = 6 from rfl),List.take_left' rfl]),
   range_of h 39 hv.toList (by rw [HHV.out.l,MsgR.cells39,List.drop_left' (MsgR.hd39_len HOA.out.s)];unfold MsgR.blk;rw [List.append_assoc,List.take_left' rfl])⟩
 have YC : Hid (∀ y,Blk y (w.heap.size + 1) 63 bm.cells → (y.cell? ⟨w.heap.size + 1,38,none⟩ = some (.slice jA a.is.length jc)∧y.cell? ⟨w.heap.size + 1,107,none⟩ = some (u32v a.total)∧y.cell? ⟨w.heap.size + 1,108,none⟩ = some (.slice qA a.shs.length qc)∧y.cell? ⟨w.heap.size + 1,109,none⟩ = some (.slice gfA a.fs.length gfc) ∧
   y.cell? ⟨w.heap.size + 1,110,none⟩ = some (u32v t'.ver)∧y.cell? ⟨w.heap.size + 1,111,none⟩ = some (.slice t'.iA t'.ins.length t'.ic)∧y.cell? ⟨w.heap.size + 1,112,none⟩ = some (.slice t'.oA t'.outs.length t'.oc)∧y.cell? ⟨w.heap.size + 1,113,none⟩ = some (u32v t'.lock) ∧
   y.rangeAt (w.heap.size + 1) 6 ss.toList∧y.rangeAt (w.heap.size + 1) 39 hv.toList)):=Lib.hid fun y h => ⟨(h.cell 38).trans ((MsgR.tail_get HOB.out 0).trans (by rw [HBM.out];rfl)),(h.cell 107).trans ((MsgR.blk_tail HOB.out 0 (by omega)).trans (by rw [HBM.out];rfl)),(h.cell 108).trans ((MsgR.blk_tail HOB.out 1 (by omega)).trans (by rw [HBM.out];rfl)),(h.cell 109).trans ((MsgR.blk_tail HOB.out 2 (by omega)).trans (by rw [HBM.out];rfl)),
   (h.cell 110).trans ((MsgR.tx_get HOB.out 0).trans (by rw [HBM.out];rfl)),(h.cell 111).trans ((MsgR.tx_get HOB.out 1).trans (by rw [HBM.out];rfl)),(h.cell 112).trans ((MsgR.tx_get HOB.out 2).trans (by rw [HBM.out];rfl)),(h.cell 113).trans ((MsgR.tx_get HOB.out 3).trans (by rw [HBM.out];rfl)),
   range_of h 6 ss.toList (by rw [HSS.out.l,MsgR.cells6,List.drop_left' (show bm.hd6.length = 6 from rfl),HBM.out];exact List.take_left' rfl),
   range_of h 39 hv.toList (by rw [HHV.out.l,MsgR.cells39,List.drop_left' (MsgR.hd39_len HOB.out.s)];unfold MsgR.blk;rw [List.append_assoc,HBM.out];exact List.take_left' rfl)⟩
 have c0 : w1.cell? ⟨w.heap.size,0,none⟩ = some (.int .i64 a.kind):=(HX1.out.cell 0).trans rfl
 have c1 : w1.cell? ⟨w.heap.size,1,none⟩ = some (u32v a.proto):=(HX1.out.cell 1).trans rfl
 have c2 : w1.cell? ⟨w.heap.size,2,none⟩ = some (u64v a.nonce):=(HX1.out.cell 2).trans rfl
 have c3 : w1.cell? ⟨w.heap.size,3,none⟩ = some (u32v a.height):=(HX1.out.cell 3).trans rfl
 have c4 : w1.cell? ⟨w.heap.size,4,none⟩ = some (.slice a.hA a.hs.length a.hc):=(HX1.out.cell 4).trans rfl
 have c5 : w1.cell? ⟨w.heap.size,5,none⟩ = some (.slice a.lA a.ls.length a.lc):=(HX1.out.cell 5).trans rfl
 have y0 : w1.cell? ⟨w.heap.size + 1,0,none⟩ = some (.int .i64 a.kind):=(HY1.out.cell 0).trans (by rw [HBM.out];rfl)
 have y1 : w1.cell? ⟨w.heap.size + 1,1,none⟩ = some (u32v a.proto):=(HY1.out.cell 1).trans (by rw [HBM.out];rfl)
 have y2 : w1.cell? ⟨w.heap.size + 1,2,none⟩ = some (u64v a.nonce):=(HY1.out.cell 2).trans (by rw [HBM.out];rfl)
 have y3 : w1.cell? ⟨w.heap.size + 1,3,none⟩ = some (u32v a.height):=(HY1.out.cell 3).trans (by rw [HBM.out];rfl)
 have y4 : w1.cell? ⟨w.heap.size + 1,4,none⟩ = some (.slice gA a.hs.length gc):=(HY1.out.cell 4).trans (by rw [HBM.out];rfl)
 have y5 : w1.cell? ⟨w.heap.size + 1,5,none⟩ = some (.slice mA a.ls.length mc):=(HY1.out.cell 5).trans (by rw [HBM.out];rfl)
 clear HOA HOB HSS HHV HBM
 try simp only [List.append_eq,List.cons_append,List.nil_append]
 go_upto_region 3 with (first | ((with_reducible refine load_partg w.heap.size 6 ss (Eq.trans ?_ rfl) RS1.out _ hash_under rfl hsi (Eq.trans ?_ rfl) ?_);rfl;rfl) | ((with_reducible refine load_partg (w.heap.size + 1) 6 ss (Eq.trans ?_ rfl) RS2.out _ hash_under rfl hsi (Eq.trans ?_ rfl) ?_);rfl;rfl) | (go_at_call 46;refine (S7.out _ HK1.out).mono ?_;rintro e w2 ⟨rfl,k2⟩;have HK2:=Lib.hid (keep_trans HK1.out k2);have HX2:=Lib.hid (HX1.out.keep k2);have HY2:=Lib.hid (HY1.out.keep k2);have c5:=keep_cell k2 c5;have y5:=keep_cell k2 y5;clear k2 S7 c4 y4 c0 c1 c2 c3 y0 y1 y2 y3 HX1 HY1) | (go_at_call 47;refine (S3.out _ HK2.out).mono ?_;rintro e w3 ⟨rfl,k3⟩;have HK3:=Lib.hid (keep_trans HK2.out k3);have HX3:=Lib.hid (HX2.out.keep k3);have HY3:=Lib.hid (HY2.out.keep k3);obtain ⟨c38,-,-,-,-,-,-,-,rs1,-⟩:=XC.out _ HX3.out;obtain ⟨y38,-,-,-,-,-,-,-,rs2,-⟩:=YC.out _ HY3.out;have RS1:=Lib.hid rs1;have RS2:=Lib.hid rs2;clear k3 S3 c5 y5 HX2 HY2 rs1 rs2))
 have X38:=Lib.hid c38;have Y38:=Lib.hid y38
 clear c38 y38 RS1 RS2 ne1 ne2
 go_upto_block 0 with fail
 go_cut [] (fun wx => Hid (Keep w3 wx))
 case first =>
  go_wp2_with fail
  go_loopw [5] (fun i wr => ∃ k : Nat,k ≤ a.is.length∧i = .int .i64 k∧Hid (Keep w3 wr)) (fun i _ => a.is.length - (intOf i).toNat)
  case atStart => exact ⟨0,Nat.zero_le _,rfl,Lib.hid (Below.refl _ _)⟩
  case round =>
   obtain ⟨k,hk,rfl,HKr⟩:=hrel
   have c38:=keep_cell HKr.out X38.out;have y38:=keep_cell HKr.out Y38.out
   by_cases hlt : k < a.is.length
   ·obtain ⟨b1,off,b2,off2,x,xs,e1,rfl,hxs,hok,hr1,hr2⟩:=HI.out k hlt
    rw [e1] at c38
    have xz:=hxs.z;have xn:=hxs.n;have xi:=hxs.i
    have d4 : (k : Int) < (a.is.length : Int):=by omega
    have kw:=keep_trans HK3.out HKr.out
    have Hx0:=Lib.hid (range_keep kw hr1);have Hy0:=Lib.hid (range_keep kw hr2)
    have he : ∀ w,(Go.binOp .neq 97 (.agg xs) (.agg xs)).run Tryd.prog w = .ok (.bool false) w:=fun w => ritem_neqS hxs hxs hok w
    have hi : ∀ w,(Op.equalIn 10000 97 (.agg xs) (.agg xs)).run Tryd.prog w = .ok true w:=fun w => ritem_inS hxs hxs hok w
    clear hr1 hr2 hxs hok HI e1 kw
    go_upto_region 6 with fail
    refine wp_region_tree (.take [0,1,2,3,4,5,6,7,8,9,10] .done) [] (by kernel_rfl) (by kernel_rfl) (fun w8 k8 => ?_)
    have HK8:=Lib.hid (keep_trans HKr.out k8)
    have Hx:=Lib.hid (range_keep k8 Hx0.out);have Hy:=Lib.hid (range_keep k8 Hy0.out)
    have b0:=aft_cell (keep_cell k8 c38);have b3:=aft_cell (keep_cell k8 y38)
    clear k8 Hx0 Hy0 HKr c38 y38
    refine mt_take w8 (Below.refl _ _) ?_
    simp only [pick_cons,pick_nil,nth_zero,nth_succ]
    repeat (first | ((with_reducible refine wpQuiet_load_partg b1 (off + k * 33) xs (Eq.trans ?_ rfl) Hx.out _ Tryd.underlying97 rfl xi (Eq.trans ?_ rfl) ?_);rfl;rfl;simp only [Act.put,Array.set!_eq_setIfInBounds,List.setIfInBounds_toArray,List.set_cons_succ,List.set_cons_zero]) | ((with_reducible refine wpQuiet_load_partg b2 (off2 + k * 33) xs (Eq.trans ?_ rfl) Hy.out _ Tryd.underlying97 rfl xi (Eq.trans ?_ rfl) ?_);rfl;rfl;simp only [Act.put,Array.set!_eq_setIfInBounds,List.setIfInBounds_toArray,List.set_cons_succ,List.set_cons_zero]) | go_big_quiet_step (fail))
    refine wpQuiet_nil (mt_end ?_)
    clear he hi b0 b3
    go_wp2
    go_roundw
    case rel => exact ⟨k + 1,by omega,by go_num,HK8⟩
    case measure => simp [intOf];omega
   ·obtain rfl : k = a.is.length:=by omega
    have d4 : ¬ (a.is.length : Int) < (a.is.length : Int):=by omega
    clear HI
    go_wp2
    go_meet
    exact HKr
 case rest =>
  have HKC:=Lib.hid (keep_trans HK3.out hcut.out)
  have HX4:=Lib.hid (HX3.out.keep hcut.out);have HY4:=Lib.hid (HY3.out.keep hcut.out)
  clear hcut HI X38 Y38 HX3 HY3 HK3
  obtain ⟨-,c107,c108,-,-,-,-,-,-,rh1⟩:=XC.out _ HX4.out
  obtain ⟨-,y107,y108,-,-,-,-,-,-,rh2⟩:=YC.out _ HY4.out
  have RH1:=Lib.hid rh1;have RH2:=Lib.hid rh2
  have s1 : (str a.fs == str a.fs) = true:=by rw [str_beq];exact decide_eq_true rfl
  have s2 : (a.fs == a.fs) = true:=beq_self_eq_true _
  clear rh1 rh2
  try simp only [List.append_eq,List.cons_append,List.nil_append]
  go_wp2_with (first | ((with_reducible refine load_partg w.heap.size 39 hv (Eq.trans ?_ rfl) RH1.out _ Tryd.underlying42 rfl hvi (Eq.trans ?_ rfl) ?_);rfl;rfl) | ((with_reducible refine load_partg (w.heap.size + 1) 39 hv (Eq.trans ?_ rfl) RH2.out _ Tryd.underlying42 rfl hvi (Eq.trans ?_ rfl) ?_);rfl;rfl) | (go_at_call 47;refine (S4.out _ HKC.out).mono ?_;rintro e w5 ⟨rfl,k5⟩;have HK5:=Lib.hid (keep_trans HKC.out k5);have HX5:=Lib.hid (HX4.out.keep k5);have HY5:=Lib.hid (HY4.out.keep k5);obtain ⟨-,-,-,c109,t0,t1,t2,t3,-,-⟩:=XC.out _ HX5.out;obtain ⟨-,-,-,y109,u0,u1,u2,u3,-,-⟩:=YC.out _ HY5.out;have cv1 : (convert 26 9 (.slice a.fA a.fs.length a.fc)).run Tryd.prog w5 = .ok (.string (str a.fs)) w5:=run_bytes_str Tryd.underlying26 Tryd.underlying5 Tryd.underlying9 a.fc (RF1.out.keep HK5.out);have cv2 : (convert 26 9 (.slice gfA a.fs.length gfc)).run Tryd.prog w5 = .ok (.string (str a.fs)) w5:=run_bytes_str Tryd.underlying26 Tryd.underlying5 Tryd.underlying9 gfc (RF2.out.keep HK5.out);clear k5 S4 c107 c108 y107 y108 RH1 RH2 HX4 HY4) | (go_at_call 48;refine (S8.out _ HK5.out).mono ?_;rintro e w6 ⟨rfl,k6⟩;have HK6:=Lib.hid (keep_trans HK5.out k6);clear k6))
  exact bodyPost_ret (v:=.bool true) (by simp [results,Tryd.results19]) rfl ⟨rfl,HK6.out⟩
end Go.Proofs.YtffpanlpbdnafaaDoor
/- What is sent is heard, plainly. -/
set_option linter.unusedSimpArgs false
set_option linter.unusedVariables false
namespace Go.Proofs.YtffpanlpbdnafaaDoor
open Go.RowKit
theorem pl_atP {m m' : MsgR} (h : m'.pl = m.pl) : m'.kind = m.kind∧fitsB m' = fitsB m∧putL m' = putL m:=⟨(congrArg MsgR.kind h : m'.pl.kind = m.pl.kind),by rw [← fits_pl,h,fits_pl],by rw [← put_pl,h,put_pl]⟩
theorem fewM_pl {m m' : MsgR} (h : m'.pl = m.pl) : m'.t.ins.length = m.t.ins.length∧m'.t.outs.length = m.t.outs.length∧m'.is.length = m.is.length∧m'.hs.length = m.hs.length∧m'.ls.length = m.ls.length∧m'.shs.length = m.shs.length:=by
 refine ⟨?_,?_,congrArg List.length (congrArg MsgR.is h : m'.pl.is = m.pl.is),congrArg List.length (congrArg MsgR.hs h : m'.pl.hs = m.pl.hs),congrArg List.length (congrArg MsgR.ls h : m'.pl.ls = m.pl.ls),congrArg List.length (congrArg MsgR.shs h : m'.pl.shs = m.pl.shs)⟩
 ·have q:=congrArg List.length (congrArg (fun z : MsgR => z.t.ins) h : m'.pl.t.ins = m.pl.t.ins)
  simpa [MsgR.pl,TxR.pl] using q
 ·have q:=congrArg List.length (congrArg (fun z : MsgR => z.t.outs) h : m'.pl.t.outs = m.pl.t.outs)
  simpa [MsgR.pl,TxR.pl] using q
theorem bnd_4 : bndF 4000000 = 4000000:=by decide
theorem new_sane (g : UInt32) : takenP (newP g 4000000) = newP g 4000000:=by
 unfold takenP
 rw [if_pos]
 show saneP { peZ with magic:=g,cap:=bndF 4000000 } = true
 rw [bnd_4]
 simp [saneP,peZ,fsaneB,bnd_4]
theorem kind_known {m : MsgR} {w : World} (h : m.at_ w) (hf : fitsB m = true) : (kindN (nameL m.kind)).2 = true:=by
 have q:=wget_put h hf
 unfold wgetN at q
 cases hk : (kindN (nameL m.kind)).2 with
 | true => rfl
 | false =>
   rw [if_neg (by rw [hk];decide)] at q
   have e:=congrArg Prod.snd q
   exact absurd (show (2 : Int) = 0 from e) (by decide)
theorem cons_put (cmd pl : List UInt8) : cnsE (okE [((cmd,pl),0),(([],[]),1)]) = 24 + pl.length:=rfl
theorem feed_heard {m : MsgR} {w : World} (h : m.at_ w) (hf : fitsB m = true) (hw : fewM m = true) (q : PeR) (hq : q.cap = 4000000) : feedP q (putF q.magic (nameL m.kind) (putL m)) = ({ q with rA:=none,rs:=[],rc:=0,bad:=0 },[m.pl],0):=by
 have hc:=fits_cmd hf
 have hp:=put_few h hw
 have he:=evs_put q.magic q.cap (nameL m.kind) (putL m) hc hp (by rw [hq,bnd_4];omega)
 have hcl : (nameL m.kind).length ≤ 12:=by
  simp only [cmdB,Bool.and_eq_true,decide_eq_true_eq] at hc
  exact hc.1.2
 have hO : outE (putF q.magic (nameL m.kind) (putL m)) [((nameL m.kind,putL m),0),(([],[]),1)] = ([],0):=by
  unfold outE
  rw [cons_put]
  show ((putF q.magic (nameL m.kind) (putL m)).drop (24 + (putL m).length),(0 : Int)) = _
  rw [List.drop_of_length_le (by rw [putF_len hcl];exact Nat.le_refl _)]
 have hF : feedL ((okE [((nameL m.kind,putL m),0),(([],[]),1)]).map Prod.fst) = ([m.pl],0):=by
  show feedL [(nameL m.kind,putL m)] = _
  rw [feedL,if_pos (kind_known h hf),wget_put h hf]
  rfl
 unfold feedP
 rw [he,hO,hF]
 rfl
theorem one_msg {l : List MsgR} {a : MsgR} (h : l.map MsgR.pl = [a.pl]) : ∃ x,l = [x]∧x.pl = a.pl:=by
 cases l with
 | nil => cases h
 | cons x l =>
   cases l with
   | nil => exact ⟨x,rfl,by simpa using h⟩
   | cons y l => simp at h
end Go.Proofs.YtffpanlpbdnafaaDoor
/- Peers that miss, plainly; the chapter's awake (printed by gen_qh.py) -/
set_option linter.unusedSimpArgs false
set_option linter.unusedVariables false
namespace Go.Proofs.YtffpanlpbdnafaaDoor
open Go.RowKit
attribute [local go_sem ↓] Go.wp_at_zero Go.wp_at_succ
def stP (g : UInt32) (k U : Int) : PeR:={ peZ with stage:=if k = 3 then 3 else 2,until_:=U,misses:=k,magic:=g,cap:=99 }
def p1P (g : UInt32) (n : Nat) : PeR:={ peZ with stage:=1,nonce:=n,magic:=g,cap:=99 }
theorem hdl_v (g : UInt32) (n : Nat) : hdlP (newP g 99) { msgZ 0 with nonce:=n } = (p1P g n,[{ msgZ 0 with proto:=70015,nonce:=n },msgZ 1],0):=rfl
theorem hdl_k (g : UInt32) (n : Nat) : hdlP (p1P g n) (msgZ 1) = ({ stP g 0 0 with nonce:=n },[],0):=rfl
theorem hdl_p (g : UInt32) : hdlP (newP g 99) (msgZ 2) = ((newP g 99).ban,[],15):=rfl
theorem pst_new {p q : PeR} {zs ds : Array Value} (hz : PeA p zs) (hd : PeA q ds) (y : World) : (storeCells ⟨y.heap.size,0,none⟩ ds.toList 0).run Tryd.prog (y.alloc (.cells zs 31)) = .ok () (y.alloc (.cells ds 31)) :=
 run_storeCells_new (P:=Tryd.prog) y 31 zs ds hd.i (hz.z.trans hd.z.symm) (by have:=all_oneCell_toArray hd.o;simpa using this)
theorem ver_built (n : Nat) (h : n < 2 ^ 64) : ∃ ks,MsA { msgZ 0 with nonce:=n } ks∧Tryd.prog.built 50 [(0,.int .i64 0),(2,u64v n)] = some ks:=by
 have ho:=msgZ_ok 0 (by omega)
 exact ⟨_,MsA.of (m:={ msgZ 0 with nonce:=n }) ⟨ho.k,h,ho.s,ho.b,ho.h,ho.l,ho.i,ho.z⟩,by kernel_rfl⟩
theorem kind_built (k : Int) (h : -9223372036854775808 ≤ k∧k ≤ 9223372036854775807) : ∃ ks,MsA (msgZ k) ks∧Tryd.prog.built 50 [(0,.int .i64 k)] = some ks:=⟨_,MsA.of (msgZ_ok k h),by kernel_rfl⟩
theorem handle_as {p q : PeR} {l : List MsgR} {c : Int} (cs : Array Value) (hA : PeA p cs) (hr : p.rs = []) (m : MsgR) (ms : Array Value) (hM : MsA m ms) (h : hdlP p m = (q,l,c)) (w : World) (hm : m.at_ w) :
  Calls Tryd.prog 8 #[.agg cs,.agg ms] w fun e w' => ∃ ds A n,e = .returned (.tuple #[.agg ds,.slice A l.length n,iv c])∧PeA q ds∧l.length ≤ n∧n ≤ 2∧Rd w' A (l.flatMap MsgR.cells)∧Keep w w':=by
 have q:=handle_any p cs hA hr m ms hM w hm
 rw [h] at q
 exact q
set_option maxRecDepth 100000 in
set_option maxHeartbeats 4000000 in
theorem awake22 (w : World) : Calls Tryd.prog 7 #[] w fun e w' => e = .returned (.bool true)∧Keep w w':=by
 obtain ⟨zs,hz0,hzA⟩:=zpeer_letter
 obtain ⟨k2,h2A,h2b⟩:=kind_built 2 (by omega)
 obtain ⟨k0,h0A,h0b⟩:=ver_built 3 (by omega)
 obtain ⟨k1,h1A,h1b⟩:=kind_built 1 (by omega)
 have B2:=Lib.hid h2b;have B0:=Lib.hid h0b;have B1:=Lib.hid h1b
 have NP : Hid (∀ y,Calls Tryd.prog 9 #[u32v 7,iv 99] y fun e w' => ∃ ps,e = .returned (.agg ps)∧PeA (newP 7 99) ps∧Keep y w'):=Lib.hid fun y => pnew_any 7 99 y
 have H1 : Hid (∀ ps y,PeA (newP 7 99) ps → Calls Tryd.prog 8 #[.agg ps,.agg k2] y fun e w' => ∃ ds A n,e = .returned (.tuple #[.agg ds,.slice A 0 n,iv 15])∧PeA (newP 7 99).ban ds∧Keep y w'):=Lib.hid fun ps y hp =>
  (handle_as ps hp rfl _ k2 h2A (hdl_p 7) y (msgZ_at 2 (by omega) y)).mono fun e w' ⟨ds,A,n,h1,h2,_,_,_,h3⟩ => ⟨ds,A,n,h1,h2,h3⟩
 have H2 : Hid (∀ ps y,PeA (newP 7 99) ps → Calls Tryd.prog 8 #[.agg ps,.agg k0] y fun e w' => ∃ ds b o n,e = .returned (.tuple #[.agg ds,.slice (some ⟨b,o,none⟩) 2 n,iv 0])∧PeA (p1P 7 3) ds∧w'.cell? ⟨b,o + 2,none⟩ = some (u64v 3)∧2 ≤ n∧Keep y w'):=Lib.hid fun ps y hp =>
  (handle_as ps hp rfl _ k0 h0A (hdl_v 7 3) y (by
   have z:=msgZ_at 0 (by omega) y
   exact ⟨⟨z.o.k,(by show 3 < 2 ^ 64;omega),z.o.s,z.o.b,z.o.h,z.o.l,z.o.i,z.o.z⟩,z.h,z.hc,z.l,z.lc,z.i,z.ic,z.s,z.sc,z.f,z.fc,z.t⟩)).mono fun e w' ⟨ds,A,n,h1,h2,hn,_,hr,h3⟩ => by
   obtain ⟨b,o,rfl,_,hc⟩:=hr.at (k:=2) (by decide)
   exact ⟨ds,b,o,n,h1,h2,hc 2 (by decide),hn,h3⟩
 have H3 : Hid (∀ ps y,PeA (p1P 7 3) ps → Calls Tryd.prog 8 #[.agg ps,.agg k1] y fun e w' => ∃ ds A n,e = .returned (.tuple #[.agg ds,.slice A 0 n,iv 0])∧PeA { stP 7 0 0 with nonce:=3 } ds∧Keep y w'):=Lib.hid fun ps y hp =>
  (handle_as ps hp rfl _ k1 h1A (hdl_k 7 3) y (msgZ_at 1 (by omega) y)).mono fun e w' ⟨ds,A,n,h1,h2,_,_,_,h3⟩ => ⟨ds,A,n,h1,h2,h3⟩
 have hzn:=hzA.n;have hzz:=hzA.z
 have HZ:=Lib.hid hzA
 have hz0':=hz0
 clear h2A h0A h1A h2b h0b h1b hzA
 go_enter Tryd.func7,Tryd.ntmps7
 go_upto_region 2 with (first | (go_at_call 9;refine (NP.out _).mono ?_;rintro e wa ⟨ps,rfl,hpA,k⟩;have HPA:=Lib.hid hpA;have KA:=Lib.hid k;clear k hpA) | ((with_reducible refine list_bldg [(0,.int .i64 2)] k2 (Eq.trans ?_ rfl) B2.out (Eq.trans ?_ rfl) ?_);rfl;rfl) | (go_at_call 8;refine (H1.out _ _ HPA.out).mono ?_;rintro e wb ⟨ds,A,n,rfl,hdA,k⟩;have hst:=pst_new HZ.out hdA wb;have hdn:=hdA.n;have hdz:=hdA.z;have HDA:=Lib.hid hdA;have KB:=Lib.hid (keep_trans KA.out k);clear k hdA))
 obtain ⟨w1,hw1⟩ : ∃ w1,w1 = wb.alloc (.cells ds 31):=⟨_,rfl⟩
 have HP1 : Hid (Blk w1 wb.heap.size 31 (newP 7 99).ban.cells):=by rw [hw1,← HDA.out.l];exact Lib.hid (Blk.new wb _ ds.toList)
 have HK1 : Hid (Keep w w1):=by rw [hw1];exact Lib.hid (keep_trans KB.out (keep_new _ _))
 rw [← hw1]
 clear hst hw1 KA KB HDA HPA H1 hdn hdz B2
 generalize wb.heap.size = b1 at *
 go_upto_region 3 with (first | (go_at_call 9;refine (NP.out _).mono ?_;rintro e wa ⟨ps,rfl,hpA,k⟩;have HPA:=Lib.hid hpA;have HP1a:=Lib.hid (HP1.out.keep k);have KA:=Lib.hid (keep_trans HK1.out k);clear k hpA HP1 HK1) | ((with_reducible refine list_bldg [(0,.int .i64 0),(2,u64v 3)] k0 (Eq.trans ?_ rfl) B0.out (Eq.trans ?_ rfl) ?_);rfl;rfl) | (go_at_call 8;refine (H2.out _ _ HPA.out).mono ?_;rintro e wb ⟨ds,lb,lo,n2,rfl,hdA,hc,hn2,k⟩;have hst:=pst_new HZ.out hdA wb;have hdn:=hdA.n;have hdz:=hdA.z;have HDA:=Lib.hid hdA;have KB:=Lib.hid (keep_trans KA.out k);have HP1b:=Lib.hid (HP1a.out.keep k);clear k hdA HP1a))
 obtain ⟨w2,hw2⟩ : ∃ w2,w2 = wb.alloc (.cells ds 31):=⟨_,rfl⟩
 have HQ2 : Hid (Blk w2 wb.heap.size 31 ds.toList):=by rw [hw2];exact Lib.hid (Blk.new wb _ ds.toList)
 have HP2 : Hid (Blk w2 b1 31 (newP 7 99).ban.cells):=by rw [hw2];exact Lib.hid (HP1b.out.alloc _)
 have HC2 : Hid (w2.cell? ⟨lb,lo + 2,none⟩ = some (u64v 3)):=by rw [hw2];exact Lib.hid (keep_cell (keep_new _ _) hc)
 have HK2 : Hid (Keep w w2):=by rw [hw2];exact Lib.hid (keep_trans KB.out (keep_new _ _))
 have HN2:=Lib.hid hn2
 rw [← hw2]
 have hdi:=HDA.out.i
 clear hst hw2 KA KB HPA H2 NP B0 hc HP1b hn2
 generalize wb.heap.size = b2 at *
 go_upto_region 4 with (first | ((with_reducible refine load_arr b2 ds (Eq.trans ?_ rfl) HQ2.out _ Tryd.underlying31 rfl hdi ?_);rfl) | ((with_reducible refine list_bldg [(0,.int .i64 1)] k1 (Eq.trans ?_ rfl) B1.out (Eq.trans ?_ rfl) ?_);rfl;rfl) | (go_at_call 8;refine (H3.out _ _ HDA.out).mono ?_;rintro e wb ⟨rs,A3,n3,rfl,hrA,k⟩;have hst:=pst_new HZ.out hrA wb;have hrn:=hrA.n;have hrz:=hrA.z;have HRA:=Lib.hid hrA;have KB:=Lib.hid (keep_trans HK2.out k);have HP3:=Lib.hid (HP2.out.keep k);have HC3:=Lib.hid (keep_cell k HC2.out);clear k hrA HP2 HC2))
 obtain ⟨w3,hw3⟩ : ∃ w3,w3 = wb.alloc (.cells rs 31):=⟨_,rfl⟩
 have r3 : w3.cell? ⟨wb.heap.size,0,none⟩ = some (.int .i64 2):=by
  rw [hw3]
  have q:=(Blk.new wb 31 rs.toList).cell 0
  rw [Array.toArray_toList] at q
  exact q.trans (by rw [HRA.out.l];rfl)
 have r1 : w3.cell? ⟨b1,0,none⟩ = some (.int .i64 3):=by rw [hw3];exact ((HP3.out.alloc _).cell 0).trans rfl
 have r2 : w3.cell? ⟨lb,lo + 2,none⟩ = some (u64v 3):=by rw [hw3];exact keep_cell (keep_new _ _) HC3.out
 have HK3 : Hid (Keep w w3):=by rw [hw3];exact Lib.hid (keep_trans KB.out (keep_new _ _))
 rw [← hw3]
 have d2 : 2 ≤ n2:=HN2.out
 clear hst hw3 KB HDA HRA HP3 HC3 H3 B1 HQ2 HK2 hrn hrz hdn hdz hdi HN2
 try simp only [List.append_eq,List.cons_append,List.nil_append]
 go_wp2
 exact bodyPost_ret (v:=.bool true) (by simp [results,Tryd.results7]) rfl ⟨rfl,HK3.out⟩
end Go.Proofs.YtffpanlpbdnafaaDoor
/- PeerKind: what is said of a peer that is ready, as contracts of the calls in a round. -/
set_option linter.unusedSimpArgs false
set_option linter.unusedVariables false
namespace Go.Proofs.YtffpanlpbdnafaaDoor
open Go.RowKit
structure Pk (g : UInt32) (ak : Bool) (V : Int) (q : PeR) : Prop where
 st : q.stage = 2
 ask : q.asked = ak
 un : q.until_ = V
 mi : q.misses = 0
 rs : q.rs = []
 bad : q.bad = 0
 mag : q.magic = g
 cap : q.cap = 4000000
theorem Pk.taken {g : UInt32} {ak : Bool} {V : Int} {q : PeR} (h : Pk g ak V q) (hV : 0 ≤ V∧V ≤ 1099511627776) : takenP q = q:=by
 have hs : saneP q = true:=by
  have f : fsaneB 4000000 = true:=by unfold fsaneB;rw [bnd_4];rfl
  have u : ¬ (1099511627776 : Int) < V:=by omega
  simp [saneP,h.st,h.ask,h.un,h.mi,h.cap,f,hV.1,u]
 unfold takenP
 rw [if_pos hs]
theorem pk_ask {g : UInt32} {V u : Int} {q : PeR} (h : Pk g false V q) (hV : 0 ≤ V∧V ≤ 1099511627776) (hu : 0 ≤ u∧u ≤ 549755813888) (ps : Array Value) (hA : PeA q ps) (y : World) :
  Calls Tryd.prog 10 #[.agg ps,iv u,iv 5] y fun e w' => ∃ ds q',e = .returned (.tuple #[.agg ds,.bool true])∧PeA q' ds∧Pk g true (u + 5) q'∧Keep y w':=by
 have e : askP q u 5 = ({ q with asked:=true,until_:=u + 5 },true):=by
  unfold askP
  rw [h.taken hV,if_pos ⟨h.st,h.ask⟩]
 have c:=ask_any q ps hA h.rs u 5 hu (by omega) y
 rw [e] at c
 exact c.mono fun _ _ ⟨ds,h1,h2,h3⟩ => ⟨ds,_,h1,h2,⟨h.st,rfl,rfl,h.mi,h.rs,h.bad,h.mag,h.cap⟩,h3⟩
theorem pk_tick {g : UInt32} {ak : Bool} {V : Int} {q : PeR} (h : Pk g ak V q) (hV : 0 ≤ V∧V ≤ 1099511627776) (ps : Array Value) (hA : PeA q ps) (y : World) :
  Calls Tryd.prog 11 #[.agg ps,iv V] y fun e w' => ∃ ds q',e = .returned (.tuple #[.agg ds,.bool false])∧PeA q' ds∧Pk g ak V q'∧Keep y w':=by
 have e : tickP q V = (q,false):=by
  unfold tickP
  rw [h.taken hV,if_neg]
  rintro ⟨_,h2⟩
  rw [h.un] at h2
  omega
 have c:=tick_any q ps hA h.rs V y
 rw [e] at c
 exact c.mono fun _ _ ⟨ds,h1,h2,h3⟩ => ⟨ds,_,h1,h2,h,h3⟩
def RepQ (k : Int) (n : Nat) (w : World) (A : Option Addr) (len : Nat) : Prop:=(k = 2 → len = 1∧∃ b o,A = some ⟨b,o,none⟩∧w.cell? ⟨b,o + 2,none⟩ = some (u64v n))∧(k ≠ 2 → len = 0)
theorem RepQ.keep {k : Int} {n : Nat} {w w' : World} {A : Option Addr} {len : Nat} (h : RepQ k n w A len) (hk : Keep w w') : RepQ k n w' A len :=
 ⟨fun e => by obtain ⟨h1,b,o,h2,h3⟩:=h.1 e;exact ⟨h1,b,o,h2,keep_cell hk h3⟩,h.2⟩
theorem RepQ.far {k : Int} {n : Nat} {w w' : World} {A : Option Addr} {len g : Nat} {zs : Array Value} (h : RepQ k n w A len) (hb : Blk w g 31 zs.toList) (hz : PeA peZ zs) (hg : w.grownBy w' (some g)) : RepQ k n w' A len :=
 ⟨fun e => by
  obtain ⟨h1,b,o,h2,h3⟩:=h.1 e
  refine ⟨h1,b,o,h2,grown_cell hg h3 fun e2 => ?_⟩
  injection e2 with e2
  subst e2
  rw [hb.cell,hz.l] at h3
  rcases o with _ | _ | _ | _ | _ | _ | _ | _ | o
  all_goals first | (cases h3;done) | (exact absurd h3 (by simp [PeR.cells,peZ,u64v,u32v,iv])),h.2⟩
theorem pk_handle {g : UInt32} {V : Int} {q : PeR} (h : Pk g true V q) (hV : 0 ≤ V∧V ≤ 1099511627776) (ps : Array Value) (hA : PeA q ps) (m : MsgR) (gs : Array Value) (hM : MsA m gs) (y : World) (hm : m.at_ y) (hf : fitsB m = true) (hk : 2 ≤ m.kind) :
  Calls Tryd.prog 8 #[.agg ps,.agg gs] y fun e w' => ∃ ds q' A len n,e = .returned (.tuple #[.agg ds,.slice A len n,iv 0])∧PeA q' ds∧Pk g (decide (m.kind ≠ 5)) V q'∧len ≤ n∧RepQ m.kind m.nonce w' A len∧Keep y w':=by
 have c:=handle_any q ps hA h.rs m gs hM y hm
 have ht:=h.taken hV
 by_cases h2 : m.kind = 2
 ·have e : hdlP q m = (q,[{ msgZ 3 with nonce:=m.nonce }],0):=by
   unfold hdlP
   rw [ht,if_neg (by rw [h.st];decide),if_neg (by rw [hf];decide),if_neg (by rw [h.st];rintro ⟨h1,_⟩;exact absurd h1 (by decide)),if_neg (by rw [h.st];rintro ⟨h1,_⟩;exact absurd h1 (by decide)),if_pos ⟨h.st,h2⟩]
  rw [e] at c
  refine c.mono ?_
  rintro e w' ⟨ds,A,n,rfl,h1,h3,-,h4,h5⟩
  refine ⟨ds,q,A,1,n,rfl,h1,?_,h3,⟨fun _ => ⟨rfl,?_⟩,fun q => absurd h2 q⟩,h5⟩
  ·rw [show decide (m.kind ≠ 5) = true by rw [decide_eq_true_eq];omega];exact h
  ·obtain ⟨b,o,rfl,-,hc⟩:=h4.at (k:=2) (by simp [MsgR.cells])
   exact ⟨b,o,rfl,(hc 2 (by simp [MsgR.cells])).trans rfl⟩
 ·by_cases h5 : m.kind = 5
  ·have e : hdlP q m = ({ q with asked:=false,misses:=0 },[],0):=by
    unfold hdlP
    rw [ht,if_neg (by rw [h.st];decide),if_neg (by rw [hf];decide),if_neg (by rw [h.st];rintro ⟨h1,_⟩;exact absurd h1 (by decide)),if_neg (by rw [h.st];rintro ⟨h1,_⟩;exact absurd h1 (by decide)),if_neg (fun q => h2 q.2),if_pos ⟨h.st,h5⟩]
   rw [e] at c
   refine c.mono ?_
   rintro e w' ⟨ds,A,n,rfl,h1,h3,-,h4,h6⟩
   refine ⟨ds,_,A,0,n,rfl,h1,?_,h3,⟨fun q => absurd q h2,fun _ => rfl⟩,h6⟩
   rw [show decide (m.kind ≠ 5) = false by rw [decide_eq_false_iff_not];omega]
   exact ⟨h.st,rfl,h.un,rfl,h.rs,h.bad,h.mag,h.cap⟩
  ·have e : hdlP q m = (q,[],0):=by
    unfold hdlP
    rw [ht,if_neg (by rw [h.st];decide),if_neg (by rw [hf];decide),if_neg (by rw [h.st];rintro ⟨h1,_⟩;exact absurd h1 (by decide)),if_neg (by rw [h.st];rintro ⟨h1,_⟩;exact absurd h1 (by decide)),if_neg (fun q => h2 q.2),if_neg (fun q => h5 q.2),if_pos ⟨h.st,by omega,by omega⟩]
   rw [e] at c
   refine c.mono ?_
   rintro e w' ⟨ds,A,n,rfl,h1,h3,-,h4,h6⟩
   refine ⟨ds,_,A,0,n,rfl,h1,?_,h3,⟨fun q => absurd q h2,fun _ => rfl⟩,h6⟩
   rw [show decide (m.kind ≠ 5) = true by rw [decide_eq_true_eq];omega];exact h
theorem pk_send {g : UInt32} {V : Int} {q : PeR} (h : Pk g true V q) (hV : 0 ≤ V∧V ≤ 1099511627776) (ps : Array Value) (hA : PeA q ps) (m : MsgR) (ds : Array Value) (hM : MsA m ds) (y : World) (hm : m.at_ y) (hS : ShaOk y) (hf : fitsB m = true) (hpl : (putL m).length ≤ 4000000) :
  Calls Tryd.prog 14 #[.agg ps,.agg ds] y fun e w' => ∃ A c,e = .returned (.tuple #[.slice A (24 + (putL m).length) c,iv 0])∧(24 + (putL m).length ≤ c∧c ≤ maxLen)∧Rd w' A ((putF g (nameL m.kind) (putL m)).map u8v)∧Keep y w':=by
 refine (send_ok q ps hA h.rs (by rw [h.taken hV,h.st];decide) m ds hM y hm hS hpl hf).mono ?_
 rintro e w' ⟨v,rfl,ho,hk⟩
 obtain ⟨A,c,rfl,q1,q2,q3⟩:=own_form ho
 rw [h.taken hV,h.mag] at q3
 exact ⟨A,c,rfl,⟨q1,q2⟩,q3,hk⟩
theorem pk_feed {g : UInt32} {V : Int} {q : PeR} (h : Pk g true V q) (hV : 0 ≤ V∧V ≤ 1099511627776) (ps : Array Value) (hA : PeA q ps) {m : MsgR} {w : World} (hm : m.at_ w) (hf : fitsB m = true) (hw : fewM m = true) (A : Option Addr) (N c : Nat) (hN : 24 + (putL m).length = N) (hc : N ≤ c∧c ≤ maxLen) (y : World) (hr : Rd y A ((putF g (nameL m.kind) (putL m)).map u8v)) (hS : ShaOk y) :
  Calls Tryd.prog 17 #[.agg ps,.slice A N c] y fun e w' => ∃ (ds : Array Value) (z : PeR) (b off lc : Nat) (m' : MsgR) (gs : Array Value),e = .returned (.tuple #[.agg ds,.slice (some ⟨b,off,none⟩) 1 lc,iv 0])∧PeA z ds∧Pk g true V z∧MsA m' gs∧m'.pl = m.pl∧m'.at_ w'∧w'.rangeAt b off gs.toList∧Keep y w':=by
 have hcmd:=fits_cmd hf
 have hcl : (nameL m.kind).length ≤ 12:=by
  simp only [cmdB,Bool.and_eq_true,decide_eq_true_eq] at hcmd
  exact hcmd.1.2
 have hfl:=putF_len (g:=g) (pl:=putL m) hcl
 have hpl:=put_few hm hw
 have hh:=feed_heard hm hf hw q h.cap
 rw [h.mag] at hh
 have c0:=pfeed_any q ps hA h.rs (by rw [h.taken hV,h.st];decide) (by rw [h.taken hV];exact h.bad) A (putF g (nameL m.kind) (putL m)) N c y (by rw [hfl,hN]) (by omega) hc hr hS
 rw [h.taken hV,hh] at c0
 refine c0.mono ?_
 rintro e w' ⟨ds,z,L,lc,ms,rfl,z1,z2,z3,z4,z5,z6,z7,z8⟩
 obtain ⟨m',rfl,hp⟩:=one_msg z4
 have hm':=z7 m' (List.mem_singleton_self _)
 have hml : m'.cells.length = 114:=MsgR.len hm'.o
 rw [List.flatMap_cons,List.flatMap_nil,List.append_nil] at z6
 rcases z6 with h0 | ⟨b,off,rfl,hc⟩
 ·rw [h0] at hml;simp at hml
 refine ⟨ds,z,b,off,lc,m',m'.cells.toArray,rfl,z1,?_,MsA.of hm'.o,hp,hm',fun j v hv => ?_,z8⟩
 ·have e1:=congrArg PeR.stage z3;have e2:=congrArg PeR.asked z3;have e3:=congrArg PeR.until_ z3;have e4:=congrArg PeR.misses z3;have e5:=congrArg PeR.rs z3;have e6:=congrArg PeR.bad z3;have e7:=congrArg PeR.magic z3;have e8:=congrArg PeR.cap z3
  exact ⟨e1.trans h.st,e2.trans h.ask,e3.trans h.un,e4.trans h.mi,e5,e6,e7,e8.trans h.cap⟩
 ·obtain ⟨hj,hv2⟩:=List.getElem?_eq_some_iff.1 hv
  have hj2 : j < m'.cells.length:=hj
  rw [hc j hj2]
  exact congrArg some hv2
def p1K (g : UInt32) : PeR:={ peZ with stage:=1,nonce:=9,magic:=g,cap:=bndF 4000000 }
theorem hdl_vK (g : UInt32) : hdlP (newP g 4000000) { msgZ 0 with nonce:=9 } = (p1K g,[{ msgZ 0 with proto:=70015,nonce:=9 },msgZ 1],0):=by
 unfold hdlP
 rw [new_sane]
 rfl
theorem hdl_kK (g : UInt32) : hdlP (p1K g) (msgZ 1) = ({ p1K g with stage:=2 },[],0):=by
 have h : takenP (p1K g) = p1K g:=by
  unfold takenP
  rw [if_pos]
  show saneP { peZ with stage:=1,nonce:=9,magic:=g,cap:=bndF 4000000 } = true
  rw [bnd_4]
  simp [saneP,peZ,fsaneB,bnd_4]
 unfold hdlP
 rw [h]
 rfl
theorem pk_start (g : UInt32) : Pk g false 0 { p1K g with stage:=2 }:=⟨rfl,rfl,rfl,rfl,rfl,rfl,rfl,bnd_4⟩
end Go.Proofs.YtffpanlpbdnafaaDoor
/- florinref08.Sane. (printed by gen_rfs.py) -/
set_option linter.unusedSimpArgs false
set_option linter.unusedVariables false
namespace Go.Proofs.YtffpanlpbdnafaaDoor
open Go.RowKit
attribute [local go_sem ↓] Go.wp_at_zero Go.wp_at_succ
set_option maxRecDepth 100000 in
set_option maxHeartbeats 4000000 in
theorem rtsane_any (t : TxR) (w : World) (h : t.at w) :
  Calls Tryd.prog 51 #[.agg #[u32v t.ver,.slice t.iA t.ins.length t.ic,.slice t.oA t.outs.length t.oc,u32v t.lock]] w fun e w' => e = .returned (.bool (saneT t))∧Keep w w':=by
 have HI : Hid (∀ k (h : k < t.ins.length),∃ (b off : Nat) (x : InR),t.iA = some ⟨b,off,none⟩∧w.cell? ⟨b,off + k * 35 + 33,none⟩ = some (.slice x.A x.sc.length x.cap)∧t.ins[k]? = some x):=Lib.hid fun k hk => by
  have hp:=(h.is _ (List.getElem_mem hk)).p
  obtain ⟨b,off,h1,-,h2⟩:=in_at h.i (fun x hx => (h.is x hx).p) hk
  exact ⟨b,off,_,h1,h2 33 _ (by unfold InR.cells;rw [List.getElem?_append_right (by simp [hp])];simp [hp]),List.getElem?_eq_getElem hk⟩
 have HO : Hid (∀ k (h : k < t.outs.length),∃ (b off : Nat) (x : OutR),t.oA = some ⟨b,off,none⟩∧w.cell? ⟨b,off + k * 2 + 1,none⟩ = some (.slice x.A x.sc.length x.cap)∧t.outs[k]? = some x):=Lib.hid fun k hk => by
  obtain ⟨b,off,h1,-,h2,h3⟩:=out_at h.o hk
  exact ⟨b,off,_,h1,h3,List.getElem?_eq_getElem hk⟩
 have hi9:=h.ic;have ho9:=h.oc
 unfold maxLen at hi9 ho9
 obtain ⟨R,hR⟩ : ∃ R,saneT t = R:=⟨_,rfl⟩
 have HD : Hid (R = true ↔ (1 ≤ t.ins.length∧t.ins.length ≤ 1000∧t.outs.length ≤ 1000∧(∀ x ∈ t.ins,x.sc.length ≤ 10000)∧∀ x ∈ t.outs,x.sc.length ≤ 10000)):=Lib.hid (by rw [← hR];unfold saneT;rw [decide_eq_true_eq])
 rw [hR]
 obtain ⟨ver,iA,ins,ic,oA,outs,oc,lock⟩:=t
 simp only at *
 clear h hR
 obtain ⟨n,hn⟩ : ∃ n,ins.length = n:=⟨_,rfl⟩
 obtain ⟨m,hm⟩ : ∃ m,outs.length = m:=⟨_,rfl⟩
 rw [hn] at HI hi9 HD ⊢
 rw [hm] at HO ho9 HD ⊢
 have HNN:=Lib.hid hn;have HMM:=Lib.hid hm
 clear hn hm
 have bad : Hid (∀ P : Prop,¬ P → (R = true → P) → R = false):=Lib.hid fun P h1 h2 => by
  cases R with
  | false => rfl
  | true => exact absurd (h2 rfl) h1
 go_enter Tryd.func51,Tryd.ntmps51
 go_upto_region 1 with fail
 obtain ⟨w1,hw1⟩ : ∃ w1,w1 = w.alloc (.cells #[u32v ver,.slice iA n ic,.slice oA m oc,u32v lock] 61):=⟨_,rfl⟩
 have HT1 : Hid (Blk w1 w.heap.size 61 [u32v ver,.slice iA n ic,.slice oA m oc,u32v lock]):=by rw [hw1];exact Lib.hid (Blk.new w 61 [u32v ver,.slice iA n ic,.slice oA m oc,u32v lock])
 have HK1 : Hid (Keep w w1):=by rw [hw1];exact Lib.hid (keep_new _ _)
 rw [← hw1]
 clear hw1
 have t1:=HT1.out.cell 1;have t2:=HT1.out.cell 2
 simp only [List.getElem?_cons_succ,List.getElem?_cons_zero] at t1 t2
 generalize w.heap.size = gt at *
 have HI1 : Hid (∀ k (h : k < n),∃ (b off : Nat) (x : InR),iA = some ⟨b,off,none⟩∧w1.cell? ⟨b,off + k * 35 + 33,none⟩ = some (.slice x.A x.sc.length x.cap)∧ins[k]? = some x):=Lib.hid fun k h => by
  obtain ⟨b,off,x,h1,h2,h3⟩:=HI.out k h
  exact ⟨b,off,x,h1,keep_cell HK1.out h2,h3⟩
 have HO1 : Hid (∀ k (h : k < m),∃ (b off : Nat) (x : OutR),oA = some ⟨b,off,none⟩∧w1.cell? ⟨b,off + k * 2 + 1,none⟩ = some (.slice x.A x.sc.length x.cap)∧outs[k]? = some x):=Lib.hid fun k h => by
  obtain ⟨b,off,x,h1,h2,h3⟩:=HO.out k h
  exact ⟨b,off,x,h1,keep_cell HK1.out h2,h3⟩
 clear HI HO HT1
 go_wp2_with fail
 go_loopw [3] (fun x wr => ∃ k : Nat,k ≤ n∧x = .int .i64 k∧Hid (∀ y ∈ ins.take k,y.sc.length ≤ 10000)∧Hid (Keep w wr)∧wr.cell? ⟨gt,1,none⟩ = some (.slice iA n ic)∧wr.cell? ⟨gt,2,none⟩ = some (.slice oA m oc)∧Hid (∀ k (h : k < n),∃ (b off : Nat) (x : InR),iA = some ⟨b,off,none⟩∧wr.cell? ⟨b,off + k * 35 + 33,none⟩ = some (.slice x.A x.sc.length x.cap)∧ins[k]? = some x)∧Hid (∀ k (h : k < m),∃ (b off : Nat) (x : OutR),oA = some ⟨b,off,none⟩∧wr.cell? ⟨b,off + k * 2 + 1,none⟩ = some (.slice x.A x.sc.length x.cap)∧outs[k]? = some x)) (fun x _ => n - (intOf x).toNat)
 case atStart => exact ⟨0,Nat.zero_le _,rfl,Lib.hid (by simp),HK1,t1,t2,HI1,HO1⟩
 case round =>
  clear t1 t2 HI1 HO1 HK1
  obtain ⟨k,hk,rfl,HS,HK1,t1,t2,HI1,HO1⟩:=hrel
  by_cases hlt : k < n
  ·obtain ⟨b,off,x,rfl,c33,hget⟩:=HI1.out k hlt
   have d4 : (k : Int) < n:=by omega
   have HGE:=Lib.hid hget
   clear hget
   by_cases hs : 10000 < x.sc.length
   ·have hv:=bad.out (∀ y ∈ ins,y.sc.length ≤ 10000) (fun q => by have:=q x (List.mem_of_getElem? HGE.out);omega) fun q => (HD.out.1 q).2.2.2.1
    subst hv
    have d5 : (10000 : Int) < x.sc.length:=by omega
    clear HD bad
    go_wp2
    exact bodyPost_ret (v:=.bool false) (by simp [results,Tryd.results51]) rfl ⟨rfl,HK1.out⟩
   ·have d5 : ¬ (10000 : Int) < x.sc.length:=by omega
    have HS2 : Hid (∀ y ∈ ins.take (k + 1),y.sc.length ≤ 10000):=Lib.hid fun y hy => by
     rw [List.take_add_one,HGE.out] at hy
     rcases List.mem_append.1 hy with q | q
     ·exact HS.out y q
     ·simp at q;subst q;omega
    clear HS bad
    go_wp2
    go_roundw
    case rel => exact ⟨k + 1,by omega,by go_num,HS2,HK1,t1,t2,HI1,HO1⟩
    case measure => simp [intOf];omega
  ·obtain rfl : k = n:=by omega
   have d4 : ¬ (k : Int) < k:=by omega
   have HSA : Hid (∀ y ∈ ins,y.sc.length ≤ 10000):=Lib.hid (by have:=HS.out;rwa [List.take_of_length_le (by rw [HNN.out];omega)] at this)
   clear HS HI1
   go_wp2_with fail
   clear d4
   go_loopw [4] (fun x wr => ∃ j : Nat,j ≤ m∧x = .int .i64 j∧Hid (∀ y ∈ outs.take j,y.sc.length ≤ 10000)∧Hid (Keep w wr)∧wr.cell? ⟨gt,1,none⟩ = some (.slice iA k ic)∧wr.cell? ⟨gt,2,none⟩ = some (.slice oA m oc) ∧Hid (∀ k (h : k < m),∃ (b off : Nat) (x : OutR),oA = some ⟨b,off,none⟩∧wr.cell? ⟨b,off + k * 2 + 1,none⟩ = some (.slice x.A x.sc.length x.cap)∧outs[k]? = some x)) (fun x _ => m - (intOf x).toNat)
   case atStart => exact ⟨0,Nat.zero_le _,rfl,Lib.hid (by simp),HK1,t1,t2,HO1⟩
   case round =>
    clear t1 t2
    obtain ⟨j,hj,rfl,HS,HKr,t1,t2,HO2⟩:=hrel
    clear HO1
    by_cases hlt2 : j < m
    ·obtain ⟨b,off,x,rfl,c1,hget⟩:=HO2.out j hlt2
     have d4 : (j : Int) < m:=by omega
     have HGE:=Lib.hid hget
     clear hget
     by_cases hs : 10000 < x.sc.length
     ·have hv:=bad.out (∀ y ∈ outs,y.sc.length ≤ 10000) (fun q => by have:=q x (List.mem_of_getElem? HGE.out);omega) fun q => (HD.out.1 q).2.2.2.2
      subst hv
      have d5 : (10000 : Int) < x.sc.length:=by omega
      clear HD bad
      go_wp2
      exact bodyPost_ret (v:=.bool false) (by simp [results,Tryd.results51]) rfl ⟨rfl,HKr.out⟩
     ·have d5 : ¬ (10000 : Int) < x.sc.length:=by omega
      have HS2 : Hid (∀ y ∈ outs.take (j + 1),y.sc.length ≤ 10000):=Lib.hid fun y hy => by
       rw [List.take_add_one,HGE.out] at hy
       rcases List.mem_append.1 hy with q | q
       ·exact HS.out y q
       ·simp at q;subst q;omega
      clear HS bad
      go_wp2
      go_roundw
      case rel => exact ⟨j + 1,by omega,by go_num,HS2,HKr,t1,t2,HO2⟩
      case measure => simp [intOf];omega
    ·obtain rfl : j = m:=by omega
     have d4 : ¬ (j : Int) < j:=by omega
     have HSB : Hid (∀ y ∈ outs,y.sc.length ≤ 10000):=Lib.hid (by have:=HS.out;rwa [List.take_of_length_le (by rw [HMM.out];omega)] at this)
     clear HS HO2
     by_cases h1 : 1 ≤ k
     ·have e0 : (1 : Int) ≤ k:=by omega
      by_cases hn : k ≤ 1000
      ·have e1 : (k : Int) ≤ 1000:=by omega
       by_cases hm : j ≤ 1000
       ·have e2 : (j : Int) ≤ 1000:=by omega
        have hv : R = true:=HD.out.2 ⟨h1,hn,hm,HSA.out,HSB.out⟩
        subst hv
        clear HD bad hn hm h1
        go_wp2
        exact bodyPost_ret (v:=.bool true) (by simp [results,Tryd.results51]) rfl ⟨rfl,HKr.out⟩
       ·have e2 : ¬ (j : Int) ≤ 1000:=by omega
        have hv:=bad.out (j ≤ 1000) hm fun q => (HD.out.1 q).2.2.1
        subst hv
        clear HD bad hn hm h1
        go_wp2
        exact bodyPost_ret (v:=.bool false) (by simp [results,Tryd.results51]) rfl ⟨rfl,HKr.out⟩
      ·have e1 : ¬ (k : Int) ≤ 1000:=by omega
       have hv:=bad.out (k ≤ 1000) hn fun q => (HD.out.1 q).2.1
       subst hv
       clear HD bad hn h1
       go_wp2
       exact bodyPost_ret (v:=.bool false) (by simp [results,Tryd.results51]) rfl ⟨rfl,HKr.out⟩
     ·have e0 : ¬ (1 : Int) ≤ k:=by omega
      have hv:=bad.out (1 ≤ k) h1 fun q => (HD.out.1 q).1
      subst hv
      clear HD bad h1
      go_wp2
      exact bodyPost_ret (v:=.bool false) (by simp [results,Tryd.results51]) rfl ⟨rfl,HKr.out⟩
end Go.Proofs.YtffpanlpbdnafaaDoor
/- A region in one order, whose operations only read, and whose callees leave what was there: guards and all (as in SnVr, of no chapter). -/
set_option linter.unusedSimpArgs false
set_option linter.unusedVariables false
namespace Go.Proofs.YtffpanlpbdnafaaDoor
open Go.RowKit
theorem wpList_of_quietP {P : Program} {ops : Array Oper} {C : World → Prop} {N : Act → Prop} {Q : Exit → Act → World → Prop} (hN : ∀ a w,C w → N a → Q .normal a w) : ∀ (l : List Oper) (a : Act) (w : World),C w → wpQuiet P ops C N l a → wpList P ops Q l a w
 | [],a,w,hC,h => hN a w hC h
 | o :: l,a,w,hC,h => by
   unfold wpQuiet at h
   unfold wpList
   split at h
   ·rename_i hw
    rw [if_pos hw]
    exact .inl (Oper.wp_of_quiet hC (fun a' w' hw' hk => wpList_of_quietP hN l a' w' hw' hk) h)
   ·rename_i hw
    rw [if_neg hw]
    exact wpList_of_quietP hN l _ w hC h
theorem wp_region_plainp {P : Program} {id : Nat} {Q : Exit → Act → World → Prop} {a : Act} {w : World} {l : List Oper} (w0 : World) (hw : Keep w0 w)
  (h : wpQuiet P l.toArray (fun w' => ∃ x,w' = aft w0 x) (fun a' => ∀ w',(∃ x,w' = aft w0 x) → Q .normal a' w') l a) : (Code.region id l.toArray false).wp P Q a w :=
 wp_region_lit (wpList_of_quietP (fun a' w' hw' h => h w' hw') l a w ⟨_,aft_of hw⟩ h)
end Go.Proofs.YtffpanlpbdnafaaDoor
/- florinref09.items, florinref09.Fits: what the document says of fitting is what the program's Fits says. (printed by gen_rft.py) -/
set_option linter.unusedSimpArgs false
set_option linter.unusedVariables false
namespace Go.Proofs.YtffpanlpbdnafaaDoor
open Go.RowKit
attribute [local go_sem ↓] Go.wp_at_zero Go.wp_at_succ
theorem hash_inR {l m : List UInt8} {cs ds : Array Value} (h : HashA l cs) (g : HashA m ds) (hl : l.length = 32) (hm : m.length = 32) (w : World) :
  (Op.equalIn 10000 39 (.agg cs) (.agg ds)).run Tryd.prog w = .ok (l == m) w:=by
 rw [show (10000 : Nat) = 9998 + 2 from rfl,hash_eqIn 9998 h g hl hm]
theorem rft_tr0 : ∀ p5 p6 p4 p7 : Bool,(p5 = false) ∨ (p5 = true∧p6 = false) ∨ (p5 = true∧p6 = true∧p4 = false) ∨ (p5 = true∧p6 = true∧p4 = true∧p7 = false) ∨ (p5 = true∧p6 = true∧p4 = true∧p7 = true):=by decide
theorem rft_tr1 : ∀ p8 p9 p10 p11 : Bool,(p8 = false) ∨ (p8 = true∧p9 = false) ∨ (p8 = true∧p9 = true∧p10 = false) ∨ (p8 = true∧p9 = true∧p10 = true∧p11 = false) ∨ (p8 = true∧p9 = true∧p10 = true∧p11 = true):=by decide
theorem rft_tr2 : ∀ p1 p2 p3 : Bool,(p1 = false) ∨ (p1 = true∧p3 = false) ∨ (p1 = true∧p3 = true):=by decide
theorem rft_tr3 : ∀ p1 p2 p3 : Bool,(p2 = false) ∨ (p2 = true∧p3 = false) ∨ (p2 = true∧p3 = true):=by decide
theorem rft_tr4 : ∀ p5 p6 p4 p7 : Bool,(p5 = false) ∨ (p5 = true∧p7 = false) ∨ (p5 = true∧p7 = true):=by decide
theorem rft_tr5 : ∀ p1 p2 p3 : Bool,(p1 = false) ∨ (p1 = true∧p2 = false) ∨ (p1 = true∧p2 = true∧p3 = false) ∨ (p1 = true∧p2 = true∧p3 = true):=by decide
theorem rft_tr6 : ∀ p5 p6 p4 p7 : Bool,(p6 = false) ∨ (p6 = true∧p4 = false) ∨ (p6 = true∧p4 = true∧p7 = false) ∨ (p6 = true∧p4 = true∧p7 = true):=by decide
theorem rft_tr7 : ∀ p5 p6 p4 p7 : Bool,(p5 = false) ∨ (p5 = true∧p6 = false) ∨ (p5 = true∧p6 = true∧p4 = false) ∨ (p5 = true∧p6 = true∧p4 = true):=by decide
theorem hd_inN {h g : Hd} {cs ds : Array Value} (hc : HdA h cs) (hd : HdA g ds) (hk : h.ok) (gk : g.ok) (w : World) :
  (Op.equalIn 10000 42 (.agg cs) (.agg ds)).run Tryd.prog w = .ok (hdEq h g) w:=by
 rw [show (10000 : Nat) = 9997 + 3 from rfl,hd_eqIn 9997 hc hd hk gk]
def bigM (m : MsgR) : Bool:=m.kind < 0 || 10 < m.kind || 101 < m.ls.length || 2000 < m.hs.length || 50000 < m.is.length || 4096 < m.shs.length || 1024 < m.fs.length
theorem fits_ref (m : MsgR) : fitsB m = (!bigM m
  && !((!(m.kind == 0) && !(m.kind == 4) && !((m.proto.toNat : Int) == 0)) || (!(m.kind == 0) && !(m.kind == 2) && !(m.kind == 3) && !((m.nonce : Int) == 0)) || (!(m.kind == 0) && !((m.height.toNat : Int) == 0)))
  && !((!(m.kind == 5) && !((m.hs.length : Int) == 0)) || (!(m.kind == 4) && (!((m.ls.length : Int) == 0) || !(m.stop == z32))) || (!(decide (6 ≤ m.kind) && decide (m.kind ≤ 8)) && !((m.is.length : Int) == 0)))
  && !(!(m.kind == 9) && (!(hdEq m.bh zHdr) || !((m.total.toNat : Int) == 0) || !((m.shs.length : Int) == 0) || !((m.fs.length : Int) == 0)))
  && (if (m.kind == 10) = true then saneT m.t else ((m.t.ver.toNat : Int) == 0) && ((m.t.lock.toNat : Int) == 0) && ((m.t.ins.length : Int) == 0) && ((m.t.outs.length : Int) == 0))):=by
 have hz : hdEq zHdr zHdr = true:=by decide
 by_cases hb : bigM m = true
 ·rw [hb]
  simp only [Bool.not_true,Bool.false_and]
  unfold fitsB
  rw [decide_eq_false_iff_not]
  intro q
  simp [bigM] at hb
  omega
 ·rw [Bool.not_eq_true] at hb
  rw [hb]
  have hb2 : 0 ≤ m.kind∧m.kind < 11∧m.ls.length ≤ 101∧m.hs.length ≤ 2000∧m.is.length ≤ 50000∧m.shs.length ≤ 4096∧m.fs.length ≤ 1024:=by
   simp [bigM] at hb
   omega
  obtain ⟨h0,h1,h2,h3,h4,h5,h6⟩:=hb2
  unfold fitsB
  have hk : m.kind = 0 ∨ m.kind = 1 ∨ m.kind = 2 ∨ m.kind = 3 ∨ m.kind = 4 ∨ m.kind = 5 ∨ m.kind = 6 ∨ m.kind = 7 ∨ m.kind = 8 ∨ m.kind = 9 ∨ m.kind = 10:=by omega
  clear hb
  rw [Bool.eq_iff_iff]
  rw [decide_eq_true_eq]
  have ho : (0 ≤ m.kind∧m.kind < 11∧m.ls.length ≤ 101∧m.hs.length ≤ 2000∧m.is.length ≤ 50000∧m.shs.length ≤ 4096∧m.fs.length ≤ 1024∧(m.kind = 10 → saneT m.t = true)∧nothingB (othersM m) = true) ↔ ((m.kind = 10 → saneT m.t = true)∧nothingB (othersM m) = true):=⟨fun q => q.2.2.2.2.2.2.2,fun q => ⟨h0,h1,h2,h3,h4,h5,h6,q⟩⟩
  rw [ho]
  clear ho h0 h1 h2 h3 h4 h5 h6
  unfold nothingB othersM
  rcases hk with hk | hk | hk | hk | hk | hk | hk | hk | hk | hk | hk
  all_goals simp [hk,hz,txZ]
  all_goals grind
set_option maxRecDepth 100000 in
theorem ritems_any (k : Int) (w : World) :
  Calls Tryd.prog 50 #[.int .i64 k] w fun e w' => e = .returned (.bool (decide (6 ≤ k) && decide (k ≤ 8)))∧Keep w w':=by
 have HK : Hid (Keep w w):=Lib.hid (Below.refl _ _)
 cases h1 : decide (6 ≤ k) with
 | false =>
   have d1 : ¬ (6 : Int) ≤ k:=of_decide_eq_false h1
   go_enter Tryd.func50,Tryd.ntmps50
   go_wp2
   exact bodyPost_ret (v:=.bool false) (by simp [results,Tryd.results50]) rfl ⟨rfl,HK.out⟩
 | true =>
   have d1 : (6 : Int) ≤ k:=of_decide_eq_true h1
   cases h2 : decide (k ≤ 8) with
   | false =>
     have d2 : ¬ k ≤ (8 : Int):=of_decide_eq_false h2
     go_enter Tryd.func50,Tryd.ntmps50
     go_wp2
     exact bodyPost_ret (v:=.bool false) (by simp [results,Tryd.results50]) rfl ⟨rfl,HK.out⟩
   | true =>
     have d2 : k ≤ (8 : Int):=of_decide_eq_true h2
     go_enter Tryd.func50,Tryd.ntmps50
     go_wp2
     exact bodyPost_ret (v:=.bool true) (by simp [results,Tryd.results50]) rfl ⟨rfl,HK.out⟩
structure FtC (m : MsgR) (ss hv : Array Value) (g : Nat) (w : World) : Prop where
 ck : w.cell? ⟨g,0,none⟩ = some (.int .i64 m.kind)
 c1 : w.cell? ⟨g,1,none⟩ = some (u32v m.proto)
 c2 : w.cell? ⟨g,2,none⟩ = some (u64v m.nonce)
 c3 : w.cell? ⟨g,3,none⟩ = some (u32v m.height)
 c5 : w.cell? ⟨g,4,none⟩ = some (.slice m.hA m.hs.length m.hc)
 c6 : w.cell? ⟨g,5,none⟩ = some (.slice m.lA m.ls.length m.lc)
 c7 : w.cell? ⟨g,38,none⟩ = some (.slice m.iA m.is.length m.ic)
 c9 : w.cell? ⟨g,107,none⟩ = some (u32v m.total)
 c10 : w.cell? ⟨g,108,none⟩ = some (.slice m.sA m.shs.length m.sc)
 c11 : w.cell? ⟨g,109,none⟩ = some (.slice m.fA m.fs.length m.fc)
 c12 : w.cell? ⟨g,110,none⟩ = some (u32v m.t.ver)
 c13 : w.cell? ⟨g,111,none⟩ = some (.slice m.t.iA m.t.ins.length m.t.ic)
 c14 : w.cell? ⟨g,112,none⟩ = some (.slice m.t.oA m.t.outs.length m.t.oc)
 c15 : w.cell? ⟨g,113,none⟩ = some (u32v m.t.lock)
 rs : w.rangeAt g 6 ss.toList
 rh : w.rangeAt g 39 hv.toList
theorem FtC.of {m : MsgR} {ss hv : Array Value} {g : Nat} {w : World} (HB : Blk w g 63 m.cells) (HK : m.ok) (HS : HashA m.stop ss) (HH : HdA m.bh hv) : FtC m ss hv g w where
 ck:=(HB.cell 0).trans rfl
 c1:=(HB.cell 1).trans rfl
 c2:=(HB.cell 2).trans rfl
 c3:=(HB.cell 3).trans rfl
 c5:=(HB.cell 4).trans rfl
 c6:=(HB.cell 5).trans rfl
 c7:=(HB.cell 38).trans ((MsgR.tail_get HK 0).trans rfl)
 c9:=(HB.cell 107).trans ((MsgR.blk_tail HK 0 (by omega)).trans rfl)
 c10:=(HB.cell 108).trans ((MsgR.blk_tail HK 1 (by omega)).trans rfl)
 c11:=(HB.cell 109).trans ((MsgR.blk_tail HK 2 (by omega)).trans rfl)
 c12:=(HB.cell 110).trans ((MsgR.tx_get HK 0).trans rfl)
 c13:=(HB.cell 111).trans ((MsgR.tx_get HK 1).trans rfl)
 c14:=(HB.cell 112).trans ((MsgR.tx_get HK 2).trans rfl)
 c15:=(HB.cell 113).trans ((MsgR.tx_get HK 3).trans rfl)
 rs:=range_of HB 6 ss.toList (by rw [HS.l,MsgR.cells6,List.drop_left' (show m.hd6.length = 6 from rfl),List.take_left' rfl])
 rh:=range_of HB 39 hv.toList (by
  rw [HH.l,MsgR.cells39,List.drop_left' (MsgR.hd39_len HK.s)]
  unfold MsgR.blk
  rw [List.append_assoc,List.take_left' rfl])
theorem FtC.keep {m : MsgR} {ss hv : Array Value} {g : Nat} {w w' : World} (h : FtC m ss hv g w) (k : Keep w w') : FtC m ss hv g w' where
 ck:=keep_cell k h.ck
 c1:=keep_cell k h.c1
 c2:=keep_cell k h.c2
 c3:=keep_cell k h.c3
 c5:=keep_cell k h.c5
 c6:=keep_cell k h.c6
 c7:=keep_cell k h.c7
 c9:=keep_cell k h.c9
 c10:=keep_cell k h.c10
 c11:=keep_cell k h.c11
 c12:=keep_cell k h.c12
 c13:=keep_cell k h.c13
 c14:=keep_cell k h.c14
 c15:=keep_cell k h.c15
 rs:=fun j v hv => keep_cell k (h.rs j v hv)
 rh:=fun j v hv => keep_cell k (h.rh j v hv)
structure FtL (m : MsgR) (k0 k2 k3 k4 k5 k9 k10 ki p1 p2 p3 p4 p5 p6 p7 p8 p9 p10 p11 p12 p13 p14 p15 : Bool) : Prop where
 ek0 : (m.kind == 0) = k0
 ek2 : (m.kind == 2) = k2
 ek3 : (m.kind == 3) = k3
 ek4 : (m.kind == 4) = k4
 ek5 : (m.kind == 5) = k5
 ek9 : (m.kind == 9) = k9
 ek10 : (m.kind == 10) = k10
 eki : (decide (6 ≤ m.kind) && decide (m.kind ≤ 8)) = ki
 ep1 : ((m.proto.toNat : Int) == 0) = p1
 ep2 : ((m.nonce : Int) == 0) = p2
 ep3 : ((m.height.toNat : Int) == 0) = p3
 ep4 : (m.stop == z32) = p4
 ep5 : ((m.hs.length : Int) == 0) = p5
 ep6 : ((m.ls.length : Int) == 0) = p6
 ep7 : ((m.is.length : Int) == 0) = p7
 ep8 : (hdEq m.bh zHdr) = p8
 ep9 : ((m.total.toNat : Int) == 0) = p9
 ep10 : ((m.shs.length : Int) == 0) = p10
 ep11 : ((m.fs.length : Int) == 0) = p11
 ep12 : ((m.t.ver.toNat : Int) == 0) = p12
 ep13 : ((m.t.ins.length : Int) == 0) = p13
 ep14 : ((m.t.outs.length : Int) == 0) = p14
 ep15 : ((m.t.lock.toNat : Int) == 0) = p15
 nk0 : (m.kind != 0) = !k0
 nk2 : (m.kind != 2) = !k2
 nk3 : (m.kind != 3) = !k3
 nk4 : (m.kind != 4) = !k4
 nk5 : (m.kind != 5) = !k5
 nk9 : (m.kind != 9) = !k9
 nk10 : (m.kind != 10) = !k10
 np1 : ((m.proto.toNat : Int) != 0) = !p1
 np2 : ((m.nonce : Int) != 0) = !p2
 np3 : ((m.height.toNat : Int) != 0) = !p3
 np5 : ((m.hs.length : Int) != 0) = !p5
 np6 : ((m.ls.length : Int) != 0) = !p6
 np7 : ((m.is.length : Int) != 0) = !p7
 np9 : ((m.total.toNat : Int) != 0) = !p9
 np10 : ((m.shs.length : Int) != 0) = !p10
 np11 : ((m.fs.length : Int) != 0) = !p11
 np12 : ((m.t.ver.toNat : Int) != 0) = !p12
 np13 : ((m.t.ins.length : Int) != 0) = !p13
 np14 : ((m.t.outs.length : Int) != 0) = !p14
 np15 : ((m.t.lock.toNat : Int) != 0) = !p15
end Go.Proofs.YtffpanlpbdnafaaDoor
