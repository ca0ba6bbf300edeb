/- Texts merged by pack.py: Pi, Pj, Pk, Pl, Ip, Iq, Ku, Arg, OpB. -/
import Derived.Test.YtbgpgdhndanigaaCx16
import Derived.Test.YtbgpgdhndanigaaCx5
import Derived.Test.YtbgpgdhndanigaaCx8
import Derived.Test.YtbgpgdhndanigaaCx15
import Derived.Test.YtbgpgdhndanigaaCx1
import Derived.ProofKit
import Derived.Deep.Slices
import Derived.Deep.Fields
import Derived.Test.YtbgpgdhndanigaaCx2
import Derived.WalkKit
import Derived.OpenShut
/- Same: of messages that are the same. (printed by gen_pi.py) -/
set_option linter.unusedSimpArgs false
set_option linter.unusedVariables false
namespace Go.Proofs.Ytbgpgdhndanigaa
open Go.RowKit
attribute [local go_sem ↓] Go.wp_at_zero Go.wp_at_succ
theorem pl_split {a b : MsgR} (h : a.pl = b.pl) : ∃ hA hc lA lc iA ic sA sc fA fc t,b = ⟨a.kind,a.proto,a.nonce,a.height,hA,a.hs,hc,lA,a.ls,lc,a.stop,iA,a.is,ic,a.bh,a.total,sA,a.shs,sc,fA,a.fs,fc,t⟩∧t.pl = a.t.pl:=by
 obtain ⟨k,p,n,h0,hA,hs,hc,lA,ls,lc,stop,iA,is,ic,bh,total,sA,shs,sc,fA,fs,fc,t⟩:=a
 obtain ⟨k',p',n',h',hA',hs',hc',lA',ls',lc',stop',iA',is',ic',bh',total',sA',shs',sc',fA',fs',fc',t'⟩:=b
 unfold MsgR.pl at h
 injection h with e1 e2 e3 e4 _ e5 _ _ e6 _ e7 _ e8 _ e9 e10 _ e11 _ _ e12 _ e13
 subst e1 e2 e3 e4 e5 e6 e7 e8 e9 e10 e11 e12
 exact ⟨hA',hc',lA',lc',iA',ic',sA',sc',fA',fc',t',rfl,e13.symm⟩
set_option maxRecDepth 100000 in
set_option maxHeartbeats 16000000 in
theorem same09 (a b : MsgR) (as_ bs : Array Value) (hA : MsB a as_) (hB : MsB b bs) (w : World) (ha : a.at_ w) (hb : b.at_ w) (hp : a.pl = b.pl) (hi : a.t.ins.length ≤ 1000000) (ho : a.t.outs.length ≤ 1000000)
  (h1 : a.hs.length ≤ 1000000) (h2 : a.ls.length ≤ 1000000) (h3 : a.is.length ≤ 1000000) (h4 : a.shs.length ≤ 1000000) :
  Calls Try.prog 15 #[.agg as_,.agg bs] w fun e w' => e = .returned (.bool true)∧Keep w w':=by
 obtain ⟨gA,gc,mA,mc,jA,jc,qA,qc,gfA,gfc,t',rfl,htp⟩:=pl_split hp
 have S7 : Hid (∀ y,Keep w y → Calls Try.prog 38 #[.slice a.hA a.hs.length a.hc,.slice gA a.hs.length gc] y fun e w' => e = .returned (.bool true)∧Keep y w'):=Lib.hid fun y hy => same07 a.hA a.hs a.hc gA gc y (ha.h.keep hy) (hb.h.keep hy) ha.o.h h1
 have S3 : Hid (∀ y,Keep w y → Calls Try.prog 39 #[.slice a.lA a.ls.length a.lc,.slice mA a.ls.length mc] y fun e w' => e = .returned (.bool true)∧Keep y w'):=Lib.hid fun y hy => same03 a.lA a.ls a.lc mA mc y (ha.l.keep hy) (hb.l.keep hy) ha.o.l h2
 have S4 : Hid (∀ y,Keep w y → Calls Try.prog 39 #[.slice a.sA a.shs.length a.sc,.slice qA a.shs.length qc] y fun e w' => e = .returned (.bool true)∧Keep y w'):=Lib.hid fun y hy => same03 a.sA a.shs a.sc qA qc y (ha.s.keep hy) (hb.s.keep hy) ha.o.z h4
 have lt1 : t'.ins.length = a.t.ins.length:=by have q:=congrArg List.length (congrArg TxR.ins htp : t'.pl.ins = a.t.pl.ins);unfold TxR.pl at q;simpa using q
 have lt2 : t'.outs.length = a.t.outs.length:=by have q:=congrArg List.length (congrArg TxR.outs htp : t'.pl.outs = a.t.pl.outs);unfold TxR.pl at q;simpa using q
 have S8 : Hid (∀ y,Keep w y → Calls Try.prog 40 #[.agg #[u32v a.t.ver,.slice a.t.iA a.t.ins.length a.t.ic,.slice a.t.oA a.t.outs.length a.t.oc,u32v a.t.lock],.agg #[u32v t'.ver,.slice t'.iA t'.ins.length t'.ic,.slice t'.oA t'.outs.length t'.oc,u32v t'.lock]] y fun e w' => e = .returned (.bool true)∧Keep y w'):=Lib.hid fun y hy => same08 a.t t' y (ha.t.keep hy) (hb.t.keep hy) htp.symm hi ho
 have HI : Hid (∀ k,k < a.is.length → ∃ (b1 off b2 off2 : Nat) (x : Itm) (xs : Array Value),a.iA = some ⟨b1,off,none⟩∧jA = some ⟨b2,off2,none⟩∧ItB x xs∧x.ok∧w.rangeAt b1 (off + k * 33) xs.toList∧w.rangeAt b2 (off2 + k * 33) xs.toList):=Lib.hid fun k hk => by
  obtain ⟨b1,off,e1,-,e2⟩:=item_at ha.i ha.o.i hk
  obtain ⟨b2,off2,e3,-,e4⟩:=item_at hb.i ha.o.i hk
  have hok:=ha.o.i _ (List.getElem_mem hk)
  exact ⟨b1,off,b2,off2,_,_,e1,e3,ItB.of hok,hok,by rw [(ItB.of hok).l];exact e2,by rw [(ItB.of hok).l];exact e4⟩
 have HOA:=Lib.hid ha.o;have HOB:=Lib.hid hb.o
 have RF1:=Lib.hid ha.f;have RF2:=Lib.hid hb.f
 have han:=hA.n;have haz:=hA.z;have hai:=hA.i
 have hbn:=hB.n;have hbz:=hB.z;have hbi:=hB.i
 have HA:=Lib.hid hA;have HB:=Lib.hid hB
 obtain ⟨ss,hss⟩ : ∃ ss,HashA a.stop ss:=⟨_,HashA.of ha.o.s⟩
 obtain ⟨hv,hhv⟩ : ∃ hv,HdA a.bh hv:=⟨_,HdA.of ha.o.b⟩
 have hsn:=hss.n;have hsz:=hss.z;have hsi:=hss.i
 have hvn:=hhv.n;have hvz:=hhv.z;have hvi:=hhv.i
 have ne1 : ∀ w,(Go.binOp .neq 27 (.agg ss) (.agg ss)).run Try.prog w = .ok (.bool false) w:=fun w => hash_neqS hss hss ha.o.s w
 have ne2 : ∀ w,(Op.equalIn 10000 27 (.agg ss) (.agg ss)).run Try.prog w = .ok true w:=fun w => hash_inS hss hss ha.o.s w
 have ne3 : ∀ w,(Go.binOp .eql 30 (.agg hv) (.agg hv)).run Try.prog w = .ok (.bool true) w:=fun w => hd_eqlS hhv hhv ha.o.b w
 have ne4 : ∀ w,(Op.equalIn 10000 30 (.agg hv) (.agg hv)).run Try.prog w = .ok true w:=fun w => hd_inS hhv hhv ha.o.b w
 have hgd:=hash_guard;have hgd2:=hd_guard;have hgd3:=ritem_guard
 have HSS:=Lib.hid hss;have HHV:=Lib.hid hhv
 clear hA hB ha hb hp htp lt1 lt2 hss hhv hi ho h1 h2 h4
 go_enter Try.func15,Try.ntmps15
 go_upto_region 1 with fail
 obtain ⟨w1,hw1⟩ : ∃ w1,w1 = (w.alloc (.cells as_ 39)).alloc (.cells bs 39):=⟨_,rfl⟩
 have HX1 : Hid (Blk w1 w.heap.size 39 a.cells):=by rw [hw1,← HA.out.l];exact Lib.hid ((Blk.new w _ as_.toList).alloc _)
 have HY1 : Hid (Blk w1 (w.heap.size + 1) 39 (MsgR.cells ⟨a.kind,a.proto,a.nonce,a.height,gA,a.hs,gc,mA,a.ls,mc,a.stop,jA,a.is,jc,a.bh,a.total,qA,a.shs,qc,gfA,a.fs,gfc,t'⟩)):=by
  rw [hw1,← HB.out.l]
  have q:=Blk.new (w.alloc (.cells as_ 39)) 39 bs.toList
  rw [World.size_alloc] at q
  exact Lib.hid q
 have HK1 : Hid (Keep w w1):=by rw [hw1];exact Lib.hid (keep_trans (keep_new _ _) (keep_new _ _))
 rw [← hw1]
 clear hw1
 obtain ⟨bm,hbm⟩ : ∃ bm : MsgR,bm = ⟨a.kind,a.proto,a.nonce,a.height,gA,a.hs,gc,mA,a.ls,mc,a.stop,jA,a.is,jc,a.bh,a.total,qA,a.shs,qc,gfA,a.fs,gfc,t'⟩:=⟨_,rfl⟩
 have HBM:=Lib.hid hbm
 rw [← hbm] at HY1 HOB
 clear hbm
 have XC : Hid (∀ y,Blk y w.heap.size 39 a.cells → (y.cell? ⟨w.heap.size,38,none⟩ = some (.slice a.iA a.is.length a.ic)∧y.cell? ⟨w.heap.size,107,none⟩ = some (u32v a.total)∧y.cell? ⟨w.heap.size,108,none⟩ = some (.slice a.sA a.shs.length a.sc)∧y.cell? ⟨w.heap.size,109,none⟩ = some (.slice a.fA a.fs.length a.fc) ∧
   y.cell? ⟨w.heap.size,110,none⟩ = some (u32v a.t.ver)∧y.cell? ⟨w.heap.size,111,none⟩ = some (.slice a.t.iA a.t.ins.length a.t.ic)∧y.cell? ⟨w.heap.size,112,none⟩ = some (.slice a.t.oA a.t.outs.length a.t.oc)∧y.cell? ⟨w.heap.size,113,none⟩ = some (u32v a.t.lock) ∧
   y.rangeAt w.heap.size 6 ss.toList∧y.rangeAt w.heap.size 39 hv.toList)):=Lib.hid fun y h => ⟨(h.cell 38).trans ((MsgR.tail_get HOA.out 0).trans rfl),(h.cell 107).trans ((MsgR.blk_tail HOA.out 0 (by omega)).trans rfl),(h.cell 108).trans ((MsgR.blk_tail HOA.out 1 (by omega)).trans rfl),(h.cell 109).trans ((MsgR.blk_tail HOA.out 2 (by omega)).trans rfl),
   (h.cell 110).trans ((MsgR.tx_get HOA.out 0).trans rfl),(h.cell 111).trans ((MsgR.tx_get HOA.out 1).trans rfl),(h.cell 112).trans ((MsgR.tx_get HOA.out 2).trans rfl),(h.cell 113).trans ((MsgR.tx_get HOA.out 3).trans rfl),
   range_of h 6 ss.toList (by rw [HSS.out.l,MsgR.cells6,List.drop_left' (show a.hd6.length = 6 from rfl),List.take_left' rfl]),
   range_of h 39 hv.toList (by rw [HHV.out.l,MsgR.cells39,List.drop_left' (MsgR.hd39_len HOA.out.s)];unfold MsgR.blk;rw [List.append_assoc,List.take_left' rfl])⟩
 have YC : Hid (∀ y,Blk y (w.heap.size + 1) 39 bm.cells → (y.cell? ⟨w.heap.size + 1,38,none⟩ = some (.slice jA a.is.length jc)∧y.cell? ⟨w.heap.size + 1,107,none⟩ = some (u32v a.total)∧y.cell? ⟨w.heap.size + 1,108,none⟩ = some (.slice qA a.shs.length qc)∧y.cell? ⟨w.heap.size + 1,109,none⟩ = some (.slice gfA a.fs.length gfc) ∧
   y.cell? ⟨w.heap.size + 1,110,none⟩ = some (u32v t'.ver)∧y.cell? ⟨w.heap.size + 1,111,none⟩ = some (.slice t'.iA t'.ins.length t'.ic)∧y.cell? ⟨w.heap.size + 1,112,none⟩ = some (.slice t'.oA t'.outs.length t'.oc)∧y.cell? ⟨w.heap.size + 1,113,none⟩ = some (u32v t'.lock) ∧
   y.rangeAt (w.heap.size + 1) 6 ss.toList∧y.rangeAt (w.heap.size + 1) 39 hv.toList)):=Lib.hid fun y h => ⟨(h.cell 38).trans ((MsgR.tail_get HOB.out 0).trans (by rw [HBM.out];rfl)),(h.cell 107).trans ((MsgR.blk_tail HOB.out 0 (by omega)).trans (by rw [HBM.out];rfl)),(h.cell 108).trans ((MsgR.blk_tail HOB.out 1 (by omega)).trans (by rw [HBM.out];rfl)),(h.cell 109).trans ((MsgR.blk_tail HOB.out 2 (by omega)).trans (by rw [HBM.out];rfl)),
   (h.cell 110).trans ((MsgR.tx_get HOB.out 0).trans (by rw [HBM.out];rfl)),(h.cell 111).trans ((MsgR.tx_get HOB.out 1).trans (by rw [HBM.out];rfl)),(h.cell 112).trans ((MsgR.tx_get HOB.out 2).trans (by rw [HBM.out];rfl)),(h.cell 113).trans ((MsgR.tx_get HOB.out 3).trans (by rw [HBM.out];rfl)),
   range_of h 6 ss.toList (by rw [HSS.out.l,MsgR.cells6,List.drop_left' (show bm.hd6.length = 6 from rfl),HBM.out];exact List.take_left' rfl),
   range_of h 39 hv.toList (by rw [HHV.out.l,MsgR.cells39,List.drop_left' (MsgR.hd39_len HOB.out.s)];unfold MsgR.blk;rw [List.append_assoc,HBM.out];exact List.take_left' rfl)⟩
 have c0 : w1.cell? ⟨w.heap.size,0,none⟩ = some (.int .i64 a.kind):=(HX1.out.cell 0).trans rfl
 have c1 : w1.cell? ⟨w.heap.size,1,none⟩ = some (u32v a.proto):=(HX1.out.cell 1).trans rfl
 have c2 : w1.cell? ⟨w.heap.size,2,none⟩ = some (u64v a.nonce):=(HX1.out.cell 2).trans rfl
 have c3 : w1.cell? ⟨w.heap.size,3,none⟩ = some (u32v a.height):=(HX1.out.cell 3).trans rfl
 have c4 : w1.cell? ⟨w.heap.size,4,none⟩ = some (.slice a.hA a.hs.length a.hc):=(HX1.out.cell 4).trans rfl
 have c5 : w1.cell? ⟨w.heap.size,5,none⟩ = some (.slice a.lA a.ls.length a.lc):=(HX1.out.cell 5).trans rfl
 have y0 : w1.cell? ⟨w.heap.size + 1,0,none⟩ = some (.int .i64 a.kind):=(HY1.out.cell 0).trans (by rw [HBM.out];rfl)
 have y1 : w1.cell? ⟨w.heap.size + 1,1,none⟩ = some (u32v a.proto):=(HY1.out.cell 1).trans (by rw [HBM.out];rfl)
 have y2 : w1.cell? ⟨w.heap.size + 1,2,none⟩ = some (u64v a.nonce):=(HY1.out.cell 2).trans (by rw [HBM.out];rfl)
 have y3 : w1.cell? ⟨w.heap.size + 1,3,none⟩ = some (u32v a.height):=(HY1.out.cell 3).trans (by rw [HBM.out];rfl)
 have y4 : w1.cell? ⟨w.heap.size + 1,4,none⟩ = some (.slice gA a.hs.length gc):=(HY1.out.cell 4).trans (by rw [HBM.out];rfl)
 have y5 : w1.cell? ⟨w.heap.size + 1,5,none⟩ = some (.slice mA a.ls.length mc):=(HY1.out.cell 5).trans (by rw [HBM.out];rfl)
 clear HOA HOB HSS HHV HBM
 try simp only [List.append_eq,List.cons_append,List.nil_append]
 go_upto_region 3 with (first | ((with_reducible refine load_partg w.heap.size 6 ss (Eq.trans ?_ rfl) RS1.out _ hash_under rfl hsi (Eq.trans ?_ rfl) ?_);rfl;rfl) | ((with_reducible refine load_partg (w.heap.size + 1) 6 ss (Eq.trans ?_ rfl) RS2.out _ hash_under rfl hsi (Eq.trans ?_ rfl) ?_);rfl;rfl) | (go_at_call 38;refine (S7.out _ HK1.out).mono ?_;rintro e w2 ⟨rfl,k2⟩;have HK2:=Lib.hid (keep_trans HK1.out k2);have HX2:=Lib.hid (HX1.out.keep k2);have HY2:=Lib.hid (HY1.out.keep k2);have c5:=keep_cell k2 c5;have y5:=keep_cell k2 y5;clear k2 S7 c4 y4 c0 c1 c2 c3 y0 y1 y2 y3 HX1 HY1) | (go_at_call 39;refine (S3.out _ HK2.out).mono ?_;rintro e w3 ⟨rfl,k3⟩;have HK3:=Lib.hid (keep_trans HK2.out k3);have HX3:=Lib.hid (HX2.out.keep k3);have HY3:=Lib.hid (HY2.out.keep k3);obtain ⟨c38,-,-,-,-,-,-,-,rs1,-⟩:=XC.out _ HX3.out;obtain ⟨y38,-,-,-,-,-,-,-,rs2,-⟩:=YC.out _ HY3.out;have RS1:=Lib.hid rs1;have RS2:=Lib.hid rs2;clear k3 S3 c5 y5 HX2 HY2 rs1 rs2))
 have X38:=Lib.hid c38;have Y38:=Lib.hid y38
 clear c38 y38 RS1 RS2 ne1 ne2
 go_upto_block 0 with fail
 go_cut [] (fun wx => Hid (Keep w3 wx))
 case first =>
  go_wp2_with fail
  go_loopw [5] (fun i wr => ∃ k : Nat,k ≤ a.is.length∧i = .int .i64 k∧Hid (Keep w3 wr)) (fun i _ => a.is.length - (intOf i).toNat)
  case atStart => exact ⟨0,Nat.zero_le _,rfl,Lib.hid (Below.refl _ _)⟩
  case round =>
   obtain ⟨k,hk,rfl,HKr⟩:=hrel
   have c38:=keep_cell HKr.out X38.out;have y38:=keep_cell HKr.out Y38.out
   by_cases hlt : k < a.is.length
   ·obtain ⟨b1,off,b2,off2,x,xs,e1,rfl,hxs,hok,hr1,hr2⟩:=HI.out k hlt
    rw [e1] at c38
    have xz:=hxs.z;have xn:=hxs.n;have xi:=hxs.i
    have d4 : (k : Int) < (a.is.length : Int):=by omega
    have kw:=keep_trans HK3.out HKr.out
    have Hx0:=Lib.hid (range_keep kw hr1);have Hy0:=Lib.hid (range_keep kw hr2)
    have he : ∀ w,(Go.binOp .neq 69 (.agg xs) (.agg xs)).run Try.prog w = .ok (.bool false) w:=fun w => ritem_neqS hxs hxs hok w
    have hi : ∀ w,(Op.equalIn 10000 69 (.agg xs) (.agg xs)).run Try.prog w = .ok true w:=fun w => ritem_inS hxs hxs hok w
    clear hr1 hr2 hxs hok HI e1 kw
    go_upto_region 6 with fail
    refine wp_region_tree (.take [0,1,2,3,4,5,6,7,8,9,10] .done) [] (by kernel_rfl) (by kernel_rfl) (fun w8 k8 => ?_)
    have HK8:=Lib.hid (keep_trans HKr.out k8)
    have Hx:=Lib.hid (range_keep k8 Hx0.out);have Hy:=Lib.hid (range_keep k8 Hy0.out)
    have b0:=aft_cell (keep_cell k8 c38);have b3:=aft_cell (keep_cell k8 y38)
    clear k8 Hx0 Hy0 HKr c38 y38
    refine mt_take w8 (Below.refl _ _) ?_
    simp only [pick_cons,pick_nil,nth_zero,nth_succ]
    repeat (first | ((with_reducible refine wpQuiet_load_partg b1 (off + k * 33) xs (Eq.trans ?_ rfl) Hx.out _ Try.underlying69 rfl xi (Eq.trans ?_ rfl) ?_);rfl;rfl;simp only [Act.put,Array.set!_eq_setIfInBounds,List.setIfInBounds_toArray,List.set_cons_succ,List.set_cons_zero]) | ((with_reducible refine wpQuiet_load_partg b2 (off2 + k * 33) xs (Eq.trans ?_ rfl) Hy.out _ Try.underlying69 rfl xi (Eq.trans ?_ rfl) ?_);rfl;rfl;simp only [Act.put,Array.set!_eq_setIfInBounds,List.setIfInBounds_toArray,List.set_cons_succ,List.set_cons_zero]) | go_big_quiet_step (fail))
    refine wpQuiet_nil (mt_end ?_)
    clear he hi b0 b3
    go_wp2
    go_roundw
    case rel => exact ⟨k + 1,by omega,by go_num,HK8⟩
    case measure => simp [intOf];omega
   ·obtain rfl : k = a.is.length:=by omega
    have d4 : ¬ (a.is.length : Int) < (a.is.length : Int):=by omega
    clear HI
    go_wp2
    go_meet
    exact HKr
 case rest =>
  have HKC:=Lib.hid (keep_trans HK3.out hcut.out)
  have HX4:=Lib.hid (HX3.out.keep hcut.out);have HY4:=Lib.hid (HY3.out.keep hcut.out)
  clear hcut HI X38 Y38 HX3 HY3 HK3
  obtain ⟨-,c107,c108,-,-,-,-,-,-,rh1⟩:=XC.out _ HX4.out
  obtain ⟨-,y107,y108,-,-,-,-,-,-,rh2⟩:=YC.out _ HY4.out
  have RH1:=Lib.hid rh1;have RH2:=Lib.hid rh2
  have s1 : (str a.fs == str a.fs) = true:=by rw [str_beq];exact decide_eq_true rfl
  have s2 : (a.fs == a.fs) = true:=beq_self_eq_true _
  clear rh1 rh2
  try simp only [List.append_eq,List.cons_append,List.nil_append]
  go_wp2_with (first | ((with_reducible refine load_partg w.heap.size 39 hv (Eq.trans ?_ rfl) RH1.out _ Try.underlying30 rfl hvi (Eq.trans ?_ rfl) ?_);rfl;rfl) | ((with_reducible refine load_partg (w.heap.size + 1) 39 hv (Eq.trans ?_ rfl) RH2.out _ Try.underlying30 rfl hvi (Eq.trans ?_ rfl) ?_);rfl;rfl) | (go_at_call 39;refine (S4.out _ HKC.out).mono ?_;rintro e w5 ⟨rfl,k5⟩;have HK5:=Lib.hid (keep_trans HKC.out k5);have HX5:=Lib.hid (HX4.out.keep k5);have HY5:=Lib.hid (HY4.out.keep k5);obtain ⟨-,-,-,c109,t0,t1,t2,t3,-,-⟩:=XC.out _ HX5.out;obtain ⟨-,-,-,y109,u0,u1,u2,u3,-,-⟩:=YC.out _ HY5.out;have cv1 : (convert 31 9 (.slice a.fA a.fs.length a.fc)).run Try.prog w5 = .ok (.string (str a.fs)) w5:=run_bytes_str Try.underlying31 Try.underlying5 Try.underlying9 a.fc (RF1.out.keep HK5.out);have cv2 : (convert 31 9 (.slice gfA a.fs.length gfc)).run Try.prog w5 = .ok (.string (str a.fs)) w5:=run_bytes_str Try.underlying31 Try.underlying5 Try.underlying9 gfc (RF2.out.keep HK5.out);clear k5 S4 c107 c108 y107 y108 RH1 RH2 HX4 HY4) | (go_at_call 40;refine (S8.out _ HK5.out).mono ?_;rintro e w6 ⟨rfl,k6⟩;have HK6:=Lib.hid (keep_trans HK5.out k6);clear k6))
  exact bodyPost_ret (v:=.bool true) (by simp [results,Try.results15]) rfl ⟨rfl,HK6.out⟩
end Go.Proofs.Ytbgpgdhndanigaa
/- What is put is got again, and not from less: plain laws of reading a transaction. -/
set_option linter.unusedSimpArgs false
set_option linter.unusedVariables false
namespace Go.Proofs.Ytbgpgdhndanigaa
open Go.RowKit
def RD {α : Type} (f : List UInt8 → SP → α × SP) (b : List UInt8) (k : Nat) (v : α) (e : Nat) : Prop :=
 k ≤ e∧∀ j,k ≤ j → j ≤ b.length → (e ≤ j → f (b.take j) (k,0) = (v,(e,0)))∧(j < e → (f (b.take j) (k,0)).2.2 = 1)
theorem RD.then {α β γ : Type} {f : List UInt8 → SP → α × SP} {g : α → List UInt8 → SP → β × SP} {h : List UInt8 → SP → γ × SP} {b : List UInt8} {k e1 e2 : Nat} {u : α} {v : β} {z : γ} (F : RD f b k u e1) (G : RD (g u) b e1 v e2)
  (hs : ∀ c p a,p.2 = 1 → (g a c p).2 = p) (hh : ∀ c p,(h c p).2 = (g (f c p).1 c (f c p).2).2) (hv : ∀ c p,(f c p) = (u,(e1,0)) → (g u c (e1,0)) = (v,(e2,0)) → (h c p).1 = z) : RD h b k z e2:=by
 refine ⟨Nat.le_trans F.1 G.1,fun j hk hj => ?_⟩
 obtain ⟨f1,f2⟩:=F.2 j hk hj
 by_cases q : e1 ≤ j
 ·obtain ⟨g1,g2⟩:=G.2 j q hj
  have ef:=f1 q
  have e0:=hh (b.take j) (k,0)
  rw [ef] at e0
  simp only at e0
  refine ⟨fun q2 => ?_,fun q2 => by rw [e0];exact g2 q2⟩
  have eg:=g1 q2
  rw [eg] at e0
  exact Prod.ext (hv _ _ ef eg) e0
 ·refine ⟨fun q2 => absurd (Nat.le_trans G.1 q2) q,fun _ => ?_⟩
  have ef:=f2 (by omega)
  rw [hh,hs _ _ _ ef];exact ef
end Go.Proofs.Ytbgpgdhndanigaa
/- What is put is got again, and not from less: parts and messages. -/
set_option linter.unusedSimpArgs false
set_option linter.unusedVariables false
namespace Go.Proofs.Ytbgpgdhndanigaa
open Go.RowKit
end Go.Proofs.Ytbgpgdhndanigaa
/- What is put is got again, and not from less: messages. -/
set_option linter.unusedSimpArgs false
set_option linter.unusedVariables false
namespace Go.Proofs.Ytbgpgdhndanigaa
open Go.RowKit
theorem u32_zero {x : UInt32} (h : x.toNat = 0) : x = 0:=UInt32.toNat_inj.1 (by rw [h];rfl)
theorem nothing_spec {m : MsgR} (h : nothingB m = true) : (m.proto = 0∧m.nonce = 0∧m.height = 0∧m.stop = z32)∧(m.hs = []∧m.ls = []∧m.is = [])∧(m.bh = zHdr∧m.total = 0∧m.shs = []∧m.fs = [])∧(m.t.ver = 0∧m.t.ins = []∧m.t.outs = []∧m.t.lock = 0):=by
 unfold nothingB at h
 simp only [Bool.and_eq_true,beq_iff_eq,hdEq_iff] at h
 obtain ⟨⟨⟨⟨⟨⟨a1,a2⟩,a3⟩,a4⟩,⟨⟨b1,b2⟩,b3⟩⟩,⟨⟨⟨c1,c2⟩,c3⟩,c4⟩⟩,⟨⟨⟨d1,d2⟩,d3⟩,d4⟩⟩:=h
 refine ⟨⟨u32_zero (by omega),by omega,u32_zero (by omega),a4⟩,⟨List.eq_nil_of_length_eq_zero (by omega),List.eq_nil_of_length_eq_zero (by omega),List.eq_nil_of_length_eq_zero (by omega)⟩,⟨c1,u32_zero (by omega),List.eq_nil_of_length_eq_zero (by omega),List.eq_nil_of_length_eq_zero (by omega)⟩,⟨u32_zero (by omega),List.eq_nil_of_length_eq_zero (by omega),List.eq_nil_of_length_eq_zero (by omega),u32_zero (by omega)⟩⟩
end Go.Proofs.Ytbgpgdhndanigaa
/- wire.Get. (printed by gen_ip.py) -/
set_option linter.unusedSimpArgs false
set_option linter.unusedVariables false
namespace Go.Proofs.Ytbgpgdhndanigaa
open Go.RowKit
attribute [local go_sem ↓] Go.wp_at_zero Go.wp_at_succ
theorem zmsg_built : Try.prog.built 49 [] = some zmsg:=by kernel_rfl
theorem zmsg_letterB : ∃ zs : Array Value,(∀ w,(zeroValue 49).run Try.prog w = .ok (.agg zs) w)∧MsA (msgZ 0) zs∧Try.prog.built 49 [] = some zs :=
 ⟨zmsg,zmsg_zero,by
  have h:=MsA.of (msgZ_ok 0 (by omega))
  rwa [← zmsg_list,Array.toArray_toList] at h,zmsg_built⟩
set_option maxRecDepth 100000 in
set_option maxHeartbeats 4000000 in
theorem get_any (s : List UInt8) (A : Option Addr) (b : List UInt8) (c : Nat) (w : World) (hl : b.length ≤ 1000000000) (hc : b.length ≤ c) (hcm : c ≤ maxLen) (hr : Rd w A (b.map u8v)) :
  Calls Try.prog 9 #[.string (str s),.slice A b.length c] w (Wgd (wgetN s b) w):=by
 obtain ⟨ys,hyz,hyA,hyb⟩:=zmsg_letterB
 have hyn:=hyA.n;have hyi:=hyA.i;have hys:=hyA.z
 have HY:=Lib.hid hyA;have HB0:=Lib.hid hyb
 have HYE : Hid (ys = (msgZ 0).cells.toArray):=Lib.hid (by rw [← hyA.l,Array.toArray_toList])
 have KT : Hid (∀ y,Calls Try.prog 11 #[.string (str s)] y fun e w' => e = .returned (.tuple #[iv (kindN s).1,.bool (kindN s).2])∧Keep y w'):=Lib.hid fun y => kind_any s y
 have HK11 : Hid ((kindN s).2 = true → (kindN s).1 < 11):=Lib.hid fun h => (kindN_spec h).2
 have HRR : Hid (wgetN s b = if (kindN s).2 = true then
   if (getsN (partsM (msgZ (kindN s).1)) b).2.2 = 0 then
    if (getsN (partsM (msgZ (kindN s).1)) b).2.1 = [] then (msgOf (kindN s).1 (getsN (partsM (msgZ (kindN s).1)) b).1,0) else (msgZ 0,2)
   else (msgZ 0,(getsN (partsM (msgZ (kindN s).1)) b).2.2)
  else (msgZ 0,2)):=Lib.hid rfl
 have HR0:=Lib.hid hr;have HL:=Lib.hid hl;have HC:=Lib.hid hc;have HCM:=Lib.hid hcm
 clear hyA hyb hr hl hc hcm
 generalize wgetN s b = R at *
 generalize kindN s = kn at *
 obtain ⟨k,ok⟩:=kn
 simp only at KT HK11 HRR
 unfold Wgd
 go_enter Try.func9,Try.ntmps9
 go_upto_region 1 with fail
 obtain ⟨w1,hw1⟩ : ∃ w1,w1 = w.alloc (.cells ys 49):=⟨_,rfl⟩
 have HR1 : Hid (Blk w1 w.heap.size 49 ys.toList):=by rw [hw1];exact Lib.hid (Blk.new w _ ys.toList)
 have HK1 : Hid (Keep w w1):=by rw [hw1];exact Lib.hid (keep_new _ _)
 rw [← hw1]
 clear hw1
 have hszk:=HK1.out.size
 cases ok with
 | false =>
   have hR : R = (msgZ 0,2):=by rw [HRR.out,if_neg (by simp)]
   have HR:=Lib.hid hR
   clear hR HRR HK11
   go_upto_region 3 with (go_at_call 11;refine (KT.out _).mono ?_;rintro e w2 ⟨rfl,k2⟩;have HK2:=Lib.hid (keep_trans HK1.out k2);have HR2:=Lib.hid (HR1.out.keep k2);clear k2)
   obtain ⟨w8,hst8,hb8,hg8⟩:=run_store_blk (P:=Try.prog) ys.toList HR2.out rfl HY.out.o
   have Hb8:=Lib.hid hb8;have Hg8:=Lib.hid hg8
   clear hb8 hg8
   go_wp2_with ((with_reducible refine list_bldg [] ys (Eq.trans ?_ rfl) HB0.out (Eq.trans ?_ rfl) ?_);rfl;rfl)
   exact bodyPost_ret (v:=.tuple #[.agg ys,iv 2]) (results_cell_tmp_row Try.results9 _ _ w.heap.size _ _ _ _ rfl Hb8.out Try.underlying49 rfl (by rw [List.size_toArray,Array.length_toList];exact hyi)) rfl ⟨msgZ 0,by rw [HR.out];simp only [HYE.out],by rw [HR.out];rfl,msgZ_at 0 (by omega) _,HK2.out.grown Hg8.out HK2.out.size (fun q hq => by injection hq with hq;omega)⟩
 | true =>
   have hk11:=HK11.out rfl
   have PT : Hid (∀ ks,MsA (msgZ k) ks → ∀ y,Calls Try.prog 21 #[.agg ks] y fun e w' => ∃ A,e = .returned (.slice A (partsM (msgZ k)).length (partsM (msgZ k)).length)∧Rd w' A ((partsM (msgZ k)).map PV.val)∧Keep y w'):=Lib.hid fun ks h y => parts_any (msgZ k) ks h (msgZ_ok k (by omega)) y
   have PL:=Lib.hid (parts_like (k : Int))
   have PN:=parts_len (msgZ (k : Int))
   have MS : Hid (∀ qs : List PV,qs.map PV.tag = (partsM (msgZ k)).map PV.tag → ∀ y,(∀ q ∈ qs,q.at_ y) → ∀ A c,Rd y A (qs.map PV.val) → (msgOf k qs).at_ y∧(msgOf k qs).pl = msgOf k (qs.map PV.pl)∧Calls Try.prog 30 #[iv k,.slice A qs.length c] y fun e w' => ∃ ds,e = .returned (.agg ds)∧MsA (msgOf k qs) ds∧Keep y w'):=Lib.hid fun qs h y hat A c hr => message_all k hk11 qs h y hat A c hr
   have GT : Hid ((getsN (partsM (msgZ k)) b).2.2 = 0 → (getsN (partsM (msgZ k)) b).1.map PV.tag = (partsM (msgZ k)).map PV.tag):=Lib.hid (gets_tag _ _)
   have L0 : Hid (LeftN (getsN (partsM (msgZ k)) b) (partsM (msgZ k)) 0 [] b):=Lib.hid rfl
   have hR : R = if (getsN (partsM (msgZ k)) b).2.2 = 0 then
     if (getsN (partsM (msgZ k)) b).2.1 = [] then (msgOf k (getsN (partsM (msgZ k)) b).1,0) else (msgZ 0,2)
    else (msgZ 0,(getsN (partsM (msgZ k)) b).2.2):=by rw [HRR.out,if_pos rfl]
   have HR:=Lib.hid hR
   clear hR HRR HK11
   generalize getsN (partsM (msgZ k)) b = G at *
   obtain ⟨ks,hks⟩ : ∃ ks : Array Value,ks = (msgZ k).cells.toArray:=⟨_,rfl⟩
   have hkA : MsA (msgZ k) ks:=by rw [hks];exact MsA.of (msgZ_ok _ (by omega))
   have HBu : Hid (Try.prog.built 49 [(0,.int .i64 k)] = some ks):=Lib.hid (by rw [hks];exact msg_built _)
   clear hks
   have PT1:=Lib.hid (PT.out ks hkA)
   have hkn:=hkA.n
   clear PT hkA
   generalize partsM (msgZ k) = ps at *
   obtain ⟨n,hn⟩ : ∃ n,ps.length = n:=⟨_,rfl⟩
   have HN:=Lib.hid hn
   rw [hn] at PN PT1
   clear hn
   go_upto_region 5 with (go_at_call 11;refine (KT.out _).mono ?_;rintro e w2 ⟨rfl,k2⟩;have HK2:=Lib.hid (keep_trans HK1.out k2);have HR2:=Lib.hid (HR1.out.keep k2);clear k2 HK1 HR1 KT)
   go_upto_region 6 with (first | ((with_reducible refine list_bldg [(0,.int .i64 k)] ks (Eq.trans ?_ rfl) HBu.out (Eq.trans ?_ rfl) ?_);rfl;rfl) | (go_at_call 21;refine (PT1.out _).mono ?_;rintro e w3 ⟨AP,rfl,r3,k3⟩;have HK3:=Lib.hid (keep_trans HK2.out k3);have HR3:=Lib.hid (HR2.out.keep k3);have RP:=Lib.hid r3;clear k3 r3 HK2 HR2 PT1))
   have hszk3:=HK3.out.size
   have A0 : Hid (AtAll w3.heap.size w3 (.slice none 0 0) []):=Lib.hid (fun W _ q hq => by cases hq)
   have Own0 : Hid (w3.ownsRow w3.heap.size 20 1 (.slice none 0 0) 0 (([] : List PV).map PV.val)):=Lib.hid (World.ownsRow_nil _ _ _ _)
   have K0 : Hid (Keep w3 w3):=Lib.hid (Below.refl _ _)
   have R0 : Hid (Rd w3 A (b.map u8v)):=Lib.hid (HR0.out.keep HK3.out)
   have CAPS : Hid (b.length ≤ 1000000000∧b.length ≤ c∧c ≤ maxLen):=Lib.hid ⟨HL.out,HC.out,HCM.out⟩
   clear HR0 HL HC HCM
   go_wp2_with fail
   go_loopw [1,8,26] (fun bv gv i wr => ∃ (j : Nat) (qs : List PV) (b' : List UInt8) (A' : Option Addr) (c' : Nat),j ≤ n∧i = .int .i64 j∧bv = .slice A' b'.length c'∧Hid (qs.length = j)∧Hid (b'.length ≤ 1000000000∧b'.length ≤ c'∧c' ≤ maxLen)∧Hid (Rd w3 A' (b'.map u8v))∧Hid (wr.ownsRow w3.heap.size 20 1 gv j (qs.map PV.val))∧Hid (AtAll w3.heap.size wr gv qs)∧Hid (Keep w3 wr)∧Hid (LeftN G ps j qs b')) (fun _ _ i _ => n - (intOf i).toNat)
   case atStart => exact ⟨0,[],b,A,c,Nat.zero_le _,rfl,rfl,Lib.hid rfl,CAPS,R0,Own0,A0,K0,L0⟩
   case round =>
    obtain ⟨j,qs,b',A',c',hj,rfl,rfl,HQ,HCP,HRB,Own1,AT1,KR,LE⟩:=hrel
    clear Own0 K0 A0 R0 CAPS L0
    by_cases hlt : j < n
    ·have d1 : (j : Int) < n:=by omega
     have hjl : j < ps.length:=by rw [HN.out];exact hlt
     obtain ⟨g,off,hA',hgb,FF⟩:=(RP.out.keep KR.out).at (k:=j) (by rw [List.length_map];exact hjl)
     have c0 : wr.cell? ⟨g,off + j,none⟩ = some (ps[j].val):=by rw [FF j (by rw [List.length_map];exact hjl),List.getElem_map]
     have HPJ : Hid (ps[j]? = some ps[j]):=Lib.hid (List.getElem?_eq_getElem hjl)
     have TK:=Lib.hid (take_any ps[j] (PL.out _ (List.getElem_mem hjl)) A' b' c' wr HCP.out.1 HCP.out.2.1 HCP.out.2.2 (HRB.out.keep KR.out))
     have TL:=Lib.hid (tak_le ps[j] b')
     have LB:=Lib.hid (LE.out.bad HPJ.out)
     have LS : Hid (∀ q : PV,(ps[j].tak b').2.2 = 0 → q.pl = (ps[j].tak b').1 → LeftN G ps (j + 1) (qs ++ [q]) (b'.drop (ps[j].tak b').2.1)):=Lib.hid fun q h1 h2 => LE.out.step HPJ.out h1 h2
     subst hA'
     clear hgb FF HPJ LE
     generalize ps[j].val = pv at *
     generalize ps[j].tak b' = T at *
     generalize ps[j] = p at *
     obtain ⟨T1,T2,T3⟩:=T
     simp only at TK TL LB LS
     obtain ⟨bl,hbl⟩ : ∃ bl,b'.length = bl:=⟨_,rfl⟩
     have HBL:=Lib.hid hbl
     by_cases h0 : T3 = 0
     ·subst h0
      have hT2:=TL.out rfl
      simp only [hbl] at hT2 TK ⊢
      have hbc:=HCP.out.2.1;have hbm:=HCP.out.2.2
      rw [hbl] at hbc
      unfold maxLen at hbm
      clear hbl LB TL
      go_upto_region 12 with (first | (go_at_call 29;refine TK.out.mono ?_;rintro e w4 ⟨v4,rfl,q4,k4⟩;obtain ⟨q,hqv,hq1,hq2,hq3⟩:=q4 trivial;have HQ1:=Lib.hid hq1;have HQ2:=Lib.hid hq2;have HQ3:=Lib.hid hq3;have HQC : Hid (v4.cells = #[v4]):=Lib.hid (by rw [hqv];exact q.val_cells);have HQO : Hid (v4.oneCell' = true):=Lib.hid (by rw [hqv];exact q.val_one);have HQV:=Lib.hid hqv;have K4:=Lib.hid k4;have Own4:=Lib.hid (own_keep Own1.out k4);have HWS : Hid (w3.heap.size ≤ w4.heap.size):=Lib.hid (Nat.le_trans KR.out.size k4.size);clear hqv hq1 hq2 hq3 q4 k4) | ((with_reducible refine list_build_one anyT v4 HQC.out (Eq.trans ?_ rfl) ?_);rfl) | (at_builtin;refine wpList_app anyT (by rfl) _ _ (by rfl) w3.heap.size _ _ _ (by rfl) (Own4.out.alloc _) _ 1 1 [v4] (by rfl) (by rfl) (Rd.new _ _ _) (by intro u hu;rw [List.mem_singleton.1 hu];exact HQO.out) (by omega) (by unfold maxLen;omega) (by have:=HWS.out;simp;omega) ?_;intro v6 w6 own6 hg6 hat6;have Own6:=Lib.hid own6;have HG6:=Lib.hid hg6;have HAT6:=Lib.hid hat6;clear own6 hg6 hat6))
      clear TK
      have RB6 : Hid (Rd w3 (if c' = T2 then A' else A'.map fun x => x.add T2) ((b'.drop T2).map u8v)):=Lib.hid (by
       have q:=HRB.out.drop (k:=T2) (cap:=c') (by rw [List.length_map,HBL.out];exact hT2) (by rw [List.length_map,HBL.out];exact hbc)
       rw [Nat.mul_one,← List.map_drop] at q
       exact q)
      have AT6 : Hid (AtAll w3.heap.size w6 v6 (qs ++ [q])):=Lib.hid (AT1.out.more (w4:=w4.alloc (.cells #[v4] 20)) Own1.out KR.out.size (keep_trans K4.out (keep_new _ _)) HG6.out HAT6.out (fun W hm => HQ3.out W ⟨trivial,fun k h1 h2 => (hm.2 k h1 (by simp;omega)).trans ((keep_new w4 _).block k h2)⟩))
      have KR6 : Hid (Keep w3 w6):=Lib.hid (by
       have k5 : Keep w3 (w4.alloc (.cells #[v4] 20)):=keep_trans (keep_trans KR.out K4.out) (keep_new _ _)
       exact keep_grown k5 k5.size HG6.out (Own4.out.alloc _))
      have LE6:=Lib.hid (LS.out q trivial HQ1.out)
      have HQ6 : Hid ((qs ++ [q]).length = j + 1):=Lib.hid (by rw [List.length_append,HQ.out];rfl)
      have CP6 : Hid ((b'.drop T2).length ≤ 1000000000∧(b'.drop T2).length ≤ c' - T2∧c' - T2 ≤ maxLen):=Lib.hid (by rw [List.length_drop,HBL.out];have h1:=HCP.out.1;rw [HBL.out] at h1;refine ⟨by omega,by omega,by unfold maxLen;omega⟩)
      have Own6' : Hid (w6.ownsRow w3.heap.size 20 1 v6 (j + 1) ((qs ++ [q]).map PV.val)):=Lib.hid (own_eq Own6.out rfl (by rw [List.map_append,HQV.out];rfl))
      clear AT1 Own1 HG6 HAT6 HQ1 HQ2 HQ3 HQC HQO HQV K4 Own4 Own6 LS KR HRB HQ HCP c0 PL
      go_wp2
      go_roundw
      case rel => exact ⟨j + 1,qs ++ [q],b'.drop T2,_,c' - T2,by omega,by go_num,by rw [List.length_drop,HBL.out],HQ6,CP6,RB6,Own6',AT6,KR6,LE6⟩
      case measure => simp [intOf];omega
     ·have hG : G.2.2 = T3:=LB.out h0
      have hR : R = (msgZ 0,T3):=by rw [HR.out,if_neg (by rw [hG];exact h0),hG]
      have HRX:=Lib.hid hR
      have d2 : (T3 != 0) = true:=by rw [bne_iff_ne];exact h0
      clear hG hR HR LB LS TL hbl h0
      go_upto_region 10 with (go_at_call 29;refine TK.out.mono ?_;rintro e w4 ⟨v4,rfl,-,k4⟩;have HK4:=Lib.hid (keep_trans HK3.out (keep_trans KR.out k4));have HR4:=Lib.hid ((HR3.out.keep KR.out).keep k4);clear k4)
      clear TK
      obtain ⟨w8,hst8,hb8,hg8⟩:=run_store_blk (P:=Try.prog) ys.toList HR4.out rfl HY.out.o
      have Hb8:=Lib.hid hb8;have Hg8:=Lib.hid hg8
      clear hb8 hg8
      go_wp2_with ((with_reducible refine list_bldg [] ys (Eq.trans ?_ rfl) HB0.out (Eq.trans ?_ rfl) ?_);rfl;rfl)
      exact bodyPost_ret (v:=.tuple #[.agg ys,iv T3]) (results_cell_tmp_row Try.results9 _ _ w.heap.size _ _ _ _ rfl Hb8.out Try.underlying49 rfl (by rw [List.size_toArray,Array.length_toList];exact hyi)) rfl ⟨msgZ 0,by rw [HRX.out];simp only [HYE.out],by rw [HRX.out];rfl,msgZ_at 0 (by omega) _,HK4.out.grown Hg8.out HK4.out.size (fun q hq => by injection hq with hq;omega)⟩
    ·obtain rfl : j = n:=by omega
     have d1 : ¬ (j : Int) < j:=by omega
     have hG : G = (qs.map PV.pl,b',0):=by
      have q:=LE.out
      rw [← HN.out] at q
      exact q.end
     have HTG : Hid (qs.map PV.tag = ps.map PV.tag):=Lib.hid (by
      have q:=GT.out (by rw [hG])
      rw [hG,List.map_map] at q
      rw [← q]
      exact List.map_congr_left fun x _ => (pl_tag x).symm)
     have HAT : Hid (∀ q ∈ qs,q.at_ wr):=Lib.hid (AT1.out wr (fun _ _ _ _ => rfl))
     have HKW:=Lib.hid (keep_trans HK3.out KR.out)
     have HRW:=Lib.hid (HR3.out.keep KR.out)
     obtain ⟨A2,c2,hu8,-,-,hrd⟩:=own_form Own1.out
     have HRD:=Lib.hid hrd
     subst hu8
     have OwnF:=Lib.hid Own1.out
     clear hrd GT LE Own1 HRB HCP PL
     by_cases hb : b' = []
     ·subst hb
      have hR : R = (msgOf k (qs.map PV.pl),0):=by rw [HR.out,hG];simp
      have HRX:=Lib.hid hR
      have ME:=Lib.hid (MS.out qs HTG.out wr HAT.out A2 c2 HRD.out)
      rw [HQ.out] at ME
      have ME3:=Lib.hid ME.out.2.2;have ME2:=Lib.hid ME.out.2.1
      clear hR hG HR HAT HRD HQ ME
      simp only [List.length_nil]
      go_upto_region 16 with fail
      go_wp2_with (go_at_call 30;refine ME3.out.mono ?_;rintro e w4 ⟨ds,rfl,hA4,k4⟩;have HA4:=Lib.hid hA4;have hdn:=hA4.n;have hdz:=hA4.z;have hdi:=hA4.i;have HK4:=Lib.hid (keep_trans HKW.out k4);have HR4:=Lib.hid (HRW.out.keep k4);have K4:=Lib.hid k4;obtain ⟨w8,hst8,hb8,hg8⟩:=run_store_blk (P:=Try.prog) ds.toList HR4.out (by rw [Array.length_toList,Array.length_toList,hdz,hys]) HA4.out.o;have Hb8:=Lib.hid hb8;have Hg8:=Lib.hid hg8;clear hA4 k4 hb8 hg8)
      have HM8 : ∀ k,w3.heap.size ≤ k → k < wr.heap.size → w8.heap[k]? = wr.heap[k]?:=fun k h1 h2 => (Hg8.out.block k (Nat.lt_of_lt_of_le h2 K4.out.size) (fun e => by have:=Option.some.inj e;have:=HR3.out.lt;omega)).trans (K4.out.block k h2)
      have HAT8 : (msgOf k qs).at_ w8:=(MS.out qs HTG.out w8 (AT1.out w8 (fun k h1 h2 _ => HM8 k h1 h2)) A2 c2 (own_mid (F:=fun _ => True) (w:=w3) OwnF.out (Nat.le_refl _) ⟨trivial,HM8⟩)).1
      exact bodyPost_ret (v:=.tuple #[.agg ds,iv 0]) (results_cell_tmp_row Try.results9 _ _ w.heap.size _ _ _ _ rfl Hb8.out Try.underlying49 rfl (by rw [List.size_toArray,Array.length_toList];exact hdi)) rfl
       ⟨msgOf k qs,by rw [HRX.out,← HA4.out.l,Array.toArray_toList],by rw [HRX.out];exact ME2.out,HAT8,HK4.out.grown Hg8.out HK4.out.size (fun q hq => by injection hq with hq;omega)⟩
     ·have hR : R = (msgZ 0,2):=by rw [HR.out,hG];simp [hb]
      have HRX:=Lib.hid hR
      have d2 : (0 : Int) < (b'.length : Int):=by have:=List.length_pos_iff.2 hb;omega
      clear hR hG HR MS HTG HAT HRD HQ hb
      go_upto_region 15 with fail
      obtain ⟨w8,hst8,hb8,hg8⟩:=run_store_blk (P:=Try.prog) ys.toList HRW.out rfl HY.out.o
      have Hb8:=Lib.hid hb8;have Hg8:=Lib.hid hg8
      clear hb8 hg8
      go_wp2_with ((with_reducible refine list_bldg [] ys (Eq.trans ?_ rfl) HB0.out (Eq.trans ?_ rfl) ?_);rfl;rfl)
      exact bodyPost_ret (v:=.tuple #[.agg ys,iv 2]) (results_cell_tmp_row Try.results9 _ _ w.heap.size _ _ _ _ rfl Hb8.out Try.underlying49 rfl (by rw [List.size_toArray,Array.length_toList];exact hyi)) rfl ⟨msgZ 0,by rw [HRX.out];simp only [HYE.out],by rw [HRX.out];rfl,msgZ_at 0 (by omega) _,HKW.out.grown Hg8.out HKW.out.size (fun q hq => by injection hq with hq;omega)⟩
end Go.Proofs.Ytbgpgdhndanigaa
/- The statements' awake. (printed by gen_iq.py) -/
set_option linter.unusedSimpArgs false
set_option linter.unusedVariables false
namespace Go.Proofs.Ytbgpgdhndanigaa
open Go.RowKit
attribute [local go_sem ↓] Go.wp_at_zero Go.wp_at_succ
def pingS : List UInt8:=[112,105,110,103]
def pingB : List UInt8:=[1,0,0,0,0,0,0,1]
theorem fits_verack : fitsB (msgZ 1) = true:=by kernel_rfl
theorem put_verack : putL (msgZ 1) = []:=by
 unfold putL;rw [if_pos fits_verack];rfl
theorem get_ping : wgetN pingS pingB = (msgOf 2 [.u64 72057594037927937],0):=by kernel_rfl
theorem kind_tx : kindN [116,120] = (10,true):=by kernel_rfl
theorem name_9 : nameL 9 = [109,101,114,107,108,101,98,108,111,99,107]:=by kernel_rfl
set_option maxRecDepth 100000 in
set_option maxHeartbeats 4000000 in
theorem awake_any (w : World) : Calls Try.prog 4 #[] w fun e w' => e = .returned (.bool true)∧Keep w w':=by
 obtain ⟨ys,hyz,hyA⟩:=zmsg_letter
 have hyn:=hyA.n;have hys:=hyA.z
 have HY:=Lib.hid hyA
 obtain ⟨ks,hks⟩ : ∃ ks : Array Value,ks = (msgZ 1).cells.toArray:=⟨_,rfl⟩
 have hkA : MsA (msgZ 1) ks:=by rw [hks];exact MsA.of (msgZ_ok _ (by omega))
 have HBu : Hid (Try.prog.built 49 [(0,.int .i64 1)] = some ks):=Lib.hid (by rw [hks];exact msg_built _)
 have hkn:=hkA.n
 have PT : Hid (∀ y,Calls Try.prog 7 #[.agg ks] y fun e w' => ∃ v,e = .returned (.tuple #[v,iv 0])∧w'.ownsRow y.heap.size 5 1 v 0 []∧Keep y w'):=Lib.hid fun y => by
  have q:=put_any (msgZ 1) ks hkA y (msgZ_at 1 (by omega) y)
  rw [fits_verack,if_pos rfl,put_verack] at q
  exact q
 have GT : Hid (∀ (A : Option Addr) (c : Nat) y,8 ≤ c → c ≤ maxLen → Rd y A (pingB.map u8v) → Calls Try.prog 9 #[.string (str pingS),.slice A 8 c] y fun e w' => ∃ ds,e = .returned (.tuple #[.agg ds,iv 0])∧∃ m,MsA m ds∧m.kind = 2∧m.nonce = 72057594037927937∧Keep y w'):=Lib.hid fun A c y h1 h2 h3 => by
  refine (get_any pingS A pingB c y (by decide) h1 h2 h3).mono ?_
  rintro e w' ⟨m,rfl,hm,ha,hk⟩
  rw [get_ping] at hm ⊢
  exact ⟨_,rfl,m,MsA.of ha.o,congrArg MsgR.kind hm,congrArg MsgR.nonce hm,hk⟩
 have KT : Hid (∀ y,Calls Try.prog 11 #[.string (str [116,120])] y fun e w' => e = .returned (.tuple #[iv 10,.bool true])∧Keep y w'):=Lib.hid fun y => by
  have q:=kind_any [116,120] y
  rw [kind_tx] at q
  exact q
 have NT : Hid (∀ y,Calls Try.prog 17 #[.int .i64 9] y fun e w' => e = .returned (.string (str [109,101,114,107,108,101,98,108,111,99,107]))∧Keep y w'):=Lib.hid fun y => by
  have q:=name_any 9 y
  rw [name_9] at q
  exact q
 clear hyA hks hkA
 go_enter Try.func4,Try.ntmps4
 go_upto_region 2 with (first | ((with_reducible refine list_bldg [(0,.int .i64 1)] ks (Eq.trans ?_ rfl) HBu.out (Eq.trans ?_ rfl) ?_);rfl;rfl) | (go_at_call 7;refine (PT.out _).mono ?_;rintro e w1 ⟨v1,rfl,o1,k1⟩;obtain ⟨A1,c1,rfl,-,-,-⟩:=own_form o1;have K1:=Lib.hid k1;clear o1 k1))
 go_upto_region 3 with (go_at_call 9;refine (GT.out _ 8 _ (by omega) (by unfold maxLen;omega) (Rd.new w1 [.int .u8 1,.int .u8 0,.int .u8 0,.int .u8 0,.int .u8 0,.int .u8 0,.int .u8 0,.int .u8 1] 5)).mono ?_;rintro e w2 ⟨ds,rfl,m,hA,hk2,hn2,k2⟩;have HA:=Lib.hid hA;have hdn:=hA.n;have hdz:=hA.z;have hdi:=hA.i;have HM2:=Lib.hid hk2;have HN2:=Lib.hid hn2;have K2:=Lib.hid (keep_trans K1.out (keep_trans (keep_new _ _) k2));have hst2 : ∀ y : World,(storeCells ⟨y.heap.size,0,none⟩ ds.toList 0).run Try.prog (y.alloc (.cells ys 49)) = .ok () (y.alloc (.cells ds 49)):=fun y => run_storeCells_new (P:=Try.prog) y 49 ys ds hdi (hys.trans hdz.symm) (by have:=all_oneCell_toArray HA.out.o;simpa using this);clear hA hk2 hn2 k2)
 obtain ⟨w3,hw3⟩ : ∃ w3,w3 = w2.alloc (.cells ds 49):=⟨_,rfl⟩
 have HB3 : Hid (Blk w3 w2.heap.size 49 ds.toList):=by rw [hw3];exact Lib.hid (Blk.new w2 _ ds.toList)
 have K3 : Hid (Keep w w3):=by rw [hw3];exact Lib.hid (keep_trans K2.out (keep_new _ _))
 rw [← hw3]
 clear hw3 hst2
 have c0 : w3.cell? ⟨w2.heap.size,0,none⟩ = some (.int .i64 2):=by rw [HB3.out.cell,HA.out.l,← HM2.out];rfl
 have c2 : w3.cell? ⟨w2.heap.size,2,none⟩ = some (.int .u64 72057594037927937):=by
  have e : m.cells[2]? = some (u64v m.nonce):=rfl
  rw [HB3.out.cell,HA.out.l,e,HN2.out];rfl
 go_upto_region 4 with (go_at_call 11;refine (KT.out _).mono ?_;rintro e w4 ⟨rfl,k4⟩;have c0:=keep_cell k4 c0;have c2:=keep_cell k4 c2;have K4:=Lib.hid (keep_trans K3.out k4);clear k4)
 go_wp2_with (go_at_call 17;refine (NT.out _).mono ?_;rintro e w5 ⟨rfl,k5⟩;have K5:=Lib.hid (keep_trans K4.out k5);clear k5)
 exact bodyPost_ret (v:=.bool true) (by simp [results,Try.results4]) rfl ⟨rfl,K5.out⟩
end Go.Proofs.Ytbgpgdhndanigaa
/- WireIs. (printed by gen_ku.py) -/
set_option linter.unusedSimpArgs false
set_option linter.unusedVariables false
namespace Go.Proofs.Ytbgpgdhndanigaa
open Go.RowKit
attribute [local go_sem ↓] Go.wp_at_zero Go.wp_at_succ
theorem pl_atI {m m' : MsgR} (h : m'.pl = m.pl) : m'.kind = m.kind∧fitsB m' = fitsB m∧putL m' = putL m:=⟨(congrArg MsgR.kind h : m'.pl.kind = m.pl.kind),by rw [← fits_pl,h,fits_pl],by rw [← put_pl,h,put_pl]⟩
def LimM (m : MsgR) : Prop:=m.hs.length ≤ 1000000∧m.ls.length ≤ 1000000∧m.is.length ≤ 1000000∧m.shs.length ≤ 1000000∧m.t.ins.length ≤ 1000000∧m.t.outs.length ≤ 1000000
theorem fits_lim {m : MsgR} (h : fitsB m = true) : LimM m:=by
 unfold fitsB at h
 obtain ⟨-,-,h1,h2,h3,h4,-,h5,h6⟩:=of_decide_eq_true h
 refine ⟨by omega,by omega,by omega,by omega,?_⟩
 by_cases h10 : m.kind = 10
 ·have q:=h5 h10
  unfold saneT at q
  obtain ⟨-,q1,q2,-⟩:=of_decide_eq_true q
  exact ⟨by omega,by omega⟩
 ·have e : (othersM m).t = m.t:=by
   unfold othersM
   repeat' split
   all_goals first | rfl | contradiction
  obtain ⟨-,-,-,-,q1,q2,-⟩:=nothing_spec h6
  rw [e] at q1 q2
  rw [q1,q2]
  exact ⟨Nat.zero_le _,Nat.zero_le _⟩
theorem wget_lim (s b : List UInt8) (m : MsgR) (hm : m.pl = (wgetN s b).1) : LimM m:=by
 have h : LimM (wgetN s b).1:=by
  by_cases h : (wgetN s b).2 = 0
  ·exact fits_lim (wget_once s b h).2.1
  ·rw [(wget_bad s b h).1]
   exact ⟨Nat.zero_le _,Nat.zero_le _,Nat.zero_le _,Nat.zero_le _,Nat.zero_le _,Nat.zero_le _⟩
 rw [← hm] at h
 unfold LimM at h ⊢
 simpa [MsgR.pl,TxR.pl] using h
theorem strz9 (l : List UInt8) : (str l).size = l.length:=rfl
theorem bcv9 {A : Option Addr} {l : List UInt8} {w : World} (c : Nat) (hr : Rd w A (l.map u8v)) : (convert 31 9 (.slice A l.length c)).run Try.prog w = .ok (.string (str l)) w :=
 run_bytes_str Try.underlying31 Try.underlying5 Try.underlying9 _ hr
set_option maxRecDepth 100000 in
set_option maxHeartbeats 16000000 in
theorem wireis_walk (m : MsgR) (cs : Array Value) (s : List UInt8) (A : Option Addr) (b : List UInt8) (c : Nat) (kind : Int) (w : World) (hA : MsB m cs) (h : m.at_ w) (hr : Rd w A (b.map u8v)) (hc : b.length ≤ c) (hcm : c ≤ maxLen) :
  Calls Try.prog 3 #[.agg cs,.string (str s),.slice A b.length c,.int .i64 kind] w fun e w' => e = .returned (.bool true)∧Keep w w':=by
 have AW:=Lib.hid awake_any
 have hcn:=hA.n;have hcz:=hA.z;have hci:=hA.i
 have FW : Hid (∀ y,Keep w y → Calls Try.prog 5 #[.agg cs] y fun e w' => e = .returned (.bool (fewM m))∧Keep y w'):=Lib.hid fun y hy => few09_any m cs hA y (h.keep hy)
 cases hfew : fewM m with
 | false =>
   rw [hfew] at FW
   clear hA h hfew hr hc hcm
   go_enter Try.func3,Try.ntmps3
   go_upto_region 1 with fail
   obtain ⟨w1,hw1⟩ : ∃ w1,w1 = w.alloc (.cells cs 39):=⟨_,rfl⟩
   have HB1 : Hid (Blk w1 w.heap.size 39 cs.toList):=by rw [hw1];exact Lib.hid (Blk.new w _ cs.toList)
   have HK1 : Hid (Keep w w1):=by rw [hw1];exact Lib.hid (keep_new _ _)
   rw [← hw1]
   clear hw1
   generalize w.heap.size = g0 at *
   go_wp2_with (first | ((with_reducible refine load_arr g0 cs (Eq.trans ?_ rfl) HB2.out _ Try.underlying39 rfl hci ?_);rfl) | (go_at_call 4;refine (AW.out _).mono ?_;rintro e w2 ⟨rfl,k2⟩;have HK2:=Lib.hid (keep_trans HK1.out k2);have HB2:=Lib.hid (HB1.out.keep k2);clear k2) | (go_at_call 5;refine (FW.out _ HK2.out).mono ?_;rintro e w3 ⟨rfl,k3⟩;have HK3:=Lib.hid (keep_trans HK2.out k3);have HB3:=Lib.hid (HB2.out.keep k3);clear k3))
   exact bodyPost_ret (v:=.bool true) (by simp [results,Try.results3]) rfl ⟨rfl,HK3.out⟩
 | true =>
   rw [hfew] at FW
   by_cases hb4 : 3000 < b.length
   ·have d0 : (3000 : Int) < (b.length : Int):=by omega
    clear hb4 hA h hfew hr hc hcm
    go_enter Try.func3,Try.ntmps3
    go_upto_region 1 with fail
    obtain ⟨w1,hw1⟩ : ∃ w1,w1 = w.alloc (.cells cs 39):=⟨_,rfl⟩
    have HB1 : Hid (Blk w1 w.heap.size 39 cs.toList):=by rw [hw1];exact Lib.hid (Blk.new w _ cs.toList)
    have HK1 : Hid (Keep w w1):=by rw [hw1];exact Lib.hid (keep_new _ _)
    rw [← hw1]
    clear hw1
    generalize w.heap.size = g0 at *
    go_wp2_with (first | ((with_reducible refine load_arr g0 cs (Eq.trans ?_ rfl) HB2.out _ Try.underlying39 rfl hci ?_);rfl) | (go_at_call 4;refine (AW.out _).mono ?_;rintro e w2 ⟨rfl,k2⟩;have HK2:=Lib.hid (keep_trans HK1.out k2);have HB2:=Lib.hid (HB1.out.keep k2);clear k2) | (go_at_call 5;refine (FW.out _ HK2.out).mono ?_;rintro e w3 ⟨rfl,k3⟩;have HK3:=Lib.hid (keep_trans HK2.out k3);have HB3:=Lib.hid (HB2.out.keep k3);clear k3))
    exact bodyPost_ret (v:=.bool true) (by simp [results,Try.results3]) rfl ⟨rfl,HK3.out⟩
   have d0 : ¬ (3000 : Int) < (b.length : Int):=by omega
   by_cases hlen : 100 < s.length
   ·have d1 : (100 : Int) < ((str s).size : Int):=by rw [strz9];omega
    have d2 : 100 < (str s).size:=by rw [strz9];exact hlen
    clear hb4 hlen hA h hfew hr hc hcm
    go_enter Try.func3,Try.ntmps3
    go_upto_region 1 with fail
    obtain ⟨w1,hw1⟩ : ∃ w1,w1 = w.alloc (.cells cs 39):=⟨_,rfl⟩
    have HB1 : Hid (Blk w1 w.heap.size 39 cs.toList):=by rw [hw1];exact Lib.hid (Blk.new w _ cs.toList)
    have HK1 : Hid (Keep w w1):=by rw [hw1];exact Lib.hid (keep_new _ _)
    rw [← hw1]
    clear hw1
    generalize w.heap.size = g0 at *
    go_wp2_with (first | ((with_reducible refine load_arr g0 cs (Eq.trans ?_ rfl) HB2.out _ Try.underlying39 rfl hci ?_);rfl) | (go_at_call 4;refine (AW.out _).mono ?_;rintro e w2 ⟨rfl,k2⟩;have HK2:=Lib.hid (keep_trans HK1.out k2);have HB2:=Lib.hid (HB1.out.keep k2);clear k2) | (go_at_call 5;refine (FW.out _ HK2.out).mono ?_;rintro e w3 ⟨rfl,k3⟩;have HK3:=Lib.hid (keep_trans HK2.out k3);have HB3:=Lib.hid (HB2.out.keep k3);clear k3))
    exact bodyPost_ret (v:=.bool true) (by simp [results,Try.results3]) rfl ⟨rfl,HK3.out⟩
   have d1 : ¬ (100 : Int) < ((str s).size : Int):=by rw [strz9];omega
   have d2 : ¬ 100 < (str s).size:=by rw [strz9];exact hlen
   have hq : (m.hs.length ≤ 40∧m.ls.length ≤ 150∧m.is.length ≤ 100∧m.shs.length ≤ 100∧m.fs.length ≤ 1100)∧fewT m.t = true:=by
    unfold fewM at hfew
    rwa [Bool.and_eq_true,decide_eq_true_eq] at hfew
   have hqt:=hq.2
   unfold fewT at hqt
   rw [decide_eq_true_eq] at hqt
   have L1:=hqt.2.2.1;have L2:=hqt.2.2.2
   have HR:=Lib.hid hr
   have MS : Hid (∀ y,Keep w y → Calls Try.prog 6 #[.agg cs] y fun e w' => ∃ m' ds,e = .returned (.agg ds)∧MsA m' ds∧m'.pl = m.pl∧m'.at_ w'∧Keep y w'):=Lib.hid fun y hy => lmsg_any m cs hA y (h.keep hy) (by omega) (by omega) (by have:=hq.1.2.2.1;omega)
   have PT : Hid (∀ m' ds y,MsA m' ds → m'.pl = m.pl → m'.at_ y → Calls Try.prog 7 #[.agg ds] y fun e w' => ∃ A2 c2,e = .returned (.tuple #[.slice A2 (putL m).length c2,iv (if fitsB m = true then 0 else 2)])∧Rd w' A2 ((putL m).map u8v)∧Keep y w'):=Lib.hid fun m' ds y h1 h2 h3 => by
    refine (put_any m' ds h1 y h3).mono ?_
    rw [(pl_atI h2).2.1,(pl_atI h2).2.2]
    rintro e w' ⟨v,rfl,o,k⟩
    obtain ⟨A2,c2,rfl,-,-,q3⟩:=own_form o
    exact ⟨A2,c2,rfl,q3,k⟩
   have RPT : Hid (∀ y,Keep w y → Calls Try.prog 8 #[.agg cs] y fun e w' => ∃ A2 c2,e = .returned (.tuple #[.slice A2 (putL m).length c2,iv (if fitsB m = true then 0 else 2)])∧Rd w' A2 ((putL m).map u8v)∧Keep y w'):=Lib.hid fun y hy => by
    refine (rmput_any m cs hA y (h.keep hy)).mono ?_
    rintro e w' ⟨A2,c2,rfl,o⟩
    exact ⟨A2,c2,rfl,o.rd,o.k⟩
   have FT : Hid (∀ m' ds y,MsA m' ds → m'.pl = m.pl → m'.at_ y → Calls Try.prog 13 #[.agg ds] y fun e w' => e = .returned (.bool (fitsB m))∧Keep y w'):=Lib.hid fun m' ds y h1 h2 h3 => by
    have q:=fits_any m' ds h1 h3.o y h3.t
    rwa [(pl_atI h2).2.1] at q
   have RFT : Hid (∀ y,Keep w y → Calls Try.prog 14 #[.agg cs] y fun e w' => e = .returned (.bool (fitsB m))∧Keep y w'):=Lib.hid fun y hy => rfits_any m cs hA y (h.keep hy)
   have GT : Hid (∀ y,Keep w y → Calls Try.prog 9 #[.string (str s),.slice A b.length c] y fun e w' => ∃ m' ds,e = .returned (.tuple #[.agg ds,iv (wgetN s b).2])∧MsA m' ds∧m'.pl = (wgetN s b).1∧m'.at_ w'∧Keep y w'):=Lib.hid fun y hy => by
    refine (get_any s A b c y (by omega) hc hcm (HR.out.keep hy)).mono ?_
    rintro e w' ⟨m',rfl,hm,ha,hk⟩
    exact ⟨m',_,rfl,MsA.of ha.o,hm,ha,hk⟩
   have RGT : Hid (∀ y,Keep w y → Calls Try.prog 10 #[.string (str s),.slice A b.length c] y fun e w' => ∃ m' ds,e = .returned (.tuple #[.agg ds,iv (wgetN s b).2])∧MsB m' ds∧m'.pl = (wgetN s b).1∧m'.at_ w'∧Keep y w'):=Lib.hid fun y hy => rget_any s A b c y (by omega) hc hcm (HR.out.keep hy)
   have KN : Hid (∀ y,Calls Try.prog 11 #[.string (str s)] y fun e w' => e = .returned (.tuple #[iv (kindN s).1,.bool (kindN s).2])∧Keep y w'):=Lib.hid fun y => kind_any s y
   have RKN : Hid (∀ y,Calls Try.prog 12 #[.string (str s)] y fun e w' => e = .returned (.tuple #[iv (kindN s).1,.bool (kindN s).2])∧Keep y w'):=Lib.hid fun y => rkind_any s y
   have NM : Hid (∀ y,Calls Try.prog 17 #[.int .i64 kind] y fun e w' => e = .returned (.string (str (nameL kind)))∧Keep y w'):=Lib.hid fun y => name_any kind y
   have RNM : Hid (∀ y,Calls Try.prog 18 #[.int .i64 kind] y fun e w' => e = .returned (.string (str (nameL kind)))∧Keep y w'):=Lib.hid fun y => rname_any kind y
   have LIM : ∀ m',m'.pl = (wgetN s b).1 → LimM m':=wget_lim s b
   have PL : Hid (∀ m' ds y,MsA m' ds → m'.pl = (wgetN s b).1 → m'.at_ y → Calls Try.prog 16 #[.agg ds] y fun e w' => ∃ m2 ds2,e = .returned (.agg ds2)∧MsB m2 ds2∧m2.pl = (wgetN s b).1∧m2.at_ w'∧Keep y w'):=Lib.hid fun m' ds y h1 h2 h3 => by
    obtain ⟨z1,z2,z3,z4,z5,z6⟩:=LIM m' h2
    refine (plainly_any m' ds h1 y h3 z5 z6 z3).mono ?_
    rintro e w' ⟨m2,d2,rfl,a1,a2,a3,a4⟩
    exact ⟨m2,d2,rfl,a1,a2.trans h2,a3,a4⟩
   have SM : Hid (∀ m2 ds2 m3 ds3 y,MsB m2 ds2 → MsB m3 ds3 → m2.pl = (wgetN s b).1 → m3.pl = (wgetN s b).1 → m2.at_ y → m3.at_ y → Calls Try.prog 15 #[.agg ds2,.agg ds3] y fun e w' => e = .returned (.bool true)∧Keep y w'):=Lib.hid fun m2 ds2 m3 ds3 y h1 h2 h3 h4 h5 h6 => by
    obtain ⟨z1,z2,z3,z4,z5,z6⟩:=LIM m2 h3
    exact same09 m2 m3 ds2 ds3 h1 h2 y h5 h6 (h3.trans h4.symm) z5 z6 z1 z2 z3 z4
   obtain ⟨ys,hyz,hyA⟩:=zmsg_letter
   have hyn:=hyA.n;have hys:=hyA.z
   obtain ⟨rs,hrz,hrA⟩:=zrmsg_letter
   have hrn:=hrA.n;have hrs:=hrA.z
   have HSA : Hid (∀ ds,∀ m' : MsgR,MsA m' ds → ∀ y : World,(storeCells ⟨y.heap.size,0,none⟩ ds.toList 0).run Try.prog (y.alloc (.cells ys 49)) = .ok () (y.alloc (.cells ds 49))):=Lib.hid fun ds m' hd y => run_storeCells_new (P:=Try.prog) y 49 ys ds hd.i (hys.trans hd.z.symm) (by have:=all_oneCell_toArray hd.o;simpa using this)
   have HSB : Hid (∀ ds,∀ m' : MsgR,MsB m' ds → ∀ y : World,(storeCells ⟨y.heap.size,0,none⟩ ds.toList 0).run Try.prog (y.alloc (.cells rs 39)) = .ok () (y.alloc (.cells ds 39))):=Lib.hid fun ds m' hd y => run_storeCells_new (P:=Try.prog) y 39 rs ds hd.i (hrs.trans hd.z.symm) (by have:=all_oneCell_toArray hd.o;simpa using this)
   clear hA h hfew hq hqt L1 L2 hb4 hlen hr hc hcm LIM hyA hrA HR
   generalize wgetN s b = GG at *
   generalize kindN s = kn at *
   generalize nameL kind = nm at *
   generalize putL m = pb at *
   generalize fitsB m = fb at *
   generalize m.pl = mp at *
   generalize (if fb = true then (0 : Int) else 2) = EP at *
   obtain ⟨gp,EG⟩:=GG
   obtain ⟨k,ok⟩:=kn
   simp only at GT RGT KN RKN PL SM
   go_enter Try.func3,Try.ntmps3
   go_upto_region 1 with fail
   obtain ⟨w1,hw1⟩ : ∃ w1,w1 = w.alloc (.cells cs 39):=⟨_,rfl⟩
   have HB1 : Hid (Blk w1 w.heap.size 39 cs.toList):=by rw [hw1];exact Lib.hid (Blk.new w _ cs.toList)
   have HK1 : Hid (Keep w w1):=by rw [hw1];exact Lib.hid (keep_new _ _)
   rw [← hw1]
   clear hw1
   generalize w.heap.size = g0 at *
   go_upto_region 5 with (first | ((with_reducible refine load_arr g0 cs (Eq.trans ?_ rfl) HB2.out _ Try.underlying39 rfl hci ?_);rfl) | ((with_reducible refine load_arr g0 cs (Eq.trans ?_ rfl) HB3.out _ Try.underlying39 rfl hci ?_);rfl) | (go_at_call 4;refine (AW.out _).mono ?_;rintro e w2 ⟨rfl,k2⟩;have HK2:=Lib.hid (keep_trans HK1.out k2);have HB2:=Lib.hid (HB1.out.keep k2);clear k2) | (go_at_call 5;refine (FW.out _ HK2.out).mono ?_;rintro e w3 ⟨rfl,k3⟩;have HK3:=Lib.hid (keep_trans HK2.out k3);have HB3:=Lib.hid (HB2.out.keep k3);clear k3) | (go_at_call 6;refine (MS.out _ HK3.out).mono ?_;rintro e w4 ⟨m4,ds4,rfl,hA,hm,ha,k⟩;have HA4:=Lib.hid hA;have hn4:=hA.n;have hz4:=hA.z;have hi4:=hA.i;have HM4:=Lib.hid hm;have HT4:=Lib.hid ha;have hst4:=HSA.out ds4 m4 hA;clear hA hm ha;have HB4:=Lib.hid (HB3.out.keep k);have HK4:=Lib.hid (keep_trans HK3.out k);clear k HK3 HB3))
   have HQ4:=HT4
   clear HT4
   obtain ⟨w5,hwn⟩ : ∃ x,x = w4.alloc (.cells ds4 49):=⟨_,rfl⟩
   have k : Keep w4 w5:=by rw [hwn];exact keep_new _ _
   have HG5 : Hid (Blk w5 w4.heap.size 49 ds4.toList):=by rw [hwn];exact Lib.hid (Blk.new w4 _ ds4.toList)
   rw [← hwn]
   clear hwn hst4
   have HB5:=Lib.hid (HB4.out.keep k)
   have HQ5:=Lib.hid (HQ4.out.keep k)
   have HK5:=Lib.hid (keep_trans HK4.out k)
   clear k HK4 HB4 HQ4
   generalize w4.heap.size = g4 at *
   go_upto_region 6 with (first | ((with_reducible refine load_arr g4 ds4 (Eq.trans ?_ rfl) HG5.out _ Try.underlying49 rfl hi4 ?_);rfl) | (go_at_call 7;refine (PT.out m4 ds4 _ HA4.out HM4.out HQ5.out).mono ?_;rintro e w6 ⟨A6,c6,rfl,ra,k⟩;have RX6:=Lib.hid ra;clear ra;have HB6:=Lib.hid (HB5.out.keep k);have HQ6:=Lib.hid (HQ5.out.keep k);have HG6:=Lib.hid (HG5.out.keep k);have HK6:=Lib.hid (keep_trans HK5.out k);clear k HK5 HB5 HQ5 HG5))
   go_upto_region 7 with (first | ((with_reducible refine load_arr g0 cs (Eq.trans ?_ rfl) HB6.out _ Try.underlying39 rfl hci ?_);rfl) | (go_at_call 8;refine (RPT.out _ HK6.out).mono ?_;rintro e w7 ⟨A7,c7,rfl,ra,k⟩;have RY7:=Lib.hid ra;clear ra;have HB7:=Lib.hid (HB6.out.keep k);have HQ7:=Lib.hid (HQ6.out.keep k);have HG7:=Lib.hid (HG6.out.keep k);have RX7:=Lib.hid (RX6.out.keep k);have HK7:=Lib.hid (keep_trans HK6.out k);clear k HK6 HB6 HQ6 HG6 RX6))
   clear PT RPT MS FW AW
   go_upto_region 8 with (go_at_call 9;refine (GT.out _ HK7.out).mono ?_;rintro e w8 ⟨m8,ds8,rfl,hA,hm,ha,k⟩;have HA8:=Lib.hid hA;have hn8:=hA.n;have hz8:=hA.z;have hi8:=hA.i;have HM8:=Lib.hid hm;have HU8:=Lib.hid ha;have hst8:=HSA.out ds8 m8 hA;clear hA hm ha;have HB8:=Lib.hid (HB7.out.keep k);have HQ8:=Lib.hid (HQ7.out.keep k);have HG8:=Lib.hid (HG7.out.keep k);have RX8:=Lib.hid (RX7.out.keep k);have RY8:=Lib.hid (RY7.out.keep k);have HK8:=Lib.hid (keep_trans HK7.out k);clear k HK7 HB7 HQ7 HG7 RX7 RY7)
   obtain ⟨w9,hwn⟩ : ∃ x,x = w8.alloc (.cells ds8 49):=⟨_,rfl⟩
   have k : Keep w8 w9:=by rw [hwn];exact keep_new _ _
   have HH9 : Hid (Blk w9 w8.heap.size 49 ds8.toList):=by rw [hwn];exact Lib.hid (Blk.new w8 _ ds8.toList)
   rw [← hwn]
   clear hwn hst8
   have HB9:=Lib.hid (HB8.out.keep k)
   have HQ9:=Lib.hid (HQ8.out.keep k)
   have HG9:=Lib.hid (HG8.out.keep k)
   have RX9:=Lib.hid (RX8.out.keep k)
   have RY9:=Lib.hid (RY8.out.keep k)
   have HU9:=Lib.hid (HU8.out.keep k)
   have HK9:=Lib.hid (keep_trans HK8.out k)
   clear k HK8 HB8 HQ8 HG8 RX8 RY8 HU8
   generalize w8.heap.size = g8 at *
   go_upto_region 9 with (go_at_call 10;refine (RGT.out _ HK9.out).mono ?_;rintro e w10 ⟨m10,ds10,rfl,hA,hm,ha,k⟩;have HA10:=Lib.hid hA;have hn10:=hA.n;have hz10:=hA.z;have hi10:=hA.i;have HM10:=Lib.hid hm;have HV10:=Lib.hid ha;have hst10:=HSB.out ds10 m10 hA;clear hA hm ha;have HB10:=Lib.hid (HB9.out.keep k);have HQ10:=Lib.hid (HQ9.out.keep k);have HG10:=Lib.hid (HG9.out.keep k);have RX10:=Lib.hid (RX9.out.keep k);have RY10:=Lib.hid (RY9.out.keep k);have HU10:=Lib.hid (HU9.out.keep k);have HH10:=Lib.hid (HH9.out.keep k);have HK10:=Lib.hid (keep_trans HK9.out k);clear k HK9 HB9 HQ9 HG9 RX9 RY9 HU9 HH9)
   obtain ⟨w11,hwn⟩ : ∃ x,x = w10.alloc (.cells ds10 39):=⟨_,rfl⟩
   have k : Keep w10 w11:=by rw [hwn];exact keep_new _ _
   have HI11 : Hid (Blk w11 w10.heap.size 39 ds10.toList):=by rw [hwn];exact Lib.hid (Blk.new w10 _ ds10.toList)
   rw [← hwn]
   clear hwn hst10
   have HB11:=Lib.hid (HB10.out.keep k)
   have HQ11:=Lib.hid (HQ10.out.keep k)
   have HG11:=Lib.hid (HG10.out.keep k)
   have RX11:=Lib.hid (RX10.out.keep k)
   have RY11:=Lib.hid (RY10.out.keep k)
   have HU11:=Lib.hid (HU10.out.keep k)
   have HH11:=Lib.hid (HH10.out.keep k)
   have HV11:=Lib.hid (HV10.out.keep k)
   have HK11:=Lib.hid (keep_trans HK10.out k)
   clear k HK10 HB10 HQ10 HG10 RX10 RY10 HU10 HH10 HV10
   generalize w10.heap.size = g10 at *
   clear GT RGT HSA HSB
   go_upto_region 10 with (go_at_call 11;refine (KN.out _).mono ?_;rintro e w12 ⟨rfl,k⟩;have HB12:=Lib.hid (HB11.out.keep k);have HQ12:=Lib.hid (HQ11.out.keep k);have HG12:=Lib.hid (HG11.out.keep k);have RX12:=Lib.hid (RX11.out.keep k);have RY12:=Lib.hid (RY11.out.keep k);have HU12:=Lib.hid (HU11.out.keep k);have HH12:=Lib.hid (HH11.out.keep k);have HV12:=Lib.hid (HV11.out.keep k);have HI12:=Lib.hid (HI11.out.keep k);have HK12:=Lib.hid (keep_trans HK11.out k);clear k HK11 HB11 HQ11 HG11 RX11 RY11 HU11 HH11 HV11 HI11)
   go_upto_region 11 with (go_at_call 12;refine (RKN.out _).mono ?_;rintro e w13 ⟨rfl,k⟩;have HB13:=Lib.hid (HB12.out.keep k);have HQ13:=Lib.hid (HQ12.out.keep k);have HG13:=Lib.hid (HG12.out.keep k);have RX13:=Lib.hid (RX12.out.keep k);have RY13:=Lib.hid (RY12.out.keep k);have HU13:=Lib.hid (HU12.out.keep k);have HH13:=Lib.hid (HH12.out.keep k);have HV13:=Lib.hid (HV12.out.keep k);have HI13:=Lib.hid (HI12.out.keep k);have HK13:=Lib.hid (keep_trans HK12.out k);clear k HK12 HB12 HQ12 HG12 RX12 RY12 HU12 HH12 HV12 HI12)
   clear KN RKN
   have HB:=HB13
   have HQ:=HQ13
   have HG:=HG13
   have RX:=RX13
   have RY:=RY13
   have HU:=HU13
   have HH:=HH13
   have HV:=HV13
   have HI:=HI13
   have KW:=HK13
   clear HK13 HB13 HQ13 HG13 RX13 RY13 HU13 HH13 HV13 HI13
   refine wp_region_tree (.take [0,1,2,4] (.force [3,5] (.take [6,7,8,9,10,11,12,13,14,15,16,17,18,19,20,21,23] (.force [22,24] (.take [25,26,27,28,29,30,31,32,33,34,35,36,37,38,39,40,41,42,44] (.force [43,45] (.take [46,47,48] .done))))))) [] (by kernel_rfl) (by kernel_rfl) (fun y0 hk => ?_)
   have Q:=Lib.hid hk
   have HB:=Lib.hid (HB.out.keep hk)
   have HQ:=Lib.hid (HQ.out.keep hk)
   have HG:=Lib.hid (HG.out.keep hk)
   have RX:=Lib.hid (RX.out.keep hk)
   have RY:=Lib.hid (RY.out.keep hk)
   have HU:=Lib.hid (HU.out.keep hk)
   have HH:=Lib.hid (HH.out.keep hk)
   have HV:=Lib.hid (HV.out.keep hk)
   have HI:=Lib.hid (HI.out.keep hk)
   have KW:=Lib.hid (keep_trans KW.out hk)
   clear hk
   refine mt_take y0 (Below.refl _ _) ?_
   simp only [pick_cons,pick_nil,nth_zero,nth_succ]
   have RHG:=Lib.hid (range_of HG.out 0 ds4.toList (by simp [List.take_of_length_le]))
   have RHB:=Lib.hid (range_of HB.out 0 cs.toList (by simp [List.take_of_length_le]))
   repeat (first | ((with_reducible refine wpQuiet_load_partg g4 0 ds4 (Eq.trans ?_ rfl) RHG.out _ Try.underlying49 rfl hi4 (Eq.trans ?_ rfl) ?_);rfl;rfl;simp only [Act.put,Array.set!_eq_setIfInBounds,List.setIfInBounds_toArray,List.set_cons_succ,List.set_cons_zero]) | ((with_reducible refine wpQuiet_load_partg g0 0 cs (Eq.trans ?_ rfl) RHB.out _ Try.underlying39 rfl hci (Eq.trans ?_ rfl) ?_);rfl;rfl;simp only [Act.put,Array.set!_eq_setIfInBounds,List.setIfInBounds_toArray,List.set_cons_succ,List.set_cons_zero]) | go_big_quiet_step (fail))
   clear RHG RHB
   refine wpQuiet_nil (mt_force ?_)
   simp only [pick_cons,pick_nil,nth_zero,nth_succ]
   refine fc_step rfl (fun K hK => ?_)
   go_simp
   (with_reducible refine (FT.out m4 ds4 y0 HA4.out HM4.out HQ.out).mono ?_)
   rintro e y1 ⟨rfl,hk⟩
   refine hK _ _ hk ?_
   clear hK K
   have HQ3 : w13.heap.size ≤ y0.heap.size:=Q.out.size
   have Hprev:=Q
   replace Q:=Lib.hid (keep_trans Q.out hk)
   have hs_y1 : y0.heap.size ≤ y1.heap.size:=hk.size
   replace HB:=Lib.hid (HB.out.keep hk)
   replace HQ:=Lib.hid (HQ.out.keep hk)
   replace HG:=Lib.hid (HG.out.keep hk)
   replace RX:=Lib.hid (RX.out.keep hk)
   replace RY:=Lib.hid (RY.out.keep hk)
   replace HU:=Lib.hid (HU.out.keep hk)
   replace HH:=Lib.hid (HH.out.keep hk)
   replace HV:=Lib.hid (HV.out.keep hk)
   replace HI:=Lib.hid (HI.out.keep hk)
   replace KW:=Lib.hid (keep_trans KW.out hk)
   clear hk
   refine fc_step rfl (fun K hK => ?_)
   go_simp
   (with_reducible refine (RFT.out y1 KW.out).mono ?_)
   rintro e y2 ⟨rfl,hk⟩
   refine hK _ _ hk ?_
   clear hK K
   have HQ5 : w13.heap.size ≤ y1.heap.size:=Q.out.size
   have Hprev:=Q
   replace Q:=Lib.hid (keep_trans Q.out hk)
   have hs_y2 : y1.heap.size ≤ y2.heap.size:=hk.size
   replace HB:=Lib.hid (HB.out.keep hk)
   replace HQ:=Lib.hid (HQ.out.keep hk)
   replace HG:=Lib.hid (HG.out.keep hk)
   replace RX:=Lib.hid (RX.out.keep hk)
   replace RY:=Lib.hid (RY.out.keep hk)
   replace HU:=Lib.hid (HU.out.keep hk)
   replace HH:=Lib.hid (HH.out.keep hk)
   replace HV:=Lib.hid (HV.out.keep hk)
   replace HI:=Lib.hid (HI.out.keep hk)
   replace KW:=Lib.hid (keep_trans KW.out hk)
   clear hk
   refine fc_nil (mt_take y2 (Below.refl _ _) ?_)
   simp only [pick_cons,pick_nil,nth_zero,nth_succ]
   have RHH:=Lib.hid (range_of HH.out 0 ds8.toList (by simp [List.take_of_length_le]))
   have RHI:=Lib.hid (range_of HI.out 0 ds10.toList (by simp [List.take_of_length_le]))
   have v1 : ∀ y,(convert 31 9 (.slice A6 pb.length c6)).run Try.prog (aft y2 y) = .ok (.string (str pb)) (aft y2 y):=fun y => bcv9 _ (RX.out.keep (aft_keep _ _))
   have v2 : ∀ y,(convert 31 9 (.slice A7 pb.length c7)).run Try.prog (aft y2 y) = .ok (.string (str pb)) (aft y2 y):=fun y => bcv9 _ (RY.out.keep (aft_keep _ _))
   repeat (first | ((with_reducible refine wpQuiet_load_partg g8 0 ds8 (Eq.trans ?_ rfl) RHH.out _ Try.underlying49 rfl hi8 (Eq.trans ?_ rfl) ?_);rfl;rfl;simp only [Act.put,Array.set!_eq_setIfInBounds,List.setIfInBounds_toArray,List.set_cons_succ,List.set_cons_zero]) | ((with_reducible refine wpQuiet_load_partg g10 0 ds10 (Eq.trans ?_ rfl) RHI.out _ Try.underlying39 rfl hi10 (Eq.trans ?_ rfl) ?_);rfl;rfl;simp only [Act.put,Array.set!_eq_setIfInBounds,List.setIfInBounds_toArray,List.set_cons_succ,List.set_cons_zero]) | go_big_quiet_step (fail))
   clear RHH RHI v1 v2
   refine wpQuiet_nil (mt_force ?_)
   simp only [pick_cons,pick_nil,nth_zero,nth_succ]
   refine fc_step rfl (fun K hK => ?_)
   go_simp
   (with_reducible refine (PL.out m8 ds8 y2 HA8.out HM8.out HU.out).mono ?_)
   rintro e y3 ⟨m2,ds2,rfl,a1,a2,a3,hk⟩
   refine hK _ _ hk ?_
   clear hK K
   have HQ22 : w13.heap.size ≤ y2.heap.size:=Q.out.size
   have Hprev:=Q
   replace Q:=Lib.hid (keep_trans Q.out hk)
   have hs_y3 : y2.heap.size ≤ y3.heap.size:=hk.size
   replace HB:=Lib.hid (HB.out.keep hk)
   replace HQ:=Lib.hid (HQ.out.keep hk)
   replace HG:=Lib.hid (HG.out.keep hk)
   replace RX:=Lib.hid (RX.out.keep hk)
   replace RY:=Lib.hid (RY.out.keep hk)
   replace HU:=Lib.hid (HU.out.keep hk)
   replace HH:=Lib.hid (HH.out.keep hk)
   replace HV:=Lib.hid (HV.out.keep hk)
   replace HI:=Lib.hid (HI.out.keep hk)
   replace KW:=Lib.hid (keep_trans KW.out hk)
   have P1:=Lib.hid a1;have P2:=Lib.hid a2;have P3:=Lib.hid a3
   clear a1 a2 a3
   clear hk
   refine fc_step rfl (fun K hK => ?_)
   go_simp
   (with_reducible refine (SM.out m2 ds2 m10 ds10 y3 P1.out HA10.out P2.out HM10.out P3.out HV.out).mono ?_)
   rintro e y4 ⟨rfl,hk⟩
   refine hK _ _ hk ?_
   clear hK K
   have HQ24 : w13.heap.size ≤ y3.heap.size:=Q.out.size
   have Hprev:=Q
   replace Q:=Lib.hid (keep_trans Q.out hk)
   have hs_y4 : y3.heap.size ≤ y4.heap.size:=hk.size
   replace HB:=Lib.hid (HB.out.keep hk)
   replace HQ:=Lib.hid (HQ.out.keep hk)
   replace HG:=Lib.hid (HG.out.keep hk)
   replace RX:=Lib.hid (RX.out.keep hk)
   replace RY:=Lib.hid (RY.out.keep hk)
   replace HU:=Lib.hid (HU.out.keep hk)
   replace HH:=Lib.hid (HH.out.keep hk)
   replace HV:=Lib.hid (HV.out.keep hk)
   replace HI:=Lib.hid (HI.out.keep hk)
   replace KW:=Lib.hid (keep_trans KW.out hk)
   replace P3:=Lib.hid (P3.out.keep hk)
   clear hk
   refine fc_nil (mt_take y4 (Below.refl _ _) ?_)
   simp only [pick_cons,pick_nil,nth_zero,nth_succ]
   repeat (first | go_big_quiet_step (fail))
   refine wpQuiet_nil (mt_force ?_)
   simp only [pick_cons,pick_nil,nth_zero,nth_succ]
   refine fc_step rfl (fun K hK => ?_)
   go_simp
   (with_reducible refine (NM.out y4).mono ?_)
   rintro e y5 ⟨rfl,hk⟩
   refine hK _ _ hk ?_
   clear hK K
   have HQ43 : w13.heap.size ≤ y4.heap.size:=Q.out.size
   have Hprev:=Q
   replace Q:=Lib.hid (keep_trans Q.out hk)
   have hs_y5 : y4.heap.size ≤ y5.heap.size:=hk.size
   replace HB:=Lib.hid (HB.out.keep hk)
   replace HQ:=Lib.hid (HQ.out.keep hk)
   replace HG:=Lib.hid (HG.out.keep hk)
   replace RX:=Lib.hid (RX.out.keep hk)
   replace RY:=Lib.hid (RY.out.keep hk)
   replace HU:=Lib.hid (HU.out.keep hk)
   replace HH:=Lib.hid (HH.out.keep hk)
   replace HV:=Lib.hid (HV.out.keep hk)
   replace HI:=Lib.hid (HI.out.keep hk)
   replace KW:=Lib.hid (keep_trans KW.out hk)
   replace P3:=Lib.hid (P3.out.keep hk)
   clear hk
   refine fc_step rfl (fun K hK => ?_)
   go_simp
   (with_reducible refine (RNM.out y5).mono ?_)
   rintro e y6 ⟨rfl,hk⟩
   refine hK _ _ hk ?_
   clear hK K
   have HQ45 : w13.heap.size ≤ y5.heap.size:=Q.out.size
   have Hprev:=Q
   replace Q:=Lib.hid (keep_trans Q.out hk)
   have hs_y6 : y5.heap.size ≤ y6.heap.size:=hk.size
   replace HB:=Lib.hid (HB.out.keep hk)
   replace HQ:=Lib.hid (HQ.out.keep hk)
   replace HG:=Lib.hid (HG.out.keep hk)
   replace RX:=Lib.hid (RX.out.keep hk)
   replace RY:=Lib.hid (RY.out.keep hk)
   replace HU:=Lib.hid (HU.out.keep hk)
   replace HH:=Lib.hid (HH.out.keep hk)
   replace HV:=Lib.hid (HV.out.keep hk)
   replace HI:=Lib.hid (HI.out.keep hk)
   replace KW:=Lib.hid (keep_trans KW.out hk)
   replace P3:=Lib.hid (P3.out.keep hk)
   clear hk
   refine fc_nil (mt_take y6 (Below.refl _ _) ?_)
   simp only [pick_cons,pick_nil,nth_zero,nth_succ]
   repeat (first | go_big_quiet_step (fail))
   refine wpQuiet_nil (mt_end ?_)
   go_wp2
   exact bodyPost_ret (v:=.bool true) (by simp [results,Try.results3]) rfl ⟨rfl,KW.out⟩
end Go.Proofs.Ytbgpgdhndanigaa
/- Arguments opened to lists, and the last step of a law: it answers true and leaves what was there. -/
set_option linter.unusedSimpArgs false
set_option linter.unusedVariables false
namespace Go.Proofs.Ytbgpgdhndanigaa
open Go.RowKit Go.ChangeShapes Go.WideShapes Go.Deep
theorem addr_plain {w : World} {a : Addr} {v : Value} (h : w.cell? a = some v) : a = ⟨a.block,a.off,none⟩:=by
 obtain ⟨b,o,s⟩:=a
 cases s with
 | none => rfl
 | some x => unfold World.cell? at h;split at h <;> simp at h
theorem Rd.of_add {w : World} {a : Addr} {xs : List Value} (h : ∀ j (hj : j < xs.length),w.cell? (a.add j) = some xs[j]) : Rd w (some a) xs:=by
 by_cases h0 : xs = []
 ·exact .inl h0
 ·have hp : 0 < xs.length:=List.length_pos_iff.2 h0
  have h1:=h 0 hp
  have e : a.add 0 = a:=by unfold Addr.add;simp
  rw [e] at h1
  have ha:=addr_plain h1
  refine .inr ⟨a.block,a.off,by rw [← ha],fun j hj => ?_⟩
  have:=h j hj
  rw [ha,add_lit0] at this
  exact this
theorem list_choose {α β : Type} {f : α → β} {p : α → Prop} : ∀ (l : List β),(∀ x ∈ l,∃ a,x = f a∧p a) → ∃ ys : List α,l = ys.map f∧∀ a ∈ ys,p a
 | [],_ => ⟨[],rfl,by simp⟩
 | x :: l,h => by
   obtain ⟨a,rfl,ha⟩:=h x (by simp)
   obtain ⟨ys,rfl,hys⟩:=list_choose l fun y hy => h y (by simp [hy])
   exact ⟨a :: ys,rfl,by simpa using ⟨ha,hys⟩⟩
section
variable {H : Type} {enc : TypeId × Value → H} {P : Program} {w : World} {spare : Nat → Bool} {held : Bool}
theorem slice_open {t e : TypeId} {size fuel : Nat} {cs : List Value} {x : DataW H × List MemPlace} (ht : P.underlying t = some (.slice e)) (hc : P.cellsOf e = size) (hz : 0 < size)
  (h : DataW.trod enc P w 0 spare held fuel t cs = some x) :
  ∃ (A : Option Addr) (n c : Nat) (Cs : List (List Value)),cs = [.slice A n c]∧n ≤ c∧c ≤ maxLen∧Cs.length = n∧Rd w A Cs.flatten ∧
    ∀ y ∈ Cs,y.length = size∧∃ m z,DataW.trod enc P w 0 spare held m e y = some z:=by
 rcases open_slice ht h with ⟨rfl,_⟩ | ⟨a,len,cap,m,n,D,Pl,rfl,_,hl,hm,hmm,_,hi⟩
 ·exact ⟨none,0,0,[],rfl,Nat.le_refl _,Nat.zero_le _,rfl,.inl rfl,by simp⟩
 ·have hlm : len ≤ m:=by rw [hmm];split <;> omega
  rw [hc] at hi
  obtain ⟨V,hV⟩:=choose_lt (p:=fun i (cs' : List Value) => w.cells? 0 (a.add (i * size)) size = some cs'∧DataW.trod enc P w 0 spare held n e cs' = some (D i,Pl i)) (n:=len) fun i hi' => hi i (by omega)
  have hlen : ∀ y ∈ (List.range len).map V,y.length = size:=by
   intro y hy
   obtain ⟨i,hi',rfl⟩:=List.mem_map.1 hy
   exact (World.cells?_some (hV i (List.mem_range.1 hi')).1).2.1
  refine ⟨some a,len,cap,(List.range len).map V,rfl,hl,hm,by simp,Rd.of_add fun j hj => ?_,fun y hy => ⟨hlen y hy,?_⟩⟩
  ·have hfl : ((List.range len).map V).flatten.length = len * size:=by
    rw [← List.flatMap_id,flatMap_len' id size _ hlen];simp
   have hj' : j < len * size:=by rw [← hfl];exact hj
   have hq : j / size < len:=by rwa [Nat.div_lt_iff_lt_mul hz]
   have hr : j % size < size:=Nat.mod_lt _ hz
   have hcell:=(World.cells?_some (hV (j / size) hq).1).2.2 (j % size) hr
   have hjj : j = j / size * size + j % size:=by rw [Nat.mul_comm];exact (Nat.div_add_mod j size).symm
   have hadd : (a.add (j / size * size)).add (j % size) = a.add j:=by
    rw [add_add',← hjj]
   rw [hadd] at hcell
   rw [hcell,← List.getElem?_eq_getElem hj,← List.flatMap_id]
   conv => rhs;rw [hjj]
   rw [flatMap_get' id size _ hlen (j / size) (j % size) (by simpa using hq) hr]
   simp
  ·obtain ⟨i,hi',rfl⟩:=List.mem_map.1 hy
   exact ⟨n,_,(hV i (List.mem_range.1 hi')).2⟩
theorem bytes_open {t e : TypeId} {fuel : Nat} {cs : List Value} {x : DataW H × List MemPlace} (ht : P.underlying t = some (.slice e)) (he : P.underlying e = some (.int .u8)) (hc : P.cellsOf e = 1)
  (h : DataW.trod enc P w 0 spare held fuel t cs = some x) :
  ∃ (A : Option Addr) (l : List UInt8) (c : Nat),cs = [.slice A l.length c]∧l.length ≤ c∧c ≤ maxLen∧Rd w A (l.map u8v):=by
 obtain ⟨A,n,c,Cs,rfl,h1,h2,rfl,h3,h4⟩:=slice_open ht hc (by omega) h
 obtain ⟨l,rfl,_⟩:=list_choose (f:=fun x : UInt8 => [u8v x]) (p:=fun _ => True) Cs fun y hy => by
  obtain ⟨_,m,z,hz⟩:=h4 y hy
  obtain ⟨n,rfl,_,hw⟩:=DataW.trod_int he hz
  have hb : 0 ≤ n∧n ≤ 255:=by simpa [Lit.wf,IntKind.min,IntKind.max,IntKind.signed,IntKind.bits] using hw
  refine ⟨UInt8.ofNat n.toNat,?_,trivial⟩
  have : ((UInt8.ofNat n.toNat).toNat : Int) = n:=by
   rw [UInt8.toNat_ofNat']
   omega
  show [Value.int .u8 n] = [Value.int .u8 ((UInt8.ofNat n.toNat).toNat : Int)]
  rw [this]
 refine ⟨A,l,c,by simp,by simpa using h1,h2,?_⟩
 have e : (l.map fun x : UInt8 => [u8v x]).flatten = l.map u8v:=by rw [← List.flatMap_def,← List.map_eq_flatMap]
 rwa [e] at h3
end
section
variable {H : Type} {enc : TypeId × Value → H} {P : Program}
theorem trodAll_below (hl : laidOutB P = true) {W W' : World} (hb : Below W.heap.size W W') : ∀ (ts : List TypeId) (vs : List Value) (ds : List (DataW H)) (ps : List MemPlace),
  (∀ t ∈ ts,P.readableRec t = true∧t < P.types.size) → (∀ x ∈ ps,x.block < W.heap.size) → DataW.TrodAll enc P W 0 (fun _ => true) true ts vs ds ps →
  DataW.TrodAll enc P W' 0 (fun b => decide (b < W.heap.size)) true ts vs ds ps
 | [],[],[],ps,_,_,h => h
 | t :: ts,v :: vs,d :: ds,ps,hr,hlt,h => by
   obtain ⟨p,q,h1,h2,rfl⟩:=h
   exact ⟨p,q,Below.trod hl (hr t (by simp)).1 (hr t (by simp)).2 h1 hb fun x hx => hlt x (by simp [hx]),
    trodAll_below hl hb ts vs ds q (fun t ht => hr t (by simp [ht])) (fun x hx => hlt x (by simp [hx])) h2,rfl⟩
 | [],_ :: _,_,_,_,_,h => by cases h
 | [],[],_ :: _,_,_,_,h => by cases h
 | _ :: _,[],_,_,_,_,h => by cases h
 | _ :: _,_ :: _,[],_,_,_,h => by cases h
theorem law_post {f : Func} {s : ChangeSpec} {apart fresh handsOn : Bool} {W W' : World} {args : Array Value} {ds gs : List (DataW H)} {before : List MemPlace} {tb : TypeId}
  (hW : DataW.Whole enc P f.params.toList s.vars apart W args.toList ds gs before) (hv : s.vars = []) (hl : laidOutB P = true)
  (hrB : (f.params.toList.all fun t => P.readableRec t && decide (t < P.types.size)) = true) (hres : f.resultTypes = #[tb]) (htb : P.underlying tb = some .bool)
  (hs : s.fn H ds = { results:=[.lit (.bool true)],args:=ds }) (hb : Below W.heap.size W W') :
  s.post enc P f apart fresh handsOn false W args (.bool true) W':=by
 have hr : ∀ t ∈ f.params.toList,P.readableRec t = true∧t < P.types.size:=fun t ht => by
  have:=List.all_eq_true.1 hrB t ht
  simpa using this
 have hW':=hW
 obtain ⟨p,q,hA,hV,rfl,hfz,hnd⟩:=hW
 rw [hv] at hV
 obtain ⟨rfl,rfl⟩:=trodVars_none hV
 simp only [List.append_nil] at hW'
 have hlt : ∀ x ∈ p,x.block < W.heap.size:=fun x hx => hW'.lt x (by simpa using hx)
 refine ⟨ds,[],p,[],p,[],by simpa using hW',?_,?_,?_,hb.frame _,fun h => by cases h⟩
 ·rw [List.append_nil,hs,hres]
  exact trodAll_mk1 (shut_bool htb true)
 ·rw [List.append_nil,hs]
  exact trodAll_below hl hb _ _ _ _ hr hlt hA
 ·rw [List.append_nil,hs,hv]
  exact rfl
end
end Go.Proofs.Ytbgpgdhndanigaa
/- Numbers, hashes and headers that came in, opened. -/
set_option linter.unusedSimpArgs false
set_option linter.unusedVariables false
namespace Go.Proofs.Ytbgpgdhndanigaa
open Go.RowKit Go.ChangeShapes Go.WideShapes Go.ChangeAt Go.Deep
theorem cellsByte : Try.prog.cellsOf 5 = 1:=by kernel_rfl
theorem word_ofJ {x : Int} (h : 0 ≤ x∧x ≤ 4294967295) : ∃ t : UInt32,x = (t.toNat : Int):=⟨w32 x,w32_of h.1 h.2⟩
theorem byte_ofJ {x : Int} (h : 0 ≤ x∧x ≤ 255) : ∃ t : UInt8,x = (t.toNat : Int):=⟨w8 x,w8_of h.1 h.2⟩
theorem word_openJ {H : Type} {enc : TypeId × Value → H} {w : World} {spare : Nat → Bool} {held : Bool} {fuel : Nat} {cs : List Value} {x : DataW H × List MemPlace}
  (h : DataW.trod enc Try.prog w 0 spare held fuel 22 cs = some x) : ∃ t : UInt32,cs = [u32v t]:=by
 obtain ⟨k,ek,_,wk⟩:=DataW.trod_int Try.underlying22 h
 obtain ⟨t,rfl⟩:=word_ofJ (x:=k) (by simpa [Lit.wf,IntKind.min,IntKind.max,IntKind.signed,IntKind.bits] using wk)
 exact ⟨t,ek⟩
theorem cellsHeaderJ : Try.prog.cellsOf 30 = 68:=by kernel_rfl
theorem cellsHashJ : Try.prog.cellsOf 27 = 32:=by kernel_rfl
theorem cellsWordJ : Try.prog.cellsOf 22 = 1:=by kernel_rfl
theorem underHashJ : Try.prog.underlying 27 = some (.array 32 5):=by kernel_rfl
theorem hash_openJ {H : Type} {enc : TypeId × Value → H} {w : World} {spare : Nat → Bool} {held : Bool} {fuel : Nat} {cs : List Value} {x : DataW H × List MemPlace}
  (h : DataW.trod enc Try.prog w 0 spare held fuel 27 cs = some x) : ∃ l : List UInt8,cs = l.map u8v∧l.length = 32:=by
 obtain ⟨xs,m,_,_,h1,h2,h3⟩:=DataW.trod_array underHashJ h
 rw [cellsHashJ] at h1
 obtain ⟨l,rfl,_⟩:=list_choose (f:=u8v) (p:=fun _ => True) cs fun u hu => by
  obtain ⟨i,hi,rfl⟩:=List.mem_iff_getElem.1 hu
  have h4:=h3 i (by omega)
  rw [cellsByte,Nat.mul_one,List.getElem?_eq_getElem (by omega)] at h4
  obtain ⟨k,ek,_,wk⟩:=DataW.trod_int Try.underlying5 h4
  obtain ⟨t,rfl⟩:=byte_ofJ (x:=k) (by simpa [Lit.wf,IntKind.min,IntKind.max,IntKind.signed,IntKind.bits] using wk)
  rw [List.drop_eq_getElem_cons hi,List.take_succ_cons,List.take_zero] at ek
  exact ⟨t,(List.cons.inj ek).1,trivial⟩
 exact ⟨l,rfl,by simpa using h1⟩
theorem header_openJ {H : Type} {enc : TypeId × Value → H} {w : World} {spare : Nat → Bool} {held : Bool} {fuel : Nat} {cs : List Value} {x : DataW H × List MemPlace}
  (h : DataW.trod enc Try.prog w 0 spare held fuel 30 cs = some x) : ∃ r : Hd,cs = r.cells∧r.ok:=by
 obtain ⟨xs,n,_,_,hl,hx,F⟩:=DataW.trod_struct Try.underlying30 h
 rw [cellsHeaderJ] at hl
 have hx' : xs.length = 6:=hx
 have g : ∀ (i : Nat) (hi : i < 6),xs[i]? = some (xs[i]'(by omega)):=fun i hi => List.getElem?_eq_getElem (by omega)
 have f0 : DataW.trod enc Try.prog w 0 spare held n 22 ((cs.drop 0).take (Try.prog.cellsOf 22)) = some _:=(F 0 _ rfl).trans (g 0 (by omega))
 have f1 : DataW.trod enc Try.prog w 0 spare held n 27 ((cs.drop 1).take (Try.prog.cellsOf 27)) = some _:=(F 1 _ rfl).trans (g 1 (by omega))
 have f2 : DataW.trod enc Try.prog w 0 spare held n 27 ((cs.drop 33).take (Try.prog.cellsOf 27)) = some _:=(F 2 _ rfl).trans (g 2 (by omega))
 have f3 : DataW.trod enc Try.prog w 0 spare held n 22 ((cs.drop 65).take (Try.prog.cellsOf 22)) = some _:=(F 3 _ rfl).trans (g 3 (by omega))
 have f4 : DataW.trod enc Try.prog w 0 spare held n 22 ((cs.drop 66).take (Try.prog.cellsOf 22)) = some _:=(F 4 _ rfl).trans (g 4 (by omega))
 have f5 : DataW.trod enc Try.prog w 0 spare held n 22 ((cs.drop 67).take (Try.prog.cellsOf 22)) = some _:=(F 5 _ rfl).trans (g 5 (by omega))
 simp only [cellsWordJ,cellsHashJ] at f0 f1 f2 f3 f4 f5
 obtain ⟨a,ea⟩:=word_openJ f0
 obtain ⟨p,ep,hp⟩:=hash_openJ f1
 obtain ⟨q,eq,hq⟩:=hash_openJ f2
 obtain ⟨t,et⟩:=word_openJ f3
 obtain ⟨b,eb⟩:=word_openJ f4
 obtain ⟨c,ec⟩:=word_openJ f5
 have key : ∀ (l : List Value) (i k : Nat),l.drop i = (l.drop i).take k ++ l.drop (i + k):=fun l i k => by
  have h1:=(List.take_append_drop k (l.drop i)).symm
  rwa [List.drop_drop] at h1
 refine ⟨⟨a,p,q,t,b,c⟩,?_,hp,hq⟩
 have e : cs = cs.drop 0:=rfl
 rw [e,key cs 0 1,ea,key cs (0 + 1) 32,ep,key cs (0 + 1 + 32) 32,eq,key cs (0 + 1 + 32 + 32) 1,et,key cs (0 + 1 + 32 + 32 + 1) 1,eb,key cs (0 + 1 + 32 + 32 + 1 + 1) 1,ec,List.drop_eq_nil_of_le (by omega)]
 simp [Hd.cells]
theorem heads_openJ {H : Type} {enc : TypeId × Value → H} {w : World} {spare : Nat → Bool} {held : Bool} {fuel : Nat} {cs : List Value} {x : DataW H × List MemPlace}
  (h : DataW.trod enc Try.prog w 0 spare held fuel 24 cs = some x) :
  ∃ (A : Option Addr) (l : List Hd) (c : Nat),cs = [.slice A l.length c]∧l.length ≤ c∧c ≤ maxLen∧Rd w A (l.flatMap Hd.cells)∧∀ y ∈ l,y.ok:=by
 obtain ⟨A,n,c,Cs,rfl,h1,h2,rfl,h3,h4⟩:=slice_open Try.underlying24 cellsHeaderJ (by omega) h
 obtain ⟨l,rfl,hok⟩:=list_choose (f:=Hd.cells) (p:=Hd.ok) Cs fun y hy => by
  obtain ⟨_,m,z,hz⟩:=h4 y hy
  exact header_openJ hz
 refine ⟨A,l,c,by simp,by simpa using h1,h2,?_,hok⟩
 rwa [← List.flatMap_def] at h3
end Go.Proofs.Ytbgpgdhndanigaa
