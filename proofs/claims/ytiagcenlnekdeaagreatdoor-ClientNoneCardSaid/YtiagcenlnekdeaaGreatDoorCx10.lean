/- Texts merged by pack.py: Qd, JoA. -/
import Derived.Test.YtiagcenlnekdeaaGreatDoorCx9
import Derived.Test.YtiagcenlnekdeaaGreatDoorCx5
import Derived.Test.YtiagcenlnekdeaaGreatDoorCx7
import Derived.Deep.AppendSrc
import Derived.Deep.RegionLaw
import Derived.Great.BuildSlice
set_option maxRecDepth 1000000
set_option maxHeartbeats 16000000
open Go.Proofs.Tryz
open Go.Lib (hid)
set_option linter.unusedSimpArgs false
set_option linter.unusedVariables false
namespace Go.Proofs.YtiagcenlnekdeaaGreatDoor
open Go.RowKit
attribute [local go_sem ↓] Go.wp_at_zero Go.wp_at_succ
def qW (p:aW):aW:=if zM p then p else pg p.magic p.cap
theorem WV (p:aW) (cs:Array Value) (hA:bZ p cs) (hr:p.rs=[]) (w:World) :
  Calls prog 108 #[.agg cs] w fun e w' => ∃ ds,e = .returned (.agg ds)∧bZ (qW p) ds∧Keep w w':=by
 obtain⟨zs,hz0,aU⟩:=yD;have JC:Hid (∀ y,Calls prog 154 #[.agg cs] y fun e w'=>e = .returned (.bool (zM p))∧Keep y w'):=hid fun y=>b8p p cs hA hr y;have Ar:Hid (∀ y,Calls prog 75 #[ag p.magic,iv p.cap] y fun e w' => ∃ ps,e = .returned (.agg ps)∧bZ (pg p.magic p.cap) ps∧Keep y w'):=hid fun y=>WU _ _ y;have HT:Hid (qW p=if zM p then p else pg p.magic p.cap):=hid rfl;have hcn:=hA.n;have hcz:=hA.z;have hci:=hA.i
 have hzn:=aU.n;have hzz:=aU.z
 have HA:=hid hA;have HZ:=hid aU
 clear hA aU hr;generalize qW p=T at *;generalize zM p=S at *;generalize pg p.magic p.cap=N at *;go_enter func108,ntmps108
 go_upto_region 1 with fail
 obtain⟨w1,hw1,HB1,HR1,ai,-⟩:=qF w 52 52 cs zs;rw[←hw1];clear hw1;go_wp2_with ((with_reducible refine bY w.heap.size cs (Eq.trans ?_ rfl) HB1.out _ underlying52 rfl hci ?_);rfl)
 refine(JC.out _).mono ?_;clear JC;rintro e w2 ⟨rfl,k2⟩;have HB2:=hid (HB1.out.keep k2);have HR2:=hid (HR1.out.keep k2);have ay:=hid (af ai.out k2);clear k2 HB1 HR1 ai;have vg:Hid (ae w2 w.heap.size 52 p.cells):=by rw[←HA.out.l];exact HB2
 cases S
 ·have r6:w2.cell? ⟨w.heap.size,6,none⟩=some (ag p.magic):=(vg.out.cell 6).trans rfl
  have r7:w2.cell? ⟨w.heap.size,7,none⟩=some (iv p.cap):=(vg.out.cell 7).trans rfl;go_wp2_with fail
  refine(Ar.out _).mono ?_;clear Ar r6 r7;rintro e w3 ⟨ps,rfl,hpA,k3⟩;have hpn:=hpA.n;have hpz:=hpA.z;have hpi:=hpA.i
  have HP:=hid hpA;have aA:=hid (af ay.out k3);obtain⟨w8,fQ,aY,bf⟩:=jo ps.toList (HR2.out.keep k3) (by rw[Array.length_toList,Array.length_toList,hzz,hpz]) hpA.o;clear hpA k3 HB2 HR2 ay vg;go_wp2
  exact bodyPost_ret (v:=.agg ps) (gJ results108 aY.out underlying52 hpi rfl rfl) rfl ⟨ps,rfl,by rw[HT.out];exact HP.out,aK aA.out bf.out (by omega)⟩
 ·obtain⟨w8,fQ,aY,bf⟩:=jo cs.toList HR2.out (by rw[Array.length_toList,Array.length_toList,hzz,hcz]) HA.out.o
  clear HR2 vg;go_wp2_with ((with_reducible refine bY w.heap.size cs (Eq.trans ?_ rfl) HB2.out _ underlying52 rfl hci ?_);rfl)
  exact bodyPost_ret (v:=.agg cs) (gJ results108 aY.out underlying52 hci rfl rfl) rfl ⟨cs,rfl,by rw[HT.out];exact HA.out,aK ay.out bf.out (by omega)⟩
section
variable {P:Program}
theorem b8Z {t e:TypeId} {z:Value} (T:dL P t e z 1 1) (w:World) (ty:TypeId) (A:Option Addr) (n:Nat) (xs:List Value) (hx:xs.length=n) (hr:Rd w A xs)
  (B:Option Addr) (m c:Nat) (news:List Value) (hm:news.length=m) (h0:0<m) (hn:Rd w B news) (h1 : ∀ u∈news,u.oneCell'=true) (hb:n+m≤100000000) :
  ∃ v' w',(Builtin.append_ #[t,t] ty #[.slice A n n,.slice B m c]).run P w = .ok v' w'∧w'.ownsRow w.heap.size e 1 v' (n+m) (xs++news)∧Keep w w':=by
 obtain⟨i,hi,hz,hsz,hby⟩:=T.info;rcases hn with rfl | ⟨b,off,rfl,hc⟩
 ·simp at hm;omega
 have hs:Src P i.size t (.slice (some ⟨b,off,none⟩) m c) m news w:=Src.ofSlice w T.und ⟨b,off,none⟩ m c news (by rw[hsz,hm,Nat.mul_one]) (fun j u hu=>by
  obtain⟨hj,rfl⟩:=List.getElem?_eq_some_iff.1 hu
  rw[qE];exact hc j hj) h1
 have hold:(Builtin.firstCells i.size n (.slice A n n)).run P w.drew = .ok xs.toArray w.drew:=by
  rcases hr with rfl | ⟨b2,yx,rfl,hc2⟩
  ·have h00:n=0:=by simpa using hx.symm
   subst h00
   cases A <;> simp[Builtin.firstCells,loadCells,loadCellsFrom]
  ·exact run_firstCells_some w.drew i.size n ⟨b2,yx,none⟩ n n xs (by rw[hsz,hx,Nat.mul_one]) (fun j u hu=>by
    obtain⟨hj,rfl⟩:=List.getElem?_eq_some_iff.1 hu
    rw[qE];exact hc2 j hj)
 have hge:=grownCap_ge w (n+m) n e;have hcm:grownCap w (n+m) n e≤maxLen:=grownCap_le_maxLen w (n+m) n e (by unfold maxLen;omega);have hrun:=run_append_grow_src w t t ty e i z T.und hi hz A n n xs hold _ m news hs (by omega) (by omega) (growslice_fits (by omega) (by rw[hby];omega));refine⟨_,_,hrun,⟨by simp[hx,hm],.inr ⟨w.heap.size,grownCap w (n+m) n e,(xs++news).toArray++Builtin.zeroCells z.cells (grownCap w (n+m) n e - (n+m)),rfl,Nat.le_refl _,?_,hge,hcm,?_,?_⟩⟩,?_⟩
 ·exact heap_alloc_new w.drew _
 ·simp[size_zeroCells,T.zs,hx,hm];omega
 ·rw[Array.toList_append,List.take_left' (by simp[hx,hm])]
 ·exact((Below.refl w.heap.size w).drew).alloc (Nat.le_refl _) _
theorem c07 {t e:TypeId} {z:Value} (T:dL P t e z 1 1) {w:World} {ops:Array Oper} {rest:List Oper} {a:Act} {Q:Exit→Act→World→Prop} {s x:Operand} {dst:Option Tmp} {ty:TypeId} {pos:String} {eG:Array Edge}
  (A:Option Addr) (n:Nat) (xs:List Value) (hsv:a.eval s = .slice A n n) (hx:xs.length=n) (hr:Rd w A xs)
  (B:Option Addr) (m c:Nat) (news:List Value) (hxv:a.eval x = .slice B m c) (hm:news.length=m) (h0:0<m) (hn:Rd w B news) (h1 : ∀ u∈news,u.oneCell'=true) (hb:n+m≤100000000)
  (h : ∀ v' w',w'.ownsRow w.heap.size e 1 v' (n+m) (xs++news)→Keep w w'→wpList P ops Q rest (a.put dst v') w') :
  wpList P ops Q ({ dst:=dst,op:=.call { callee:=.builtin .append,args:=#[s,x],argTypes:=#[t,t]},type:=ty,pos:=pos,after:=eG,guard:=none}::rest) a w:=by
 obtain⟨v',w',hrun,h2,h3⟩:=b8Z T w ty A n xs hx hr B m c news hm h0 hn h1 hb;refine wpList_plain rfl fun K hK=>?_;unfold Oper.wp execOp;simp only[resolve,invoke,builtin,Sem.run_bind,Sem.run_pure,Result.andThen_ok,List.map_toArray,List.map_cons,List.map_nil,hsv,hxv,hrun];exact hK _ _ (h v' w' h2 h3)
theorem c09 {w0:World} {ops:Array Oper} {rest:List Oper} {a:Act} {Q:Act→Prop} {x:Operand} {dst:Option Tmp} {ty ty' t:TypeId} {pos:String} {eG:Array Edge}
  (g:Nat) (cs:Array Value) (hx:a.eval x = .pointer (some ⟨g,0,none⟩)) (hb:ae w0 g t cs.toList) (d:TypeDesc) (hu:P.underlying ty=some d) (hd:d.isRow=true) (hi:(P.info? ty).map (·.size)=some cs.size)
  (h:wpQuiet P ops (fun w' => ∃ x,w'=dn w0 x) Q rest (a.put dst (.agg cs))) :
  wpQuiet P ops (fun w' => ∃ x,w'=dn w0 x) Q ({ dst:=dst,op:=.load ty x,type:=ty',pos:=pos,after:=eG,guard:=none}::rest) a:=by
 refine BigFrame.wpQuiet_want (by simp[Region.wanted]) fun K hK=>⟨.agg cs,fun w hw=>?_,hK _ h⟩
 obtain⟨y,rfl⟩:=hw;have hb2:=hb.keep (jg w0 y);unfold Oper.quietAt execOp;have hl:=run_loadVar_mid (P:=P) (dn w0 y) g 0 ty cs.toList d (fun j v hv=>by rw[Nat.zero_add,hb2.cell];exact hv) hu hd (by simpa using hi);simp only[hx,Instr.loadAt,Instr.sureAddr,Sem.run_bind,Sem.run_pure,Result.andThen_ok,hl,Array.toArray_toList];exact⟨rfl,rfl⟩
end
theorem b8R {P:Program} {fn:Func} {p u:Tmp} {ty:TypeId} (h:fn.results = #[.tmp u,.cell p ty]) (tmps:Array Value) (w:World) (g:Nat) (t:TypeId) (cs:Array Value) (fr:Nat × Nat) (d:TypeDesc)
  (hp:tmps.getD p undef = .pointer (some ⟨g,0,none⟩)) (hg:w.heap[g]?=some (.cells cs t fr))
  (hu:P.underlying ty=some d) (hd:(match d with | .struct _ | .array _ _=>true | _=>false)=true) (hi:(P.info? ty).map (·.size)=some cs.size) :
  (results fn tmps).run P w = .ok (.tuple #[tmps.getD u undef,.agg cs]) w:=by
 have hp':tmps[p]?.getD undef = .pointer (some ⟨g,0,none⟩):=by simpa using hp
 simp[results,h,hp',asAddr,run_loadVar_row w g t ty cs fr d hg hu hd hi]
theorem wU {w:World} {b b':Nat} {e:TypeId} {size:Nat} {v:Value} {n:Nat} {xs:List Value} (h:w.ownsRow b e size v n xs) (hb:b'≤b):w.ownsRow b' e size v n xs :=
 ⟨h.1,h.2.imp id fun⟨g,cap,cur,e1,e2,e3⟩=>⟨g,cap,cur,e1,Nat.le_trans hb e2,e3⟩⟩
def zN (seq:Int):UInt32:=w32 ((seq%4294967296+1)%4294967296)
def zK (seq:Int) (h:Hd):List UInt8:=le4 (zN seq)++(ji h++List.replicate 12 0)
def kK (last:List UInt8) (seq:Int) (h:Hd):List UInt8:=jH (last++zK seq h)
def iT (last:List UInt8) (seq:Int) (h:Hd):List UInt8:=zK seq h++kK last seq h
theorem a5W (seq:Int) {h:Hd} (hk:h.ok):(zK seq h).length=96:=by simp[zK,le4,DW hk]
theorem LY (last:List UInt8) (seq:Int) {h:Hd} (hk:h.ok):(iT last seq h).length=128:=by
 rw[iT,List.length_append,a5W seq hk];unfold kK;rw[uw]
theorem a00 (x:UInt32):Value.int .u8 ((x.toNat:Int)%256)=ah (w8 (dN x 0)):=by
 have e:(x.toNat:Int)%256=dN x 0:=by unfold dN;simp
 rw[e];unfold ah;rw[←rW (by unfold dN;omega) (by unfold dN;omega)]
theorem a01 (x:UInt32):Value.int .u8 ((x.toNat:Int)/256%256)=ah (w8 (dN x 1)):=by
 have e:(x.toNat:Int)/256%256=dN x 1:=by unfold dN;rfl
 rw[e];unfold ah;rw[←rW (by unfold dN;omega) (by unfold dN;omega)]
theorem a02 (x:UInt32):Value.int .u8 ((x.toNat:Int)/65536%256)=ah (w8 (dN x 2)):=by
 have e:(x.toNat:Int)/65536%256=dN x 2:=by unfold dN;rfl
 rw[e];unfold ah;rw[←rW (by unfold dN;omega) (by unfold dN;omega)]
theorem a03 (x:UInt32):Value.int .u8 ((x.toNat:Int)/16777216)=ah (w8 (dN x 3)):=by
 have hx:=G6 x
 have e:(x.toNat:Int)/16777216=dN x 3:=by
  unfold dN
  show _=(x.toNat:Int)/16777216%256
  omega
 rw[e];unfold ah;rw[←rW (by unfold dN;omega) (by unfold dN;omega)]
theorem b8M (x:UInt32):(((((List.replicate 128 (0:UInt8)).map ah).set 0 (ah (w8 (dN x 0)))).set 1 (ah (w8 (dN x 1)))).set 2 (ah (w8 (dN x 2)))).set 3 (ah (w8 (dN x 3)))=(le4 x++(List.replicate 80 0++List.replicate 44 0)).map ah:=by rfl
theorem a5X (last:List UInt8) (ls:Array Value) (seq:Int) (h:Hd) (hs:Array Value) (w:World) (hls:aX last ls) (hll:last.length=32) (hk:h.ok) (bH:bF h hs) (hS:bV w) :
  Calls prog 186 #[.agg ls,.int .i64 seq,.agg hs] w fun e w' => ∃ A c ds,e = .returned (.tuple #[.slice A 128 c,.agg ds])∧aX (kK last seq h) ds∧w'.ownsRow w.heap.size 5 1 (.slice A 128 c) 128 ((iT last seq h).map ah)∧Keep w w':=by
 obtain⟨zs,hz1,hz2,hz3,jb⟩:=BD;have hcz:=hls.z;have hcn:=hls.n;have hdz:=bH.z;have hdn:=bH.n;have hdi:=bH.i
 have nN:=hid hls;have Ap:=hid bH;have Hll:=hid hll;have Hk:=hid hk;have HS:=hid hS
 clear hls bH hll hk hS;have N7:Hid (∀ d,zK seq h=d→iT last seq h=d++jH (last++d)∧kK last seq h=jH (last++d)):=fun d e=>by subst e;exact⟨rfl,rfl⟩
 have CU:Hid (zK seq h=le4 (zN seq)++(ji h++List.replicate 12 0)):=rfl;have Hpl:Hid ((ji h).length=80):=DW Hk.out;have P1:Hid (∀ w',Calls prog 141 #[.agg hs] w' fun e w'' => ∃ A,e = .returned (.slice A 80 80)∧Rd w'' A ((ji h).map ah)∧Keep w' w''):=fun w'=>a3F h hs w' Hk.out Ap.out;generalize iT last seq h=RB at N7 ⊢;generalize kK last seq h=iZ at N7 ⊢;generalize zK seq h=bU at N7 CU;generalize ji h=hp at CU Hpl P1;go_enter func186,ntmps186
 go_upto_region 2 with fail
 obtain⟨w1,hw1,-,hH,hR,jK,-⟩:=FM w 27 29 27 ls hs zs;replace hH:=hH.out;replace hR:=hR.out;replace jK:=jK.out
 have hL:ae w1 w.heap.size 27 (last.map ah):=by
  rw[hw1];exact(((show ae _ w.heap.size _ (last.map ah) by rw[←nN.out.l];exact ae.new w _ ls.toList).alloc _).alloc _)
 have Gf:w.heap.size+3=w1.heap.size:=by rw[hw1];simp
 rw[←hw1];clear hw1;rw[show Value.int .u32 ((seq%4294967296+1)%4294967296)=ag (zN seq) from Xv (by omega) (by omega)];generalize zN seq=n at CU ⊢;have hn32:=G6 n;obtain⟨wm,hmk,hbm,km,hsz⟩:=Ll 96 128 96 128 rfl rfl (by omega) (by omega) w1;have c0:=hbm.cell 0;have c1:=hbm.cell 1;have c2:=hbm.cell 2;have c3:=hbm.cell 3
 simp only[List.getElem?_map,List.getElem?_replicate]at c0 c1 c2 c3;have f0:=hbm.frozen 0;have f1:=hbm.frozen 1;have f2:=hbm.frozen 2;have f3:=hbm.frozen 3
 have xP:=hid hbm;have a0a:=hid km
 clear hbm hsz;go_upto_region 4 with fail
 obtain⟨w2,hw2⟩ : ∃ w2,w2=(((wm.setCell ⟨w1.heap.size,0,none⟩ (.int .u8 ((n.toNat:Int)%256))).setCell ⟨w1.heap.size,1,none⟩ (.int .u8 ((n.toNat:Int)/256%256))).setCell ⟨w1.heap.size,2,none⟩ (.int .u8 ((n.toNat:Int)/65536%256))).setCell ⟨w1.heap.size,3,none⟩ (.int .u8 ((n.toNat:Int)/16777216)):=⟨_,rfl⟩
 have pJ:Hid (ae w2 w1.heap.size 5 ((le4 n++(List.replicate 80 0++List.replicate 44 0)).map ah)):=by
  rw[hw2,a00,a01,a02,a03,←b8M];exact(((xP.out.az 0 _).az 1 _).az 2 _).az 3 _
 have ay:Hid (Keep w1 w2):=by
  rw[hw2];iterate 4 (refine Below.setCell ?_ (by simp) _)
  exact km
 rw[←hw2];clear hw2 hmk c0 c1 c2 c3 f0 f1 f2 f3;refine bu (.take [0,1,2] (.force [3] .done)) [4] (by kernel_rfl) (by kernel_rfl) (fun w3 k3=>?_);have zD:=af (af jK ay.out) k3;have hH3:Hid (ae w3 (w.heap.size+1) 29 hs.toList):=hH.keep (af ay.out k3);refine aN w3 (Below.refl _ _) ?_;simp only[au,ax,ak,aj];go_big_quiet_step (fail)
 go_big_quiet_step (fail)
 (with_reducible refine c09 (w.heap.size+1) hs (Eq.trans ?_ rfl) hH3.out _ underlying29 rfl hdi ?_)
 rfl;simp only[Act.put,Array.set!_eq_setIfInBounds,List.setIfInBounds_toArray,List.set_cons_succ,List.set_cons_zero];refine wpQuiet_nil (bI ?_);simp only[au,ax,ak,aj];refine aI rfl (fun K hK=>?_);go_simp
 (with_reducible refine(P1.out _).mono ?_)
 rintro e w4 ⟨A4,rfl,hr4,hk⟩;refine hK _ _ hk ?_;clear hK K;have k4:=af k3 hk;have a8T:=hid (pJ.out.keep k4);have CW:=hid hr4
 have aQ:=hid (af ay.out k4);clear hk hr4 zD hH3 k3;refine aS (aT ?_);refine ML vY (by rfl) _ _ (by rfl) w1.heap.size 4 80 124 (by rfl) A4 80 80 (hp.map ah) (by rfl) (by rw[List.length_map];exact Hpl.out) CW.out (jL _) _ _ a8T.out (by simp[le4]) ?_;intro w5 KF hg5;simp only[Act.put,Array.set!_eq_setIfInBounds,List.setIfInBounds_toArray,List.set_cons_succ,List.set_cons_zero];have VN:hp.length=80:=Hpl.out
 have ER:Hid (ae w5 w1.heap.size 5 ((bU++List.replicate 32 0).map ah)):=by
  have h:=KF.out;rw[List.take_of_length_le (by rw[List.length_map];omega),GK,GL (le4 n) _ _ hp 4 rfl (by rw[VN,List.length_replicate])]at h;rw[CU.out]
  have e:le4 n++(hp++List.replicate 12 (0:UInt8))++List.replicate 32 0=le4 n++(hp++List.replicate 44 0):=by
   rw[List.append_assoc,List.append_assoc,List.replicate_append_replicate]
  rw[e];exact h
 have DC:Hid (bU.length=96):=by rw[CU.out];simp[Hid,le4,VN]
 have aJ:Hid (Keep w1 w5):=aK aQ.out hg5 (by omega);have nZ:=aJ.out.size;clear KF hg5 k4 VN;have tX:=hid (hL.keep aJ.out);have kX:=hid (hR.keep aJ.out)
 have KW:=af jK aJ.out
 have yM:Hid (Rd w5 (some ⟨w1.heap.size,0,none⟩) (bU.map ah)):=by
  have h:=ER.out.rd.take 96;rw[←List.map_take,List.take_left' DC.out]at h;exact h
 have D1:Hid (∀ w' A' c',Keep w w'→Rd w' A' ((last++bU).map ah)→128≤c'→c'≤maxLen→Calls prog 34 #[.slice A' 128 c'] w' fun e w''=>e = .returned (zl (jH (last++bU)))∧Keep w' w''):=fun w' A' c' hk hr hc hm=>by
  have hl:(last++bU).length=128:=by rw[List.length_append,Hll.out,DC.out]
  have h:=JQ A' (last++bU) c' w' (HS.out.keep hk) hr (by omega) hm (by omega);rw[hl]at h;exact h
 obtain⟨Dy,Ba⟩:=N7.out bU rfl;obtain⟨ds,hds⟩ : ∃ ds,aX iZ ds:=⟨_,aX.of (by rw[Ba];exact uw _)⟩
 have D2:Hid (∀ w' A' c',Keep w w'→Rd w' A' ((last++bU).map ah)→128≤c'→c'≤maxLen→Calls prog 34 #[.slice A' 128 c'] w' fun e w''=>e = .returned (.agg ds)∧Keep w' w''):=fun w' A' c' hk hr hc hm =>
  (D1.out w' A' c' hk hr hc hm).mono fun e w'' ⟨h1,h2⟩=>⟨by rw[h1,←Ba];unfold zl;rw[hds.e],h2⟩
 have hsz:=hds.z;have hsn:=hds.n
 have dZ:=hid hds;have EX:=hid Dy;have a9i:=hid Ba
 have hst1 : ∀ ww:World,(storeCells ⟨ww.heap.size,0,none⟩ ds.toList 0).run prog (ww.alloc (.cells zs 27)) = .ok () (ww.alloc (.cells ds 27)):=fun ww=>fK ww 27 dZ.out.i (hz1.trans hsz.symm) dZ.out.o;clear hds Dy Ba D1;go_wp2_with (at_builtin;refine c07 vY (some ⟨w.heap.size,0,none⟩) 32 (last.map ah) (by rfl) (by rw[List.length_map];exact Hll.out) tX.out.rd (some ⟨w1.heap.size,0,none⟩) 96 128 (bU.map ah) (by rfl) (by rw[List.length_map];exact DC.out) (by omega) yM.out (jL _) (by omega) ?_;intro v6 w6 Bl hk6;have a5z:=jm Bl (n':=128) (xs':=(last++bU).map ah) (by omega) (by rw[List.map_append]);obtain⟨A6,c6,rfl,hc6,a3t,KL⟩:=dD a5z)
 have KX:=af KW hk6;refine(D2.out w6 A6 c6 KX KL hc6 a3t).mono ?_;rintro e w7 ⟨rfl,k7⟩;have c4l:=af KX k7;have PQ:=af hk6 k7;have SC:=hid (ER.out.keep PQ);have yR:=hid (kX.out.keep PQ)
 clear Bl a5z KL a3t hc6;go_upto_region 6 with fail
 have bT:=hid (af aJ.out PQ);obtain⟨w9,iD,Cm,-,-⟩:=di w7 27 ds;have BX:Hid (ae w9 w1.heap.size 5 ((bU++List.replicate 32 0).map ah)):=by rw[iD];exact SC.out.alloc _
 have iy:Hid (ae w9 (w.heap.size+1+1) 27 zs.toList):=by rw[iD];exact yR.out.alloc _
 have bP:Hid (Keep w1 w9):=by rw[iD];exact af bT.out (aB _ _)
 rw[←iD];have b5K:w1.heap.size<w7.heap.size:=SC.out.lt;clear iD hst1 SC yR k7 PQ HS;generalize w7.heap.size=S at Cm b5K ⊢
 have LP:w9.ownsRow w1.heap.size 5 1 (.slice (some ⟨w1.heap.size,0,none⟩) 96 128) 96 (bU.map ah):=by
  have h:w9.heap[w1.heap.size]?=some (.cells (splice ((bU++List.replicate 32 0).map ah) 0 (bU.map ah)).toArray 5 (0,0)):=by
   have e:splice ((bU++List.replicate 32 (0:UInt8)).map ah) 0 (bU.map ah)=(bU++List.replicate 32 0).map ah:=by
    rw[GK];congr 1;simp[splice]
   rw[e];exact BX.out
  exact LQ (n:=96) (c:=128) h (Nat.le_refl _) (by rw[List.length_map];exact DC.out) (by have:bU.length=96:=DC.out;simp[this]) (by omega) (by unfold maxLen;omega)
 have OA:=hid LP;have hi9:=dZ.out.i;have VV:=bP.out.size;clear LP;letI jc:G.Mk:=⟨some w1.heap.size⟩
 refine G.bu (.take [0,1,3] (.force [2] (.take [4] .done))) [5] (by kernel_rfl) (by kernel_rfl) (fun w8 k8=>?_);have a3A:G.Mk.m≠some S:=fun e=>by have e2:w1.heap.size=S:=Option.some.inj e;omega
 have a3z:G.Mk.m≠some (w.heap.size+1+1):=fun e=>by have e2:w1.heap.size=w.heap.size+1+1:=Option.some.inj e;omega
 have Jd:Hid (ae w8 S 27 ds.toList):=Cm.out.keep k8;have I7:Hid (ae w8 (w.heap.size+1+1) 27 zs.toList):=iy.out.keep k8;refine G.aN w8 (G.Gr.refl _) ?_;simp only[au,ax,ak,aj];go_big_quiet_step (fail)
 go_big_quiet_step (fail)
 (with_reducible refine G.zV S ds (Eq.trans ?_ rfl) Jd.out a3A (.array 32 5) kG (uq _ _) hi9 ?_)
 rfl;simp only[Act.put,Array.set!_eq_setIfInBounds,List.setIfInBounds_toArray,List.set_cons_succ,List.set_cons_zero];refine wpQuiet_nil (G.bI ?_);simp only[au,ax,ak,aj]
 have Gw:w8.ownsRow w1.heap.size 5 1 (.slice (some ⟨w1.heap.size,0,none⟩) 96 128) 96 (bU.map ah):=by
  have hb8:ae w8 w1.heap.size 5 ((bU++List.replicate 32 0).map ah):=BX.out.keep k8
  have h:w8.heap[w1.heap.size]?=some (.cells (splice ((bU++List.replicate 32 0).map ah) 0 (bU.map ah)).toArray 5 (0,0)):=by
   have e:splice ((bU++List.replicate 32 (0:UInt8)).map ah) 0 (bU.map ah)=(bU++List.replicate 32 0).map ah:=by
    rw[GK];congr 1;simp[splice]
   rw[e];exact hb8
  exact LQ (n:=96) (c:=128) h (Nat.le_refl _) (by rw[List.length_map];exact DC.out) (by have:bU.length=96:=DC.out;simp[this]) (by omega) (by unfold maxLen;omega)
 refine G.aI rfl (fun K hK=>?_);refine Es vY _ _ (by rfl) w1.heap.size _ 96 _ (by rfl) Gw _ 32 32 ds.toList (by rfl) (by rw[Array.length_toList,hsz]) Jd.out.rd dZ.out.o (by omega) (by unfold maxLen;omega) (Nat.le_trans VV k8.size) (fun v10 w10 pz kQ rJ=>hK _ _ kQ ?_);clear hK K;have WQ:=jm pz (n':=128) (xs':=RB.map ah) (by omega) (by rw[EX.out,←a9i.out,List.map_append,dZ.out.l]);have a9f:Hid (ae w10 (w.heap.size+1+1) 27 zs.toList):=I7.out.grown kQ a3z;have hgr:w9.grownBy w10 (some w1.heap.size):=World.grownBy.trans (G.a2i k8 _) kQ;have b6m:Hid (Keep w w10):=aK (af jK bP.out) hgr (by omega);obtain⟨lV,c10,rfl,c3k,c3H,b5p⟩:=dD WQ;have a0H:=hid WQ;obtain⟨mJ,hst,Py,rM⟩:=bn (P:=prog) ds.toList a9f.out (by simp[hz1,hsz]) dZ.out.o;have a9E:=hid Py;have Z7:=hid rM;have c2o:=hid hgr
 clear pz WQ kQ rJ hgr Py rM Gw b5p;refine G.aS (G.aN w10 (G.Gr.refl _) ?_);simp only[au,ax,ak,aj,Act.put,Array.set!_eq_setIfInBounds,List.setIfInBounds_toArray,List.set_cons_succ,List.set_cons_zero];repeat(go_big_quiet_step (fail))
 refine wpQuiet_nil (G.aT ?_);clear a3A a3z;clear jc;go_wp2
 have Py:=a9E.out;refine bodyPost_ret (v:=.tuple #[.slice lV 128 c10,.agg ds]) (b8R results186 _ _ (w.heap.size+1+1) _ _ _ (.array 32 5) rfl Py kG rfl (by rw[List.size_toArray,Array.length_toList];exact hi9)) rfl ⟨lV,c10,ds,rfl,dZ.out,?_,aK b6m.out Z7.out (by omega)⟩;have hkept:=a0H.out.kept Z7.out (.inr (fun e=>by have h1:=(a0H.out.lt _ e).1;omega));exact wU hkept (by omega)
end Go.Proofs.YtiagcenlnekdeaaGreatDoor
namespace Go.Proofs.YtiagcenlnekdeaaGreatDoor
open Go.RowKit
attribute [local go_sem ↓] Go.wp_at_zero Go.wp_at_succ
theorem a4f {A:Option Addr} {l:List UInt8} {w:World} (n c:Nat) (hn:n=l.length) (hr:Rd w A (l.map ah)):(convert 32 9 (.slice A n c)).run prog w = .ok (.string (str l)) w:=by
 subst hn;exact a6g underlying32 underlying5 underlying9 _ hr
theorem a4g (A:Option Addr) (a:List UInt8) (n c:Nat) (B:Option Addr) (b:List UInt8) (m d:Nat) (w:World) (ha:Rd w A (a.map ah)) (hb:Rd w B (b.map ah)) (hn:n=a.length) (hm:m=b.length) :
  Calls prog 123 #[.slice A n c,.slice B m d] w fun e w'=>e = .returned (.bool (decide (a=b)))∧w=w':=by
 have c1:=a4f n c hn ha;have c2:=a4f m d hm hb;have t:=QC a b;clear hn hm;go_enter func123,ntmps123
 go_wp2
 go_ret
 exact⟨xe (by by_cases h:a=b <;> simp[h]),rfl⟩
end Go.Proofs.YtiagcenlnekdeaaGreatDoor
namespace Go.Proofs.YtiagcenlnekdeaaGreatDoor
open Go.RowKit
attribute [local go_sem ↓] Go.wp_at_zero Go.wp_at_succ
theorem Xc {P:Program} {fn:Func} {p q u:Tmp} {ty ty':TypeId} (h:fn.results = #[.cell p ty,.cell q ty',.tmp u]) (tmps:Array Value) (w:World) (g g':Nat) (t t':TypeId) (cs cs':Array Value) (fr fr':Nat × Nat) (d d':TypeDesc)
  (hp:tmps.getD p undef = .pointer (some ⟨g,0,none⟩)) (hq:tmps.getD q undef = .pointer (some ⟨g',0,none⟩)) (hg:w.heap[g]?=some (.cells cs t fr)) (hg':w.heap[g']?=some (.cells cs' t' fr'))
  (hu:P.underlying ty=some d) (hu':P.underlying ty'=some d') (hd:(match d with | .struct _ | .array _ _=>true | _=>false)=true) (hd':(match d' with | .struct _ | .array _ _=>true | _=>false)=true)
  (hi:(P.info? ty).map (·.size)=some cs.size) (hi':(P.info? ty').map (·.size)=some cs'.size) :
  (results fn tmps).run P w = .ok (.tuple #[.agg cs,.agg cs',tmps.getD u undef]) w:=by
 have hp':tmps[p]?.getD undef = .pointer (some ⟨g,0,none⟩):=by simpa using hp
 have hq':tmps[q]?.getD undef = .pointer (some ⟨g',0,none⟩):=by simpa using hq
 simp[results,h,hp',hq',asAddr,run_loadVar_row w g t ty cs fr d hg hu hd hi,run_loadVar_row w g' t' ty' cs' fr' d' hg' hu' hd' hi']
def zY:Hd:=⟨0,z32,z32,0,0,0⟩
theorem XH : ∃ zs:Array Value,aX z32 zs∧(∀ w,(zeroValue 27).run prog w = .ok (.agg zs) w) :=
 ⟨uT,⟨BF,xy,by rw[xy];kernel_rfl,(fun h=>by have:=xy;rw[h]at this;cases this),by rw[BF];exact jL _,by rw[show z32.map ah=uT.toList from BF.symm,Array.toArray_toList]⟩,Hf⟩
theorem a7x : ∃ zs:Array Value,bF zY zs∧(∀ w,(zeroValue 29).run prog w = .ok (.agg zs) w) :=
 ⟨uU,⟨QO,Ew,by rw[Ew];kernel_rfl,(fun h=>by have:=Ew;rw[h]at this;cases this),by rw[QO];exact Hd.one _⟩,XJ⟩
def takeD (last:List UInt8) (seq:Int) (b:List UInt8):Bool × Hd × List UInt8 :=
 if b.length=128∧iT last seq (jJ ((b.drop 4).take 80))=b then(true,jJ ((b.drop 4).take 80),b.drop 96)else(false,zY,z32)
theorem Xa {last:List UInt8} {seq:Int} {h:Hd} {b:List UInt8} (hk:h.ok) (e:iT last seq h=b):kK last seq h=b.drop 96:=by
 rw[←e,iT,List.drop_left' (a5W seq hk)]
theorem b6g (last:List UInt8) (ls:Array Value) (seq:Int) (A:Option Addr) (b:List UInt8) (c:Nat) (w:World) (hls:aX last ls) (hll:last.length=32) (hr:Rd w A (b.map ah)) (hbc:b.length≤c) (hcm:c≤maxLen) (hS:bV w) :
  Calls prog 151 #[.agg ls,.int .i64 seq,.slice A b.length c] w fun e w' => ∃ hv sv,e = .returned (.tuple #[.agg hv,.agg sv,.bool (takeD last seq b).1])∧bF (takeD last seq b).2.1 hv∧aX (takeD last seq b).2.2 sv∧Keep w w':=by
 obtain⟨sz,hSZ,a6K⟩:=XH;obtain⟨hz,wE,hzz⟩:=a7x;have xm:=hSZ.z;have a6I:=hSZ.n;have Xn:=hSZ.i;have a6J:=hSZ.o
 have hzs:=wE.z;have hzn:=wE.n;have hzi:=wE.i;have uA:=wE.o
 have SZ:=hid hSZ;have HZ:=hid wE
 have hcz:=hls.z;have hcn:=hls.n;have hci:=hls.i
 have nN:=hid hls;have Hll:=hid hll;have HS:=hid hS;have eU:=hid hr
 unfold maxLen at hcm;clear hSZ wE hls hll hS hr;by_cases hb:b.length=128
 ·have Vt:((b.drop 4).take 80).length=80:=by rw[List.length_take,List.length_drop];omega
  have hok:=VD Vt;have G1:Hid (∀ w' g off,Keep w w'→Rd w' (some ⟨g,off,none⟩) (((b.drop 4).take 80).map ah) → ∀ d,80≤d→d≤9223372036854775807→Calls prog 185 #[.slice (some ⟨g,off,none⟩) 80 d] w' fun e w'' => ∃ cs,e = .returned (.tuple #[.agg cs,.int .i64 0])∧bF (jJ ((b.drop 4).take 80)) cs∧Keep w' w''):=fun w' g off hk hr' d h1 h2=>a3g _ _ d w' Vt h1 (by unfold maxLen;omega) hr';have R1:Hid (∀ w' hs,Keep w w'→bF (jJ ((b.drop 4).take 80)) hs→Calls prog 186 #[.agg ls,.int .i64 seq,.agg hs] w' fun e w'' => ∃ A c ds,e = .returned (.tuple #[.slice A 128 c,.agg ds])∧aX (kK last seq (jJ ((b.drop 4).take 80))) ds∧w''.ownsRow w'.heap.size 5 1 (.slice A 128 c) 128 ((iT last seq (jJ ((b.drop 4).take 80))).map ah)∧Keep w' w''):=fun w' hs hk' bH=>a5X last ls seq _ hs w' nN.out Hll.out hok bH (HS.out.keep hk')
  have HD0:Hid (∀ H RB iZ,jJ ((b.drop 4).take 80)=H→iT last seq H=RB→kK last seq H=iZ→RB.length=128∧(RB=b→takeD last seq b=(true,H,iZ))∧(RB≠b→takeD last seq b=(false,zY,z32))):=fun H RB iZ e1 e2 e3=>by
   subst e1 e2 e3;refine⟨LY _ _ hok,fun e=>?_,fun e=>if_neg (fun h=>e h.2)⟩;rw[takeD,if_pos ⟨hb,e⟩,Xa hok e]
  obtain⟨g,off,rfl,hg,_⟩:=eU.out.at (k:=0) (by simp;omega)
  have HRs:Hid (∀ w',Keep w w'→Rd w' (some ⟨g,off+4,none⟩) (((b.drop 4).take 80).map ah)):=fun w' h=>by
   have h1:=(eU.out.keep h).sub 4 80 (by rw[List.length_map];omega)
   rwa[←List.map_drop,←List.map_take]at h1
  obtain⟨D,hDD⟩ : ∃ D,takeD last seq b=D:=⟨_,rfl⟩
  rw[hDD]at HD0 ⊢;have hD3:=HD0.out _ _ _ rfl rfl rfl;generalize iT last seq (jJ ((b.drop 4).take 80))=RB at R1 hD3;generalize kK last seq (jJ ((b.drop 4).take 80))=iZ at R1 hD3;generalize jJ ((b.drop 4).take 80)=H at G1 R1 hD3;generalize (b.drop 4).take 80=b4 at HRs G1;have HD3:=hid hD3;clear hD3 HD0 hDD hok Vt;have Hb:=hid hb;have hb':(128:Int)=(b.length:Int):=by omega
  rw[hb]at hbc ⊢;clear hb hb';go_enter func151,ntmps151
  go_wp2_with fail
  obtain⟨w1,hw1,ku,a8i,a8n,ai,-⟩:=FM w 27 29 27 ls hz sz;have hz1:w.heap.size+3=w1.heap.size:=by rw[hw1];simp
  rw[←hw1];clear hw1;refine(G1.out w1 g (off+4) ai.out (HRs.out _ ai.out) (c - 4) (by omega) (by omega)).mono ?_;rintro e w2 ⟨hs,rfl,bH,k2⟩;have hes:=bH.z;have hen:=bH.n;have Bc:=bH.i
  have Ap:=hid bH;have hst2:=fK w2 29 Bc (hzs.trans hes.symm) Ap.out.o;clear bH;go_upto_region 6 with fail
  obtain⟨w3,hw3,jR,-,-⟩:=di w2 29 hs;have k13:Keep w1 w3:=by rw[hw3];exact af k2 (aB _ _)
  have hz2:w1.heap.size≤w2.heap.size:=k2.size;have vC:=hid (ku.out.keep k13);have a8j:=hid (a8i.out.keep k13);have a8o:=hid (a8n.out.keep k13)
  have aA:=hid (af ai.out k13);rw[←hw3];clear hw3 hst2 k13 k2;have hX2:w2.heap.size<w3.heap.size:=jR.out.lt;generalize w2.heap.size=X at jR hz2 hX2 ⊢
  go_wp2_with (first
   | ((with_reducible refine bY w.heap.size ls (Eq.trans ?_ rfl) vC.out (.array 32 5) kG (uq _ _) hci ?_);rfl)
   | ((with_reducible refine bY X hs (Eq.trans ?_ rfl) jR.out _ underlying29 rfl Bc ?_);rfl))
  refine(R1.out w3 hs aA.out Ap.out).mono ?_;rintro e w4 ⟨A4,c4,ds,rfl,hds,own4,k4⟩;have hfs:=hds.z;have hfn:=hds.n;have hfi:=hds.i
  have dZ:=hid hds;have VR:=fK w4 27 hfi (xm.trans hfs.symm) dZ.out.o;obtain⟨a7E,AU,hv4,hc4,hm4,hr4⟩:=dD own4;obtain⟨rfl,rfl⟩:A4=a7E∧c4=AU:=by injection hv4 with h1 h2 h3;exact⟨h1,h3⟩
  have CW:=hid hr4;have hrb:Hid (RB.length=128):=HD3.out.1;clear hds own4 hv4 hr4 hm4;go_upto_region 7 with fail
  obtain⟨w5,hw5,SN,-,-⟩:=di w4 27 ds;have KT:Keep w3 w5:=by rw[hw5];exact af k4 (aB _ _)
  have jb:w3.heap.size≤w4.heap.size:=k4.size;have tN:=hid (jR.out.keep KT);have YO:=hid (a8j.out.keep KT);have Ny:=hid (a8o.out.keep KT)
  have aJ:=hid (af aA.out KT);have b0f:Hid (Rd w5 A4 (RB.map ah)):=by rw[hw5];exact CW.out.alloc _
  rw[←hw5];clear hw5 VR KT k4;have hY2:w4.heap.size<w5.heap.size:=SN.out.lt;generalize w4.heap.size=Y at SN jb hY2 ⊢;go_wp2_with fail
  refine(a4g A4 RB 128 c4 (some ⟨g,off,none⟩) b 128 c w5 b0f.out (eU.out.keep aJ.out) hrb.out.symm Hb.out.symm).mono ?_;rintro e w6 ⟨rfl,rfl⟩;by_cases heq:RB=b
  ·have HD:Hid (D=(true,H,iZ)):=HD3.out.2.1 heq
   have hdt:decide (RB=b)=true:=decide_eq_true heq;clear heq;go_upto_region 9 with fail
   letI jc:G.Mk:=⟨some (w.heap.size+1)⟩
   refine G.bu (.take [0,1] (.force [2] .done)) [3,4] (by kernel_rfl) (by kernel_rfl) (fun w7 k7=>?_);have a3B:G.Mk.m≠some X:=fun e=>by have e2:w.heap.size+1=X:=Option.some.inj e;omega
   have a3C:G.Mk.m≠some Y:=fun e=>by have e2:w.heap.size+1=Y:=Option.some.inj e;omega
   have tV:=hid (tN.out.keep k7);have SQ:=hid (SN.out.keep k7);have a8k:=hid (YO.out.keep k7);have a8q:=hid (Ny.out.keep k7)
   have bT:=hid (af aJ.out k7);obtain⟨wa,lN,hba,hga⟩:=bn (P:=prog) hs.toList a8k.out (by simp[hzs,hes]) Ap.out.o;obtain⟨wb,yg,hbb,hgb⟩:=bn (P:=prog) ds.toList (a8q.out.grown hga (iw (by omega))) (by simp[xm,hfs]) dZ.out.o;have oV:=hid (hba.grown hgb (iw (by omega)));have oW:=hid hbb;have nV:=hid hga;have oZ:=hid hgb
   clear hba hbb hga hgb;refine G.aN w7 (G.Gr.refl _) ?_;simp only[au,ax,ak,aj]
   (with_reducible refine G.zV X hs (Eq.trans ?_ rfl) tV.out a3B _ underlying29 rfl Bc ?_)
   rfl;simp only[Act.put,Array.set!_eq_setIfInBounds,List.setIfInBounds_toArray,List.set_cons_succ,List.set_cons_zero]
   (with_reducible refine G.zV Y ds (Eq.trans ?_ rfl) SQ.out a3C (.array 32 5) kG (uq _ _) hfi ?_)
   rfl;simp only[Act.put,Array.set!_eq_setIfInBounds,List.setIfInBounds_toArray,List.set_cons_succ,List.set_cons_zero];refine wpQuiet_nil (G.bI ?_);simp only[au,ax,ak,aj];refine G.aI rfl (fun K hK=>?_);go_simp;refine hK _ _ (show G.Gr w7 wa from nV.out) ?_;clear hK K;refine G.aS (G.aT ?_);clear a3B a3C;clear jc;go_wp2
   rw[HD.out];exact bodyPost_ret (v:=.tuple #[.agg hs,.agg ds,.bool true]) (Xc results151 _ _ (w.heap.size+1) (w.heap.size+1+1) _ _ _ _ _ _ _ (.array 32 5) rfl rfl oV.out oW.out underlying29 kG rfl rfl (by rw[List.size_toArray,Array.length_toList];exact Bc) (by rw[List.size_toArray,Array.length_toList];exact hfi)) rfl ⟨hs,ds,rfl,Ap.out,dZ.out,aK (aK bT.out nV.out (by omega)) oZ.out (by omega)⟩
  ·have HD:Hid (D=(false,zY,z32)):=HD3.out.2.2 heq
   have hdt:decide (RB=b)=false:=decide_eq_false heq;clear heq;go_upto_region 8 with fail
   obtain⟨wa,lN,hba,hga⟩:=bn (P:=prog) hz.toList YO.out (by simp) uA;obtain⟨wb,yg,hbb,hgb⟩:=bn (P:=prog) sz.toList (Ny.out.grown hga (iw (by omega))) (by simp) a6J;have oV:=hid (hba.grown hgb (iw (by omega)));have oW:=hid hbb;have nV:=hid hga;have oZ:=hid hgb
   clear hba hbb hga hgb;go_wp2
   rw[HD.out];exact bodyPost_ret (v:=.tuple #[.agg hz,.agg sz,.bool false]) (Xc results151 _ _ (w.heap.size+1) (w.heap.size+1+1) _ _ _ _ _ _ _ (.array 32 5) rfl rfl oV.out oW.out underlying29 kG rfl rfl (by rw[List.size_toArray,Array.length_toList];exact hzi) (by rw[List.size_toArray,Array.length_toList];exact Xn)) rfl ⟨hz,sz,rfl,HZ.out,SZ.out,aK (aK aJ.out nV.out (by omega)) oZ.out (by omega)⟩
 ·have HD:Hid (takeD last seq b=(false,zY,z32)):=if_neg (fun h=>hb h.1)
  have t1:((b.length:Int)!=128)=true:=by simp;omega
  obtain⟨D,hDD⟩ : ∃ D,takeD last seq b=D:=⟨_,rfl⟩
  rw[hDD]at HD ⊢;clear hDD hb;go_enter func151,ntmps151
  go_upto_region 2 with fail
  have H3:Hid (ae (((w.alloc (.cells ls 27)).alloc (.cells hz 29)).alloc (.cells sz 27)) (w.heap.size+1) 29 hz.toList):=by
   have h1:=ae.new (w.alloc (.cells ls 27)) 29 hz.toList;rw[World.size_alloc]at h1;exact h1.alloc _
  have H4:Hid (ae (((w.alloc (.cells ls 27)).alloc (.cells hz 29)).alloc (.cells sz 27)) (w.heap.size+1+1) 27 sz.toList):=by
   have h1:=ae.new ((w.alloc (.cells ls 27)).alloc (.cells hz 29)) 27 sz.toList;rw[World.size_alloc,World.size_alloc]at h1;exact h1
  have HK:Hid (Keep w (((w.alloc (.cells ls 27)).alloc (.cells hz 29)).alloc (.cells sz 27))):=af (af (aB _ _) (aB _ _)) (aB _ _);generalize ((w.alloc (.cells ls 27)).alloc (.cells hz 29)).alloc (.cells sz 27)=w1 at H3 H4 HK ⊢;obtain⟨wa,lN,hba,hga⟩:=bn (P:=prog) hz.toList H3.out (by simp) uA;obtain⟨wb,yg,hbb,hgb⟩:=bn (P:=prog) sz.toList (H4.out.grown hga (iw (by omega))) (by simp) a6J;have oV:=hid (hba.grown hgb (iw (by omega)));have oW:=hid hbb;have nV:=hid hga;have oZ:=hid hgb
  clear hba hbb hga hgb;go_wp2
  rw[HD.out];exact bodyPost_ret (v:=.tuple #[.agg hz,.agg sz,.bool false]) (Xc results151 _ _ (w.heap.size+1) (w.heap.size+1+1) _ _ _ _ _ _ _ (.array 32 5) rfl rfl oV.out oW.out underlying29 kG rfl rfl (by rw[List.size_toArray,Array.length_toList];exact hzi) (by rw[List.size_toArray,Array.length_toList];exact Xn)) rfl ⟨hz,sz,rfl,HZ.out,SZ.out,aK (aK HK.out nV.out (by omega)) oZ.out (by omega)⟩
end Go.Proofs.YtiagcenlnekdeaaGreatDoor
namespace Go.Proofs.YtiagcenlnekdeaaGreatDoor
open Go.RowKit
attribute [local go_sem ↓] Go.wp_at_zero Go.wp_at_succ
section
variable {P:Program}
theorem PY {w:World} {ops:Array Oper} {rest:List Oper} {a:Act} {Q:Exit→Act→World→Prop} {x:Operand} {dst:Option Tmp} {ty ty':TypeId} {pos:String} {eG:Array Edge}
  (g off:Nat) (cs:Array Value) (hx:a.eval x = .pointer (some ⟨g,off,none⟩)) (hr:w.rangeAt g off cs.toList) (d:TypeDesc) (hu:P.underlying ty=some d) (hd:d.isRow=true) (hi:(P.info? ty).map (·.size)=some cs.size)
  (h:wpList P ops Q rest (a.put dst (.agg cs)) w):wpList P ops Q ({ dst:=dst,op:=.load ty x,type:=ty',pos:=pos,after:=eG,guard:=none}::rest) a w :=
 wpList_load_mid rfl ty x rfl g off hx cs.toList d hr hu hd (by simpa using hi) h
theorem c1b {w0:World} {ops:Array Oper} {rest:List Oper} {a:Act} {Q:Act→Prop} {x:Operand} {dst:Option Tmp} {ty ty':TypeId} {pos:String} {eG:Array Edge}
  (g off:Nat) (cs:Array Value) (hx:a.eval x = .pointer (some ⟨g,off,none⟩)) (hr:w0.rangeAt g off cs.toList) (d:TypeDesc) (hu:P.underlying ty=some d) (hd:d.isRow=true) (hi:(P.info? ty).map (·.size)=some cs.size)
  (h:wpQuiet P ops (fun w' => ∃ x,w'=dn w0 x) Q rest (a.put dst (.agg cs))) :
  wpQuiet P ops (fun w' => ∃ x,w'=dn w0 x) Q ({ dst:=dst,op:=.load ty x,type:=ty',pos:=pos,after:=eG,guard:=none}::rest) a:=by
 refine BigFrame.wpQuiet_want (by simp[Region.wanted]) fun K hK=>⟨.agg cs,fun w hw=>?_,hK _ h⟩
 obtain⟨y,rfl⟩:=hw;unfold Oper.quietAt execOp;have hl:=run_loadVar_mid (P:=P) (dn w0 y) g off ty cs.toList d (fun j v hv=>aC (jg w0 y) (hr j v hv)) hu hd (by simpa using hi);simp only[hx,Instr.loadAt,Instr.sureAddr,Sem.run_bind,Sem.run_pure,Result.andThen_ok,hl,Array.toArray_toList];exact⟨rfl,rfl⟩
theorem Xf {w:World} {g:Nat} {t:TypeId} {all:List Value} (off:Nat) (cs:List Value) (hb:ae w g t all) (hl:off+cs.length≤all.length) (h1 : ∀ v∈cs,v.oneCell'=true) :
  ∃ w',(storeCells ⟨g,off,none⟩ cs 0).run P w = .ok () w'∧ae w' g t (splice all off cs)∧w.grownBy w' (some g):=by
 have hrun:=run_storeCells_at P g off t cs 0 all.toArray w hb (by simpa using hl) h1;simp only[Nat.add_zero,List.toList_toArray]at hrun;refine⟨_,hrun,?_,rfl,rfl,rfl,by simp[World.setRow],fun k _ hne=>setRow_other w g k _ (fun e=>hne (by rw[e]))⟩;have h:=setRow_heap w g all.toArray (all.take off++cs++all.drop (off+cs.length)).toArray t (0,0) hb;unfold ae splice;rw[←List.append_assoc];exact h
end
theorem foldl_set : ∀ (l:List Value) (k:Nat) (acc:Array Value),k+l.length=acc.size→(l.zipIdx k).foldl (fun cs x=>cs.setIfInBounds (0+x.2) x.1) acc=(acc.toList.take k++l).toArray
 | [],k,acc,h=>by
   have:acc.toList.take k=acc.toList:=List.take_of_length_le (by simp at h ⊢;omega)
   simp[this]
 | v::r,k,acc,h=>by
   rw[List.zipIdx_cons,List.foldl_cons,foldl_set r (k+1) _ (by simp at h ⊢;omega)];have hk:k<acc.size:=by simp at h;omega
   congr 1
   rw[Array.toList_setIfInBounds,Nat.zero_add,List.take_succ_eq_append_getElem (by simpa using hk),List.getElem_set_self,List.take_set_of_le (Nat.le_refl _)];simp
theorem c1d {P:Program} {t e:TypeId} {zc:Array Value} {size bytes:Nat} (T:dL P t e (.agg zc) size bytes) {o:Oper} {a:Act} {w:World} {K:Act→World→Prop} {Q:Exit→Act→World→Prop} (x:Operand) (ho:o.op = .buildSlice t 1 #[(0,x)])
  (cs:Array Value) (hz:cs.size=size) (hsm:size≤1000) (hx:a.eval x = .agg cs)
  (h:K (a.put o.dst (.slice (some ⟨w.heap.size,0,none⟩) 1 1)) (w.alloc (.cells cs e))):o.wp P a w K Q:=by
 obtain⟨i,hi,hiz,his,_⟩:=T.info;have hzc:zc.size=size:=T.zs;have hp:=T.pos;refine wp_buildSlice t e 1 _ ho cs i (.agg zc) T.und hi hiz (by rw[his];omega) (by rw[his];omega) ?_ h;have hc:(Value.agg cs).cells=cs:=rfl;simp only[List.map_toArray,List.map_cons,List.map_nil,hx,Instr.fill,hc,his,hz,Nat.zero_mul,Nat.one_mul];rw[if_neg (by simp)]
 congr 1
 rw[←Array.foldl_toList,Array.toList_zipIdx];have hf:=foldl_set cs.toList 0 ((Array.range size).map fun j=>zc[j%zc.size]!) (by simp[hz]);simp only[List.take_zero,List.nil_append,Array.toArray_toList]at hf;exact hf
def dB (room:Int):Nat:=(min (max room 0) 1024).toNat
theorem Gy (room:Int) (w:World):Calls prog 105 #[.int .i64 room] w fun e w'=>e = .returned (.int .i64 (dB room))∧w=w':=by
 have e:(dB room:Int)=min (max room 0) 1024:=by unfold dB;omega
 have CP:=hid e;clear e;go_enter func105,ntmps105
 go_wp2
 all_goals go_ret
 all_goals exact⟨Gz (by have h:=CP.out;omega),rfl⟩
def jd (d0 d1:Value) (base room n:Int) (last:List UInt8) (bs hv:Value):List Value:=[d0,d1,.int .i64 base,.int .i64 room,.int .i64 n]++(last.map ah++[bs,hv])
section
variable {d0 d1 bs hv:Value} {base room n:Int} {last:List UInt8}
theorem WY (hl:last.length=32):(jd d0 d1 base room n last bs hv).length=39:=by simp[jd,hl]
theorem b8E (hl:last.length=32):((jd d0 d1 base room n last bs hv).drop 5).take 32=last.map ah:=by
 show(last.map ah++[bs,hv]).take 32=last.map ah
 rw[List.take_left' (by simp[hl])]
theorem a5R (hl:last.length=32):(jd d0 d1 base room n last bs hv)[37]?=some bs:=by
 unfold jd;rw[List.getElem?_append_right (by simp),List.getElem?_append_right (by simp[hl])];simp[hl]
theorem WX (hl:last.length=32):(jd d0 d1 base room n last bs hv)[38]?=some hv:=by
 unfold jd;rw[List.getElem?_append_right (by simp),List.getElem?_append_right (by simp[hl])];simp[hl]
theorem b8H (m:Int):(jd d0 d1 base room n last bs hv).set 4 (.int .i64 m)=jd d0 d1 base room m last bs hv:=rfl
theorem b8G (hl:last.length=32) {s:List UInt8} (hs:s.length=32):splice (jd d0 d1 base room n last bs hv) 5 (s.map ah)=jd d0 d1 base room n s bs hv:=by
 unfold jd;exact GL _ _ _ _ 5 rfl (by simp[hl,hs])
theorem b8F (hl:last.length=32) (hv':Value):(jd d0 d1 base room n last bs hv).set 38 hv'=jd d0 d1 base room n last bs hv':=by
 unfold jd;rw[List.set_append_right _ _ (by simp),List.set_append_right _ _ (by simp[hl])];simp[hl]
end
structure yY (w0 w:World) (G:Nat) (d0 d1:Value) (aH:Nat) (room:Int) (k:Nat) (last:List UInt8) (A:Option Addr) (bs:List UInt8) (c:Nat) (hv:Value) (hs:List Hd):Prop where
 kp:Keep w0 w
 O8:w0.heap.size≤G
 blk:ae w G 213 (jd d0 d1 aH room k last (.slice A bs.length c) hv)
 own:w.ownsRow w0.heap.size 29 68 hv hs.length (hs.flatMap Hd.cells)
 LG:hv.ownBlock≠some G
 Qr:dQ (some G) w A (bs.map ah)
 a5S:dQ hv.ownBlock w A (bs.map ah)
theorem yY.keep {w0 w w':World} {G:Nat} {d0 d1:Value} {aH:Nat} {room:Int} {k:Nat} {last:List UInt8} {A:Option Addr} {bs:List UInt8} {c:Nat} {hv:Value} {hs:List Hd} (h:yY w0 w G d0 d1 aH room k last A bs c hv hs) (hk:Keep w w'):yY w0 w' G d0 d1 aH room k last A bs c hv hs :=
 ⟨af h.kp hk,h.O8,h.blk.keep hk,jM h.own hk,h.LG,h.Qr.keep hk,h.a5S.keep hk⟩
def iI (aH:Nat) (room:Int) (k:Nat) (last bs:List UInt8):Bool × Hd × List UInt8 :=
 if k<dB room∧(aH+4*k)*32+128≤bs.length then takeD last k ((bs.drop ((aH+4*k)*32)).take 128)else(false,zY,z32)
theorem a3d:dL prog 86 29 (Value.agg uU) 68 80:=dL.mk' underlying86 (by kernel_rfl) Ew (by omega)
end Go.Proofs.YtiagcenlnekdeaaGreatDoor
