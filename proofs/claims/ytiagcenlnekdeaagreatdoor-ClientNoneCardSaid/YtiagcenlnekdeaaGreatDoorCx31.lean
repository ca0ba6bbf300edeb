/- Texts merged by pack.py: Clx, Cly, Clz, OpC. -/
import Derived.Test.YtiagcenlnekdeaaGreatDoorCx30
import Derived.Test.YtiagcenlnekdeaaGreatDoorCx24
import Derived.Test.YtiagcenlnekdeaaGreatDoorCx28
import Derived.Test.YtiagcenlnekdeaaGreatDoorCx15
import Derived.Test.YtiagcenlnekdeaaGreatDoorCx7
import Derived.Test.YtiagcenlnekdeaaGreatDoorCx25
import Derived.Test.YtiagcenlnekdeaaGreatDoorCx20
import Derived.WalkKit
import Derived.ProofKit
import Derived.OpenShut
set_option maxRecDepth 1000000
set_option maxHeartbeats 16000000
open Go.Proofs.Tryz
open Go.Lib (hid)
set_option linter.unusedSimpArgs false
set_option linter.unusedVariables false
namespace Go.Proofs.YtiagcenlnekdeaaGreatDoor
open Go.RowKit
attribute [local go_sem ↓] Go.wp_at_zero Go.wp_at_succ
theorem b6W {P:Program} {t e:TypeId} {zc:Array Value} {size bytes:Nat} (T:dL P t e (.agg zc) size bytes) {ops:Array Oper} {rest:List Oper} {a:Act} {w:World} {Q:Exit→Act→World→Prop} {x:Operand} {dst:Option Tmp} {ty':TypeId} {pos:String} {eG:Array Edge}
  (cs:Array Value) (hz:cs.size=size) (hsm:size≤1000) (hx:a.eval x = .agg cs)
  (h:wpList P ops Q rest (a.put dst (.slice (some ⟨w.heap.size,0,none⟩) 1 1)) (w.alloc (.cells cs e))):wpList P ops Q ({ dst:=dst,op:=.buildSlice t 1 #[(0,x)],type:=ty',pos:=pos,after:=eG,guard:=none}::rest) a w :=
 wpList_plain rfl fun _ hK=>Ha T x rfl cs hz hsm hx (hK _ _ h)
def a0y (w:World) (ns:List Nd) (cf:List Value) (e:Ending) (w':World):Prop:=∃ (X T M lo hi:Nat) (v:Value) (ss:Array Value) (sl:List Value) (w6:World),e = .returned (pT X)∧bG w w' X T M v ns cf sl false rQ 0∧CA w' lo hi X T M v w6 sl ss∧hi≤w'.heap.size
theorem a1h (w:World):pG jC none w:=⟨.inl rfl,fun x hx=>absurd hx List.not_mem_nil,(show 0≤1000 by omega)⟩
theorem b7v {ns:List Nd} {cs:Array Value} (h2:Bx 39 79 (fE jC none 0 jI 5 9999 5 68) cs) (ha:jf 9 [] jI=(ns,0,0)) (w:World) (hS:bV w) :
  Calls prog 6 #[.agg cs] w (a0y w ns (fE jC none 0 jI 5 9999 5 68)):=by
 refine(a1o jC none 0 jI 5 9999 5 68 cs w h2 Du hS (a1h w)).mono fun e w' h=>?_;obtain⟨X,rfl,k,-,h4⟩:=h;rw[show min (max jC.idx 0) 1048576=9 from rfl,ha]at h4;obtain⟨T,M,lo,hi,v,ss,sl,w6,hB,hT,hs,hA,ho,hx,⟨hl1,hl2⟩,hX,a2H⟩:=h4 (a7e jI) rfl;refine⟨X,T,M,lo,hi,v,ss,sl,w6,rfl,⟨k,by rw[←b2q];exact hB,hT,UK Du,?_,fun e=>by have:=hx X e;omega,by omega⟩,⟨hs,hA,ho,fun k hk=>?_⟩,by omega⟩
 ·rw[←hs.l,Array.length_toList];exact hs.z
 ·rcases hk with rfl | hk
  ·exact .inr hX
  ·exact .inl (hx k hk)
theorem b1i (w:World) (hS:bV w):Calls prog 4 #[] w fun e w'=>e = .returned (.bool true)∧Keep w w':=by
 obtain⟨I0,h0,h,qP,pq,bs,pb,pw⟩:=plainW;obtain⟨gs,cs,hg,hc,hb1,hb2,hfd⟩:=b8X;have Uj:Hid (∀ y,Calls prog 16 #[] y fun e w'=>e = .returned (.agg cs)∧Keep y w'):=hid fun y=>b8Y hg hc hb1 hb2 y;have yX:Hid (∀ y,Keep w y→Calls prog 6 #[.agg cs] y (a0y y qP (fE jC none 0 jI 5 9999 5 68))):=hid fun y hy=>b7v hc pw.a1 y (hS.keep hy);have xZ:(fE jC none 0 jI 5 9999 5 68)[75]?=some (ag 5):=by kernel_rfl
 have x8:(fE jC none 0 jI 5 9999 5 68)[76]?=some (iv 9999):=by kernel_rfl
 have hcf : ∃ t,fE jC none 0 jI 5 9999 5 68=[ag jC.limit,iv jC.bQ,iv jC.span,iv jC.dm,iv jC.idx,iv jC.dK,.slice none jC.dH.length 0]++t:=⟨_,rfl⟩
 have hgn:=hg.n;have hgz:=hg.z;have hcn:=hc.n;have hcz:=hc.z
 have ID:Hid (∀ y,Keep w y→Calls prog 19 #[.agg gs] y fun e w' => ∃ ds,e = .returned (.agg ds)∧aX I0 ds∧Keep y w'):=hid fun y hy=>by rw[←pw.i];exact D5 jI gs y (hS.keep hy) Du hg
 have a0o:Hid (∀ is,aX I0 is → ∃ hs,bF h0 hs∧prog.built 29 [(1,.agg is),(3,.int .u32 3),(4,.int .u32 545259519)]=some hs):=hid fun is hi=>by rw[pw.e0];exact b7e pw.i2 is hi
 have a0p:Hid (∀ hs y,Keep w y→bF h0 hs→Calls prog 18 #[.agg hs,ag 545259519,iv 200] y fun e w' => ∃ ds,e = .returned (.tuple #[.agg ds,.bool true])∧bF h ds∧Keep y w'):=hid fun hs y hy hh=>by
  have q:=b7d h0 hs 545259519 200 3 y (hS.keep hy) pw.o0 hh (by decide) (by decide) pw.m1 pw.m2;rw[pw.e]at q;exact q
 have a0P:Hid (∀ {w0 y:World} {X T M:Nat} {v:Value} {cf sl:List Value} {b:Bool} {q:aW} {d:Int},bG w0 y X T M v qP cf sl b q d→Calls prog 10 #[pT X] y (Un ((fD qP (0:Nat)).getD nd0) y)):=hid fun hcw=>by
  have q:=a1v hcw pw.t1.ok (fun e=>by have:=pw.l1;rw[e]at this;cases this) (by rw[pw.l1];omega)
  rwa[pw.k1]at q
 have a0Q:Hid (∀ {w0 y:World} {X T M:Nat} {v:Value} {cf sl:List Value} {b:Bool} {q:aW} {d:Int},bG w0 y X T M v pq cf sl b q d→Calls prog 10 #[pT X] y (Un ((fD pq (1:Nat)).getD nd0) y)):=hid fun hcw=>by
  have q:=a1v hcw pw.o2 (fun e=>by have:=pw.l2;rw[e]at this;cases this) (by rw[pw.l2];omega)
  rwa[pw.k2]at q
 have HD2:Hid (∀ {w0 y:World} {X T M:Nat} {v:Value} {cf sl:List Value} {b:Bool} {q:aW} {d:Int},bG w0 y X T M v pq cf sl b q d→Calls prog 12 #[pT X] y (a0s 2 y)):=hid fun hcw=>by
  have q:=b2j hcw pw.o2 (by rw[pw.l2];omega)
  rwa[pw.l2]at q
 have N1:Hid (((fD qP (0:Nat)).getD nd0).ok∧((fD qP (0:Nat)).getD nd0).hgt=0):=hid ⟨Gs pw.t1.ok _,pw.g1⟩;have N2:Hid (((fD pq (1:Nat)).getD nd0).ok∧((fD pq (1:Nat)).getD nd0).hgt=1∧((fD pq (1:Nat)).getD nd0).head=h):=hid ⟨Gs pw.o2 _,pw.g2,pw.h2⟩;generalize (fD qP (0:Nat)).getD nd0=n1 at *;generalize (fD pq (1:Nat)).getD nd0=n2 at *;have xM:=hid pw;have CB:=hid hS
 have Ny:=hid xZ;have a8p:=hid x8;have Ip:=hid hcf
 generalize fE jC none 0 jI 5 9999 5 68=cf at *;obtain⟨QP,PM,b5P,b5Q,-,-⟩:=yC;obtain⟨iQ,b5O,c4g,c4h,-⟩:=Eu;obtain⟨qZ,b5R,DZ⟩:=Dj;have b5S:=DZ.n;have VW:=DZ.z
 have hgd:=a2Y;clear pw hS xZ x8 hcf hc hg DZ;go_enter func4,ntmps4
 go_wp2_with fail
 refine(Uj.out _).mono ?_;rintro e w1 ⟨rfl,k1⟩;have ai:=hid k1;clear k1;go_wp2_with fail
 refine(yX.out _ ai.out).mono ?_;clear yX;rintro e w2 ⟨X,T,M,lo,hi,v,ss,sl,w6,rfl,hcw,hca,hhi⟩;have HC:=hid hcw;have HA:=hid hca;have Si:=hid hhi
 have ui:=hid hcw.xc;have rD:Hid (bV w1):=hid (CB.out.keep ai.out);have ay:=hid (af ai.out hcw.k);clear hcw hca hhi;go_wp2_with fail
 refine(a0P.out HC.out).mono ?_;clear a0P;rintro e w3 ⟨na,rfl,hna,k3⟩;have IW:=hid hna;have haz:=hna.z;have c3d:=hna.n;have hai:=hna.i
 replace HC:=hid (HC.out.keep k3);have hst:=fK w3 81 hai (PM.trans haz.symm) IW.out.o;have Sm:=hid k3;clear hna k3;go_upto_region 3 with fail
 clear hst;have hga:w2.heap.size≤w3.heap.size:=Sm.out.size;obtain⟨ga,w4,hgg,hw4,hla,dG,k4⟩:=oQ w3 81 na;have b4L:=dG.out.lt;replace HC:=hid (HC.out.keep k4);have Sr:=hid (af Sm.out k4);simp only[hw4,hgg];clear hw4 hgg k4 Sm;have ig:Hid (¬ jT X T M v ga):=hid (ui.out ga (by omega));have YL:=hid (b3O HC.out rD.out Ny.out a8p.out);go_wp2_with fail
 refine YL.out.mono ?_;clear YL;rintro e w5 ⟨qj,ql,rfl,hc5,PR⟩;replace dG:Hid (ae w5 ga 81 na.toList):=hid ((PR.2.2.2.2 ga b4L ig.out).trans dG.out);replace HA:=hid (HA.out.keep (k:=0) ((aP.of Sr.out).trans PR (fun _ _ q=>q)) Si.out);replace HC:=hid hc5;have a3K:w2.heap.size≤w5.heap.size:=Nat.le_trans Sr.out.size PR.2.2.2.1;clear hc5 PR Sr;go_wp2_with fail
 refine(Uj.out _).mono ?_;clear Uj;rintro e w6' ⟨rfl,k6⟩;replace dG:=hid (dG.out.keep k6);have bD:=hid k6;have b4J:=hfd w6';clear k6;go_wp2_with fail
 refine(ID.out w6' (af ai.out (af HC.out.k bD.out))).mono ?_;clear ID b4J;rintro e w7 ⟨is,rfl,his,k7⟩;obtain⟨hs,bH,hhb⟩:=a0o.out is his;have hin:=his.n;have hiz:=his.z
 have hsn:=bH.n;have hsz:=bH.z
 replace dG:=hid (dG.out.keep k7);replace bD:=hid (af bD.out k7);have IA:=hid bH;clear k7 his bH a0o;go_wp2_with ((with_reducible refine kT [(1,.agg is),(3,.int .u32 3),(4,.int .u32 545259519)] hs (Eq.trans ?_ rfl) hhb ?_);rfl)
 refine(a0p.out hs w7 (af ai.out (af HC.out.k bD.out)) IA.out).mono ?_;clear a0p hhb IA;rintro e w8 ⟨ds,rfl,hds,k8⟩;replace dG:=hid (dG.out.keep k8);replace bD:=hid (af bD.out k8);have gZ:=hid hds;have hdz:=hds.z;have hdn:=hds.n;have hdi:=hds.i
 have hst:=fK w8 29 hdi (b5O.trans hdz.symm) gZ.out.o;clear k8 hds;go_upto_region 5 with fail
 clear hst;have c3M:w5.heap.size≤w8.heap.size:=bD.out.size;obtain⟨gh,w9,hgg,iD,hlh,su,k9⟩:=oQ w8 29 ds;replace dG:=hid (dG.out.keep k9);replace bD:=hid (af bD.out k9);simp only[iD,hgg];clear iD hgg k9;have bU:Hid (w9.rangeAt gh 0 ds.toList):=hid (cu su.out 0 ds.toList (by simp[List.take_of_length_le]));go_wp2_with (first | ((with_reducible refine dw gh 0 ds (Eq.trans ?_ rfl) bU.out _ underlying29 rfl hdi rfl ?_);rfl) | ((with_reducible refine b6W PD ds hdz (by omega) (Eq.trans ?_ rfl) ?_);rfl))
 obtain⟨w10,a3S,ZI,Sl⟩:=l7 w9 29 ds;rw[a3S];replace dG:=hid (dG.out.keep Sl.out);replace su:=hid (su.out.keep Sl.out);replace bD:=hid (af bD.out Sl.out);replace HC:=hid (HC.out.keep bD.out);have XZ:=hid (b1y jC none 0 h 1 pq bs pb qj ql (some ⟨w9.heap.size,0,none⟩) 1 HC.out (HA.out.keep (k:=0) (aP.of bD.out) (Nat.le_trans Si.out a3K)) (Nat.le_trans Si.out (Nat.le_trans a3K bD.out.size)) rD.out (a1h w1) Ip.out xM.out.t1 (by rw[xM.out.l1];omega) xM.out.o xM.out.a2 xM.out.o2 (by rw[xM.out.l2];omega) xM.out.b xM.out.f (by unfold maxLen;omega) (by have q:=ZI.out.rd;rwa[gZ.out.l]at q));clear a3S bU ZI;refine XZ.out.mono ?_;clear XZ;rintro e mJ ⟨os,rfl,⟨S,L,mZ⟩,v',sl',d',p',-,hcw,-,kx,-⟩;have a2F : ¬ jT X T M v gh:=ui.out gh (by omega);replace dG:Hid (ae mJ ga 81 na.toList):=hid ((kx.2.2.2.2 ga dG.out.lt ig.out).trans dG.out);replace su:Hid (ae mJ gh 29 ds.toList):=hid ((kx.2.2.2.2 gh su.out.lt a2F).trans su.out);have tJ:=hid hcw;have DV:=mZ.z;have hon:=mZ.n;have hoi:=mZ.i
 have Zr:=hid mZ;have hst:=fK mJ 72 hoi (VW.trans DV.symm) Zr.out.o;clear hcw kx a2F mZ HA HC ui ig;go_upto_region 6 with fail
 clear hst;obtain⟨go,w12,hgg,a3T,hlo,Ik,k12⟩:=oQ mJ 72 os;replace dG:=hid (dG.out.keep k12);replace su:=hid (su.out.keep k12);replace tJ:=hid (tJ.out.keep k12);simp only[a3T,hgg];clear a3T hgg k12;go_wp2_with fail
 refine(a0Q.out tJ.out).mono ?_;clear a0Q;rintro e xu ⟨nb,rfl,hnb,k13⟩;have Ah:=hid hnb;have hbz:=hnb.z;have hbn:=hnb.n;have hbi:=hnb.i
 have hst:=fK xu 81 hbi (PM.trans hbz.symm) Ah.out.o;replace dG:=hid (dG.out.keep k13);replace su:=hid (su.out.keep k13);replace tJ:=hid (tJ.out.keep k13);replace Ik:=hid (Ik.out.keep k13);clear hnb k13;go_upto_region 7 with fail
 clear hst;obtain⟨gb,MF,hgg,a3U,hlb,ve,k14⟩:=oQ xu 81 nb;replace dG:=hid (dG.out.keep k14);replace su:=hid (su.out.keep k14);replace tJ:=hid (tJ.out.keep k14);replace Ik:=hid (Ik.out.keep k14);simp only[a3U,hgg];clear a3U hgg k14;have a1:MF.cell? ⟨ga,101,none⟩=some (iv 0):=(dG.out.cell 101).trans (by rw[IW.out.l,Ls N1.out.1,N1.out.2];rfl);have b1:MF.cell? ⟨gb,101,none⟩=some (iv 1):=(ve.out.cell 101).trans (by rw[Ah.out.l,Ls N2.out.1,N2.out.2.1];rfl);have o0:MF.cell? ⟨go,0,none⟩=some (iv 0):=(Ik.out.cell 0).trans (by rw[Zr.out.l];rfl);have RB:Hid (MF.rangeAt gb 32 ds.toList):=hid (Wx N2.out.1 (by rw[N2.out.2.2];exact gZ.out) ve.out Ah.out);have bU:Hid (MF.rangeAt gh 0 ds.toList):=hid (cu su.out 0 ds.toList (by simp[List.take_of_length_le]));have he:=fun y=>a2X gZ.out gZ.out xM.out.o xM.out.o y;rw[show F7 h h=true from(Vx h h).2 rfl]at he;go_wp2_with (first | ((with_reducible refine dw gb 32 ds (Eq.trans ?_ rfl) RB.out _ underlying29 rfl hdi rfl ?_);rfl) | ((with_reducible refine dw gh 0 ds (Eq.trans ?_ rfl) bU.out _ underlying29 rfl hdi rfl ?_);rfl))
 refine(HD2.out tJ.out).mono ?_;clear HD2;rintro e c4y ⟨A2,c2,rfl,k15⟩;have a8O:=hid (af ai.out (af tJ.out.k k15));clear k15 a1 b1 o0 RB bU he tJ;go_wp2
 exact bodyPost_ret (v:=.bool true) (by simp[results,results4]) rfl ⟨rfl,a8O.out⟩
theorem b2d (p:eF) (A:Option Addr) (c:Nat) (h:Hd) (dE:UInt32) (cap wt sec:Int) (ho:h.ok) (j:Nat):(fE p A c h dE cap wt sec)[75+j]?=[ag dE,iv cap,iv wt,iv sec][j]?:=by
 unfold fE;rw[List.getElem?_append_right (by simp;omega),List.getElem?_append_right (by rw[Hd.len ho];simp;omega),Hd.len ho]
 congr 1
 simp;omega
theorem b2f (p:eF) (A:Option Addr) (c:Nat) (h:Hd) (dE:UInt32) (cap wt sec:Int) (ho:h.ok) (hs:Array Value) (hh:bF h hs) :
  ∃ cs,Bx 39 79 (fE p A c h dE cap wt sec) cs∧prog.built 39 [(0,gI p A c),(1,.agg hs),(2,ag dE),(3,iv cap),(4,iv wt),(5,iv sec)]=some cs:=by
 obtain⟨h1,h2,h3,h4,h5,h6⟩:=h;have hl:=hh.l;obtain⟨o1,o2⟩:=ho;simp only at o1 o2;obtain⟨a0,a1,a2,a3,a4,a5,a6,a7,a8,a9,b0,b1,b2,b3,b4,b5,b6,b7,b8,b9,c0,c1,c2,c3,c4,c5,c6,c7,c8,c9,d0,d1,rfl⟩:=Gl o1;obtain⟨A0,A1,A2,A3,A4,A5,A6,QS,XP,A9,B0,B1,B2,B3,B4,B5,B6,B7,B8,B9,C0,C1,C2,C3,C4,C5,C6,C7,C8,c2d,D0,D1,rfl⟩:=Gl o2;obtain rfl:hs=_:=by rw[←Array.toArray_toList (xs:=hs),hl]
 exact⟨_,Dh _ _ _ _ _ _ _ _ ⟨rfl,rfl⟩,by kernel_rfl⟩
theorem b2N (p:eF) (A:Option Addr) (c:Nat) (h:Hd) (dE:UInt32) (cap wt sec:Int) (ho:h.ok) (rs:Array Value) (hB:Bx 31 79 (fE p A c h dE cap wt sec) rs) (w:World) :
  Calls prog 7 #[.agg rs] w fun e w' => ∃ cs,e = .returned (.agg cs)∧Bx 39 79 (fE p A c h dE cap wt sec) cs∧Keep w w':=by
 obtain⟨hs,bH⟩ : ∃ hs,bF h hs:=⟨_,bF.of ho⟩
 obtain⟨cs,hcs,hcb⟩:=b2f p A c h dE cap wt sec ho hs bH;obtain⟨zs,hz1,hz2⟩ : ∃ zs:Array Value,(zs.size=79∧¬ zs = #[])∧∀ w,(zeroValue 39).run prog w = .ok (.agg zs) w:=⟨_,⟨(Dh ⟨0,0,0,0,0,0,[]⟩ none 0 MN 0 0 0 0 ⟨rfl,rfl⟩).z,(Dh ⟨0,0,0,0,0,0,[]⟩ none 0 MN 0 0 0 0 ⟨rfl,rfl⟩).n⟩,fun w=>by kernel_rfl⟩
 obtain⟨hzz,hzn⟩:=hz1;have hrn:=hB.n;have hrz:=hB.z
 have hcn:=hcs.n;have hcz:=hcs.z;have hci:=hcs.i
 have hhn:=bH.n;have hhz:=bH.z;have hhi:=bH.i
 have Ce:=hid hB.l;have IA:=hid bH;have HC:=hid hcs
 have G:=hid (b2d p A c h dE cap wt sec ho)
 have R7:Hid (((fE p A c h dE cap wt sec).drop 7).take hs.toList.length=hs.toList):=hid (by
  rw[bH.l];unfold fE
  show List.take h.cells.length (h.cells++[ag dE,iv cap,iv wt,iv sec])=h.cells
  exact List.take_left' rfl)
 clear hB hcs bH ho;go_enter func7,ntmps7
 go_upto_region 1 with fail
 obtain⟨w1,hw1,HB1,ai⟩:=l7 w 31 rs;rw[hw1];have hs1:w1.heap.size=w.heap.size+1:=by rw[←hw1];simp
 rw[←hs1];obtain⟨w2,hw2,HB2,ay⟩:=l7 w1 39 zs;rw[hw2];replace HB1:=hid (HB1.out.keep ay.out);replace ay:=hid (af ai.out ay.out);rw[Ce.out]at HB1;have hle:w.heap.size≤w1.heap.size:=ai.out.size;clear hw1 hw2 hs1;have a0:w2.cell? ⟨w.heap.size,0,none⟩=some (ag p.limit):=HB1.out.cell 0;have a1:w2.cell? ⟨w.heap.size,1,none⟩=some (iv p.bQ):=HB1.out.cell 1;have a2:w2.cell? ⟨w.heap.size,2,none⟩=some (iv p.span):=HB1.out.cell 2;have a3:w2.cell? ⟨w.heap.size,3,none⟩=some (iv p.dm):=HB1.out.cell 3;have a4:w2.cell? ⟨w.heap.size,4,none⟩=some (iv p.idx):=HB1.out.cell 4;have a5:w2.cell? ⟨w.heap.size,5,none⟩=some (iv p.dK):=HB1.out.cell 5;have a6:w2.cell? ⟨w.heap.size,6,none⟩=some (.slice A p.dH.length c):=HB1.out.cell 6
 have g0:=(HB1.out.cell 75).trans (G.out 0);have g1:=(HB1.out.cell 76).trans (G.out 1);have g2:=(HB1.out.cell 77).trans (G.out 2);have g3:=(HB1.out.cell 78).trans (G.out 3)
 simp only[List.getElem?_cons_succ,List.getElem?_cons_zero]at g0 g1 g2 g3;have bU:Hid (w2.rangeAt w.heap.size 7 hs.toList):=hid (cu HB1.out 7 hs.toList R7.out);obtain⟨w3,hst,hb3,hg3⟩:=bn (P:=prog) cs.toList HB2.out (by rw[Array.length_toList,Array.length_toList,hzz,hcz]) HC.out.o;have HB3:=hid hb3;have aA:Hid (Keep w w3):=hid (aK ay.out hg3 (by omega));clear hb3 hg3 HB2;go_wp2_with (first | ((with_reducible refine dw w.heap.size 7 hs (Eq.trans ?_ rfl) bU.out _ underlying29 rfl hhi rfl ?_);rfl) | ((with_reducible refine kT _ cs (Eq.trans ?_ rfl) hcb ?_);rfl))
 exact bodyPost_ret (v:=.agg cs) (gJ results7 HB3.out underlying39 hci rfl rfl) rfl ⟨cs,rfl,HC.out,aA.out⟩
theorem a6E:dL prog 75 74 (.agg #[.int .i64 0,.int .i64 0,.int .i64 0,.slice none 0 0]) 4 48:=dL.mk' underlying75 (by kernel_rfl) rfl (by omega)
theorem a4i {w w':World} (hg:w.grownBy w' none):Keep w w':=(Below.refl _ _).grown hg (Nat.le_refl _) (fun q hq=>nomatch hq)
def Stepped (l:List Value) (w:World) (e:Ending) (w':World):Prop:=∃ g c,e = .returned (.slice (some ⟨g,0,none⟩) 1 c)∧(∀ j v,l[j]?=some v→w'.cell? ⟨g,j,none⟩=some v)∧Keep w w'
theorem b9P (k p n:Int) (A:Option Addr) (m c:Nat) (g:Nat) (w:World) (hB:ae w g 34 [iv k,iv p,iv n,.slice A m c]) :
  Calls prog 9 #[.slice (some ⟨g,0,none⟩) 1 1] w (Stepped [iv k,iv p,iv n,.slice A m c] w):=by
 have HB:=hid hB;clear hB;go_enter func9,ntmps9
 go_wp2_with fail
 go_loopw [3,4] (fun sv kv wr => ∃ j:Nat,j≤1∧kv = .int .i64 j∧(j=0→sv = .slice none 0 0)∧Hid (j=0→wr=w)∧Hid (j=1→Stepped [iv k,iv p,iv n,.slice A m c] w (.returned sv) wr)) (fun _ kv _=>1 - (intOf kv).toNat)
 case atStart=>exact⟨0,by omega,rfl,fun _=>rfl,hid fun _=>rfl,hid fun e=>absurd e (by omega)⟩
 case round =>
  obtain⟨j,hj1,rfl,hj2,TG,TI⟩:=hrel;by_cases hlt:j<1
  ·obtain rfl:j=0:=by omega
   obtain rfl:=hj2 rfl;obtain rfl:=TG.out rfl;have d1:((0:Nat):Int)<1:=by omega
   clear hj2 TG TI;go_upto_region 5 with fail
   refine bu (.take [0,1,2,3,4,5,6,7,8,9,10,11,12,13,14,15,16,17,18,19,20,21] (.force [22,23] .done)) [24] (by kernel_rfl) (by kernel_rfl) (fun y k1=>?_);have gQ:=hid (HB.out.keep k1);have HK:=hid k1
   clear k1;have a0:=aF (show y.cell? ⟨g,0,none⟩=some (iv k) from gQ.out.cell 0);have a1:=aF (show y.cell? ⟨g,1,none⟩=some (iv p) from gQ.out.cell 1);have a2:=aF (show y.cell? ⟨g,2,none⟩=some (iv n) from gQ.out.cell 2);have a3:=aF (show y.cell? ⟨g,3,none⟩=some (.slice A m c) from gQ.out.cell 3)
   refine wR ?_;simp only[au,ax,ak,aj];repeat(go_big_quiet_step (fail))
   clear a0 a1 a2 a3;refine wpQuiet_nil (bI ?_);simp only[au,ax,ak,aj];refine aI rfl (fun K hK=>?_);refine Ha a6E _ rfl #[iv k,iv p,iv n,.slice A m c] rfl (by omega) rfl ?_;refine hK _ _ (aB _ _) ?_;clear hK K;obtain⟨gs,z,hg,hz,hl,HS,zF⟩:=oQ y 74 #[iv k,iv p,iv n,.slice A m c];replace HK:=hid (af HK.out zF);simp only[hz,hg];clear hz hg hl zF;refine aI rfl (fun K hK=>?_);refine Es a6E _ _ rfl z.heap.size (.slice none 0 0) 0 [] rfl (World.ownsRow_nil _ _ _ _) (some ⟨gs,0,none⟩) 1 1 [iv k,iv p,iv n,.slice A m c] rfl rfl HS.out.rd (by simp[Value.oneCell']) (by omega) (by unfold maxLen;omega) (Nat.le_refl _) ?_;intro v' w' own hg hv;refine hK _ _ (a4i hg) ?_;clear hK K
   have F:Hid (Stepped [iv k,iv p,iv n,.slice A m c] wr (.returned v') w'):=hid (by
    rcases own.2 with⟨rfl,e⟩ | ⟨b,cap,cur,rfl,hb,hgb,h1,h2,h3,h4⟩
    ·simp at e
    ·refine⟨b,cap,rfl,fun j v hj=>?_,af HK.out (a4i hg)⟩
     have q:=own.cells (g:=b) rfl j v hj;rw[qE,Nat.zero_add]at q
     exact q)
   clear own hg hv HS gQ HK;refine aS (aT ?_);go_wp2
   go_roundw
   case rel=>exact⟨1,by omega,by go_num,fun q=>absurd q (by omega),hid fun q=>absurd q (by omega),hid fun _=>F.out⟩
   case measure=>simp[intOf]
  ·obtain rfl:j=1:=by omega
   have d1 : ¬ ((1:Nat):Int)<1:=by omega
   have F:=hid (TI.out rfl);clear hj2 TG TI;go_wp2
   exact bodyPost_ret (v:=_) (by simp[results,results9]) rfl F.out
theorem a1s:dL prog 66 38 (.pointer none) 1 8:=dL.mk' underlying66 (by kernel_rfl) rfl (by omega)
theorem c1i {o:Oper} {a:Act} {w:World} {K:Act→World→Prop} {Q:Exit→Act→World→Prop} (x0 x1 x2:Operand) (ho:o.op = .buildSlice 66 3 #[(0,x0),(1,x1),(2,x2)]) (p q r:Option Addr) (h0:a.eval x0 = .pointer p) (h1:a.eval x1 = .pointer q) (h2:a.eval x2 = .pointer r)
  (h:K (a.put o.dst (.slice (some ⟨w.heap.size,0,none⟩) 3 3)) (w.alloc (.cells #[.pointer p,.pointer q,.pointer r] 38))):o.wp prog a w K Q:=by
 obtain⟨f,hi,hiz,his,_⟩:=a1s.info;refine wp_buildSlice 66 38 3 _ ho #[.pointer p,.pointer q,.pointer r] f (.pointer none) a1s.und hi hiz (by rw[his];omega) (by rw[his];omega) ?_ h;simp only[List.map_toArray,List.map_cons,List.map_nil,h0,h1,h2,his];simp[Instr.fill,Value.cells,Array.range,Array.ofFn_succ]
theorem b6Y {ops:Array Oper} {rest:List Oper} {a:Act} {w:World} {Q:Exit→Act→World→Prop} {x0 x1 x2:Operand} {dst:Option Tmp} {ty':TypeId} {pos:String} {eG:Array Edge} (p q r:Option Addr) (h0:a.eval x0 = .pointer p) (h1:a.eval x1 = .pointer q) (h2:a.eval x2 = .pointer r)
  (h:wpList prog ops Q rest (a.put dst (.slice (some ⟨w.heap.size,0,none⟩) 3 3)) (w.alloc (.cells #[.pointer p,.pointer q,.pointer r] 38))):wpList prog ops Q ({ dst:=dst,op:=.buildSlice 66 3 #[(0,x0),(1,x1),(2,x2)],type:=ty',pos:=pos,after:=eG,guard:=none}::rest) a w :=
 wpList_plain rfl fun _ hK=>c1i x0 x1 x2 rfl p q r h0 h1 h2 (hK _ _ h)
theorem b3C (w:World):(Instr.field 43 (.agg #[ns0,ns0]) 0).run prog w = .ok ns0 w:=by kernel_rfl
theorem b3D (w:World):(Instr.field 61 (.agg #[ns0,ns0,ns0]) 1).run prog w = .ok ns0 w:=by kernel_rfl
theorem b9R:dL prog 77 34 (.agg #[.int .i64 0,.int .i64 0,.int .i64 0,.slice none 0 0]) 4 48:=dL.mk' underlying77 (by kernel_rfl) rfl (by omega)
theorem b06 (i:Int) (hi : ¬ i > 0) (h:Hd):(jf (min (max i 0) 1048576) [] h).2.2≠0:=by
 have e:max i 0=0:=by omega
 rw[e,show min (0:Int) 1048576=0 from rfl];unfold jf;generalize df h=I;generalize uS h.bits=W;simp[pU,fB]
theorem b7y (p:eF) (A:Option Addr) (c:Nat) (h:Hd) (dE:UInt32) (cap wt sec:Int) (rs:Array Value) (hB:Bx 31 79 (fE p A c h dE cap wt sec) rs) (k pr n:Int) (D:Option Addr) (m dc:Nat) (i:Int) (w:World) (hS:bV w) (ho:h.ok) (hR:Rd w A (p.dH.flatMap nR)) (h32 : ∀ x∈p.dH,x.2.length=32) :
  Calls prog 3 #[.agg rs,qV k pr n D m dc,iv i] w fun e w'=>e = .returned (.bool true)∧Keep w w':=by
 obtain⟨hs,bH⟩ : ∃ hs,bF h hs:=⟨_,bF.of ho⟩
 obtain⟨ps,hps⟩ : ∃ ps:Array Value,gI p A c = .agg ps:=⟨_,rfl⟩
 have AW:Hid (∀ y,Keep w y→Calls prog 4 #[] y fun e w'=>e = .returned (.bool true)∧Keep y w'):=hid fun y hy=>b1i y (hS.keep hy);have xA:Hid (p.dH.length≤120 → ∀ y,Keep w y→Calls prog 5 #[.agg ps,.agg hs] y fun e w'=>e = .returned (iv (oP p h))∧Keep y w'):=hid fun hl y hy=>by rw[←hps];exact UA p A c h hs y (hS.keep hy) ⟨hR.keep hy,h32,by omega⟩ ho bH
 have CF:Hid (∀ y,Calls prog 7 #[.agg rs] y fun e w' => ∃ cs,e = .returned (.agg cs)∧Bx 39 79 (fE p A c h dE cap wt sec) cs∧Keep y w'):=hid fun y=>b2N p A c h dE cap wt sec ho rs hB y
 have yX:Hid (p.dH.length≤120 → ¬ (oP p h=0∧p.idx > 0) → ∀ y cs,Keep w y→Bx 39 79 (fE p A c h dE cap wt sec) cs→Calls prog 6 #[.agg cs] y fun e w' => ∃ X:Nat,e = .returned (pT X)∧w'.cell? ⟨X,79,none⟩=some (.pointer none)∧Keep y w'):=hid fun hl hn y cs hy hb =>
  (a1o p A c h dE cap wt sec cs y hb ho (hS.keep hy) ⟨hR.keep hy,h32,by omega⟩).mono fun e w' ⟨X,h1,h2,h3,_⟩=>⟨X,h1,h3 (by
   by_cases hb0:oP p h=0
   ·exact .inr (b06 _ (fun e=>hn ⟨hb0,e⟩) h)
   ·exact .inl hb0),h2⟩
 have hrn:=hB.n;have hrz:=hB.z;have kS:=hB.i
 have hhz:=bH.z;have hhn:=bH.n;have hhi:=bH.i
 have Ce:=hid hB.l
 have R7:Hid (((fE p A c h dE cap wt sec).drop 7).take hs.toList.length=hs.toList):=hid (by
  rw[bH.l]
  show List.take h.cells.length (h.cells++[ag dE,iv cap,iv wt,iv sec])=h.cells
  exact List.take_left' rfl)
 have a9b:Hid (ps = #[ag p.limit,iv p.bQ,iv p.span,iv p.dm,iv p.idx,iv p.dK,.slice A p.dH.length c]):=hid (by injection hps with e;exact e.symm);clear hB bH hps hS ho hR h32;obtain rfl:=a9b.out;generalize oP p h=OI at *;go_enter func3,ntmps3
 go_upto_region 1 with fail
 obtain⟨w1,hw1,-,HS,HK,-⟩:=b1w w 31 34 rs [iv k,iv pr,iv n,.slice D m dc];have HC:Hid (ae w1 w.heap.size 31 (fE p A c h dE cap wt sec)):=by rw[hw1,←Ce.out];exact hid ((ae.new w _ rs.toList).alloc _)
 rw[←hw1];clear hw1;go_wp2_with fail
 refine(AW.out _ HK.out).mono ?_;clear AW;rintro e w2 ⟨rfl,k2⟩;replace HC:=hid (HC.out.keep k2);replace HS:=hid (HS.out.keep k2);replace HK:=hid (af HK.out k2);clear k2;go_upto_region 2 with fail
 go_cut [7,41] (fun s7 b83 wx => ∃ B:Bool,s7 = .bool true∧b83 = .bool B∧Hid (Keep w2 wx)∧Hid (B=false→p.dH.length≤120∧¬ (OI=0∧p.idx > 0)))
 case first =>
  have a0:w2.cell? ⟨w.heap.size,0,none⟩=some (ag p.limit):=HC.out.cell 0;have a1:w2.cell? ⟨w.heap.size,1,none⟩=some (iv p.bQ):=HC.out.cell 1;have a2:w2.cell? ⟨w.heap.size,2,none⟩=some (iv p.span):=HC.out.cell 2;have a3:w2.cell? ⟨w.heap.size,3,none⟩=some (iv p.dm):=HC.out.cell 3
  have a4:w2.cell? ⟨w.heap.size,4,none⟩=some (iv p.idx):=HC.out.cell 4;have a5:w2.cell? ⟨w.heap.size,5,none⟩=some (iv p.dK):=HC.out.cell 5;have a6:w2.cell? ⟨w.heap.size,6,none⟩=some (.slice A p.dH.length c):=HC.out.cell 6
  have s3:w2.cell? ⟨w.heap.size+1,3,none⟩=some (.slice D m dc):=HS.out.cell 3;have bU:Hid (w2.rangeAt w.heap.size 7 hs.toList):=hid (cu HC.out 7 hs.toList R7.out);by_cases h1:(120:Int)<p.dH.length
  ·go_wp2_with fail
   go_meet
   exact⟨true,rfl,rfl,hid (Below.refl _ _),hid (fun e=>nomatch e)⟩
  by_cases h2:(4000:Int)<m
  ·go_wp2_with fail
   go_meet
   exact⟨true,rfl,rfl,hid (Below.refl _ _),hid (fun e=>nomatch e)⟩
  have hl:p.dH.length≤120:=by omega
  have XV:=hid (xA.out hl);clear xA yX;go_wp2_with ((with_reducible refine dw w.heap.size 7 hs (Eq.trans ?_ rfl) bU.out _ underlying29 rfl hhi rfl ?_);rfl)
  refine(XV.out w2 HK.out).mono ?_;clear XV;rintro e w3 ⟨rfl,k3⟩;have a4':=aC k3 a4;have aA:=hid k3;clear k3 a0 a1 a2 a3 a4 a5 a6 s3 bU;by_cases hb:OI=0
  ·have d3:(OI==0)=true:=by simp[hb]
   by_cases hi:0<p.idx
   ·go_wp2_with fail
    go_meet
    exact⟨true,rfl,rfl,aA,hid (fun e=>nomatch e)⟩
   ·go_wp2_with fail
    go_meet
    exact⟨false,rfl,by rw[decide_eq_false (by omega)],aA,hid (fun _=>⟨hl,fun e=>by have:=e.2;omega⟩)⟩
  ·have d3:(OI==0)=false:=by simp[hb]
   go_wp2_with fail
   go_meet
   exact⟨false,rfl,rfl,aA,hid (fun _=>⟨hl,fun e=>hb e.1⟩)⟩
 case rest =>
  obtain⟨B,rfl,rfl,gK,ve⟩:=hcut;replace HC:=hid (HC.out.keep gK.out);replace HS:=hid (HS.out.keep gK.out);replace HK:=hid (af HK.out gK.out);clear gK xA
  cases B with
  | true =>
    go_wp2
    exact bodyPost_ret (v:=.bool true) (by simp[results,results3]) rfl ⟨rfl,HK.out⟩
  | false =>
  obtain⟨hl,hn⟩:=ve.out rfl;have a0w:=hid (yX.out hl hn);clear yX ve hl hn;obtain⟨zs,hz0,aU,hzb,a3Y⟩:=a7t;have hzn:=aU.n;have hzz:=aU.z
  have Jf:=hid a3Y;clear aU a3Y;have RC:Hid ((wc.alloc (.cells zs 63)).rangeAt w.heap.size 0 rs.toList):=hid (cu (HC.out.alloc _) 0 rs.toList (by rw[Ce.out];simp[List.take_of_length_le]));go_wp2_with (first | ((with_reducible refine dw w.heap.size 0 rs (Eq.trans ?_ rfl) RC.out _ underlying31 rfl kS rfl ?_);rfl) | ((with_reducible refine kT [] zs (Eq.trans ?_ rfl) hzb ?_);rfl))
  have hX1:wc.heap.size<(wc.alloc (.cells zs 63)).heap.size:=by simp
  obtain⟨w5,hw5,kY,aJ⟩:=l7 wc 63 zs;rw[hw5]at hX1 RC ⊢;replace HC:=hid (HC.out.keep aJ.out);replace HS:=hid (HS.out.keep aJ.out);replace HK:=hid (af HK.out aJ.out);clear hw5 aJ RC;refine(CF.out _).mono ?_;clear CF;rintro e w6 ⟨cs,rfl,hcB,k6⟩;have hcn:=hcB.n;have hcz:=hcB.z
  replace HS:=hid (HS.out.keep k6);replace HK:=hid (af HK.out k6);replace kY:=hid (kY.out.keep k6);have a0x:=hid (a0w.out w6 cs HK.out hcB);clear k6 a0w hcB HC;go_wp2_with fail
  refine a0x.out.mono ?_;clear a0x;rintro e w7 ⟨X2,rfl,hx2,k7⟩;replace HS:=hid (HS.out.keep k7);replace HK:=hid (af HK.out k7);have D1:Hid (zZ w7 (pT wc.heap.size)):=hid (.inr ⟨_,rfl,((kY.out.keep k7).cell 79).trans Jf.out⟩);have D2:Hid (zZ w7 (pT X2)):=hid (.inr ⟨_,rfl,hx2⟩);clear k7 hx2 kY Jf;go_wp2_with ((with_reducible refine b6Y none (some ⟨wc.heap.size,0,none⟩) (some ⟨X2,0,none⟩) (Eq.trans ?_ rfl) (Eq.trans ?_ rfl) (Eq.trans ?_ rfl) ?_);rfl;rfl;rfl)
  obtain⟨w8,hw8,HL,bK⟩:=l7 w7 38 #[.pointer none,pT wc.heap.size,pT X2];rw[hw8];replace HS:=hid (HS.out.keep bK.out);replace HK:=hid (af HK.out bK.out)
  have fA:Hid (∀ j,j<3 → ∃ u,w8.cell? ⟨w7.heap.size,j,none⟩=some u∧zZ w8 u):=hid fun j hj=>by
   rcases(show j=0∨j=1∨j=2 by omega)with rfl | rfl | rfl
   ·exact⟨_,(HL.out.cell 0).trans rfl,.inl rfl⟩
   ·exact⟨_,(HL.out.cell 1).trans rfl,D1.out.keep bK.out⟩
   ·exact⟨_,(HL.out.cell 2).trans rfl,D2.out.keep bK.out⟩
  clear hw8 bK HL D1 D2;generalize w7.heap.size=gl at *;obtain⟨qZ,b5R,DZ⟩:=Dj;have b5S:=DZ.n;have VW:=DZ.z
  obtain⟨QP,PM,b5P,b5Q,-,-⟩:=yC;obtain⟨zp,c4j,VX,-⟩:=XM;have c4k:=VX.n;have b5T:=VX.z
  clear DZ VX;have ST:Hid (∀ y g,ae y g 34 [iv k,iv pr,iv n,.slice D m dc]→Calls prog 9 #[.slice (some ⟨g,0,none⟩) 1 1] y (Stepped [iv k,iv pr,iv n,.slice D m dc] y)):=hid fun y g hb=>b9P k pr n D m dc g y hb;unfold Stepped at ST
  go_loopw [10] (fun kv wr => ∃ j:Nat,j≤3∧kv = .int .i64 j∧Hid (Keep w8 wr)) (fun kv _=>3 - (intOf kv).toNat)
  case atStart=>exact⟨0,by omega,rfl,hid (Below.refl _ _)⟩
  case round =>
   obtain⟨j,hj3,rfl,bg⟩:=hrel;by_cases hlt:j<3
   ·obtain⟨u,hu,hd⟩:=fA.out j hlt
    have d1:(j:Int)<3:=by omega
    have HU:=hid (aC bg.out hu);have HD:=hid (hd.keep bg.out);have SD:Hid (∀ y,Keep wr y→Calls prog 8 #[u,qV k pr n D m dc] y fun e w' => ∃ vs,e = .returned (.agg vs)∧Bx 72 101 (mX 15 ns0 ns0) vs∧Keep y w'):=hid fun y hy=>b9N u y (HD.out.keep hy) k pr n D m dc;clear hu hd;go_upto_region 9 with fail
    go_cut [11] (fun s11 wx => ∃ go,s11 = .pointer (some ⟨go,0,none⟩)∧Hid (Keep wr wx)∧Hid (ae wx go 72 (mX 15 ns0 ns0)))
    case first =>
     refine bu (.take [0,1,2,3,4] (.fork 5 (.fork 6 (.take [7,8] (.fork 9 (.force [10] .done) 10 (.force [9] .done))) 10 (.force [6] (.take [7,8] (.force [9] .done)))) 10 (.force [5,6] (.take [7,8] (.force [9] .done))))) [11] (by kernel_rfl) (by kernel_rfl) (fun y kk=>?_);have Q:=hid kk;have uh:=hid (HS.out.keep (af bg.out kk));clear kk
     apply b99 (F:=fun(y:World) (go:Nat) (vs:Array Value) (_ _ _:Nat)=>Hid (Keep wr y)∧Hid (ae y go 72 qZ.toList)∧Hid (Bx 72 101 (mX 15 ns0 ns0) vs)∧wr.heap.size≤go)
     ·intro AB
      repeat' first
       | ((with_reducible refine wR ?_);simp only[au,ax,ak,aj];have u0:=aF (aC Q.out HU.out);have s0:=aF (show y.cell? ⟨w.heap.size+1,0,none⟩=some (iv k) from uh.out.cell 0);have s1:=aF (show y.cell? ⟨w.heap.size+1,1,none⟩=some (iv pr) from uh.out.cell 1);have s2:=aF (show y.cell? ⟨w.heap.size+1,2,none⟩=some (iv n) from uh.out.cell 2);have s3:=aF (show y.cell? ⟨w.heap.size+1,3,none⟩=some (.slice D m dc) from uh.out.cell 3);(try (have t0:=aF (HT.out 0 _ rfl);have t1:=aF (HT.out 1 _ rfl);have t2:=aF (HT.out 2 _ rfl);have t3:=aF (HT.out 3 _ rfl)));(repeat(go_big_quiet_step (fail)));clear u0 s0 s1 s2 s3;(try clear t0 t1 t2 t3);refine wpQuiet_nil ?_)
       | ((with_reducible refine bI ?_);simp only[au,ax,ak,aj])
       | ((with_reducible refine ny ?_ ?_) <;> simp only[au,ax,ak,aj])
       | with_reducible refine aS ?_
       | (refine aI rfl (fun K hK=>?_);refine Ha b9R _ rfl #[iv k,iv pr,iv n,.slice D m dc] rfl (by omega) rfl ?_;refine hK _ _ (aB _ _) ?_;clear hK K;obtain⟨gs,y,hg,hw,hl,HG,kk⟩:=oQ y 34 #[iv k,iv pr,iv n,.slice D m dc];replace Q:=hid (af Q.out kk);replace uh:=hid (uh.out.keep kk);(try replace HO:=hid (HO.out.keep kk));simp only[hw,hg];clear hw hg hl kk)
       | (refine aI rfl (fun K hK=>?_);go_simp;(with_reducible refine(ST.out _ _ HG.out).mono ?_);rintro e y ⟨gt,ct,rfl,ht,kk⟩;refine hK _ _ kk ?_;clear hK K;have HT:=hid ht;replace Q:=hid (af Q.out kk);replace uh:=hid (uh.out.keep kk);(try replace HO:=hid (HO.out.keep kk));clear kk ht)
       | (refine aI rfl (fun K hK=>?_);go_simp;(with_reducible refine(SD.out _ Q.out).mono ?_);rintro e y ⟨vs,rfl,hv,kk⟩;refine hK _ _ kk ?_;clear hK K;have HV:=hid hv;replace Q:=hid (af Q.out kk);replace uh:=hid (uh.out.keep kk);(try replace HO:=hid (HO.out.keep kk));clear kk hv HT)
       | (refine aI rfl (fun K hK=>?_);go_simp;refine hK _ _ (aB _ _) ?_;clear hK K;have hq:=Q.out.size;obtain⟨go,y,hg,hw,hl,HO,kk⟩:=oQ y 72 qZ;replace Q:=hid (af Q.out kk);replace uh:=hid (uh.out.keep kk);(try replace HG:=hid (HG.out.keep kk));(try replace HT:=hid (fun j v hj=>aC kk (HT.out j v hj)));simp only[hw,hg];clear hw hg kk)
      all_goals exact AB.out _ go vs gs gt ct ⟨Q,HO,HV,by omega⟩
     ·rintro y go vs gs gt ct ⟨Q,HO,HV,hq⟩
      refine aT ?_;obtain⟨z,hst,hb,hg⟩:=bn (P:=prog) vs.toList HO.out (by rw[Array.length_toList,Array.length_toList,VW,HV.out.z]) HV.out.o;have HB:=hid (show ae z go 72 (mX 15 ns0 ns0) by rw[←HV.out.l];exact hb);have a8P:Hid (Keep wr z):=hid (aK Q.out hg (by omega));have fF:=HV.out.z;have hvn:=HV.out.n
      clear hb hg;go_wp2
      go_meet
      exact⟨go,rfl,a8P,HB⟩
    case rest =>
     obtain⟨go,rfl,iV,HO⟩:=hcut;clear ST SD;have hu:=aC iV.out HU.out;go_wp2_with fail
     refine(c0l u _ (HD.out.keep iV.out)).mono ?_;clear hu;rintro e y1 ⟨nv,rfl,hnA,k1⟩;have IW:=hid hnA;have hnz:=hnA.z;have hnn:=hnA.n;have hni:=hnA.i
     replace HO:=hid (HO.out.keep k1);replace iV:=hid (af iV.out k1);have hst:=fK y1 81 hni (PM.trans hnz.symm) IW.out.o;clear hnA k1;go_upto_region 11 with fail
     clear hst;obtain⟨y2,hy2,-,k2⟩:=l7 y1 81 nv;rw[hy2];replace HO:=hid (HO.out.keep k2.out);replace iV:=hid (af iV.out k2.out);clear hy2 k2 IW;have hu:=aC iV.out HU.out;go_wp2_with fail
     refine(b8f u _ (HD.out.keep iV.out) i).mono ?_;clear hu;rintro e y3 ⟨pv,rfl,hpA,k3⟩;have xK:=hid hpA;have hpz:=hpA.z;have hpn:=hpA.n;have hpi:=hpA.i
     replace HO:=hid (HO.out.keep k3);replace iV:=hid (af iV.out k3);have hst:=fK y3 52 hpi (b5T.trans hpz.symm) xK.out.o;clear hpA k3;go_upto_region 12 with fail
     clear hst;obtain⟨y4,hy4,-,k4⟩:=l7 y3 52 pv;rw[hy4];replace HO:=hid (HO.out.keep k4.out);replace iV:=hid (af iV.out k4.out);clear hy4 k4 xK;have hu:=aC iV.out HU.out;have o0:y4.cell? ⟨go,0,none⟩=some (iv 15):=HO.out.cell 0;have o1:y4.cell? ⟨go,1,none⟩=some ns0:=HO.out.cell 1;have o2:y4.cell? ⟨go,2,none⟩=some ns0:=HO.out.cell 2
     go_wp2_with fail
     refine(b4D u _ (HD.out.keep iV.out)).mono ?_;clear hu o0 o1 o2 HO;rintro e zW ⟨rfl,k5⟩;replace iV:=hid (af iV.out k5);clear k5;have hu:=aC iV.out HU.out;go_wp2_with fail
     refine(b26 u _ (HD.out.keep iV.out)).mono ?_;clear hu;rintro e y6 ⟨rfl,k6⟩;replace iV:=hid (af iV.out k6);clear k6;have hu:=aC iV.out HU.out;go_wp2_with fail
     refine(b2X u _ (HD.out.keep iV.out)).mono ?_;clear hu;rintro e zX ⟨dv,rfl,hdl,k7⟩;obtain rfl:dv = #[ns0,ns0]:=by rw[←Array.toArray_toList (xs:=dv),hdl]
     replace iV:=hid (af iV.out k7);clear k7 hdl;have fl:=b3C zX;have hu:=aC iV.out HU.out;go_wp2_with fail
     refine(c0Y u _ (HD.out.keep iV.out)).mono ?_;clear hu fl;rintro e BC ⟨xv,rfl,hxl,k8⟩;obtain rfl:xv = #[ns0,ns0,ns0]:=by rw[←Array.toArray_toList (xs:=xv),hxl]
     replace iV:=hid (af bg.out (af iV.out k8));clear k8 hxl;have fl:=b3D BC;go_wp2
     go_roundw
     case rel=>exact⟨j+1,by omega,by go_num,iV⟩
     case measure=>simp[intOf];omega
   ·obtain rfl:j=3:=by omega
    have d1 : ¬ ((3:Nat):Int)<3:=by omega
    have HF:=hid (af HK.out bg.out);go_wp2
    exact bodyPost_ret (v:=.bool true) (by simp[results,results3]) rfl ⟨rfl,HF.out⟩
end Go.Proofs.YtiagcenlnekdeaaGreatDoor
namespace Go.Proofs.YtiagcenlnekdeaaGreatDoor
open Go.RowKit Go.ChangeShapes Go.WideShapes Go.ChangeAt Go.Deep
theorem a1c:prog.cellsOf 162=33:=by kernel_rfl
theorem b1Z:prog.cellsOf 3=1:=by kernel_rfl
theorem b2l {H:Type} {enc:TypeId × Value→H} {w:World} {spare:Nat→Bool} {held:Bool} {fuel:Nat} {cs:List Value} {x:DataW H × List MemPlace}
  (h:DataW.trod enc prog w 0 spare held fuel 162 cs=some x) : ∃ r:Int × List UInt8,cs=nR r∧r.2.length=32:=by
 obtain⟨xs,n,_,_,hl,hx,F⟩:=DataW.trod_struct underlying162 h;rw[a1c]at hl;have hx':xs.length=2:=hx;have g : ∀ (i:Nat) (hi:i<2),xs[i]?=some (xs[i]'(by omega)):=fun i hi=>List.getElem?_eq_getElem (by omega);have f0:DataW.trod enc prog w 0 spare held n 3 ((cs.drop 0).take (prog.cellsOf 3))=some _:=(F 0 _ rfl).trans (g 0 (by omega));have f1:DataW.trod enc prog w 0 spare held n 27 ((cs.drop 1).take (prog.cellsOf 27))=some _:=(F 1 _ rfl).trans (g 1 (by omega));simp only[b1Z,UJ]at f0 f1;obtain⟨k,ek,_,_⟩:=DataW.trod_int underlying3 f0;obtain⟨p,ep,hp⟩:=Vr f1
 have key : ∀ (l:List Value) (i k:Nat),l.drop i=(l.drop i).take k++l.drop (i+k):=fun l i k=>by
  have h1:=(List.take_append_drop k (l.drop i)).symm
  rwa[List.drop_drop]at h1
 refine⟨⟨k,p⟩,?_,hp⟩;have e:cs=cs.drop 0:=rfl;rw[e,key cs 0 1,ek,key cs (0+1) 32,ep,List.drop_eq_nil_of_le (by omega)];simp[nR]
theorem b2m {H:Type} {enc:TypeId × Value→H} {w:World} {spare:Nat→Bool} {held:Bool} {fuel:Nat} {cs:List Value} {x:DataW H × List MemPlace}
  (h:DataW.trod enc prog w 0 spare held fuel 23 cs=some x) :
  ∃ (A:Option Addr) (l:List (Int × List UInt8)) (c:Nat),cs=[.slice A l.length c]∧Rd w A (l.flatMap nR)∧∀ y∈l,y.2.length=32:=by
 obtain⟨A,n,c,Cs,rfl,h1,h2,rfl,h3,h4⟩:=a6v underlying23 a1c (by omega) h
 obtain⟨l,rfl,hok⟩:=PX (f:=nR) (p:=fun r=>r.2.length=32) Cs fun y hy=>by
  obtain⟨_,m,z,hz⟩:=h4 y hy;exact b2l hz
 refine⟨A,l,c,by simp,?_,hok⟩
 rwa[←List.flatMap_def]at h3
theorem b79 {H:Type} {enc:TypeId × Value→H} {w:World} {spare:Nat→Bool} {held:Bool} {fuel:Nat} {cs:List Value} {x:DataW H × List MemPlace}
  (h:DataW.trod enc prog w 0 spare held fuel 25 cs=some x) (hl:cs.length=7) :
  ∃ (p:eF) (A:Option Addr) (c:Nat),Value.agg cs.toArray=gI p A c∧Rd w A (p.dH.flatMap nR)∧∀ y∈p.dH,y.2.length=32:=by
 have F:=b3y underlying25 (by kernel_rfl) h hl
 match cs,hl with
 | [c0,c1,c2,c3,c4,c5,c6],_ =>
   obtain⟨v0,m0,y0,e0,t0⟩:=F 0 _ rfl;obtain⟨v1,m1,y1,e1,t1⟩:=F 1 _ rfl;obtain⟨v2,m2,y2,e2,t2⟩:=F 2 _ rfl;obtain⟨v3,m3,y3,e3,t3⟩:=F 3 _ rfl;obtain⟨v4,m4,y4,e4,t4⟩:=F 4 _ rfl;obtain⟨v5,m5,zW,e5,t5⟩:=F 5 _ rfl;obtain⟨v6,m6,y6,e6,t6⟩:=F 6 _ rfl;simp only[List.getElem?_cons_zero,List.getElem?_cons_succ,Option.some.injEq]at e0 e1 e2 e3 e4 e5 e6;subst e0 e1 e2 e3 e4 e5 e6;obtain⟨a,ea⟩:=G7 t0;obtain⟨k1,a1N,_,_⟩:=DataW.trod_int underlying3 t1;obtain⟨k2,a1O,_,_⟩:=DataW.trod_int underlying3 t2;obtain⟨k3,a1P,_,_⟩:=DataW.trod_int underlying3 t3;obtain⟨k4,a1Q,_,_⟩:=DataW.trod_int underlying3 t4;obtain⟨k5,a1R,_,_⟩:=DataW.trod_int underlying3 t5;obtain⟨A,l,c,FT,hr,ho⟩:=b2m t6;simp only[List.cons.injEq,and_true]at ea a1N a1O a1P a1Q a1R FT;subst ea a1N a1O a1P a1Q a1R FT;exact⟨⟨a,k1,k2,k3,k4,k5,l⟩,A,c,rfl,hr,ho⟩
theorem yl (l:List Value) (i k:Nat):l.drop i=(l.drop i).take k++l.drop (i+k):=by
 have h1:=(List.take_append_drop k (l.drop i)).symm
 rwa[List.drop_drop]at h1
theorem b2c (p:eF) (A:Option Addr) (c:Nat) (h:Hd) (dE:UInt32) (cap wt sec:Int) (ho:h.ok):Bx 31 79 (fE p A c h dE cap wt sec) (fE p A c h dE cap wt sec).toArray :=
 Bx.of (by kernel_rfl) (UK ho) (by omega) (Dh p A c h dE cap wt sec ho).o
theorem b2O {H:Type} {enc:TypeId × Value→H} {w:World} {spare:Nat→Bool} {held:Bool} {fuel:Nat} {cs:List Value} {x:DataW H × List MemPlace}
  (h:DataW.trod enc prog w 0 spare held fuel 31 cs=some x) : ∃ (p:eF) (A:Option Addr) (c:Nat) (hd:Hd) (dE:UInt32) (cap wt sec:Int),cs=fE p A c hd dE cap wt sec∧hd.ok∧Rd w A (p.dH.flatMap nR)∧∀ y∈p.dH,y.2.length=32:=by
 obtain⟨xs,n,_,_,hl,hx,F⟩:=DataW.trod_struct underlying31 h;rw[show prog.cellsOf 31=79 by kernel_rfl]at hl;have hx':xs.length=6:=hx;have g : ∀ (i:Nat) (hi:i<6),xs[i]?=some (xs[i]'(by omega)):=fun i hi=>List.getElem?_eq_getElem (by omega);have f0:DataW.trod enc prog w 0 spare held n 25 ((cs.drop 0).take (prog.cellsOf 25))=some _:=(F 0 _ rfl).trans (g 0 (by omega));rw[show prog.cellsOf 25=7 by kernel_rfl]at f0;have f1:DataW.trod enc prog w 0 spare held n 29 ((cs.drop 7).take (prog.cellsOf 29))=some _:=(F 1 _ rfl).trans (g 1 (by omega));rw[show prog.cellsOf 29=68 by kernel_rfl]at f1;have f2:DataW.trod enc prog w 0 spare held n 22 ((cs.drop 75).take (prog.cellsOf 22))=some _:=(F 2 _ rfl).trans (g 2 (by omega));rw[show prog.cellsOf 22=1 by kernel_rfl]at f2;have f3:DataW.trod enc prog w 0 spare held n 3 ((cs.drop 76).take (prog.cellsOf 3))=some _:=(F 3 _ rfl).trans (g 3 (by omega));rw[show prog.cellsOf 3=1 by kernel_rfl]at f3;have f4:DataW.trod enc prog w 0 spare held n 3 ((cs.drop 77).take (prog.cellsOf 3))=some _:=(F 4 _ rfl).trans (g 4 (by omega));rw[show prog.cellsOf 3=1 by kernel_rfl]at f4;have f5:DataW.trod enc prog w 0 spare held n 3 ((cs.drop 78).take (prog.cellsOf 3))=some _:=(F 5 _ rfl).trans (g 5 (by omega));rw[show prog.cellsOf 3=1 by kernel_rfl]at f5;obtain⟨p,A,c,e0,hr,h32⟩:=b79 f0 (by rw[List.length_take,List.length_drop];omega)
 replace e0:(cs.drop 0).take 7=[ag p.limit,iv p.bQ,iv p.span,iv p.dm,iv p.idx,iv p.dK,.slice A p.dH.length c]:=by
  injection e0 with e0;exact Array.toList_inj.2 e0
 obtain⟨hd,e1,ho⟩:=b4B f1;obtain⟨dE,e2⟩:=G7 f2;obtain⟨cap,e3,_,_⟩:=DataW.trod_int underlying3 f3;obtain⟨wt,e4,_,_⟩:=DataW.trod_int underlying3 f4;obtain⟨sec,e5,_,_⟩:=DataW.trod_int underlying3 f5;refine⟨p,A,c,hd,dE,cap,wt,sec,?_,ho,hr,h32⟩
 have hcs:cs=[ag p.limit,iv p.bQ,iv p.span,iv p.dm,iv p.idx,iv p.dK,.slice A p.dH.length c]++(hd.cells++([ag dE]++([.int .i64 cap]++([.int .i64 wt]++[.int .i64 sec])))):=by
  rw[show cs=cs.drop 0 from rfl,yl cs (0) 7,e0,yl cs (0+7) 68,e1,yl cs (0+7+68) 1,e2,yl cs (0+7+68+1) 1,e3,yl cs (0+7+68+1+1) 1,e4,yl cs (0+7+68+1+1+1) 1,e5,List.drop_eq_nil_of_le (by omega)];simp
 rw[hcs];rfl
theorem b9O {H:Type} {enc:TypeId × Value→H} {w:World} {spare:Nat→Bool} {held:Bool} {fuel:Nat} {cs:List Value} {x:DataW H × List MemPlace}
  (h:DataW.trod enc prog w 0 spare held fuel 34 cs=some x) : ∃ (k p n:Int) (A:Option Addr) (m c:Nat),cs=[iv k,iv p,iv n,.slice A m c]:=by
 obtain⟨xs,n,_,_,hl,hx,F⟩:=DataW.trod_struct underlying34 h;rw[show prog.cellsOf 34=4 by kernel_rfl]at hl;have hx':xs.length=4:=hx;have g : ∀ (i:Nat) (hi:i<4),xs[i]?=some (xs[i]'(by omega)):=fun i hi=>List.getElem?_eq_getElem (by omega);have f0:DataW.trod enc prog w 0 spare held n 3 ((cs.drop 0).take (prog.cellsOf 3))=some _:=(F 0 _ rfl).trans (g 0 (by omega));rw[show prog.cellsOf 3=1 by kernel_rfl]at f0;have f1:DataW.trod enc prog w 0 spare held n 3 ((cs.drop 1).take (prog.cellsOf 3))=some _:=(F 1 _ rfl).trans (g 1 (by omega));rw[show prog.cellsOf 3=1 by kernel_rfl]at f1;have f2:DataW.trod enc prog w 0 spare held n 3 ((cs.drop 2).take (prog.cellsOf 3))=some _:=(F 2 _ rfl).trans (g 2 (by omega));rw[show prog.cellsOf 3=1 by kernel_rfl]at f2;have f3:DataW.trod enc prog w 0 spare held n 32 ((cs.drop 3).take (prog.cellsOf 32))=some _:=(F 3 _ rfl).trans (g 3 (by omega));rw[show prog.cellsOf 32=1 by kernel_rfl]at f3;obtain⟨k,e0,_,_⟩:=DataW.trod_int underlying3 f0;obtain⟨p,e1,_,_⟩:=DataW.trod_int underlying3 f1;obtain⟨n',e2,_,_⟩:=DataW.trod_int underlying3 f2;obtain⟨A,l,c,e3,_,_,_⟩:=b1R underlying32 underlying5 cellsByte f3;refine⟨k,p,n',A,l.length,c,?_⟩;rw[show cs=cs.drop 0 from rfl,yl cs (0) 1,e0,yl cs (0+1) 1,e1,yl cs (0+1+1) 1,e2,yl cs (0+1+1+1) 1,e3,List.drop_eq_nil_of_le (by omega)];simp
end Go.Proofs.YtiagcenlnekdeaaGreatDoor
