/- Texts merged by pack.py: Zmi, Clq, OpB, OpY. -/
import Derived.Test.YtiagcenlnekdeaaGreatDoorCx19
import Derived.Test.YtiagcenlnekdeaaGreatDoorCx18
import Derived.Test.YtiagcenlnekdeaaGreatDoorCx17
import Derived.Test.YtiagcenlnekdeaaGreatDoorCx15
import Derived.Test.YtiagcenlnekdeaaGreatDoorCx6
import Derived.WalkKit
import Derived.ProofKit
import Derived.OpenShut
import Derived.Test.YtiagcenlnekdeaaGreatDoorCx5
import Derived.Test.YtiagcenlnekdeaaGreatDoorCards
import Derived.Test.YtiagcenlnekdeaaGreatDoorTie
import Derived.Deep.DeepHandedRow
import Derived.Lib.LaidTab
set_option maxRecDepth 1000000
set_option maxHeartbeats 16000000
open Go.Proofs.Tryz
open Go.Lib (hid)
set_option linter.unusedSimpArgs false
set_option linter.unusedVariables false
namespace Go.Proofs.YtiagcenlnekdeaaGreatDoor
open Go.RowKit
attribute [local go_sem ↓] Go.wp_at_zero Go.wp_at_succ
def Rx (p:aW) (x:aV) (w:World) (e:Ending) (w':World):Prop:=∃ (ds:Array Value) (RA:Option Addr) (rc:Nat) (L:Option Addr) (lc:Nat) (m:aV),e = .returned (.tuple #[.agg ds,.slice L 1 lc,iv 0])∧bZ { p with rA:=RA,rs:=[],rc:=rc,bad:=0} ds∧rc≤maxLen∧(1≤lc∧lc≤maxLen)∧m.kind=x.kind∧Rd w' L m.cells∧sH x m w'∧Keep w w'
theorem a4V {x m:aV} {w w':World} {g:Nat} {t:TypeId} {l:List Value} (h:sH x m w) (ho : ∀ A l c,x = .hds A l c → ∀ y∈l,y.ok) (hb:ae w g t l) (hl:l.length<68) (hg:w.grownBy w' (some g)):sH x m w':=by
 cases x with
 | bz p n h=>exact h
 | kN=>exact h
 | hds A hs c =>
   obtain⟨A1,c1,e,h1,hr⟩:=h;refine⟨A1,c1,e,h1,?_⟩;by_cases h0:hs.flatMap Hd.cells=[]
   ·exact .inl h0
   rcases hr with h2 | ⟨b,off,rfl,hc⟩
   ·exact absurd h2 h0
   have hlen:(hs.flatMap Hd.cells).length=hs.length*68:=rF _ 68 _ fun a ha=>Hd.len (ho A hs c rfl a ha);have hpos:=List.length_pos_iff.2 h0;refine .inr ⟨b,off,rfl,fun j hj=>qK hg (hc j hj) (fun e=>?_)⟩;injection e with e;subst e;have q:=hc ((hs.flatMap Hd.cells).length - 1) (by omega);rw[hb.cell]at q
   have:=(List.getElem?_eq_some_iff.1 q).1
   omega
theorem Lp {x m:aV} {w w':World} (h:sH x m w) (k:Keep w w'):sH x m w':=by
 cases x with
 | bz p n h'=>exact h
 | kN=>exact h
 | hds A hs c=>obtain⟨A1,c1,e,h1,hr⟩:=h;exact⟨A1,c1,e,h1,hr.keep k⟩
theorem b8i (p:aW) (cs:Array Value) (hA:bZ p cs) (hr:p.rs=[]) (hT:qW p=p) (hst3:p.stage≠3) (hbd:p.bad=0) (x:aV) (b:List UInt8) (hx:Nw x b) (ho : ∀ A l c,x = .hds A l c → ∀ y∈l,y.ok) (C:Option Addr) (cl:List UInt8) (cc:Nat) (w:World) (hb:cl.length≤1000000000) (hbl:b.length≤1000000000) (he:evs p.magic p.cap cl=[((iE x,b),0),(([],[]),1)]) (hO:nz cl [((iE x,b),0),(([],[]),1)]=([],0))
  (hc:cl.length≤cc∧cc≤maxLen) (hrd:Rd w C (cl.map ah)) (hS:bV w) :
  Calls prog 76 #[.agg cs,.slice C cl.length cc] w (Rx p x w):=by
 obtain⟨zs,hz0,aU⟩:=yD;obtain⟨zb,hy0,ng⟩:=XE;obtain⟨zm,hm0,hmz,hmn,hmo⟩:=QN;obtain⟨a7w,hg0,hgA⟩:=Ez;have hzn:=aU.n;have hzz:=aU.z;have hyn:=ng.n;have o6:=ng.z;have hgn:=hgA.n;have hgz:=hgA.z
 have jS:Hid (∀ y,Calls prog 108 #[.agg cs] y fun e w' => ∃ ds,e = .returned (.agg ds)∧bZ p ds∧Keep y w'):=hid fun y=>by
  have q:=WV p cs hA hr y
  rwa[hT]at q
 have hq1:=c0g p;rw[hT]at hq1
 have FF:Hid (∀ y,Keep w y → ∀ bs,jD (ik p.magic p.cap p.rA 0 p.rc 0) bs→Calls prog 109 #[.agg bs,.slice C cl.length cc] y fun e w' => ∃ (ds:Array Value) (L:Option Addr) (lc:Nat) (RA:Option Addr) (rc:Nat) (P:Option Addr) (pc:Nat),e = .returned (.tuple #[.agg ds,.slice L 1 lc])∧jD (ik p.magic p.cap RA 0 rc 0) ds∧rc≤maxLen∧Rd w' L [.string (str (iE x)),.slice P b.length pc]∧(b.length≤pc∧pc≤maxLen∧Rd w' P (b.map ah))∧Keep y w'):=hid fun y hy bs hB=>by
  refine(b3x _ _ _ _ bs hB hq1 C cl cl.length cc y rfl hb hc (hrd.keep hy) (hS.keep hy)).mono ?_;rintro e w' ⟨ds,L,lc,xs,RA,rc,rfl,e2,h3,h4,h5,h6,h7⟩;rw[he]at e2;rw[he,hO]at h3 h4
  have hE:(okR xs).map bJ.ev=[((iE x,b),0)]:=by
   have q:Ef (xs.map bJ.ev)=(okR xs).map bJ.ev:=LH ..;rw[←q,e2];rfl
  obtain⟨v,ev1,a1U⟩:=List.map_eq_singleton_iff.1 hE;rw[ev1]at h5 h6 ⊢;have hc1:v.c=iE x:=congrArg (fun z:Ev=>z.1.1) a1U;have hc2:v.p=b:=congrArg (fun z:Ev=>z.1.2) a1U;have h6':=h6 v (List.mem_singleton.2 rfl);rw[List.flatMap_singleton]at h5;subst hc2;rw[←hc1];exact⟨ds,L,lc,RA,rc,v.P,v.pc,rfl,h3,h4.2.1,h5,h6',h7⟩
 have a0k:Hid (∀ y,Calls prog 110 #[.string (str (iE x))] y fun e w'=>e = .returned (.tuple #[iv x.kind,.bool true])∧Keep y w'):=hid fun y=>by
  have q:=a4j (iE x) y
  rwa[(WA x).1,(WA x).2]at q
 have GT:Hid (∀ y P pc,b.length≤pc→pc≤maxLen→Rd y P (b.map ah)→Calls prog 111 #[.string (str (iE x)),.slice P b.length pc] y (Ib (sH x) x.kind y)):=hid fun y P pc h1 h2 h3=>b3K x b hx P pc y ⟨h1,h2⟩ h3;have hcn:=hA.n;have hcz:=hA.z;have hci:=hA.i
 have HST:=hid hst3;have RJ:=hid hbd;have NY:=hid hr
 have HZ:=hid aU;have HO:=hid ho
 clear hA hr hst3 hbd hb hc hrd hS hq1 aU ng hgA hT he hO hx ho hbl;generalize str (iE x)=sx at *;generalize b.length=bl at *;unfold Ib at GT;go_enter func76,ntmps76
 go_upto_region 1 with fail
 obtain⟨w1,hw1,HB,HR,HK,-⟩:=qF w 52 52 cs zs;rw[←hw1];clear hw1;go_wp2_with ((with_reducible refine bY w.heap.size cs (Eq.trans ?_ rfl) HB.out _ underlying52 rfl hci ?_);rfl)
 refine(jS.out _).mono ?_;clear jS;rintro e w2 ⟨qs,rfl,eP,k2⟩;have DX:=eP.n;have hqz:=eP.z;have hqi:=eP.i
 obtain⟨w3,hst3,hb3,hg3⟩:=bn (P:=prog) qs.toList (HB.out.keep k2) (by rw[Array.length_toList,Array.length_toList,hcz,hqz]) eP.o;rw[eP.l]at hb3;replace HB:=hid hb3;replace HR:=hid ((HR.out.keep k2).grown hg3 (fun e=>by injection e with e;omega));replace HK:=hid (aK (af HK.out k2) hg3 (by omega));clear k2 eP hb3 hg3;go_upto_region 2 with fail
 clear hst3;have r0:w3.cell? ⟨w.heap.size,0,none⟩=some (iv p.stage):=HB.out.cell 0;have d0:(p.stage==3)=false:=by rw[beq_eq_false_iff_ne];exact HST.out
 obtain⟨bs,bC,hbl⟩ : ∃ bs,jD (ik p.magic p.cap p.rA 0 p.rc 0) bs∧bs.toList=ik p.magic p.cap p.rA 0 p.rc 0:=⟨_,jD.of ..,rfl⟩
 have RB:Hid (w3.rangeAt w.heap.size 6 bs.toList):=hid (cu HB.out 6 bs.toList (by rw[hbl];unfold aW.cells;rw[NY.out,RJ.out];rfl));have hbi:=bC.i;have hbn:=bC.n
 have Yr:=hid (FF.out w3 HK.out bs bC);clear bC hbl FF;go_wp2_with ((with_reducible refine dw w.heap.size 6 bs (Eq.trans ?_ rfl) RB.out _ underlying50 rfl hbi rfl ?_);rfl)
 refine Yr.out.mono ?_;clear r0 d0 RB Yr hbi hbn;rintro e w4 ⟨ds,L,lc,RA,rc,P,pc,rfl,hdA,hrc,hrow,hpl,k4⟩;have hdz:=hdA.z;have hdn:=hdA.n;have hdi:=hdA.i
 have HD:=hid hdA;have a9h:=hid hrc;have HRW:=hid hrow;have iJ:=hid hpl
 replace HB:=hid (HB.out.keep k4);replace HR:=hid (HR.out.keep k4);replace HK:=hid (af HK.out k4);have hst:=fK w4 50 hdi (o6.trans hdz.symm) HD.out.o;clear hdA hrc hrow hpl k4;go_upto_region 5 with fail
 clear hst;have c3y:=HR.out.lt;obtain⟨gd,w5,hg,hw,hl5,NI,k5⟩:=oQ w4 50 ds;replace HB:=hid (HB.out.keep k5);replace HR:=hid (HR.out.keep k5);replace HK:=hid (af HK.out k5);replace HRW:=hid (HRW.out.keep k5);replace iJ:Hid (bl≤pc∧pc≤maxLen∧Rd w5 P (b.map ah)):=hid ⟨iJ.out.1,iJ.out.2.1,iJ.out.2.2.keep k5⟩;simp only[hw,hg];clear hw hg k5;obtain⟨z,hz⟩ : ∃ z:aW,z = { p with rA:=RA,rs:=[],rc:=rc,bad:=0}:=⟨_,rfl⟩
 have hsp:splice p.cells 6 ds.toList=z.cells:=by rw[HD.out.l,hz];rfl
 obtain⟨w6,PK,hb6,jh⟩:=b80 (P:=prog) 6 ds.toList HB.out (by rw[Array.length_toList,hdz];exact Nat.le_refl _) HD.out.o;obtain⟨za,hza,hzl⟩ : ∃ za,bZ z za∧za.toList=z.cells:=⟨_,bZ.of z,rfl⟩
 have ZV:=hid hza;have c4f:=hza.n;have b5N:=hza.z;have a3Z:=hza.i
 rw[hsp,←hzl]at hb6;replace iJ:Hid (bl≤pc∧pc≤maxLen∧Rd w6 P (b.map ah)):=hid ⟨iJ.out.1,iJ.out.2.1,b8D iJ.out.2.2 HB.out jh⟩
 replace HRW:Hid (Rd w6 L [.string sx,.slice P bl pc]):=hid (a5T HRW.out HB.out (fun v hv e=>by
  simp only[List.getElem?_cons_zero,Option.some.injEq]at e
  exact b8e p v hv _ e.symm) jh)
 have yJ:=NI;replace HR:=hid (HR.out.grown jh (fun e=>by injection e with e;omega));replace NI:=hid (NI.out.grown jh (fun e=>by injection e with e;omega));replace HK:=hid (aK HK.out jh (by omega));replace HB:=hid hb6;have Jg:=hid hz;clear hb6 jh hza hzl hsp hz;go_upto_region 6 with((with_reducible refine bY gd ds (Eq.trans ?_ rfl) yJ.out _ underlying50 rfl hdi ?_);rfl)
 clear PK yJ;obtain⟨xv,hxv⟩ : ∃ xv:Array Value,xv = #[.string sx,.slice P bl pc]:=⟨_,rfl⟩
 obtain⟨g,off,rfl,hgl,hcell⟩:=HRW.out.at (k:=0) (by simp)
 have um:Hid (w6.rangeAt g off xv.toList):=hid (by
  rw[hxv];intro j v hv;have hj:j<2:=(List.getElem?_eq_some_iff.1 hv).1;have q:=hcell j hj
  rw[q,←hv,List.getElem?_eq_getElem hj])
 have hxz:xv.size=2:=by rw[hxv];rfl
 have zA : ¬ xv = #[]:=by rw[hxv];intro e;cases e
 have hxi:(prog.info? 150).map (·.size)=some xv.size:=by rw[hxz];exact O7
 have hxo : ∀ v∈xv.toList,v.oneCell'=true:=by
  rw[hxv];intro v hv;simp only[List.mem_cons,List.not_mem_nil,or_false]at hv;rcases hv with rfl | rfl <;> rfl
 have a9u:=hid hxo;clear hxo;have a9w:=hid hxv;clear hxv hcell HRW;go_wp2_with fail
 go_loopw [9,33] (fun lv i wr => ∃ j:Nat,j≤1∧i = .int .i64 j∧(j=0→lv=gY)∧Hid (j=0→wr=w6)∧Hid (j=1 → ∃ (A1:Option Addr) (c1:Nat) (m:aV),lv = .slice A1 1 c1∧(1≤c1∧c1≤maxLen)∧m.kind=x.kind∧Rd wr A1 m.cells∧sH x m wr∧Keep w6 wr)) (fun _ i _=>1 - (intOf i).toNat)
 case atStart=>exact⟨0,by omega,rfl,fun _=>rfl,hid fun _=>rfl,hid fun e=>absurd e (by omega)⟩
 case round =>
  obtain⟨j,hj,rfl,hl0,TS,HW1⟩:=hrel;by_cases hlt:j<1
  ·obtain rfl:j=0:=by omega
   obtain rfl:=hl0 rfl;obtain rfl:=TS.out rfl;have d1:((0:Nat):Int)<1:=by omega
   clear HW1 TS hl0;have hst:=fK wr 150 hxi (hmz.trans hxz.symm) a9u.out;go_upto_region 10 with((with_reducible refine dw g off xv (Eq.trans ?_ rfl) um.out _ underlying150 rfl hxi rfl ?_);rfl)
   clear hst um;obtain⟨wa,nY,ig,fV⟩:=l7 wr 150 xv;rw[nY];rw[a9w.out]at ig;have c0:wa.cell? ⟨wr.heap.size,0,none⟩=some (.string sx):=ig.out.cell 0;clear nY;go_wp2_with fail
   refine(a0k.out _).mono ?_;rintro e wb ⟨rfl,kb⟩;replace ig:=hid (ig.out.keep kb);replace fV:=hid (af fV.out kb);clear c0 kb a0k;have c0:wb.cell? ⟨wr.heap.size,0,none⟩=some (.string sx):=ig.out.cell 0;have c1:wb.cell? ⟨wr.heap.size,1,none⟩=some (.slice P bl pc):=ig.out.cell 1;have BL:=hid (GT.out wb P pc iJ.out.1 iJ.out.2.1 (iJ.out.2.2.keep fV.out));go_wp2_with fail
   refine BL.out.mono ?_;clear BL GT c0 c1 ig;rintro e wc ⟨m,gs,rfl,hmk,uz,hmt,kc⟩;have VE:=uz.z;have c3v:=uz.n;have a3i:=uz.i
   have BZ:=hid uz;have IU:=hid hmk;have NS:=hid (hmt wc fun _ _ _=>rfl)
   replace fV:=hid (af fV.out kc);have hst:=fK wc 118 a3i (hgz.trans VE.symm) BZ.out.o;clear uz hmk hmt kc;go_upto_region 13 with fail
   clear hst;obtain⟨wd,hwd,Y5,SA⟩:=l7 wc 118 gs;rw[hwd];replace fV:=hid (af fV.out SA.out);replace NS:=hid (Lp NS.out SA.out);clear hwd SA;go_wp2_with (first | ((with_reducible refine bY wc.heap.size gs (Eq.trans ?_ rfl) Y5.out _ underlying118 rfl a3i ?_);rfl) | ((with_reducible refine a4G Wu gs VE (by omega) (Eq.trans ?_ rfl) ?_);rfl) | (at_builtin;refine iF Wu (by rfl) _ _ (by rfl) wd.heap.size (.slice none 0 0) 0 [] (by rfl) (World.ownsRow_nil _ _ _ _) _ 1 1 gs.toList (by rfl) (by rw[Array.length_toList,VE]) (Rd.new _ _ _) BZ.out.o (by omega) (by unfold maxLen;omega) (by simp) ?_;intro v6 w9 Bl wH Vs;have Oz:=hid Bl;have oK:=hid wH;clear Bl wH Vs))
   have a0l:Keep wr w9:=af fV.out (af (aB _ _) ((Below.refl _ _).grown oK.out (Nat.le_refl _) (fun q hq=>nomatch hq)));have a0m:Keep wd w9:=af (aB _ _) ((Below.refl _ _).grown oK.out (Nat.le_refl _) (fun q hq=>nomatch hq));obtain⟨A1,c1,rfl,hf1,hf2,hf3⟩:=dD Oz.out;have F:Hid (∃ (A2:Option Addr) (c2:Nat) (m:aV),Value.slice A1 (0+1) c1 = .slice A2 1 c2∧(1≤c2∧c2≤maxLen)∧m.kind=x.kind∧Rd w9 A2 m.cells∧sH x m w9∧Keep wr w9):=hid ⟨A1,c1,m,rfl,⟨hf1,hf2⟩,IU.out,by rw[←BZ.out.l];exact hf3,Lp NS.out a0m,a0l⟩;clear a0l a0m hf1 hf2 hf3 Oz oK NS BZ fV Y5
   go_roundw
   case rel=>exact⟨1,by omega,by go_num,fun q=>absurd q (by omega),hid fun q=>absurd q (by omega),hid fun _=>F.out⟩
   case measure=>simp[intOf]
  ·obtain rfl:j=1:=by omega
   have d1 : ¬ ((1:Nat):Int)<1:=by omega
   obtain⟨A1,c1,m,rfl,hc1,hmk,hrm,hmt,kr⟩:=HW1.out rfl;have rb:wr.cell? ⟨gd,3,none⟩=some (iv 0):=((NI.out.keep kr).cell 3).trans (by rw[HD.out.l];rfl);replace HB:=hid (HB.out.keep kr);replace HR:=hid (HR.out.keep kr);replace HK:=hid (af HK.out kr);obtain⟨w8,fQ,hb8,aZ⟩:=bn (P:=prog) za.toList HR.out (by rw[Array.length_toList,Array.length_toList,hzz,b5N]) ZV.out.o;have gq:=hid hb8;have bK:Hid (Keep w w8):=hid (aK HK.out aZ (by omega));have VU:zs.toList.length=10:=by rw[HZ.out.l];rfl
   have HF:Hid (∃ m:aV,m.kind=x.kind∧Rd w8 A1 m.cells∧sH x m w8):=hid ⟨m,hmk,Qs hrm HR.out (.inr (by rw[VU,aV.len];omega)) aZ,a4V hmt HO.out HR.out (by rw[VU];omega) aZ⟩;have NG:=hid hc1;clear hb8 aZ hc1 hmk hrm hmt kr VU HW1 TS hl0 um;go_wp2_with ((with_reducible refine bY w.heap.size za (Eq.trans ?_ rfl) HB.out _ underlying52 rfl a3Z ?_);rfl)
   have hb8:=gq.out;obtain⟨m',h1,h2,h3⟩:=HF.out;exact bodyPost_ret (v:=.tuple #[.agg za,.slice A1 1 c1,iv 0]) (rU results76 _ _ (w.heap.size+1) _ _ _ _ rfl hb8 underlying52 rfl (by rw[List.size_toArray,Array.length_toList];exact a3Z)) rfl ⟨za,RA,rc,A1,c1,m',rfl,by rw[←Jg.out];exact ZV.out,a9h.out,NG.out,h1,h2,h3,bK.out⟩
def qS (s:Int) (A:Option Addr) (c:Nat):aW:={ pg 5 9999 with stage:=s,rA:=A,rc:=c}
def pX (m:aV):List UInt8:=uM 5 (iE m) m.put
def mS (s:Int):aV:=if s=0 then .bz 0 0 0 else .kN
theorem GU (s:Int) (hs:s=0∨s=1∨s=2) (A:Option Addr) (c:Nat):qW (qS s A c)=qS s A c:=by
 rcases hs with rfl | rfl | rfl <;> rfl
theorem c0M (s:Int) (hs:s=0∨s=1):evs 5 9999 (pX (mS s))=[((iE (mS s),(mS s).put),0),(([],[]),1)]∧nz (pX (mS s)) [((iE (mS s),(mS s).put),0),(([],[]),1)]=([],0)∧Nw (mS s) (mS s).put∧(pX (mS s)).length≤1000000∧(mS s).put.length≤1000000:=by
 rcases hs with rfl | rfl
 ·exact⟨by kernel_rfl,by kernel_rfl,⟨by decide,by decide,by decide,by decide⟩,by decide,by decide⟩
 ·exact⟨by kernel_rfl,by kernel_rfl,rfl,by decide,by decide⟩
end Go.Proofs.YtiagcenlnekdeaaGreatDoor
namespace Go.Proofs.YtiagcenlnekdeaaGreatDoor
open Go.RowKit Go.ChangeShapes Go.WideShapes Go.ChangeAt Go.Deep
theorem cellsByte:prog.cellsOf 5=1:=by kernel_rfl
theorem c0Z {x:Int} (h:0≤x∧x≤4294967295) : ∃ t:UInt32,x=(t.toNat:Int):=⟨w32 x,BB h.1 h.2⟩
theorem b1M {x:Int} (h:0≤x∧x≤255) : ∃ t:UInt8,x=(t.toNat:Int):=⟨w8 x,rW h.1 h.2⟩
theorem G7 {H:Type} {enc:TypeId × Value→H} {w:World} {spare:Nat→Bool} {held:Bool} {fuel:Nat} {cs:List Value} {x:DataW H × List MemPlace}
  (h:DataW.trod enc prog w 0 spare held fuel 22 cs=some x) : ∃ t:UInt32,cs=[ag t]:=by
 obtain⟨k,ek,_,wk⟩:=DataW.trod_int underlying22 h;obtain⟨t,rfl⟩:=c0Z (x:=k) (by simpa[Lit.wf,IntKind.min,IntKind.max,IntKind.signed,IntKind.bits]using wk);exact⟨t,ek⟩
theorem b1Y:prog.cellsOf 29=68:=by kernel_rfl
theorem UJ:prog.cellsOf 27=32:=by kernel_rfl
theorem a1d:prog.cellsOf 22=1:=by kernel_rfl
theorem c0E:prog.underlying 27=some (.array 32 5):=by kernel_rfl
theorem Vr {H:Type} {enc:TypeId × Value→H} {w:World} {spare:Nat→Bool} {held:Bool} {fuel:Nat} {cs:List Value} {x:DataW H × List MemPlace}
  (h:DataW.trod enc prog w 0 spare held fuel 27 cs=some x) : ∃ l:List UInt8,cs=l.map ah∧l.length=32:=by
 obtain⟨xs,m,_,_,h1,h2,h3⟩:=DataW.trod_array c0E h;rw[UJ]at h1
 obtain⟨l,rfl,_⟩:=PX (f:=ah) (p:=fun _=>True) cs fun u hu=>by
  obtain⟨i,hi,rfl⟩:=List.mem_iff_getElem.1 hu;have h4:=h3 i (by omega);rw[cellsByte,Nat.mul_one,List.getElem?_eq_getElem (by omega)]at h4;obtain⟨k,ek,_,wk⟩:=DataW.trod_int underlying5 h4;obtain⟨t,rfl⟩:=b1M (x:=k) (by simpa[Lit.wf,IntKind.min,IntKind.max,IntKind.signed,IntKind.bits]using wk);rw[List.drop_eq_getElem_cons hi,List.take_succ_cons,List.take_zero]at ek;exact⟨t,(List.cons.inj ek).1,trivial⟩
 exact⟨l,rfl,by simpa using h1⟩
theorem b4B {H:Type} {enc:TypeId × Value→H} {w:World} {spare:Nat→Bool} {held:Bool} {fuel:Nat} {cs:List Value} {x:DataW H × List MemPlace}
  (h:DataW.trod enc prog w 0 spare held fuel 29 cs=some x) : ∃ r:Hd,cs=r.cells∧r.ok:=by
 obtain⟨xs,n,_,_,hl,hx,F⟩:=DataW.trod_struct underlying29 h;rw[b1Y]at hl;have hx':xs.length=6:=hx;have g : ∀ (i:Nat) (hi:i<6),xs[i]?=some (xs[i]'(by omega)):=fun i hi=>List.getElem?_eq_getElem (by omega);have f0:DataW.trod enc prog w 0 spare held n 22 ((cs.drop 0).take (prog.cellsOf 22))=some _:=(F 0 _ rfl).trans (g 0 (by omega));have f1:DataW.trod enc prog w 0 spare held n 27 ((cs.drop 1).take (prog.cellsOf 27))=some _:=(F 1 _ rfl).trans (g 1 (by omega));have f2:DataW.trod enc prog w 0 spare held n 27 ((cs.drop 33).take (prog.cellsOf 27))=some _:=(F 2 _ rfl).trans (g 2 (by omega));have f3:DataW.trod enc prog w 0 spare held n 22 ((cs.drop 65).take (prog.cellsOf 22))=some _:=(F 3 _ rfl).trans (g 3 (by omega));have f4:DataW.trod enc prog w 0 spare held n 22 ((cs.drop 66).take (prog.cellsOf 22))=some _:=(F 4 _ rfl).trans (g 4 (by omega));have f5:DataW.trod enc prog w 0 spare held n 22 ((cs.drop 67).take (prog.cellsOf 22))=some _:=(F 5 _ rfl).trans (g 5 (by omega));simp only[a1d,UJ]at f0 f1 f2 f3 f4 f5;obtain⟨a,ea⟩:=G7 f0;obtain⟨p,ep,hp⟩:=Vr f1;obtain⟨q,eq,hq⟩:=Vr f2;obtain⟨t,et⟩:=G7 f3;obtain⟨b,eb⟩:=G7 f4;obtain⟨c,ec⟩:=G7 f5
 have key : ∀ (l:List Value) (i k:Nat),l.drop i=(l.drop i).take k++l.drop (i+k):=fun l i k=>by
  have h1:=(List.take_append_drop k (l.drop i)).symm
  rwa[List.drop_drop]at h1
 refine⟨⟨a,p,q,t,b,c⟩,?_,hp,hq⟩;have e:cs=cs.drop 0:=rfl;rw[e,key cs 0 1,ea,key cs (0+1) 32,ep,key cs (0+1+32) 32,eq,key cs (0+1+32+32) 1,et,key cs (0+1+32+32+1) 1,eb,key cs (0+1+32+32+1+1) 1,ec,List.drop_eq_nil_of_le (by omega)];simp[Hd.cells]
theorem a2e : prog.globalNamed "florin/sha2.constants" = some 1 := by kernel_rfl
theorem gH : prog.globalNamed "florin/sha2.initials" = some 0 := by kernel_rfl
theorem b3J:(prog.globals[1]?).map (·.type)=some 316:=by kernel_rfl
theorem b3I:(prog.globals[0]?).map (·.type)=some 198:=by kernel_rfl
theorem b2a:prog.cellsOf 316=64:=by kernel_rfl
theorem b1X:prog.cellsOf 198=8:=by kernel_rfl
theorem a6L {W:World} {name:String} {l:List UInt32} {g:Nat} (h:Lib.TabIs prog W name .u32 (l.map fun y=>(y.toNat:Int))) (hg:prog.globalNamed name=some g) (i:Nat) (y:UInt32) (hy:l[i]?=some y) :
  W.cell? ⟨g,i,none⟩=some (ag y):=by
 have hi:i<l.length:=(List.getElem?_eq_some_iff.1 hy).1;have h1:=h.cell hg i (by rw[List.length_map];exact hi);rw[h1,List.getD_eq_getElem?_getD,List.getElem?_map,hy];rfl
theorem b98 {x:String × DataW Unit} {rest:List (String × DataW Unit)} {W:World} (h:laidMet prog (x::rest) W) : ∃ ps,DataW.LaidVars prog W rest ps:=by
 obtain⟨ps,⟨_,_,_,_,_,q,_,_,_,_,hq,_⟩,_⟩:=h;exact⟨q,hq⟩
theorem b6r {H:Type}:(Rows.laid_florin_sha2_constants:DataW H)=Lib.tabData .u32 (yj.map fun y=>(y.toNat:Int)):=by kernel_rfl
theorem b6q {H:Type}:(Rows.laid_florin_sha2_initials:DataW H)=Lib.tabData .u32 (yc.map fun y=>(y.toNat:Int)):=by kernel_rfl
theorem a4p {W:World} {name:String} {l:List UInt32} {g n:Nat} {d:DataW Unit} {rest:List (String × DataW Unit)} {at_:TypeId} (hd0:d=Lib.tabData .u32 (l.map fun y=>(y.toNat:Int))) (hg:prog.globalNamed name=some g) (hT:(prog.globals[g]?).map (·.type)=some at_)
  (ha:prog.underlying at_=some (.array n 22)) (hc:prog.cellsOf at_=n) (h : ∃ ps,DataW.LaidVars prog W ((name,d)::rest) ps):Lib.TabIs prog W name .u32 (l.map fun y=>(y.toNat:Int)):=by
 subst hd0;obtain⟨qs,g',t',cs,fuel,p,q,hg',ht',hvar,hd,_,_⟩:=h;obtain rfl:=Option.some.inj (hg.symm.trans hg');obtain rfl:=Option.some.inj (hT.symm.trans ht');unfold Lib.TabIs;rw[hvar,←Lib.cells_of_tab ha underlying22 a1d hc hd]
theorem c0F {x:String × DataW Unit} {rest:List (String × DataW Unit)} {W:World} (h : ∃ ps,DataW.LaidVars prog W (x::rest) ps) : ∃ ps,DataW.LaidVars prog W rest ps:=by
 obtain⟨ps,_,_,_,_,_,q,_,_,_,_,hq,_⟩:=h;exact⟨q,hq⟩
theorem b9q {W : World} {d3 d4 : DataW Unit} (h : laidMet prog [("unicode/utf8.acceptRanges", d3), ("florin/sha2.constants", Rows.laid_florin_sha2_constants), ("florin/sha2.initials", Rows.laid_florin_sha2_initials), ("unicode/utf8.first", d4)] W) : bV W := by
 have h1:=b98 h;have hK:=a4p (l:=yj) b6r a2e b3J underlying316 b2a h1;have hH:=a4p (l:=yc) b6q gH b3I underlying198 b1X (c0F h1);exact⟨fun i y hy=>a6L hK a2e i y hy,fun i y hy=>a6L hH gH i y hy⟩
def PV (g:Nat) (cs:Array Value) (h:Array Obj):Array Obj:=h.modify g fun
 | .cells _ t frozen => .cells cs t frozen
 | o=>o
def b0X:List Value:=[128,191,160,191,128,159,144,191,128,143,0,0,0,0,0,0,0,0,0,0,0,0,0,0,0,0,0,0,0,0,0,0].map (Value.int .u8)
def b3H:List Value:=Go.Pinned.utf8FirstZ.map fun n:Nat=>Value.int .u8 (n:Int)
noncomputable def laidWorld (os:Os):World :=
 { World.holding prog os ⟨#[],#[],[]⟩with heap:=PV 2 b3H.toArray (PV 3 b0X.toArray (PV 0 (yc.map ag).toArray (PV 1 (yj.map ag).toArray (World.holding prog os ⟨#[],#[],[]⟩).heap)))}
end Go.Proofs.YtiagcenlnekdeaaGreatDoor
