/- Texts merged by pack.py: Cll, Clm, Clp, Clr, Cls, Clt, Clu, Clv, Clw, Cln. -/
import Derived.Test.YtiagcenlnekdeaaGreatDoorCx29
import Derived.Test.YtiagcenlnekdeaaGreatDoorCx18
import Derived.Test.YtiagcenlnekdeaaGreatDoorCx20
import Derived.Test.YtiagcenlnekdeaaGreatDoorCx28
import Derived.Test.YtiagcenlnekdeaaGreatDoorCx7
set_option maxRecDepth 1000000
set_option maxHeartbeats 16000000
open Go.Proofs.Tryz
open Go.Lib (hid)
set_option linter.unusedSimpArgs false
set_option linter.unusedVariables false
namespace Go.Proofs.YtiagcenlnekdeaaGreatDoor
open Go.RowKit
attribute [local go_sem ↓] Go.wp_at_zero Go.wp_at_succ
theorem c0J {w:World} {A:Option Addr} {l:List aV} (hr:Rd w A (l.flatMap aV.cells)) {k:Nat} (h:k<l.length) :
  ∃ b off,A=some ⟨b,off,none⟩∧b<w.heap.size∧w.rangeAt b (off+k*114) l[k].cells:=by
 have hlen : ∀ a∈l,a.cells.length=114:=fun a _=>a.len;obtain⟨b,off,rfl,hb,F⟩:=hr.at (k:=k*114) (by rw[rF _ 114 _ hlen];omega);refine⟨b,off,rfl,hb,fun j v hv=>?_⟩;have hj:j<114:=by rw[←l[k].len];exact(List.getElem?_eq_some_iff.1 hv).1
 have hg:=JW aV.cells 114 l hlen k j h hj;have hlt:k*114+j<(l.flatMap aV.cells).length:=by rw[rF _ 114 _ hlen];omega
 have hc:=F (k*114+j) hlt;rw[Nat.add_assoc,hc,←hv,←hg,List.getElem?_eq_getElem hlt]
theorem a4U (l:List aV):l.flatMap aV.cells=[]∨100<(l.flatMap aV.cells).length:=by
 rw[rF _ 114 _ fun a _=>a.len]
 cases l with
 | nil=>exact .inl rfl
 | cons x l=>right;simp;omega
theorem a7c (X V:Nat) (p:aW) (m:aV) (hsm:m.small) (ms:Array Value) (R:aW × List aV) (w0 w:World) (P:World→Prop) (hr:p.rs=[]) (hT:qW p=p) (hsg:p.stage=a6C m) (hM:Bx 118 114 m.cells ms) (hR:DN p m=R) (hS:bV w0)
  (hst:R.1.stage≠3) (hT1:qW R.1=R.1) (hrs:R.1.rs=[]) (hok : ∀ x∈R.2,x.small∧∀ p∈x.parts,∀ y,p.fit y)
  (HV:ae w V 175 (jX X p 0 ns0 0)) (hk0:Keep w0 w) (Pq:w0.heap.size≤V)
  (h01:m.kind≠5 → ∀ w' sA sn sc,ae w' V 175 (jX X R.1 0 (.slice sA sn sc) 0)→Turned V w w'→P w')
  (h5 : ∀ hA hs hc,m = .hds hA hs hc → ∀ y,Turned V w y→ae y V 175 (jX X R.1 0 ns0 0)→Calls prog 115 #[pT V,.slice hA hs.length hc] y fun e w'=>e = .returned (.tuple #[])∧P w') :
  Calls prog 77 #[pT V,.agg ms] w fun e w'=>e = .returned (.tuple #[])∧P w':=by
 obtain⟨ps,hpA⟩ : ∃ ps,bZ p ps:=⟨_,bZ.of p⟩
 have HD:Hid (∀ y,Calls prog 113 #[.agg ps,.agg ms] y (TC R y)):=hid fun y=>by rw[←hR];exact b4a p ps hpA hr hT m hsm ms hM hsg y
 have SD:Hid (∀ B n sv xs (x:aV) (xa:Array Value) y,x∈R.2→Bx 118 114 x.cells xa→Keep w0 y→ae y V 175 (jX X R.1 0 sv 0)→y.ownsRow B 243 2 sv n xs→n≤1000→B≤y.heap.size→V<B→Calls prog 114 #[pT V,.agg xa] y (OB X V B n R.1 0 0 sv y)):=hid fun B n sv xs x xa y hx hxa hy h1 h2 h3 h4 h5 =>
  c0K X V B n sv xs R.1 0 0 hrs hT1 hst x (hok x hx).1 xa hxa y (hok x hx).2 (hS.keep hy) h1 h2 h3 h4 h5
 have a2z:m.kind=5→R.2=[]:=fun e=>by rw[←hR];cases m <;> first | rfl | simp[aV.kind]at e
 have hn:R.2.length≤100:=by rw[←hR];cases m <;> simp[DN]
 have IU:Hid (m.cells[0]?=some (iv m.kind)):=hid (by cases m <;> rfl);have hpn:=hpA.n;have hpz:=hpA.z;have hpi:=hpA.i
 have hmn:=hM.n;have hmz:=hM.z;have kR:=hM.i
 have Cb:=hid hM.l;have HVV:=hid HV;have xK:=hid hpA
 have c2j:V<w.heap.size:=HV.lt;have RG:=hid h01;have nI:=hid h5;have qw:=hid hk0
 have kX:=hid a2z;obtain⟨R1,R2⟩:=R;simp only at hn;clear hr hM hR hS hst hrs hok HV hk0 h01 h5 hpA hsm hsg hT hT1 a2z;obtain⟨zp,hp0,aU⟩:=yD;have hzn:=aU.n;have hzz:=aU.z
 obtain⟨a7w,hg0,hgA⟩:=Ez;have hgn:=hgA.n;have hgz:=hgA.z
 go_enter func77,ntmps77
 go_upto_region 1 with fail
 obtain⟨w1,hw1,HB1,ai,-⟩:=di w 118 ms;rw[←hw1];clear hw1;unfold TC at HD
 go_cut [4,5,6] (fun s4 s5 s6 wx => ∃ (g:Nat) (ds:Array Value) (A:Option Addr) (n:Nat),s4 = .pointer (some ⟨g,0,none⟩)∧s5 = .slice A R2.length n∧s6=iv 0∧Hid (Keep w1 wx)∧Hid (bZ R1 ds)∧Hid (ae wx g 52 ds.toList)∧Hid (R2.length≤n∧n≤2∧Rd wx A (R2.flatMap aV.cells)))
 case first =>
  refine bu (.take [0,1,2,3,4] (.fork 5 (.take [6,7,8,9] (.force [10] .done)) 10 (.force [5] (.take [6,7,8,9] .done)))) [11,12,13] (by kernel_rfl) (by kernel_rfl) (fun w2 k2=>?_);have ay:=hid k2;have iG:Hid (w2.rangeAt V 2 ps.toList):=hid (QI (HVV.out.keep (af ai.out k2)) xK.out);have RM:Hid (w2.rangeAt w.heap.size 0 ms.toList):=hid (cu (HB1.out.keep k2) 0 ms.toList (by simp[List.take_of_length_le]));clear k2;refine aN w2 (Below.refl _ _) ?_;simp only[au,ax,ak,aj]
  repeat(first
   | ((with_reducible refine jY V 2 ps (Eq.trans ?_ rfl) iG.out _ underlying52 rfl hpi (Eq.trans ?_ rfl) ?_);rfl;rfl;simp only[Act.put,Array.set!_eq_setIfInBounds,List.setIfInBounds_toArray,List.set_cons_succ,List.set_cons_zero])
   | ((with_reducible refine jY w.heap.size 0 ms (Eq.trans ?_ rfl) RM.out _ underlying118 rfl kR (Eq.trans ?_ rfl) ?_);rfl;rfl;simp only[Act.put,Array.set!_eq_setIfInBounds,List.setIfInBounds_toArray,List.set_cons_succ,List.set_cons_zero])
   | go_big_quiet_step (fail))
  clear iG RM;refine wpQuiet_nil (ny ?_ ?_)
  ·simp only[au,ax,ak,aj]
   refine aI rfl (fun K hK=>?_);go_simp;refine(HD.out _).mono ?_;rintro e w3 ⟨ds,A,n,rfl,hdA,hn1,hn2,hrd,k3⟩;refine hK _ _ k3 ?_;clear hK K;have hdz:=hdA.z;have hdn:=hdA.n;have hdi:=hdA.i
   have vk:=hid hdA;have aA:=hid (af ay.out k3);have EY:=hid hrd;clear hdA k3 hrd ay;refine aS (aN w3 (Below.refl _ _) ?_);simp only[au,ax,ak,aj];repeat(go_big_quiet_step (fail))
   refine wpQuiet_nil (bI ?_);simp only[au,ax,ak,aj];refine aI rfl (fun K hK=>?_);go_simp;refine hK _ _ (aB _ _) ?_;clear hK K;obtain⟨w4,hw4,HP,Ze,-⟩:=di w3 52 zp;have nZ:w1.heap.size≤w3.heap.size:=aA.out.size;rw[←hw4];clear hw4;refine aS (aT ?_);obtain⟨wa,lN,hba,hga⟩:=bn (P:=prog) ds.toList HP.out (by simp[hzz,hdz]) vk.out.o;have dG:=hid hba;have lW:Hid (Keep w3 wa):=hid (aK Ze.out hga (by omega));clear hba hga HP Ze;go_wp2
   go_meet
   exact⟨_,ds,A,n,rfl,rfl,rfl,hid (af aA.out lW.out),vk,dG,hid ⟨hn1,hn2,EY.out.keep lW.out⟩⟩
  ·simp only[au,ax,ak,aj]
   refine aI rfl (fun K hK=>?_);go_simp;refine hK _ _ (aB _ _) ?_;clear hK K;obtain⟨w3,hw3,HP,-,-⟩:=di w2 52 zp;have aA:Hid (Keep w1 w3):=by rw[hw3];exact hid (af ay.out (aB _ _))
   have nZ:w1.heap.size≤w2.heap.size:=ay.out.size;rw[←hw3];clear hw3 ay;refine aS (bI ?_);simp only[au,ax,ak,aj];refine aI rfl (fun K hK=>?_);go_simp;refine(HD.out _).mono ?_;rintro e w4 ⟨ds,A,n,rfl,hdA,hn1,hn2,hrd,k4⟩;refine hK _ _ k4 ?_;clear hK K;have hdz:=hdA.z;have hdn:=hdA.n;have hdi:=hdA.i
   have vk:=hid hdA;have aQ:=hid (af aA.out k4);have pK:=hid (HP.out.keep k4);have EY:=hid hrd;clear hdA k4 hrd aA HP;refine aS (aN w4 (Below.refl _ _) ?_);simp only[au,ax,ak,aj];repeat(go_big_quiet_step (fail))
   refine wpQuiet_nil (aT ?_);obtain⟨wa,lN,hba,hga⟩:=bn (P:=prog) ds.toList pK.out (by simp[hzz,hdz]) vk.out.o;have dG:=hid hba;have vw:Hid (Keep w1 wa):=hid (aK aQ.out hga (by omega));have a9g:Hid (Rd wa A (R2.flatMap aV.cells)):=hid (Qs EY.out pK.out ((a4U R2).imp id fun q=>by rw[Array.length_toList,hzz];omega) hga);clear hba hga pK aQ;go_wp2
   go_meet
   exact⟨_,ds,A,n,rfl,rfl,rfl,vw,vk,dG,hid ⟨hn1,hn2,a9g.out⟩⟩
 case rest =>
  obtain⟨g,ds,A,n,rfl,rfl,rfl,gK,vk,HBc,vI⟩:=hcut;have hdz:=vk.out.z;have hdn:=vk.out.n;have hdi:=vk.out.i
  have HKw:=hid (af ai.out gK.out);have FD:Hid (wc.rangeAt g 0 ds.toList):=hid (cu HBc.out 0 ds.toList (by simp[List.take_of_length_le]));obtain⟨w5,hst5,hb5,hg5⟩:=Bz (P:=prog) 2 ds.toList (HVV.out.keep HKw.out) (by rw[G5,Array.length_toList,hdz];omega) vk.out.o;rw[vk.out.l,a7d]at hb5;have HV5:=hid hb5;have Am:Hid (Rd w5 A (R2.flatMap aV.cells)):=hid (Qs vI.out.2.2 (HVV.out.keep HKw.out) ((a4U R2).imp id fun q=>by rw[G5];omega) hg5);have ER:Hid (ae w5 w.heap.size 118 ms.toList):=hid ((HB1.out.keep gK.out).grown hg5 (fun e=>by injection e with e;omega));have aJ:Hid (Turned V w w5):=hid ((aP.of HKw.out).grown hg5 (fun j _ e=>by injection e with e;exact e.symm));have hsz5:w.heap.size≤w5.heap.size:=aJ.out.2.2.2.1;have hA2:=vI.out.1;clear hb5 hg5 vI HBc gK HKw HB1 ai HVV;go_upto_region 3 with((with_reducible refine dw g 0 ds (Eq.trans ?_ rfl) FD.out _ underlying52 rfl hdi rfl ?_);rfl)
  clear hst5 FD;obtain⟨N,hN⟩ : ∃ N,R2.length=N:=⟨_,rfl⟩
  rw[hN]at hA2 hn;have HN:=hid hN;go_wp2_with fail
  clear hN
  go_loopw [32] (fun kv wr => ∃ (k:Nat) (sv:Value) (xs:List Value),k≤N∧kv = .int .i64 k∧Hid (ae wr V 175 (jX X R1 0 sv 0))∧Hid (wr.ownsRow w5.heap.size 243 2 sv k xs)∧Hid (Turned V w5 wr)∧Hid (k=0→sv=ns0)) (fun kv _=>N - (intOf kv).toNat)
  case atStart=>exact⟨0,ns0,[],by omega,rfl,HV5,hid (World.ownsRow_nil _ _ _ _),hid (aP.of (Below.refl _ _)),hid fun _=>rfl⟩
  case round =>
   obtain⟨k,sv,xs,hkn,rfl,CE,HOr,bg,SL⟩:=hrel;by_cases hlt:k<N
   ·have d1:(k:Int)<N:=by omega
    have hk2:k<R2.length:=by rw[HN.out];exact hlt
    obtain⟨b,off,rfl,hb5,r5⟩:=c0J Am.out hk2
    have Vu:b≠V:=a5U Am.out HV5.out (by
     have e:(R2.flatMap aV.cells).length=R2.length*114:=rF _ 114 _ fun a _=>a.len
     rw[G5,e];omega)
    obtain⟨xa,o5,hxl⟩ : ∃ xa,Bx 118 114 R2[k].cells xa∧xa.toList=R2[k].cells:=(R2[k]).bx.imp fun _ h=>⟨h,h.l⟩
    have um:Hid (wr.rangeAt b (off+k*114) xa.toList):=hid fun j u hu=>by
     rw[hxl]at hu;exact aP.cell bg.out (r5 j u hu) Vu
    have zA:=o5.n;have hxz:=o5.z;have hxi:=o5.i
    have ig:=hid o5;have a0O:=hid (fun y h1 h2 h3 h4=>SD.out w5.heap.size k sv xs R2[k] xa y (List.getElem_mem hk2) ig.out h1 h2 h3 (by omega) h4 (by omega));have hst:=fK wr 118 hxi (hgz.trans hxz.symm) ig.out.o;clear o5 hxl r5;generalize R2[k]=x at *;go_upto_region 6 with((with_reducible refine dw b (off+k*114) xa (Eq.trans ?_ rfl) um.out _ underlying118 rfl hxi rfl ?_);rfl)
    obtain⟨w6,hw6,ZT,bD,-⟩:=di wr 118 xa;rw[←hw6];clear hw6 hst um;have b5J:w5.heap.size≤w6.heap.size:=Nat.le_trans bg.out.2.2.2.1 bD.out.size;have Uk:=hid (a0O.out w6 (af (bg.out.keep (aJ.out.keep qw.out (fun j e=>by subst e;exact Pq)) (fun j e=>by subst e;exact Pq)) bD.out) (CE.out.keep bD.out) (jM HOr.out bD.out) b5J);unfold OB at Uk;have a0N:Hid (w6.rangeAt wr.heap.size 0 xa.toList):=hid (cu ZT.out 0 xa.toList (by simp[List.take_of_length_le]));go_wp2_with ((with_reducible refine dw wr.heap.size 0 xa (Eq.trans ?_ rfl) a0N.out _ underlying118 rfl hxi rfl ?_);rfl)
    refine Uk.out.mono ?_;rintro e w7 ⟨sv',xs',rfl,hv7,KH,a4k,hs7⟩;have Fb:=hid hv7;have lX:=hid KH
    have bT:Hid (Turned V w5 w7):=hid ((bg.out.trans (aP.of bD.out (X:=fun _=>False)) (fun _ _ q=>q.elim)).trans a4k (fun j hj q=>by
     rcases q with q | q
     ·exact q
     ·have:=(HOr.out.lt j q).1;omega))
    clear hv7 KH a4k hs7 Uk a0N ZT CE HOr bg bD a0O ig;go_wp2
    go_roundw
    case rel=>exact⟨k+1,sv',xs',by omega,by go_num,Fb,lX,bT,hid fun q=>by omega⟩
    case measure=>simp[intOf];omega
   ·obtain rfl:k=N:=by omega
    have d1 : ¬ ((k:Int)<k):=by omega
    have HKw:Hid (Turned V w wr):=hid (aJ.out.trans bg.out (fun _ _ q=>q));have yM:Hid (ae wr w.heap.size 118 ms.toList):=hid ((bg.out.2.2.2.2 _ ER.out.lt (fun e=>by omega)).trans ER.out);obtain⟨sA,sc,rfl,-⟩:=dD HOr.out;have v0:wr.cell? ⟨V,0,none⟩=some (pT X):=(CE.out.cell 0).trans rfl;have m0:wr.cell? ⟨w.heap.size,0,none⟩=some (iv m.kind):=(yM.out.cell 0).trans (by rw[Cb.out];exact IU.out);clear bg HOr Am ER aJ;by_cases hk5:m.kind=5
    ·have hsv:=SL.out (by rw[←HN.out,kX.out hk5];rfl)
     have S9:=CE.out;rw[hsv]at S9
     cases m with
     | hds hA hs hc =>
       have a8g:=hid (nI.out hA hs hc rfl wr HKw.out S9);clear hsv S9;have m4:wr.cell? ⟨w.heap.size,4,none⟩=some (.slice hA hs.length hc):=(yM.out.cell 4).trans (by rw[Cb.out];rfl);rw[hk5]at m0;clear nI RG HKw CE yM SL;go_wp2_with fail
       refine a8g.out.mono ?_;rintro e w8 ⟨rfl,hP⟩;go_wp2
       exact bodyPost_end (v:=.tuple #[]) (by simp[results,results77]) rfl ⟨rfl,hP⟩
     | _=>simp[aV.kind]at hk5
    ·have F:=hid (RG.out hk5 wr sA k sc CE.out HKw.out)
     have hkk:m.kind=0∨m.kind=1:=by cases m <;> first | exact .inl rfl | exact .inr rfl | exact absurd rfl hk5
     clear nI RG HKw CE yM SL;rcases hkk with q | q
     all_goals
      rw[q]at m0;go_wp2
      exact bodyPost_end (v:=.tuple #[]) (by simp[results,results77]) rfl ⟨rfl,F.out⟩
theorem c1g {o:Oper} {a:Act} {w:World} {K:Act→World→Prop} {Q:Exit→Act→World→Prop} (x0 x1 x2:Operand) (ho:o.op = .buildSlice 68 3 #[(0,x0),(1,x1),(2,x2)]) (i j k:Int) (h0:a.eval x0=iv i) (h1:a.eval x1=iv j) (h2:a.eval x2=iv k)
  (h:K (a.put o.dst (.slice (some ⟨w.heap.size,0,none⟩) 3 3)) (w.alloc (.cells #[iv i,iv j,iv k] 3))):o.wp prog a w K Q:=by
 obtain⟨f,hi,hiz,his,_⟩:=V3.info;refine wp_buildSlice 68 3 3 _ ho #[iv i,iv j,iv k] f (.int .i64 0) V3.und hi hiz (by rw[his];omega) (by rw[his];omega) ?_ h;simp only[List.map_toArray,List.map_cons,List.map_nil,h0,h1,h2,his];simp[Instr.fill,Value.cells,Array.range,Array.ofFn_succ]
def aW.buf (q:aW) (A:Option Addr) (c:Nat):aW:={ q with rA:=A,rs:=[],rc:=c,bad:=0}
theorem c0H (X:Nat) (q:aW) : ∃ vs,Bx 175 17 (jX X q 0 ns0 0) vs∧∀ qs,bZ q qs→prog.built 175 [(0,pT X),(1,iv 0),(2,.agg qs)]=some vs:=by
 refine⟨_,Bx.of (by kernel_rfl) (G5 X q 0 ns0 0) (by omega) (fun v hv=>?_),fun qs hq=>?_⟩
 ·unfold jX at hv
  simp only[List.mem_cons,List.mem_append,List.not_mem_nil,or_false]at hv;rcases hv with rfl | rfl | hv | rfl | rfl | rfl | rfl | rfl
  all_goals first | rfl | exact q.one v hv
 ·obtain rfl:qs=q.cells.toArray:=by rw[←hq.l,Array.toArray_toList]
  kernel_rfl
section
variable {w0 w w' w6:World} {X T M lo hi V:Nat} {v s:Value} {ns:List Nd} {cf sl:List Value} {ss:Array Value} {b:Bool} {q p q':aW} {d e cm:Int}
def Jh (nH:Value→List Value→Int→Prop) (w0:World) (X T M V:Nat) (v:Value) (ns':List Nd) (cf:List Value) (q pp:aW) (y w':World):Prop:=∃ (v':Value) (sl':List Value) (d':Int) (p':aW) (sA:Option Addr) (sn sc:Nat) (cm:Int),nH v' sl' d'∧bG w0 w' X T M v' ns' cf sl' true q d'∧ae w' V 175 (jX X p' 0 (.slice sA sn sc) cm)∧(p'.pl=pp∧p'.rc≤maxLen)∧aP (JH X T M V v) y w'∧(v'.ownBlock=v.ownBlock ∨ ∀ b,v'.ownBlock=some b→y.heap.size≤b)
def qy (nH:Value→List Value→Int→Prop) (w0:World) (X T M:Nat) (v:Value) (ns':List Nd) (cf:List Value) (pp:aW) (w:World) (w':World):Prop:=∃ (v':Value) (sl':List Value) (d':Int) (p':aW),nH v' sl' d'∧bG w0 w' X T M v' ns' cf sl' true p' d'∧(p'.pl=pp∧p'.rc≤maxLen)∧aP (jT X T M v) w w'∧(v'.ownBlock=v.ownBlock ∨ ∀ b,v'.ownBlock=some b→w.heap.size≤b)
theorem a3e (nH:Value→List Value→Int→Prop) (A:Option Addr) (c:Nat) (cl:List UInt8) (pp:aW) (x:aV) (bs:List UInt8) (hx:Nw x bs) (ho : ∀ A l c,x = .hds A l c → ∀ y∈l,y.ok) (ns':List Nd) (k N:Int) (H:bG w0 w X T M v ns cf sl true q d) (hS:bV w0) (hq:q.rs=[]∧qW q=q∧q.bad=0) (h3:q.stage≠3)
  (hcl:cl.length≤1000000∧cl.length≤c∧c≤maxLen) (hbl:bs.length≤1000000) (hrd:Rd w A (cl.map ah)) (he:evs q.magic q.cap cl=[((iE x,bs),0),(([],[]),1)]) (hO:nz cl [((iE x,bs),0),(([],[]),1)]=([],0))
  (HH : ∀ V y xx zc m ms,Keep w y→w.heap.size≤V→V<y.heap.size→ae y V 175 (jX X (q.buf xx zc) 0 ns0 0)→zc≤maxLen→Bx 118 114 m.cells ms→m.kind=x.kind→sH x m y→Calls prog 77 #[pT V,.agg ms] y fun e w'=>e = .returned (.tuple #[])∧Jh nH w0 X T M V v ns' cf q pp y w') :
  Calls prog 47 #[pT X,qV k 0 N A cl.length c] w (Done 0 (qy nH w0 X T M v ns' cf pp w) w):=by
 obtain⟨qs,eP⟩ : ∃ qs,bZ q qs:=⟨_,bZ.of q⟩
 have Au:Hid (∀ y,Keep w y→Calls prog 11 #[pT X,iv 0] y fun e w' => ∃ ps,e = .returned (.tuple #[.agg ps,.bool true])∧bZ q ps∧Keep y w'):=hid fun y hy=>a1r (H.keep hy);have Rj:Hid (∀ y ps,Keep w y→bZ q ps→Calls prog 76 #[.agg ps,.slice A cl.length c] y (Rx q x y)):=hid fun y ps hy hA=>b8i q ps hA hq.1 hq.2.1 h3 hq.2.2 x bs hx ho A cl c y (by omega) (by omega) he hO hcl.2 (hrd.keep hy) (hS.keep (H.keep hy).k);unfold Rx at Rj;have NW:=hid ho;have HC:=hid H;have RZ:=hid HH;have EY:=hid hrd;have H3:=hid h3;have a2H:X<w.heap.size:=H.B.lt;have hw0:w0.heap.size≤w.heap.size:=H.k.size;have Ff:=hid H.He;clear H HH hq h3 hrd hS eP hx ho he hO hbl;obtain⟨qZ,ho0,mZ⟩:=Dj;have hon:=mZ.n;have DV:=mZ.z;have hoi:=mZ.i
 have HO:=hid mZ;obtain⟨zp,hp0,hpA⟩:=yD;have hpn:=hpA.n;have hpz:=hpA.z
 clear mZ hpA;have c3l:=hcl.2;generalize cl.length=n at *;go_enter func47,ntmps47
 go_upto_region 1 with fail
 obtain⟨w1,hw1,HA1,HB1,ai,-⟩:=vX w 74 72 [iv k,iv 0,iv N,.slice A n c] qZ;rw[←hw1];clear hw1;have a1:=HA1.out.cell 1;simp only[List.getElem?_cons_succ,List.getElem?_cons_zero]at a1;go_wp2_with fail
 refine(Au.out _ ai.out).mono ?_;clear Au;rintro e w2 ⟨ps,rfl,eP,k2⟩;have DX:=eP.n;have hqz:=eP.z;have hqi:=eP.i
 have HQ:=hid eP;have HA2:=hid (HA1.out.keep k2);have HB2:=hid (HB1.out.keep k2);have ay:=hid (af ai.out k2);have hst:=fK w2 52 hqi (hpz.trans hqz.symm) HQ.out.o;clear eP k2 HA1 HB1 ai a1;go_upto_region 4 with fail
 clear hst;obtain⟨w3,hw3,fZ,-,-⟩:=di w2 52 ps;have uY:Hid (ae w3 w.heap.size 74 [iv k,iv 0,iv N,.slice A n c]):=by rw[hw3];exact hid (HA2.out.alloc _)
 have HB3:Hid (ae w3 (w.heap.size+1) 72 qZ.toList):=by rw[hw3];exact hid (HB2.out.alloc _)
 have aA:Hid (Keep w w3):=by rw[hw3];exact hid (af ay.out (aB _ _))
 have hz2:w.heap.size+2≤w2.heap.size:=by have:=HB2.out.lt;omega
 rw[←hw3];clear hw3 HA2 HB2 ay;have a3:=uY.out.cell 3;simp only[List.getElem?_cons_succ,List.getElem?_cons_zero]at a3;have iG:Hid (w3.rangeAt w2.heap.size 0 ps.toList):=hid (cu fZ.out 0 ps.toList (by simp[List.take_of_length_le]));go_wp2_with ((with_reducible refine dw w2.heap.size 0 ps (Eq.trans ?_ rfl) iG.out _ underlying52 rfl hqi rfl ?_);rfl)
 refine(Rj.out _ ps aA.out HQ.out).mono ?_;clear Rj iG a3;rintro e w4 ⟨ds,xx,zc,L,lc,m,rfl,hdA,hzc,hlc,hmp,hLr,a3v,k4⟩;obtain⟨z,hz⟩ : ∃ z,q.buf xx zc=z:=⟨_,rfl⟩
 replace hdA:bZ z ds:=by rw[←hz];exact hdA
 have Jg:=hid hz;have hdn:=hdA.n;have hdz:=hdA.z;have hdi:=hdA.i
 have HD:=hid hdA;have a9z:=hid hzc;have a8U:=hid hmp;have Zh:=hid hLr;have BZ:=hid a3v
 have pK:=hid (fZ.out.keep k4);have uZ:=hid (uY.out.keep k4);have HB4:=hid (HB3.out.keep k4);have aQ:=hid (af aA.out k4);have jb:w2.heap.size<w4.heap.size:=pK.out.lt;have hst:=fK w4 52 hdi (hpz.trans hdz.symm) HD.out.o;clear hdA hzc hz hmp hLr a3v k4 fZ uY HB3 aA;go_upto_region 5 with fail
 clear hst;obtain⟨w5,hw5,-,NP,-⟩:=di w4 52 ds;have HD5:Hid (ae w5 w4.heap.size 52 z.cells):=by rw[hw5,←HD.out.l];exact hid (ae.new w4 _ ds.toList)
 have nK:Hid (ae w5 w2.heap.size 52 q.cells):=by rw[hw5,←HQ.out.l];exact hid (pK.out.alloc _)
 have Ie:Hid (ae w5 w.heap.size 74 [iv k,iv 0,iv N,.slice A n c]):=by rw[hw5];exact hid (uZ.out.alloc _)
 have jE:Hid (ae w5 (w.heap.size+1) 72 qZ.toList):=by rw[hw5];exact hid (HB4.out.alloc _)
 have nZ:w4.heap.size<w5.heap.size:=by rw[hw5];simp
 rw[←hw5];clear hw5 pK uZ HB4;obtain⟨bs,bC,hbl⟩ : ∃ bs,jD (ik z.magic z.cap z.rA z.rs.length z.rc z.bad) bs∧bs.toList=ik z.magic z.cap z.rA z.rs.length z.rc z.bad:=⟨_,jD.of ..,rfl⟩
 have hbn:=bC.n;have hbz:=bC.z;have hbi:=bC.i
 have RB:Hid (w5.rangeAt w4.heap.size 6 bs.toList):=hid (cu HD5.out 6 bs.toList (by rw[hbl];rfl));obtain⟨w6,PK,hb6,jh⟩:=Bz (P:=prog) 6 bs.toList nK.out (by rw[Array.length_toList,hbz,uK];omega) bC.o;rw[hbl,show splice q.cells 6 (ik z.magic z.cap z.rA z.rs.length z.rc z.bad)=z.cells by rw[←Jg.out];rfl]at hb6;have yO:=hid hb6;have EF:Hid (ae w6 w.heap.size 74 [iv k,iv 0,iv N,.slice A n c]):=hid (Ie.out.grown jh (fun e=>by injection e with e;omega));have jr:Hid (ae w6 (w.heap.size+1) 72 qZ.toList):=hid (jE.out.grown jh (fun e=>by injection e with e;omega));have tK:=hid jh;have bD:Hid (Keep w w6):=hid (aK (af aQ.out NP.out) jh (by omega));have yQ:=nK;clear hb6 jh bC hbl nK Ie jE HD5;go_upto_region 6 with((with_reducible refine dw w4.heap.size 6 bs (Eq.trans ?_ rfl) RB.out _ underlying50 rfl hbi rfl ?_);rfl)
 clear PK RB;have Zj:Hid (sH x m w6):=hid (a4V (Lp BZ.out NP.out) NW.out yQ.out (by rw[uK];omega) tK.out);have vF:Hid (Rd w6 L m.cells):=hid (Qs (Zh.out.keep NP.out) yQ.out (.inr (by rw[uK,m.len];omega)) tK.out);clear BZ Zh tK NP yQ aQ NW;obtain⟨qs,FZ⟩ : ∃ qs,bZ z qs:=⟨_,bZ.of _⟩
 obtain⟨vs,hvB,hvb⟩:=c0H X z;replace hvb:=hvb qs FZ;have hsn:=FZ.n;have hsz:=FZ.z;have hsi:=FZ.i
 have hvn:=hvB.n;have fF:=hvB.z
 have a6:=EF.out.cell 1;simp only[List.getElem?_cons_succ,List.getElem?_cons_zero]at a6;have R6:Hid (w6.rangeAt w2.heap.size 0 qs.toList):=hid (cu yO.out 0 qs.toList (by rw[FZ.l];simp[List.take_of_length_le]));have ZR:=hid hvB.l;clear FZ hvB yO;go_upto_region 7 with(first | ((with_reducible refine kT [(0,pT X),(1,iv 0),(2,.agg qs)] vs (Eq.trans ?_ rfl) hvb ?_);rfl) | ((with_reducible refine dw w2.heap.size 0 qs (Eq.trans ?_ rfl) R6.out _ underlying52 rfl hsi rfl ?_);rfl))
 obtain⟨w7,hw7,Fb,EN⟩:=l7 w6 175 vs;rw[ZR.out]at Fb;rw[hw7];have YQ:=hid (EF.out.keep EN.out);have kL:=hid (jr.out.keep EN.out);have bT:=hid (af bD.out EN.out)
 have Zk:=hid (Lp Zj.out EN.out);have tY:=hid (vF.out.keep EN.out)
 have hV:=jr.out.lt;clear hw7 R6 hvb a6 ZR EF jr bD Zj vF EN;generalize w6.heap.size=V at *;obtain⟨ms,uz⟩ : ∃ ms,Bx 118 114 m.cells ms:=m.bx;have hmn:=uz.n;have hmz:=uz.z;have kR:=uz.i
 obtain⟨a7w,hg0,hgA⟩:=Ez;have hgn:=hgA.n;have hgz:=hgA.z
 obtain⟨g,off,rfl,hgl,hrc⟩:=tY.out.at (k:=0) (by rw[m.len];omega)
 have RM:Hid (w7.rangeAt g off ms.toList):=hid (fun j u hu=>by
  rw[uz.l]at hu;have hj:=(List.getElem?_eq_some_iff.1 hu).1;have t:=hrc j hj
  rw[←hu,List.getElem?_eq_getElem hj];exact t)
 have Zm:=hid uz;clear uz hgA hrc tY;go_wp2_with fail
 go_loopw [42] (fun kv wr => ∃ j:Nat,j≤1∧kv = .int .i64 j∧Hid (j=0→wr=w7)∧Hid (j=1 → ∃ y,Keep w7 y∧Jh nH w0 X T M V v ns' cf q pp y wr)) (fun kv _=>1 - (intOf kv).toNat)
 case atStart=>exact⟨0,by omega,rfl,hid fun _=>rfl,hid fun e=>absurd e (by omega)⟩
 case round =>
  obtain⟨j,hk1,rfl,Jk,Hk1⟩:=hrel;by_cases hlt:j<1
  ·obtain rfl:j=0:=by omega
   obtain rfl:=Jk.out rfl;have d1:((0:Nat):Int)<1:=by omega
   have hst:=fK wr 118 kR (hgz.trans hmz.symm) Zm.out.o;go_upto_region 10 with((with_reducible refine dw g off ms (Eq.trans ?_ rfl) RM.out _ underlying118 rfl kR rfl ?_);rfl)
   clear hst Jk Hk1 RM;obtain⟨w8,hw8,gq,bK⟩:=l7 wr 118 ms;rw[hw8];clear hw8;have N9:=hid (Fb.out.keep bK.out);have c2:w8.cell? ⟨V,2,none⟩=some (iv q.stage):=(N9.out.cell 2).trans (by rw[←Jg.out];rfl);have d0:(q.stage==3)=false:=by rw[beq_eq_false_iff_ne];exact H3.out
   have RB:Hid (w8.rangeAt wr.heap.size 0 ms.toList):=hid (cu gq.out 0 ms.toList (by simp[List.take_of_length_le]));have HC:=hid (RZ.out V w8 xx zc m ms (af bT.out bK.out) (by omega) N9.out.lt (by rw[Jg.out];exact N9.out) a9z.out Zm.out a8U.out (Lp Zk.out bK.out));clear RZ N9 gq;go_wp2_with ((with_reducible refine dw wr.heap.size 0 ms (Eq.trans ?_ rfl) RB.out _ underlying118 rfl kR rfl ?_);rfl)
   refine HC.out.mono ?_;rintro e w9 ⟨rfl,hh⟩;have F:=hid (show ∃ y,Keep wr y∧Jh nH w0 X T M V v ns' cf q pp y w9 from⟨_,bK.out,hh⟩);clear hh HC c2 d0 RB;go_wp2
   go_roundw
   case rel=>exact⟨1,by omega,by go_num,hid fun q=>absurd q (by omega),hid fun _=>F.out⟩
   case measure=>simp[intOf]
  ·obtain rfl:j=1:=by omega
   have d1 : ¬ ((1:Nat):Int)<1:=by omega
   obtain⟨y,hky,v',sl',d',p',sA,sn,sc,cm,PO,hC,DD,hp',kx,hv'⟩:=Hk1.out rfl;have o6:w.heap.size≤y.heap.size:=Nat.le_trans bT.out.size hky.size;have c22:=(Fb.out.keep hky).lt
   have HX:=hid (fun j (h0:w.heap.size≤j) (h1:j<V) (hj:JH X T M V v j)=>show False from by
    rcases hj with(hj | hj) | hj
    ·omega
    ·have:=Ff.out j hj;omega
    ·omega)
   have HA:Hid (ae wr w.heap.size 74 [iv k,iv 0,iv N,.slice A n c]):=hid ((kx.2.2.2.2 _ (by omega) (HX.out _ (by omega) (by omega))).trans (YQ.out.keep hky));have HB:Hid (ae wr (w.heap.size+1) 72 qZ.toList):=hid ((kx.2.2.2.2 _ (by omega) (HX.out _ (by omega) (by omega))).trans (kL.out.keep hky));have jF:Hid (aP (jT X T M v) w wr):=hid ((aP.of (af bT.out hky)).trans kx (fun j hj q=>q.resolve_right (by omega)))
   have a9r:Hid (∀ j,w.heap.size≤j→j<V → ¬ gy T M v' j):=hid (fun j h0 h1 q=>by
    rcases q with q | q | q
    ·have:=Ff.out j (.inl q);omega
    ·have:=Ff.out j (.inr (.inl q));omega
    ·rcases hv' with t | t
     ·have:=Ff.out j (.inr (.inr (t ▸ q)));omega
     ·have:=t j q;omega)
   have a9p:Hid (v'.ownBlock=v.ownBlock ∨ ∀ b,v'.ownBlock=some b→w.heap.size≤b):=hid (hv'.imp id fun t b hb=>Nat.le_trans o6 (t b hb));have oJ:=hid hC;have b0q:=hid PO;have sG:=hid DD;have a9a:=hid hp'
   obtain⟨ps,hpA⟩ : ∃ ps,bZ p' ps:=⟨_,bZ.of p'⟩
   have hpz:=hpA.z;have hpn:=hpA.n;have hpi:=hpA.i
   have xK:=hid hpA;clear hC PO DD hp' kx hv' Hk1 YQ kL bT Fb Zk RZ RM HX hky hpA o6;go_upto_region 17 with fail
   refine bu (.take [0,1,2,3,4,5,6,7,8,9,10] .done) [11] (by kernel_rfl) (by kernel_rfl) (fun wa ka=>?_);replace HA:=hid (HA.out.keep ka);replace HB:=hid (HB.out.keep ka);replace jF:=hid (jF.out.trans (aP.of ka) (fun _ _ q=>q));replace oJ:=hid (oJ.out.keep ka);replace sG:=hid (sG.out.keep ka);clear ka;have a0M:Hid (wa.rangeAt V 2 ps.toList):=hid (QI sG.out xK.out);have a1:=aF (show wa.cell? ⟨w.heap.size,1,none⟩=some (iv 0) from(HA.out.cell 1).trans rfl);refine wR ?_;simp only[au,ax,ak,aj]
   repeat(first
    | ((with_reducible refine jY V 2 ps (Eq.trans ?_ rfl) a0M.out _ underlying52 rfl hpi (Eq.trans ?_ rfl) ?_);rfl;rfl;simp only[Act.put,Array.set!_eq_setIfInBounds,List.setIfInBounds_toArray,List.set_cons_succ,List.set_cons_zero])
    | go_big_quiet_step (fail))
   refine wpQuiet_nil (aT ?_);obtain⟨wb,yg,hbb,hgb⟩:=Bz (P:=prog) 120 ps.toList oJ.out.B (by rw[OU oJ.out.lc oJ.out.ls,Array.length_toList,hpz];omega) xK.out.o;rw[xK.out.l,b2u oJ.out.lc oJ.out.ls p']at hbb;replace oJ:=hid (oJ.out.turn hgb hbb oJ.out.ls);replace HB:=hid (HB.out.grown hgb (fun e=>by injection e with e;omega));replace sG:=hid (sG.out.grown hgb (fun e=>by injection e with e;omega));replace jF:=hid (jF.out.grown hgb (fun j _ e=>by injection e with e;exact .inl e.symm));clear hbb hgb a1 a0M HA;go_upto_region 18 with fail
   clear yg;refine bu (.take [0,1,2,3,4,5,6,7,8,9,10,11,12,13,14,15,16,17,18,19] (.force [20] (.take [21] .done))) [22] (by kernel_rfl) (by kernel_rfl) (fun wd kd=>?_);replace HB:=hid (HB.out.keep kd);replace jF:=hid (jF.out.trans (aP.of kd) (fun _ _ q=>q));replace oJ:=hid (oJ.out.keep kd);replace sG:=hid (sG.out.keep kd);clear kd;have v12:=aF (show wd.cell? ⟨V,12,none⟩=some (iv 0) from(sG.out.cell 12).trans rfl);have v13:=aF (show wd.cell? ⟨V,13,none⟩=some (.slice sA sn sc) from(sG.out.cell 13).trans rfl);have v14:=aF (show wd.cell? ⟨V,14,none⟩=some (iv cm) from(sG.out.cell 14).trans rfl);have v15:=aF (show wd.cell? ⟨V,15,none⟩=some (iv 0) from(sG.out.cell 15).trans rfl);have v16:=aF (show wd.cell? ⟨V,16,none⟩=some (iv 0) from(sG.out.cell 16).trans rfl);refine wR ?_;simp only[au,ax,ak,aj];repeat(go_big_quiet_step (fail))
   clear v12 v13 v14 v15 v16;refine wpQuiet_nil (bI ?_);simp only[au,ax,ak,aj];refine aI rfl (fun K hK=>?_);refine c1g _ _ _ rfl cm 0 0 rfl rfl rfl ?_;refine hK _ _ (aB _ _) ?_;clear hK K;have EH:=HB.out.lt;obtain⟨g3,we,hg3,hwe,hl3,-,ke⟩:=oQ wd 3 #[iv cm,iv 0,iv 0];replace HB:=hid (HB.out.keep ke);replace jF:=hid (jF.out.trans (aP.of ke) (fun _ _ q=>q));replace oJ:=hid (oJ.out.keep ke);simp only[hwe,hg3];clear ke hwe hg3 hl3 sG;obtain⟨vs,hvA,hvb⟩ : ∃ vs,Bx 72 101 (mX 0 (.slice sA sn sc) (.slice (some ⟨g3,0,none⟩) 3 3)) vs∧prog.built 72 [(0,iv 0),(1,.slice sA sn sc),(2,.slice (some ⟨g3,0,none⟩) 3 3)]=some vs:=⟨_,OV ..,b2G ..⟩
   have hvn:=hvA.n;have fF:=hvA.z;have jk:=hvA.i
   have Fe:=hid hvA;clear hvA;refine aS (wR ?_);simp only[au,ax,ak,aj];repeat(first | ((with_reducible refine QK [(0,iv 0),(1,.slice sA sn sc),(2,.slice (some ⟨g3,0,none⟩) 3 3)] vs (Eq.trans ?_ rfl) hvb ?_);rfl;simp only[Act.put,Array.set!_eq_setIfInBounds,List.setIfInBounds_toArray,List.set_cons_succ,List.set_cons_zero]) | go_big_quiet_step (fail))
   refine wpQuiet_nil (aT ?_);obtain⟨wf,c30,hbf,hgf⟩:=bn (P:=prog) vs.toList HB.out (by rw[Array.length_toList,Array.length_toList,fF,DV]) Fe.out.o;have a8A:=hid hbf;replace oJ:=hid (oJ.out.far hgf (by omega) (by omega) (a9r.out _ (by omega) (by omega)));replace jF:=hid (jF.out.grown hgf (fun j hj e=>by injection e with e;omega));clear hbf hgf HB;go_wp2
   exact bodyPost_ret (v:=.agg vs) (gJ results47 a8A.out underlying72 jk rfl rfl) rfl ⟨vs,rfl,⟨_,_,Fe.out⟩,v',sl',d',p',b0q.out,oJ.out,a9a.out,jF.out,a9p.out⟩
end
def OD (bs:List UInt8) (w:World) (e:Ending) (w':World):Prop:=∃ (A:Option Addr) (c:Nat),e = .returned (.slice A bs.length c)∧Rd w' A (bs.map ah)∧(bs.length≤c∧c≤maxLen)∧Keep w w'
theorem a6T (g:UInt32) (m:aV) (hs:m.small) (ms:Array Value) (hM:Bx 118 114 m.cells ms) (w:World) (hm : ∀ p∈m.parts,p.fit w) (hS:bV w) :
  Calls prog 31 #[ag g,.agg ms] w (OD (uM g (iE m) m.put) w):=by
 have hcm:=a5b m;have yH:Hid ((uM g (iE m) m.put).length=24+m.put.length):=hid (b8u (by simp only[wz,Bool.and_eq_true,decide_eq_true_eq]at hcm;exact hcm.1.2));have CY:Hid (∀ y,Calls prog 59 #[.int .i64 m.kind] y fun e w'=>e = .returned (.string (str (iE m)))∧Keep y w'):=hid fun y=>name_any m.kind y;have JE:Hid (∀ y,Keep w y→Calls prog 57 #[.agg ms] y fun e w' => ∃ v,e = .returned (.tuple #[v,iv 0])∧w'.ownsRow y.heap.size 5 1 v m.put.length (m.put.map ah)∧Keep y w'):=hid fun y hy=>a5P m hs ms hM y fun x hx=>(hm x hx).keep hy;have hpl:=a5O hm
 have xG:Hid (∀ y A c,Keep w y→m.put.length≤c→c≤maxLen→Rd y A (m.put.map ah)→Calls prog 58 #[ag g,.agg #[.string (str (iE m)),.slice A m.put.length c]] y fun e w' => ∃ v,e = .returned (.tuple #[v,iv 0])∧w'.ownsRow y.heap.size 5 1 v (24+m.put.length) ((uM g (iE m) m.put).map ah)∧Keep y w'):=hid fun y A c hy h1 h2 h3 =>
  a2b g (iE m) m.put A m.put.length c y rfl ⟨h1,h2⟩ hpl hcm h3 (hS.keep hy)
 have hmn:=hM.n;have hmz:=hM.z;have kR:=hM.i
 have SE:Hid (ms.toList[0]?=some (iv m.kind)):=hid (by rw[hM.l];cases m <;> rfl);clear hM hm hS hpl hs hcm;generalize uM g (iE m) m.put=a7S at *;go_enter func31,ntmps31
 go_upto_region 1 with fail
 obtain⟨w1,hw1,HB,HK⟩:=l7 w 118 ms;rw[hw1];clear hw1;go_wp2_with ((with_reducible refine bY w.heap.size ms (Eq.trans ?_ rfl) HB.out _ underlying118 rfl kR ?_);rfl)
 refine(JE.out _ HK.out).mono ?_;clear JE;rintro e w2 ⟨v2,rfl,ow,k2⟩;obtain⟨A2,c2,rfl,hc2,hm2,hr2⟩:=dD ow;have HC2:=hid hc2;have pJ:=hid hm2;have HR:=hid hr2
 replace HB:=hid (HB.out.keep k2);replace HK:=hid (af HK.out k2);clear ow k2 hc2 hm2 hr2;have m0:w2.cell? ⟨w.heap.size,0,none⟩=some (iv m.kind):=(HB.out.cell 0).trans SE.out;go_wp2_with fail
 refine(CY.out _).mono ?_;clear CY m0;rintro e w3 ⟨rfl,k3⟩;replace HR:=hid (HR.out.keep k3);replace HK:=hid (af HK.out k3);clear k3;go_wp2_with fail
 refine(xG.out w3 A2 c2 HK.out HC2.out pJ.out HR.out).mono ?_;clear xG;rintro e w4 ⟨v4,rfl,ow,k4⟩;obtain⟨A4,c4,rfl,hc4,hm4,hr4⟩:=dD ow;replace HK:=hid (af HK.out k4);have F:Hid (OD a7S w (.returned (.slice A4 (24+m.put.length) c4)) w4):=hid ⟨A4,c4,by rw[yH.out],hr4,⟨by rw[yH.out];exact hc4,hm4⟩,HK.out⟩;clear ow k4 hc4 hm4 hr4 yH;go_wp2
 exact bodyPost_ret (v:=.slice A4 (24+m.put.length) c4) (by simp[results,results31]) rfl F.out
theorem a5M {p:aW} {s:Int} (h:p.pl=qS s none 0):p=qS s p.rA p.rc:=by
 obtain⟨a,b,c,d,e,f,g,i,j,k,l,m⟩:=p;simp only[aW.pl,qS,pg,rQ,aW.mk.injEq]at h;obtain⟨rfl,rfl,rfl,rfl,rfl,rfl,rfl,rfl,-,rfl,-,rfl⟩:=h;rfl
theorem b68 {s:Int} (hs:s=0∨s=1) {m:aV} {w:World} (h:sH (mS s) m w):m=mS s:=by rcases hs with rfl | rfl <;> exact h
theorem b4z {s:Int} (hs:s=0∨s=1) (A:Option Addr) (c:Nat):DN (qS s A c) (mS s)=(qS (s+1) A c,if s=0 then[.bz 70015 0 0,.kN]else[]):=by rcases hs with rfl | rfl <;> rfl
section
variable {w0 w:World} {X T M:Nat} {v:Value} {ns:List Nd} {cf sl:List Value} {d:Int}
theorem b4E (s:Int) (hs:s=0∨s=1) (qj:Option Addr) (ql:Nat) (A:Option Addr) (c:Nat) (k N:Int) (H:bG w0 w X T M v ns cf sl true (qS s qj ql) d) (hS:bV w0) (hn:(pX (mS s)).length≤c∧c≤maxLen) (hrd:Rd w A ((pX (mS s)).map ah)) :
  Calls prog 47 #[pT X,qV k 0 N A (pX (mS s)).length c] w (Done 0 (qy (fun v' sl' d'=>v'=v∧sl'=sl∧d'=d) w0 X T M v ns cf (qS (s+1) none 0) w) w):=by
 have hs2:s=0∨s=1∨s=2:=hs.imp id .inl;obtain⟨f1,f2,f3,f4,f5⟩:=c0M s hs;have hst:s≠3∧s+1≠3:=by omega
 refine a3e _ A c _ (qS (s+1) none 0) (mS s) (mS s).put f3 (fun A l c e=>by rcases hs with rfl | rfl <;> cases e) ns k N H hS ⟨rfl,GU s hs2 _ _,rfl⟩ hst.1 ⟨f4,hn⟩ f5 hrd f1 f2 ?_;intro V y xx zc m ms hy hV b36 DD hzc hM _ hmt;obtain rfl:=b68 hs hmt;have HC:=H.keep hy
 have Po : ∀ j,jT X T M v j→j≠V:=fun j hj e=>by
  rcases hj with hj | hj
  ·have:=H.B.lt;omega
  ·have:=H.He j hj;omega
 have hs1:s+1=0∨s+1=1∨s+1=2:=by omega
 have hV0:w0.heap.size≤V:=Nat.le_trans H.k.size hV;refine a7c X V (qS s xx zc) (mS s) (by rcases hs with rfl | rfl <;> trivial) ms _ w0 y (Jh (fun v' sl' d'=>v'=v∧sl'=sl∧d'=d) w0 X T M V v ns cf (qS s qj ql) (qS (s+1) none 0) y) rfl (GU s hs2 _ _) (by rcases hs with rfl | rfl <;> rfl) hM (b4z hs xx zc) hS hst.2 (GU _ hs1 _ _) rfl ?_ DD HC.k hV0 ?_ (fun _ _ _ e=>by rcases hs with rfl | rfl <;> cases e)
 ·intro x hx
  split at hx
  ·rcases List.mem_cons.1 hx with rfl | hx
   ·exact⟨trivial,fun p hp y=>by simp[aV.parts]at hp;rcases hp with rfl | rfl | rfl <;> simp[eX.fit]⟩
   ·obtain rfl:=List.mem_singleton.1 hx
    exact⟨trivial,fun p hp=>nomatch hp⟩
  ·exact nomatch hx
 ·intro _ w' sA sn sc hb ht
  exact⟨v,sl,d,_,sA,sn,sc,0,⟨rfl,rfl,rfl⟩,HC.KU ht (fun j hj e=>Po j hj e) (fun j e=>by rw[e];exact hV0),hb,⟨rfl,hzc⟩,ht.wide (fun j e => .inr e),.inl rfl⟩
theorem bG.xc {b:Bool} {q:aW} (H:bG w0 w X T M v ns cf sl b q d) : ∀ g,w.heap.size≤g → ¬ jT X T M v g:=fun g hg hj=>by
 rcases hj with hj | hj
 ·have:=H.B.lt;omega
 ·have:=H.He g hj;omega
theorem heard_old {nH:Value→List Value→Int→Prop} {b:Bool} {pp q:aW} {ns':List Nd} {y y':World} (H:bG w0 w X T M v ns cf sl b q d) (hp:qy nH w0 X T M v ns' cf pp y y') {g:Nat} (h1:w.heap.size≤g) (h2:g<y.heap.size):y'.heap[g]?=y.heap[g]?:=by
 obtain⟨v',sl',d',p',-,-,-,kx,-⟩:=hp;exact kx.2.2.2.2 g h2 (H.xc g h1)
theorem a3f {nH:Value→List Value→Int→Prop} {b:Bool} {pp q:aW} {ns':List Nd} {y y' w':World} (H:bG w0 w X T M v ns cf sl b q d) (hy:Keep w y) (hp:qy nH w0 X T M v ns' cf pp y y') {g:Nat} (hg:y'.grownBy w' (some g)) (h1:w.heap.size≤g) (h2:g<y.heap.size):qy nH w0 X T M v ns' cf pp w w':=by
 obtain⟨v',sl',d',p',PO,hC,hpp,kx,hv⟩:=hp;refine⟨v',sl',d',p',PO,hC.far hg (fun e=>by have:=H.B.lt;omega) (Nat.le_trans H.k.size h1) (fun q=>?_),hpp,((aP.of hy).trans kx (fun _ _ q=>q)).grown hg (fun j hj e=>by injection e with e;omega),hv.imp id fun t b hb=>Nat.le_trans hy.size (t b hb)⟩;rcases q with q | q | q
 ·exact H.xc g h1 (.inr (.inl q))
 ·exact H.xc g h1 (.inr (.inr (.inl q)))
 ·rcases hv with t | t
  ·exact H.xc g h1 (.inr (.inr (.inr (t ▸ q))))
  ·have:=t g q;omega
theorem a6B {nH:Value→List Value→Int→Prop} {pp q:aW} {ns':List Nd} {N:Int} {A:Option Addr} {n c:Nat} (H:bG w0 w X T M v ns cf sl true q d)
  (Nk : ∀ y,Keep w y→Calls prog 47 #[pT X,qV 1 0 N A n c] y (Done 0 (qy nH w0 X T M v ns' cf pp y) y)) :
  Calls prog 8 #[pT X,qV 1 0 N A n c] w (Done 0 (qy nH w0 X T M v ns' cf pp w) w) :=
 step_up (by decide) rfl b3j H.mf Nk (fun y y' hy hp g h1 h2=>heard_old H hp h1 h2) (fun y y' w' g hy hp hg h1 h2=>a3f H hy hp hg h1 h2)
theorem b9L {q:aW} {N:Int} {A:Option Addr} {n c:Nat} (H:bG w0 w X T M v ns cf sl false q d) (xZ:cf[75]?=some (ag 5)) (x8:cf[76]?=some (iv 9999)) :
  Calls prog 8 #[pT X,qV 0 0 N A n c] w (Done 0 (fun w'=>bG w0 w' X T M v ns cf sl true (qS 0 none 0) d∧aP (jT X T M v) w w') w):=by
 have hX:=H.xc;refine step_up (P:=fun y y'=>bG w0 y' X T M v ns cf sl true (pg 5 9999) d∧Turned X y y') (by decide) rfl b3i H.mf (fun y hy=>b2P 5 9999 A 0 N n c (H.keep hy) xZ x8) (fun y y' hy hp g h1 h2=>hp.2.2.2.2.2 g h2 (fun e=>by have:=H.B.lt;omega)) (fun y y' w' g hy hp hg h1 h2=>?_);exact⟨hp.1.far hg (fun e=>by have:=H.B.lt;omega) (Nat.le_trans H.k.size h1) (fun q=>hX g h1 (.inr q)),((aP.of hy).trans hp.2 (fun _ _ q => .inl q)).grown hg (fun j hj e=>by injection e with e;omega)⟩
end
theorem n23:(2:Int)≠3:=by decide
theorem b6h (A:Option Addr) (c:Nat):D6 (qS 2 A c) 0=qS 2 A c:=by kernel_rfl
structure Ia (h:Hd) (bs pb:List UInt8):Prop where
 e:evs 5 9999 bs=[((jB 5,pb),0),(([],[]),1)]
 o:nz bs [((jB 5,pb),0),(([],[]),1)]=([],0)
 g:qL pb=([h],0)∧pb.length≤1000000000
 l:bs.length≤1000000
 m:pb.length≤1000000
section
variable {w0 w w6:World} {X T M lo hi:Nat} {v:Value} {ns:List Nd} {cf sl:List Value} {ss:Array Value} {d:Int}
theorem b4F (P:eF) (PA:Option Addr) (pc:Nat) (h:Hd) (i:Nat) (ns':List Nd) (bs pb:List UInt8) (qj:Option Addr) (ql:Nat) (A:Option Addr) (c:Nat) (k N:Int) (H:bG w0 w X T M v ns cf sl true (qS 2 qj ql) d) (G:CA w lo hi X T M v w6 sl ss) (hz:hi≤w.heap.size) (hS:bV w0)
  (hC:pG P PA w0) (hcf : ∃ t,cf=[ag P.limit,iv P.bQ,iv P.span,iv P.dm,iv P.idx,iv P.dK,.slice PA P.dH.length pc]++t) (dV:Tr ns) (hl:ns.length≤100) (ho:h.ok) (hR:sN P 9 ns h 0=(ns',((i:Nat):Int),0)) (hk' : ∀ n∈ns',n.ok) (hi':i<ns'.length∧ns'.length≤1000)
  (hf:Ia h bs pb) (hn:bs.length≤c∧c≤maxLen) (hrd:Rd w A (bs.map ah)) :
  Calls prog 47 #[pT X,qV k 0 N A bs.length c] w (Done 0 (qy (fun _ _ _=>True) w0 X T M v ns' cf (qS 2 none 0) w) w):=by
 have hs2:(2:Int)=0∨(2:Int)=1∨(2:Int)=2:=by omega
 refine a3e _ A c _ (qS 2 none 0) (.hds none [h] 1) pb hf.g (fun A l c e y hy=>by cases e;rw[List.mem_singleton.1 hy];exact ho) ns' k N H hS ⟨rfl,GU 2 hs2 _ _,rfl⟩ n23 ⟨hf.l,hn⟩ hf.m hrd hf.e hf.o ?_;intro V y xx zc m ms hy hV b36 DD hzc hM _ hmt;obtain⟨hA,hc,rfl,b4W,hr0⟩:=hmt;have HC:=H.keep hy;have HG:CA y lo hi X T M v w6 sl ss:=G.keep (k:=0) (aP.of hy) hz
 have Po : ∀ j,jT X T M v j→j≠V:=fun j hj e=>by
  rcases hj with hj | hj
  ·have:=H.B.lt;omega
  ·have:=H.He j hj;omega
 have hV0:w0.heap.size≤V:=Nat.le_trans H.k.size hV;refine a7c X V (qS 2 xx zc) (.hds hA [h] hc) (by show 1≤2000;omega) ms (qS 2 xx zc,[]) w0 y (Jh (fun _ _ _=>True) w0 X T M V v ns' cf (qS 2 qj ql) (qS 2 none 0) y) rfl (GU 2 hs2 _ _) rfl hM rfl hS n23 (GU 2 hs2 _ _) rfl (fun x hx=>nomatch hx) DD HC.k hV0 (fun h=>absurd rfl h) ?_;intro _ _ _ e y' ht hb'
 cases e
 have tJ:=HC.KU ht (fun j hj e=>Po j hj e) (fun j e=>by rw[e];exact hV0);have a8J:CA y' lo hi X T M v w6 sl ss:=⟨HG.s,HG.a,fun j h1 h2=>(ht.2.2.2.2 j (by have:=hy.size;omega) (fun e=>by omega)).trans (HG.o j h1 h2),HG.x⟩
 rw[List.flatMap_singleton]at hr0
 have hr:Rd y' hA h.cells:=by
  have hlen:=Hd.len ho;obtain⟨b,off,e,hgl,hc⟩:=hr0.at (k:=0) (by rw[hlen];omega);rw[e]at hr0 ⊢;have Vu:=a5U hr0 DD (by rw[G5,hlen];omega);exact .inr ⟨b,off,rfl,fun j hj=>aP.cell ht (hc j hj) Vu⟩
 refine(c0G P PA pc h i ns' hA hc tJ a8J (Nat.le_trans hz (Nat.le_trans hy.size ht.2.2.2.1)) hS hC hcf dV hl ho hR hk' hi' hb' (fun e=>Po V e rfl) hV0 ⟨rfl,hzc⟩ (b6h xx zc) n23 b4W hr).mono fun e w' hB=>?_;obtain⟨v',sl',d',rfl,hCW,a2B,b3Z,hv⟩:=hB;exact⟨rfl,v',sl',d',_,none,0,0,1,trivial,hCW,a2B,⟨rfl,hzc⟩,(ht.wide (fun j e => .inr e)).trans b3Z (fun _ _ q=>q),hv.imp id fun t b hb=>Nat.le_trans ht.2.2.2.1 (t b hb)⟩
end
theorem a4X (s:Int) (hs:s=0∨s=1) : ∃ ks,Bx 118 114 (mS s).cells ks∧prog.built 118 [(0,.int .i64 s)]=some ks:=by
 rcases hs with rfl | rfl <;> exact⟨_,Bi _ _ _ _ _ (by simp[Value.oneCell']),by kernel_rfl⟩
theorem b67 (A:Option Addr) (h:Hd) (c:Nat) : ∃ ks,Bx 118 114 (aV.hds A [h] c).cells ks∧prog.built 118 [(0,.int .i64 5),(4,.slice A 1 c)]=some ks:=⟨_,Bi _ _ _ _ _ (by simp[Value.oneCell']),by kernel_rfl⟩
section
variable {w0 w:World} {X T M:Nat} {v:Value} {ns:List Nd} {cf sl:List Value} {d:Int}
def a7W (w0:World) (X T M:Nat) (v:Value) (ns:List Nd) (cf sl:List Value) (d:Int) (w:World) (e:Ending) (w':World):Prop:=∃ (A:Option Addr) (c:Nat),e = .returned (.tuple #[])∧bG w0 w' X T M v ns cf sl true (qS 2 A c) d∧aP (jT X T M v) w w'
theorem b3O {q:aW} (H:bG w0 w X T M v ns cf sl false q d) (hS:bV w0) (xZ:cf[75]?=some (ag 5)) (x8:cf[76]?=some (iv 9999)) :
  Calls prog 17 #[pT X,ag 5,iv 0] w (a7W w0 X T M v ns cf sl d w):=by
 have S0:Hid (Calls prog 8 #[pT X,qV 0 0 0 none 0 0] w (Done 0 (fun w'=>bG w0 w' X T M v ns cf sl true (qS 0 none 0) d∧aP (jT X T M v) w w') w)):=hid (b9L H xZ x8);have FH:Hid (∀ (s:Int) y ms,s=0∨s=1→Keep w0 y→Bx 118 114 (mS s).cells ms→Calls prog 31 #[ag 5,.agg ms] y (OD (pX (mS s)) y)):=hid fun s y ms hs hy hm=>a6T 5 (mS s) (by rcases hs with rfl | rfl <;> trivial) ms hm y (fun p hp=>by rcases hs with rfl | rfl <;> simp[mS,aV.parts]at hp;rcases hp with rfl | rfl | rfl <;> simp[eX.fit]) (hS.keep hy)
 have HE:Hid (∀ (s:Int) A c y qj ql,s=0∨s=1→bG w0 y X T M v ns cf sl true (qS s qj ql) d→Rd y A ((pX (mS s)).map ah)→(pX (mS s)).length≤c→c≤maxLen→Calls prog 8 #[pT X,qV 1 0 0 A (pX (mS s)).length c] y (Done 0 (qy (fun v' sl' d'=>v'=v∧sl'=sl∧d'=d) w0 X T M v ns cf (qS (s+1) none 0) y) y)):=hid fun s A c y qj ql hs hc hr h1 h2 =>
  a6B hc fun z hz=>b4E s hs qj ql A c 1 0 (hc.keep hz) hS ⟨h1,h2⟩ (hr.keep hz)
 obtain⟨m0,hm0,hb0⟩:=a4X 0 (.inl rfl);obtain⟨m1,hm1,hb1⟩:=a4X 1 (.inr rfl);have hn0:=hm0.n;have hz0:=hm0.z;have hn1:=hm1.n;have hz1:=hm1.z
 have c2h:=hid hm0;have IL:=hid hm1
 obtain⟨B0,hB0⟩ : ∃ b,pX (mS 0)=b:=⟨_,rfl⟩
 obtain⟨B1,hB1⟩ : ∃ b,pX (mS 1)=b:=⟨_,rfl⟩
 have T0:=hid (fun y hy=>FH.out 0 y m0 (.inl rfl) hy hm0);have T1:=hid (fun y hy=>FH.out 1 y m1 (.inr rfl) hy hm1);have E0:=hid (fun A c y=>HE.out 0 A c y none 0 (.inl rfl));have E1:=hid (fun A c y qj ql=>HE.out 1 A c y qj ql (.inr rfl));rw[hB0]at T0 E0;rw[hB1]at T1 E1;clear H hS xZ x8 hm0 hm1 FH HE hB0 hB1;unfold Done at S0;go_enter func17,ntmps17
 go_wp2_with fail
 refine S0.out.mono ?_;clear S0;rintro e w1 ⟨vs,rfl,-,hc1,hx1⟩;have HC:=hid hc1;have HX:=hid hx1
 clear hc1 hx1;go_wp2_with ((with_reducible refine kT [(0,iv 0)] m0 (Eq.trans ?_ rfl) hb0 ?_);rfl)
 refine(T0.out w1 HC.out.k).mono ?_;clear T0;rintro e w2 ⟨A2,c2,rfl,hr2,hc2,k2⟩;have R2:=hid (E0.out A2 c2 w2 (HC.out.keep k2) hr2 hc2.1 hc2.2);replace HX:=hid (HX.out.trans (aP.of k2) (fun _ _ q=>q));clear hr2 hc2 k2 E0 HC;go_wp2_with fail
 refine R2.out.mono ?_;clear R2;rintro e w3 ⟨vs3,rfl,-,v',sl',d',p',⟨rfl,rfl,rfl⟩,hc3,hp3,hx3,-⟩;have CG:Hid (aP (jT X T M v') w w3):=hid (HX.out.trans hx3 (fun _ _ q=>q));have e3:=a5M hp3.1;generalize p'.rA=A3 at *;generalize p'.rc=c3 at *;subst e3;have rq:=hid hc3;clear hc3 hp3 hx3 HX;go_wp2_with ((with_reducible refine kT [(0,iv 1)] m1 (Eq.trans ?_ rfl) hb1 ?_);rfl)
 refine(T1.out w3 rq.out.k).mono ?_;clear T1;rintro e w4 ⟨A4,c4,rfl,hr4,hc4,k4⟩;have R4:=hid (E1.out A4 c4 w4 _ _ (rq.out.keep k4) hr4 hc4.1 hc4.2);replace CG:=hid (CG.out.trans (aP.of k4) (fun _ _ q=>q));clear hr4 hc4 k4 E1 rq;go_wp2_with fail
 refine R4.out.mono ?_;clear R4;rintro e w5 ⟨c4w,rfl,-,v5,sl5,d5,p5,⟨rfl,rfl,rfl⟩,hc5,a3E,hx5,-⟩;have Oc:Hid (aP (jT X T M v5) w w5):=hid (CG.out.trans hx5 (fun _ _ q=>q));have e5:=a5M a3E.1;generalize p5.rA=A5 at *;generalize p5.rc=c5 at *;subst e5;have NH:=hid hc5;clear hc5 a3E hx5 CG;go_wp2
 exact bodyPost_end (v:=.tuple #[]) (by simp[results,results17]) rfl ⟨A5,c5,rfl,NH.out,Oc.out⟩
end
theorem b1y {w0 w w6:World} {X T M lo hi:Nat} {v:Value} {ns:List Nd} {cf sl:List Value} {ss:Array Value} {d:Int} (P:eF) (PA:Option Addr) (pc:Nat) (h:Hd) (i:Nat) (ns':List Nd) (bs pb:List UInt8) (qj:Option Addr) (ql:Nat) (LA:Option Addr) (lc:Nat)
  (H:bG w0 w X T M v ns cf sl true (qS 2 qj ql) d) (G:CA w lo hi X T M v w6 sl ss) (hz:hi≤w.heap.size) (hS:bV w0)
  (hC:pG P PA w0) (hcf : ∃ t,cf=[ag P.limit,iv P.bQ,iv P.span,iv P.dm,iv P.idx,iv P.dK,.slice PA P.dH.length pc]++t) (dV:Tr ns) (hl:ns.length≤100) (ho:h.ok) (hR:sN P 9 ns h 0=(ns',((i:Nat):Int),0)) (hk' : ∀ n∈ns',n.ok) (hi':i<ns'.length∧ns'.length≤1000)
  (hbs:pX (.hds none [h] 1)=bs) (hf:Ia h bs pb) (hlc:1≤lc∧lc≤maxLen) (hr:Rd w LA h.cells) :
  Calls prog 20 #[pT X,ag 5,iv 0,.slice LA 1 lc] w (Done 0 (qy (fun _ _ _=>True) w0 X T M v ns' cf (qS 2 none 0) w) w):=by
 obtain⟨ms,hm,hbm⟩:=b67 LA h lc
 have FH:Hid (∀ y,Keep w y→Calls prog 31 #[ag 5,.agg ms] y (OD bs y)):=hid fun y hy=>by
  have q:=a6T 5 (.hds LA [h] lc) (by show 1≤2000;omega) ms hm y (fun p hp=>by
   obtain rfl:=List.mem_singleton.1 hp
   exact⟨by show 1≤2000;omega,fun x hx=>by rw[List.mem_singleton.1 hx];exact ho,by rw[List.flatMap_singleton];exact hr.keep hy⟩) (hS.keep (H.keep hy).k)
  rwa[show uM 5 (iE (.hds LA [h] lc)) (aV.put (.hds LA [h] lc))=bs from hbs]at q
 have HE:Hid (∀ A c y,Keep w y→Rd y A (bs.map ah)→bs.length≤c→c≤maxLen→Calls prog 8 #[pT X,qV 1 0 0 A bs.length c] y (Done 0 (qy (fun _ _ _=>True) w0 X T M v ns' cf (qS 2 none 0) y) y)):=hid fun A c y hy hr h1 h2 =>
  a6B (H.keep hy) fun z hz'=>b4F P PA pc h i ns' bs pb qj ql A c 1 0 (H.keep (af hy hz')) (G.keep (k:=0) (aP.of (af hy hz')) hz) (Nat.le_trans hz (af hy hz').size) hS hC hcf dV hl ho hR hk' hi' hf ⟨h1,h2⟩ (hr.keep hz')
 have FA:Hid (∀ y y' w' g,Keep w y→qy (fun _ _ _=>True) w0 X T M v ns' cf (qS 2 none 0) y y'→y'.grownBy w' (some g)→w.heap.size≤g→g<y.heap.size→qy (fun _ _ _=>True) w0 X T M v ns' cf (qS 2 none 0) w w'):=hid fun y y' w' g hy hp hg h1 h2=>a3f H hy hp hg h1 h2;have a0z:Hid (∀ y y' g,qy (fun _ _ _=>True) w0 X T M v ns' cf (qS 2 none 0) y y'→w.heap.size≤g→g<y.heap.size→y'.heap[g]?=y.heap[g]?):=hid fun y y' g hp h1 h2=>heard_old H hp h1 h2;have hmn:=hm.n;have hmz:=hm.z
 obtain⟨qZ,ho0,mZ⟩:=Dj;have hon:=mZ.n;have DV:=mZ.z
 clear H G hz hS hC hcf dV hl ho hR hk' hi' hbs hf hlc hr hm mZ;generalize qy (fun _ _ _=>True) w0 X T M v ns' cf (qS 2 none 0)=HR at *;unfold Done at HE;go_enter func20,ntmps20
 go_upto_region 1 with fail
 obtain⟨w1,hw1,HB,HK⟩:=l7 w 72 qZ;rw[hw1];clear hw1;go_wp2_with ((with_reducible refine kT [(0,iv 5),(4,.slice LA 1 lc)] ms (Eq.trans ?_ rfl) hbm ?_);rfl)
 refine(FH.out w1 HK.out).mono ?_;clear FH;rintro e w2 ⟨A2,c2,rfl,hr2,hc2,k2⟩;have HKK:=HK;replace HB:=hid (HB.out.keep k2);replace HK:=hid (af HK.out k2);have R2:=hid (HE.out A2 c2 w2 HK.out hr2 hc2.1 hc2.2);clear hr2 hc2 k2 HE;go_wp2_with fail
 refine R2.out.mono ?_;clear R2;rintro e w3 ⟨vs,rfl,⟨S,L,hvA⟩,hp⟩;have fF:=hvA.z;have hvn:=hvA.n;have jk:=hvA.i
 have HB3:Hid (ae w3 w.heap.size 72 qZ.toList):=hid ((a0z.out w2 w3 _ hp (Nat.le_refl _) HB.out.lt).trans HB.out);obtain⟨w4,hst,hb4,hg⟩:=bn (P:=prog) vs.toList HB3.out (by rw[Array.length_toList,Array.length_toList,fF,DV]) hvA.o;have HF:=hid (FA.out w2 w3 w4 _ HK.out hp hg (Nat.le_refl _) HB.out.lt);have HB4:=hid hb4;have Fe:=hid hvA
 clear hp hg hb4 HB3 HB FA a0z hvA;go_wp2
 exact bodyPost_ret (v:=.agg vs) (gJ results20 HB4.out underlying72 jk rfl rfl) rfl ⟨vs,rfl,⟨S,L,Fe.out⟩,HF.out⟩
def jC:eF:=⟨545259519,9,90,10,9,9,[]⟩
def jI:Hd:=⟨0,z32,z32,0,545259519,0⟩
def uF (L:List UInt8) (n:UInt32):Hd:=⟨0,L,z32,3,545259519,n⟩
def zB:List UInt8:=[21,69,166,194,34,142,174,254,51,143,16,178,185,178,204,107,138,25,0,80,180,91,164,132,47,186,142,94,126,96,52,167]
theorem c0S:df jI=zB:=by decide +kernel
theorem a5F:2<2^256∧4<2^256:=by decide
theorem Du:jI.ok:=⟨rfl,rfl⟩
theorem Wq {L:List UInt8} (h:L.length=32) (n:UInt32):(uF L n).ok:=⟨h,rfl⟩
theorem a7e (h:Hd):oP jC h=0:=rfl
theorem a7f:uS 545259519=2:=by decide +kernel
theorem c0O:xY jC [jI] (uF zB 3) 0=0:=by decide +kernel
theorem c0V:(zB==df (uF zB 3))=false:=by decide +kernel
theorem c0T : ∀ j,j<3→o8 (fC (df ((uF zB 0).bump j))) 545259519 545259519≠0:=by decide +kernel
theorem c0U:o8 (fC (df ((uF zB 0).bump 3))) 545259519 545259519=0:=by decide +kernel
def LU:List UInt8:=[1,0,0,0,0,21,69,166,194,34,142,174,254,51,143,16,178,185,178,204,107,138,25,0,80,180,91,164,132,47,186,142,94,126,96,52,167,0,0,0,0,0,0,0,0,0,0,0,0,0,0,0,0,0,0,0,0,0,0,0,0,0,0,0,0,0,0,0,0,3,0,0,0,255,255,127,32,3,0,0,0,0]
def OL:List UInt8:=[5,0,0,0,104,101,97,100,101,114,115,0,0,0,0,0,82,0,0,0,193,52,49,124]++LU
theorem c0N:pX (.hds none [uF zB 3] 1)=OL:=by decide +kernel
theorem c0P:evs 5 9999 OL=[((jB 5,LU),0),(([],[]),1)]:=by decide +kernel
theorem c0W:nz OL [((jB 5,LU),0),(([],[]),1)]=([],0):=by decide +kernel
theorem c0R:qL LU=([uF zB 3],0):=by decide +kernel
theorem c0Q:Ia (uF zB 3) OL LU:=⟨c0P,c0W,⟨c0R,by decide⟩,by decide,by decide⟩
theorem b0Y {I0:List UInt8} (p:eF) (h:Hd) (hI:df h=I0) (hw:uS h.bits=2):jf 9 [] h=([⟨I0,h,-1,0,2⟩],0,0):=by
 unfold jf;rw[hI,hw];rfl
theorem b0Z {I0 I1:List UInt8} {hA hH:Hd} {p:eF} {now:Int} (h1:oP p hH=0) (h2:df hH=I1) (hp:hH.prev=I0) (hne:(I0==I1)=false) (hc:xY p [hA] hH now=0) (hw:uS hH.bits=2) :
  sN p 9 [⟨I0,hA,-1,0,2⟩] hH now=([⟨I0,hA,-1,0,2⟩,⟨I1,hH,0,1,4⟩],1,0):=by
 have f1:fB [(⟨I0,hA,-1,0,2⟩:Nd)] I1=none:=by unfold fB;simp[List.findIdx?_cons,hne]
 have f2:fB [(⟨I0,hA,-1,0,2⟩:Nd)] hH.prev=some 0:=by unfold fB;simp[List.findIdx?_cons,hp]
 have f3:(jW [(⟨I0,hA,-1,0,2⟩:Nd)] ((0:Nat):Int)).map (gG [(⟨I0,hA,-1,0,2⟩:Nd)])=[hA]:=rfl;unfold sN jf;rw[h1,h2,hw,if_neg (by decide),if_neg (by simp),f1];simp only;rw[f2];simp only;rw[f3,hc,if_neg (by simp)];unfold pU kH;rw[f1];simp only;rw[f2,if_neg (by simp),if_neg (by simp),if_neg (by simp)];rfl
structure a0J (I0:List UInt8) (h0 h:Hd) (qP pq:List Nd) (bs pb:List UInt8):Prop where
 i:df jI=I0
 i2:I0.length=32
 e0:h0=uF I0 0
 o0:h0.ok
 b0:h0.bits=545259519
 m1 : ∀ j,j<3→o8 (fC (df (h0.bump j))) h0.bits 545259519≠0
 m2:o8 (fC (df (h0.bump 3))) h0.bits 545259519=0
 e:h0.bump 3=h
 o:h.ok
 a1:jf 9 [] jI=(qP,0,0)
 t1:Tr qP
 l1:qP.length=1
 k1:pW qP=0
 g1:((fD qP (0:Nat)).getD nd0).hgt=0
 a2:sN jC 9 qP h 0=(pq,((1:Nat):Int),0)
 o2 : ∀ n∈pq,n.ok
 l2:pq.length=2
 k2:pW pq=1
 g2:((fD pq (1:Nat)).getD nd0).hgt=1
 h2:((fD pq (1:Nat)).getD nd0).head=h
 b:pX (.hds none [h] 1)=bs
 f:Ia h bs pb
theorem b8j {I0 I1:List UInt8} {h0 h:Hd} (hi:df jI=I0) (e0:h0=uF I0 0) (e:h=uF I0 3) (hI1:df h=I1) (m1 : ∀ j,j<3→o8 (fC (df (h0.bump j))) 545259519 545259519≠0) (m2:o8 (fC (df (h0.bump 3))) 545259519 545259519=0)
  (hc:xY jC [jI] h 0=0) (hne:(I0==I1)=false) {bs pb:List UInt8} (hb:pX (.hds none [h] 1)=bs) (hf:Ia h bs pb) :
  a0J I0 h0 h [⟨I0,jI,-1,0,2⟩] [⟨I0,jI,-1,0,2⟩,⟨I1,h,0,1,4⟩] bs pb:=by
 have h32:I0.length=32:=by rw[←hi];exact uB _
 have b3Q:I1.length=32:=by rw[←hI1];exact uB _
 have ho:h.ok:=by rw[e];exact Wq h32 _
 have hbt:h0.bits=545259519:=by rw[e0];rfl
 have ha:=b0Y jC jI hi a7f;refine⟨hi,h32,e0,by rw[e0];exact Wq h32 _,hbt,by rw[hbt];exact m1,by rw[hbt];exact m2,by rw[e0,e];rfl,ho,ha,?_,rfl,rfl,rfl,b0Z (a7e h) hI1 (by rw[e];rfl) hne hc (by rw[e];exact a7f),?_,rfl,rfl,rfl,rfl,hb,hf⟩
 ·have:=(Tr.nil.add Du 9).1
  rwa[ha]at this
 ·intro n hn
  simp only[List.mem_cons,List.not_mem_nil,or_false]at hn;rcases hn with rfl | rfl
  ·exact⟨h32,Du,a5F.1⟩
  ·exact⟨b3Q,ho,a5F.2⟩
theorem plainW : ∃ I0 h0 h qP pq bs pb,a0J I0 h0 h qP pq bs pb:=⟨_,_,_,_,_,_,_,b8j c0S rfl rfl rfl c0T c0U c0O c0V c0N c0Q⟩
theorem b8X : ∃ gs cs:Array Value,bF jI gs∧Bx 39 79 (fE jC none 0 jI 5 9999 5 68) cs∧prog.built 29 [(4,.int .u32 545259519)]=some gs ∧
  prog.built 39 [(0,gI jC none 0),(1,.agg gs),(2,.int .u32 5),(3,iv 9999),(4,iv 5),(5,iv 68)]=some cs∧(∀ w,(Instr.field 39 (.agg cs) 1).run prog w = .ok (.agg gs) w) :=
 ⟨jI.cells.toArray,_,bF.of Du,Dh _ _ _ _ _ _ _ _ Du,by kernel_rfl,by kernel_rfl,fun w=>by kernel_rfl⟩
theorem b7e {L:List UInt8} (hl:L.length=32) (is:Array Value) (hi:aX L is) : ∃ hs,bF (uF L 0) hs∧prog.built 29 [(1,.agg is),(3,.int .u32 3),(4,.int .u32 545259519)]=some hs:=by
 have hl2:=hi.l;obtain⟨a0,a1,a2,a3,a4,a5,a6,a7,a8,a9,b0,b1,b2,b3,b4,b5,b6,b7,b8,b9,c0,c1,c2,c3,c4,c5,c6,c7,c8,c9,d0,d1,rfl⟩:=Gl hl;obtain rfl:is=_:=by rw[←Array.toArray_toList (xs:=is),hl2]
 exact⟨_,bF.of (Wq rfl 0),by kernel_rfl⟩
theorem b8Y {gs cs:Array Value} (h1:bF jI gs) (h2:Bx 39 79 (fE jC none 0 jI 5 9999 5 68) cs) (h3:prog.built 29 [(4,.int .u32 545259519)]=some gs)
  (h4:prog.built 39 [(0,gI jC none 0),(1,.agg gs),(2,.int .u32 5),(3,iv 9999),(4,iv 5),(5,iv 68)]=some cs) (w:World) :
  Calls prog 16 #[] w fun e w'=>e = .returned (.agg cs)∧Keep w w':=by
 have hgn:=h1.n;have hgz:=h1.z
 have hcn:=h2.n;have hcz:=h2.z;have hci:=h2.i
 obtain⟨zs,hzb,hz0⟩ : ∃ zs:Array Value,(zs.size=79∧¬ zs = #[])∧∀ w,(zeroValue 39).run prog w = .ok (.agg zs) w:=⟨_,⟨(Dh ⟨0,0,0,0,0,0,[]⟩ none 0 MN 0 0 0 0 ⟨rfl,rfl⟩).z,(Dh ⟨0,0,0,0,0,0,[]⟩ none 0 MN 0 0 0 0 ⟨rfl,rfl⟩).n⟩,fun w=>by kernel_rfl⟩
 obtain⟨hzz,hzn⟩:=hzb;have HC:=hid h2;clear h1 h2;go_enter func16,ntmps16
 go_upto_region 1 with fail
 obtain⟨w1,hw1,HB,HK⟩:=l7 w 39 zs;rw[hw1];clear hw1;obtain⟨w2,hst,hb2,hg⟩:=bn (P:=prog) cs.toList HB.out (by rw[Array.length_toList,Array.length_toList,hzz,hcz]) HC.out.o;have HB2:=hid hb2;replace HK:=hid (aK HK.out hg (by omega));clear hb2 hg HB;go_wp2_with (first | ((with_reducible refine kT _ gs (Eq.trans ?_ rfl) h3 ?_);rfl) | ((with_reducible refine kT _ cs (Eq.trans ?_ rfl) h4 ?_);rfl))
 exact bodyPost_ret (v:=.agg cs) (gJ results16 HB2.out underlying39 hci rfl rfl) rfl ⟨rfl,HK.out⟩
def a0s (n:Nat) (w:World) (e:Ending) (w':World):Prop:=∃ (A:Option Addr) (c:Nat),e = .returned (.slice A n c)∧Keep w w'
theorem b2j {w0 w:World} {X T M:Nat} {v:Value} {ns:List Nd} {cf sl:List Value} {b:Bool} {q:aW} {d:Int} (h:bG w0 w X T M v ns cf sl b q d) (hk : ∀ n∈ns,n.ok) (hl:ns.length≤1000) :
  Calls prog 12 #[pT X] w (a0s ns.length w):=by
 have uX:Hid (∀ y,Keep w y→Calls prog 26 #[pT X] y fun e w'=>e = .returned (.bool false)∧Keep y w'):=hid fun y hy=>OW X T y (h.keep hy).mf;have LN:Hid (∀ y,Keep w y→Calls prog 30 #[pT T] y fun e w'=>e = .returned (iv ns.length)∧Keep y w'):=hid fun y hy=>MB T ns y (h.t.r.keep hy)
 have N1:Hid (∀ (k:Nat) y,Keep w y→k<ns.length→Calls prog 28 #[pT T,iv k] y fun e w' => ∃ ds b n,e = .returned (.tuple #[.agg ds,.bool b])∧iY n ds∧n.ok∧Keep y w'):=hid fun k y hy hlt =>
  (LD T ns _ y (h.t.r.keep hy) hk (by omega) (by omega)).mono fun e w' ⟨ds,h1,h2,h3⟩=>⟨ds,_,_,h1,h2,Gs hk _,h3⟩
 have Nh:=hid h.mf;clear h hk;generalize ns.length=N at *;obtain⟨zs,hz1,hz2,hz3,-,-⟩:=yC;go_enter func12,ntmps12
 go_wp2_with fail
 refine(uX.out _ (Below.refl _ _)).mono ?_;clear uX;rintro e w1 ⟨rfl,k1⟩;have ai:=hid k1;have mf:=aC k1 Nh.out;clear k1;go_wp2_with fail
 refine(LN.out _ ai.out).mono ?_;clear LN mf;rintro e w2 ⟨rfl,k2⟩;obtain⟨wm,hmk,⟨jQ,hzl,hbm⟩,km,hsz⟩:=a4O N (by omega) w2;have ay:=hid (af ai.out k2);have DT:=hmk (N:Int) rfl;have EG:=hid hbm;have Fg:=hid hzl;have Sz:=hid (af ay.out km)
 have hz0:w.heap.size≤w2.heap.size:=ay.out.size;clear hbm km hzl hmk hsz k2 ai ay;go_wp2_with fail
 clear DT;generalize w2.heap.size=G at *
 go_loopw [17] (fun i wr => ∃ k:Nat,k≤N∧i = .int .i64 k∧(∃ jQ:List Value,Hid (jQ.length=N*68)∧Hid (ae wr G 29 jQ))∧Hid (Keep w wr)) (fun i _=>N - (intOf i).toNat)
 case atStart=>exact⟨0,Nat.zero_le _,rfl,⟨jQ,Fg,EG⟩,Sz⟩
 case round =>
  obtain⟨k,hkl,rfl,⟨jQ,HZ,HR⟩,bg⟩:=hrel;by_cases hlt:k<N
  ·have N2:=hid (fun y hy=>N1.out k y hy hlt)
   have mf:=aC bg.out Nh.out;have d1:(k:Int)<N:=by omega
   go_wp2_with fail
   refine(N2.out _ bg.out).mono ?_;clear N2 mf;rintro e w2 ⟨ds,bb,n,rfl,hds,hno,k2⟩;replace HR:=hid (HR.out.keep k2);replace bg:=hid (af bg.out k2);obtain⟨hv,dW⟩ : ∃ hv,bF n.head hv:=⟨_,bF.of hno.2.1⟩
   have hhz:=dW.z;have hhn:=dW.n;have hhi:=dW.i
   have Kt:=hds.z;have a3b:=hds.n;have Kr:=hds.i
   have hst:=fK w2 81 Kr (hz1.trans Kt.symm) hds.o;have gZ:=hid hds;have Ai:=hid hno;have Za:=hid dW
   clear hds hno dW k2;go_upto_region 8 with fail
   clear hst;have hG:=HR.out.lt;obtain⟨gn,w3,hg,hw,hl3,IV,k3⟩:=oQ w2 81 ds;replace HR:=hid (HR.out.keep k3);replace bg:=hid (af bg.out k3);simp only[hw,hg];have bU:Hid (w3.rangeAt gn 32 hv.toList):=hid (Wx Ai.out Za.out IV.out gZ.out);obtain⟨w8,fQ,hb8,aZ⟩:=Bz (P:=prog) (k*68) hv.toList HR.out (by rw[HZ.out,Array.length_toList,hhz];omega) Za.out.o;have gq:=hid hb8
   have Td:Hid ((splice jQ (k*68) hv.toList).length=N*68):=hid (by
    have e:=HZ.out;have e2:hv.toList.length=68:=by rw[Array.length_toList,hhz]
    unfold splice
    rw[List.length_append,List.length_append,List.length_take,List.length_drop,e2,e];omega)
   have bK:Hid (Keep w w8):=hid (aK bg.out aZ (by omega));clear hw hg k3 hb8 aZ IV gZ HR bg Ai;go_wp2_with ((with_reducible refine dw gn 32 hv (Eq.trans ?_ rfl) bU.out _ underlying29 rfl hhi rfl ?_);rfl)
   go_roundw
   case rel=>exact⟨k+1,by omega,by go_num,⟨_,Td,gq⟩,bK⟩
   case measure=>simp[intOf];omega
  ·obtain rfl:k=N:=by omega
   have d1 : ¬ ((k:Int)<k):=by omega
   go_wp2
   exact bodyPost_ret (v:=.slice (some ⟨G,0,none⟩) k k) (by simp[results,results12]) rfl ⟨_,_,rfl,bg.out⟩
end Go.Proofs.YtiagcenlnekdeaaGreatDoor
