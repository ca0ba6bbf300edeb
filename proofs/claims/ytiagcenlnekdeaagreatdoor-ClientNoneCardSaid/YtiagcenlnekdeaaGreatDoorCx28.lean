/- Texts merged by pack.py: Tg, Rv, Tj, Clc, Cld, Cle, Clf. -/
import Derived.Test.YtiagcenlnekdeaaGreatDoorCx27
import Derived.Test.YtiagcenlnekdeaaGreatDoorCx25
import Derived.Test.YtiagcenlnekdeaaGreatDoorCx15
import Derived.Test.YtiagcenlnekdeaaGreatDoorCx2
set_option maxRecDepth 1000000
set_option maxHeartbeats 16000000
open Go.Proofs.Tryz
open Go.Lib (hid)
set_option linter.unusedSimpArgs false
set_option linter.unusedVariables false
namespace Go.Proofs.YtiagcenlnekdeaaGreatDoor
open Go.RowKit
attribute [local go_sem ↓] Go.wp_at_zero Go.wp_at_succ
theorem Bz {P:Program} {w:World} {g:Nat} {t:TypeId} {all:List Value} (off:Nat) (cs:List Value) (hb:ae w g t all) (hl:off+cs.length≤all.length) (h1 : ∀ v∈cs,v.oneCell'=true) :
  ∃ w',(storeCells ⟨g,off,none⟩ cs 0).run P w = .ok () w'∧ae w' g t (splice all off cs)∧w.grownBy w' (some g):=by
 have hrun:=run_storeCells_at P g off t cs 0 all.toArray w hb (by simpa using hl) h1;simp only[Nat.add_zero,List.toList_toArray]at hrun;refine⟨_,hrun,?_,rfl,rfl,rfl,by simp[World.setRow],fun k _ hne=>setRow_other w g k _ (fun e=>hne (by rw[e]))⟩;have h:=setRow_heap w g all.toArray (all.take off++cs++all.drop (off+cs.length)).toArray t (0,0) hb;unfold ae splice;rw[←List.append_assoc];exact h
def a4b (ns:List Nd) (i:Nat):List UInt8:=(ns[i]?.map Nd.id).getD z32
def gG (ns:List Nd) (i:Nat):Hd:=(ns[i]?.map Nd.head).getD ⟨0,z32,z32,0,0,0⟩
theorem a5c (ns:List Nd) (i:Nat):((fD ns (i:Int)).getD nd0).id=a4b ns i∧((fD ns (i:Int)).getD nd0).head=gG ns i:=by
 rw[LC];unfold a4b gG
 cases ns[i]? with
 | none=>exact⟨rfl,rfl⟩
 | some n=>exact⟨rfl,rfl⟩
theorem Wx {n:Nd} (hk:n.ok) {hv:Array Value} (hi:bF n.head hv) {w:World} {g:Nat} {t:TypeId} {cs:Array Value} (hb:ae w g t cs.toList) (hcs:iY n cs):w.rangeAt g 32 hv.toList:=by
 refine cu hb 32 hv.toList ?_;rw[hi.l,hcs.l];simp[Nd.cells,hk.1,Hd.len hk.2.1]
theorem a4O (k:Nat) (hk:k≤2000000) (W:World) : ∃ W',(∀ i:Int,i=k→(Instr.makeSlice 86 (.int .i64 i) (.int .i64 i)).run prog W = .ok (.slice (some ⟨W.heap.size,0,none⟩) k k) W') ∧
  (∃ jQ:List Value,jQ.length=k*68∧ae W' W.heap.size 29 jQ)∧Keep W W'∧W'.heap.size=W.heap.size+1:=by
 refine⟨W.alloc (.cells (madeCells (Value.agg uU).cells (k*68)) 29),fun i hi=>?_,⟨(madeCells (Value.agg uU).cells (k*68)).toList,by simp[madeCells],?_⟩,aB _ _,by simp⟩
 ·subst hi;exact PD.make k k (Nat.le_refl _) (by omega) (by omega) W
 ·exact ae.new W _ (madeCells (Value.agg uU).cells (k*68)).toList
theorem b9D {α:Type} (a b c:List α):splice (a++b) a.length c=a++splice b 0 c:=by
 unfold splice;simp
def CQ (B:Nat) (ys:List Hd) (w:World) (e:Ending) (w':World):Prop:=∃ v,e = .returned v∧w'.ownsRow B 29 68 v ys.length (ys.flatMap Hd.cells)∧Keep w w'
theorem VB {ns:List Nd} (dV:Tr ns) (i:Nat):(gG ns i).ok:=by
 have h:=Gs dV.ok (i:Int);rw[←(a5c ns i).2];exact h.2.1
theorem b4C (T:Nat) (ns:List Nd) (A:Option Addr) (l:List Nat) (c:Nat) (w:World) (h:vV w T ns) (dV:Tr ns) (hl:ns.length≤1048576) (hll:l.length≤1048577) (hr:Rd w A (uH l)) (hlt : ∀ k∈l,k<ns.length) :
  Calls prog 168 #[pT T,.slice A l.length c] w (CQ w.heap.size (l.map (gG ns)) w):=by
 have N1:Hid (∀ (k:Nat) y,Keep w y→k<l.length→Calls prog 28 #[pT T,iv (l.getD k 0:Nat)] y fun e w' => ∃ ds b,e = .returned (.tuple #[.agg ds,.bool b])∧iY ((fD ns (l.getD k 0:Nat)).getD nd0) ds∧Keep y w'):=hid fun k y hy hk=>by
  have hm:l.getD k 0<ns.length:=hlt _ (by rw[List.getD_eq_getElem?_getD,List.getElem?_eq_getElem hk];exact List.getElem_mem hk);refine(LD T ns _ y (h.keep hy) dV.ok hl (by omega)).mono fun e w' ⟨ds,h1,h2,h3⟩=>⟨ds,_,h1,h2,h3⟩
 have HAT:Hid (∀ k,k<l.length → ∃ b off,A=some ⟨b,off,none⟩∧w.cell? ⟨b,off+k,none⟩=some (iv (l.getD k 0:Nat))):=hid fun k hk=>by
  obtain⟨b,off,h1,-,h2⟩:=hr.at (k:=k) (by rw[Gv];exact hk);refine⟨b,off,h1,(h2 k (by rw[Gv];exact hk)).trans ?_⟩;simp[uH,List.getD_eq_getElem?_getD,List.getElem?_eq_getElem hk]
 have qx:Hid (∀ k:Nat,((fD ns (k:Int)).getD nd0).ok∧((fD ns (k:Int)).getD nd0).head=gG ns k∧(gG ns k).ok):=hid fun k=>⟨Gs dV.ok _,(a5c ns k).2,VB dV k⟩
 have NL:Hid (∀ k,k≤l.length→((l.take k).flatMap fun x=>(gG ns x).cells).length=k*68):=hid fun k hk=>by
  rw[rF _ 68 _ fun x _=>Hd.len (VB dV x)];simp;omega
 have SS:Hid (∀ k,k<l.length→((l.take (k+1)).flatMap fun x=>(gG ns x).cells)=((l.take k).flatMap fun x=>(gG ns x).cells)++(gG ns (l.getD k 0)).cells):=hid fun k hk=>by
  rw[List.take_succ_eq_append_getElem hk,List.flatMap_append,List.getD_eq_getElem?_getD,List.getElem?_eq_getElem hk];simp
 have Nz:Hid (((l.take l.length).flatMap fun x=>(gG ns x).cells)=(l.map (gG ns)).flatMap Hd.cells):=hid (by rw[List.take_length,List.flatMap_map]);clear h hr hlt;obtain⟨zs,hz1,hz2,hz3,-,-⟩:=yC;have Cb:Hid ((l.map (gG ns)).length=l.length):=hid (List.length_map _);have HK:Hid (Keep w w):=hid (Below.refl _ _);obtain⟨wm,hmk,⟨jQ,hzl,hbm⟩,km,hsz⟩:=a4O l.length (by omega) w;have DT:=hmk (l.length:Int) rfl;have EG:=hid hbm;have Sz:=hid km;have Fg:=hid hzl
 clear hbm km hzl hmk hsz;unfold CQ;go_enter func168,ntmps168
 go_wp2_with fail
 clear DT
 go_loopw [14] (fun i wr => ∃ k:Nat,k≤l.length∧i = .int .i64 k∧(∃ jQ:List Value,Hid (jQ.length+k*68=l.length*68)∧Hid (ae wr w.heap.size 29 (((l.take k).flatMap fun x=>(gG ns x).cells)++jQ)))∧Hid (Keep w wr)) (fun i _=>l.length - (intOf i).toNat)
 case atStart=>exact⟨0,Nat.zero_le _,rfl,⟨jQ,hid (by rw[Fg.out];omega),EG⟩,Sz⟩
 case round =>
  obtain⟨k,hkl,rfl,⟨jQ,HZ,HR⟩,bg⟩:=hrel;by_cases hlt:k<l.length
  ·obtain⟨b,off,rfl,hcw⟩:=HAT.out k hlt
   have hc:=aC bg.out hcw;have N2:Hid (∀ y,Keep w y→Calls prog 28 #[pT T,iv (l.getD k 0:Nat)] y fun e w' => ∃ ds b,e = .returned (.tuple #[.agg ds,.bool b])∧iY ((fD ns (l.getD k 0:Nat)).getD nd0) ds∧Keep y w'):=hid fun y hy=>N1.out k y hy hlt;have SV:=hid (SS.out k hlt);have HFk:=hid (NL.out k hkl);obtain⟨q,hq⟩ : ∃ q,l.getD k 0=q:=⟨_,rfl⟩
   rw[hq]at hc N2 SV;obtain⟨o1,o2,o3⟩:=qx.out q;have kz:=hid o1;obtain⟨hv,dW⟩ : ∃ hv,bF (gG ns q) hv:=⟨_,bF.of o3⟩
   have kC:=hid o2;have hhz:=dW.z;have hhn:=dW.n;have hhi:=dW.i
   have iW:=hid dW;have d1:(k:Int)<l.length:=by omega
   clear hcw hq o1 o2 o3 dW N1 SS NL Nz qx;go_wp2_with fail
   refine(N2.out _ bg.out).mono ?_;clear N2 hc;rintro e w2 ⟨ds,bb,rfl,hds,k2⟩;have HR2:=hid (HR.out.keep k2);have ay:=hid (af bg.out k2);clear k2 HR bg;have Kt:=hds.z;have a3b:=hds.n;have Kr:=hds.i
   have hst:=fK w2 81 Kr (hz1.trans Kt.symm) hds.o;have dZ:=hid hds;clear hds;go_upto_region 6 with fail
   obtain⟨w3,hw3,IV,-,-⟩:=di w2 81 ds;have HR3:Hid (ae w3 w.heap.size 29 (((l.take k).flatMap fun x=>(gG ns x).cells)++jQ)):=by rw[hw3];exact hid (HR2.out.alloc _)
   have aA:Hid (Keep w w3):=by rw[hw3];exact hid (af ay.out (aB _ _))
   rw[←hw3];have b4V:w.heap.size≤w2.heap.size:=ay.out.size;have c3G:=HR2.out.lt;clear hw3 HR2 ay;generalize w2.heap.size=gn at *;clear hst;have bU:Hid (w3.rangeAt gn 32 hv.toList):=hid (Wx kz.out (by rw[kC.out];exact iW.out) IV.out dZ.out);obtain⟨w8,fQ,hb8,aZ⟩:=Bz (P:=prog) (k*68) hv.toList HR3.out (by rw[List.length_append,HFk.out,Array.length_toList,hhz];have:=HZ.out;omega) iW.out.o
   have hbn:ae w8 w.heap.size 29 (((l.take (k+1)).flatMap fun x=>(gG ns x).cells)++jQ.drop 68):=by
    have q1:splice (((l.take k).flatMap fun x=>(gG ns x).cells)++jQ) (k*68) hv.toList=((l.take (k+1)).flatMap fun x=>(gG ns x).cells)++jQ.drop 68:=by
     rw[←HFk.out,b9D,SV.out,iW.out.l];unfold splice;rw[Hd.len (by have:=iW.out;exact(kC.out ▸ kz.out.2.1))];simp
    rw[q1]at hb8;exact hb8
   have Ij:=hid hbn;have bK:Hid (Keep w w8):=hid (aK aA.out aZ (by omega));have Td:Hid ((jQ.drop 68).length+(k+1)*68=l.length*68):=hid (by rw[List.length_drop];have:=HZ.out;omega);clear hb8 aZ hbn HR3 IV aA dZ kz kC SV HFk;go_wp2_with ((with_reducible refine dw gn 32 hv (Eq.trans ?_ rfl) bU.out _ underlying29 rfl hhi rfl ?_);rfl)
   go_roundw
   case rel=>exact⟨k+1,by omega,by go_num,⟨_,Td,Ij⟩,bK⟩
   case measure=>simp[intOf];omega
  ·obtain rfl:k=l.length:=by omega
   have d1 : ¬ ((l.length:Int)<l.length):=by omega
   have hz0:jQ=[]:=List.eq_nil_of_length_eq_zero (by have:=HZ.out;omega);have hR:=HR.out;rw[hz0,List.append_nil,Nz.out]at hR;have hfl:=NL.out l.length (Nat.le_refl _);rw[Nz.out]at hfl
   have hown:wr.ownsRow w.heap.size 29 68 (.slice (some ⟨w.heap.size,0,none⟩) l.length l.length) l.length ((l.map (gG ns)).flatMap Hd.cells) :=
    ⟨hfl,.inr ⟨w.heap.size,l.length,((l.map (gG ns)).flatMap Hd.cells).toArray,rfl,Nat.le_refl _,hR,Nat.le_refl _,by unfold maxLen;omega,by rw[List.size_toArray];exact hfl,by rw[List.take_of_length_le (by rw[hfl];omega)]⟩⟩
   have HOWN:Hid (wr.ownsRow w.heap.size 29 68 (.slice (some ⟨w.heap.size,0,none⟩) l.length l.length) (l.map (gG ns)).length ((l.map (gG ns)).flatMap Hd.cells)):=hid (by rw[Cb.out];exact hown);clear hown hfl hR hz0 HR NL SS Nz qx N1 HAT HZ;go_wp2
   exact bodyPost_ret (v:=.slice (some ⟨w.heap.size,0,none⟩) l.length l.length) (by simp[results,results168]) rfl ⟨_,rfl,by first | exact HOWN.out | (have q:=HOWN.out;rw[Cb.out]at q;exact q) | simpa using HOWN.out,bg.out⟩
theorem b6R {ns:List Nd} (dV:Tr ns) (i:Int) : ∀ k∈jW ns i,k<ns.length:=by
 intro k hk;unfold jW at hk
 split at hk
 ·rename_i hc
  unfold qh at hk;obtain⟨j,hj,rfl⟩:=List.mem_map.1 hk;exact(dV.Xw hc.2 _ (Nat.sub_le _ _)).2.1
 ·cases hk
theorem a4E {ns:List Nd} (dV:Tr ns) (i:Int):(jW ns i).length≤ns.length:=by
 unfold jW
 split
 ·rename_i hc
  rw[a4F]
  have:=dV.le _ hc.2
  omega
 ·exact Nat.zero_le _
theorem a9T (T:Nat) (ns:List Nd) (i:Int) (w:World) (h:vV w T ns) (dV:Tr ns) (hl:ns.length≤1048576) (hi : -9223372036854775808≤i∧i≤9223372036854775807) :
  Calls prog 232 #[pT T,iv i] w (CQ w.heap.size ((jW ns i).map (gG ns)) w):=by
 have L1:Hid (Calls prog 126 #[pT T,iv i] w (Ox w.heap.size (jW ns i) w)):=hid (b6S T ns i w h dV hl hi);have H1:Hid (∀ y A c,Keep w y→Rd y A (uH (jW ns i))→Calls prog 168 #[pT T,.slice A (jW ns i).length c] y (CQ y.heap.size ((jW ns i).map (gG ns)) y)):=hid fun y A c hy hr=>b4C T ns A _ c y (h.keep hy) dV hl (by have:=a4E dV i;omega) hr (b6R dV i);clear h;obtain⟨L,hL⟩ : ∃ L,jW ns i=L:=⟨_,rfl⟩
 rw[hL]at L1 H1 ⊢;clear hL;unfold CQ Ox at *;go_enter func232,ntmps232
 go_wp2_with fail
 refine L1.out.mono ?_;clear L1;rintro e w1 ⟨v,rfl,hown,k1⟩;obtain⟨A,c,rfl,hc,hm,hr⟩:=dD hown;have H2:=hid (H1.out w1 A c k1 hr);have K1:=hid k1;clear H1 hown k1 hr;go_wp2_with fail
 refine H2.out.mono ?_;clear H2;rintro e w2 ⟨v2,rfl,hown2,k2⟩;have hs:=K1.out.size;have HOWN:Hid (w2.ownsRow w.heap.size 29 68 v2 (L.map (gG ns)).length ((L.map (gG ns)).flatMap Hd.cells)):=hid (own_base hown2 hs);have HK:=hid (af K1.out k2);clear hown2 k2 K1;go_wp2
 exact bodyPost_ret (v:=v2) (by simp[results,results232]) rfl ⟨_,rfl,HOWN.out,HK.out⟩
def oP (p:eF) (h:Hd):Int:=if pF p=false then 15 else uJ p 0 (df h)
theorem UA (p:eF) (A:Option Addr) (c:Nat) (h:Hd) (cs:Array Value) (w:World) (hS:bV w) (hC:pG p A w) (ho:h.ok) (hcs:bF h cs) :
  Calls prog 5 #[gI p A c,.agg cs] w fun e w'=>e = .returned (iv (oP p h))∧Keep w w':=by
 have S1:Hid (∀ y,Calls prog 21 #[gI p A c] y fun e w'=>e = .returned (.bool (pF p))∧Keep y w'):=hid fun y=>Xg p A c y;have HR:Hid (∀ r,oP p h=r→r=if pF p=false then 15 else uJ p 0 (df h)):=hid fun r e=>by subst e;rfl
 replace HR:=hid (HR.out _ rfl);have I2:Hid (∀ y,Keep w y→Calls prog 19 #[.agg cs] y fun e w' => ∃ ds,e = .returned (.agg ds)∧aX (df h) ds∧Keep y w'):=hid fun y hy=>D5 h cs y (hS.keep hy) ho hcs;have P1:Hid (∀ y,Keep w y → ∀ ds,aX (df h) ds→Calls prog 22 #[gI p A c,iv 0,.agg ds] y fun e w'=>e = .returned (iv (uJ p 0 (df h)))∧Keep y w'):=hid fun y hy ds hds=>a5L p A c 0 (df h) ds y (hC.keep hy) (uB _) hds;have hcz:=hcs.z;have hcn:=hcs.n;have hci:=hcs.i
 clear hcs ho hC hS;generalize oP p h=R at *;generalize df h=HI at *;generalize uJ p 0 HI=Au at *;generalize pF p=S at *;unfold gI at *;generalize p.limit=limit at *;generalize p.bQ=bQ at *;generalize p.span=span at *;generalize p.dm=dm at *;generalize p.idx=idx at *;generalize p.dK=dK at *;generalize hm:p.dH.length=m at *;clear hm;go_enter func5,ntmps5
 go_upto_region 1 with fail
 obtain⟨w1,hw1,cZ,jZ,ai,-⟩:=vX w 25 29 [ag limit,iv bQ,iv span,iv dm,iv idx,iv dK,.slice A m c] cs;rw[←hw1];clear hw1;have p0:=cZ.out.cell 0;have p1:=cZ.out.cell 1;have p2:=cZ.out.cell 2;have p3:=cZ.out.cell 3;have p4:=cZ.out.cell 4;have p5:=cZ.out.cell 5;have p6:=cZ.out.cell 6;simp only[List.getElem?_cons_succ,List.getElem?_cons_zero]at p0 p1 p2 p3 p4 p5 p6;go_wp2_with fail
 refine(S1.out _).mono ?_;clear S1 p0 p1 p2 p3 p4 p5 p6;rintro e w2 ⟨rfl,k2⟩;have HP2:=hid (cZ.out.keep k2);have oL:=hid (jZ.out.keep k2);have ay:=hid (af ai.out k2);clear cZ jZ ai k2;have hR:=HR.out
 cases S with
 | false =>
   rw[if_pos rfl]at hR;subst hR;clear HR HP2 oL;go_wp2
   exact bodyPost_ret (v:=iv 15) (by simp[results,results5]) rfl ⟨rfl,ay.out⟩
 | true =>
   rw[if_neg (by simp)]at hR;subst hR;clear HR;go_upto_region 3 with fail
   refine bu (.take [0,1] (.force [2,3] (.take [4] .done))) [] (by kernel_rfl) (by kernel_rfl) (fun w3 k3=>?_);have fZ:=HP2.out.keep k3;have jR:=oL.out.keep k3;have aA:=hid (af ay.out k3);have rh:Hid (w3.rangeAt (w.heap.size+1) 0 cs.toList):=hid (cu jR 0 cs.toList (by simp[List.take_of_length_le]));have q0:=aF (fZ.cell 0);have q1:=aF (fZ.cell 1);have q2:=aF (fZ.cell 2);have q3:=aF (fZ.cell 3);have q4:=aF (fZ.cell 4);have q5:=aF (fZ.cell 5);have q6:=aF (fZ.cell 6);clear HP2 oL ay k3 fZ jR;refine aN w3 (Below.refl _ _) ?_;simp only[au,ax,ak,aj]
   repeat(first
    | ((with_reducible refine jY (w.heap.size+1) 0 cs (Eq.trans ?_ rfl) rh.out _ underlying29 rfl hci rfl ?_);rfl;simp only[Act.put,Array.set!_eq_setIfInBounds,List.setIfInBounds_toArray,List.set_cons_succ,List.set_cons_zero])
    | go_big_quiet_step (fail))
   refine wpQuiet_nil (bI ?_);clear rh q0 q1 q2 q3 q4 q5 q6;simp only[au,ax,ak,aj];refine aI rfl (fun K hK=>?_);go_simp
   (with_reducible refine(I2.out _ aA.out).mono ?_)
   rintro e w4 ⟨ds,rfl,hds,k4⟩;refine hK _ _ k4 ?_;have dZ:=hid hds;have aQ:=hid (af aA.out k4);clear hK K hds k4 aA;refine aI rfl (fun K hK=>?_);go_simp
   (with_reducible refine(P1.out _ aQ.out ds dZ.out).mono ?_)
   rintro e w5 ⟨rfl,k5⟩;refine hK _ _ k5 ?_;have aJ:=hid (af aQ.out k5);clear hK K k5;refine aS (aN _ (Below.refl _ _) ?_);simp only[au,ax,ak,aj];repeat(go_big_quiet_step (fail))
   refine wpQuiet_nil (aT ?_);go_wp2
   exact bodyPost_ret (v:=iv R) (by simp[results,results5]) rfl ⟨rfl,aJ.out⟩
def sN (p:eF) (most:Int) (ns:List Nd) (h:Hd) (now:Int):List Nd × Int × Int :=
 if oP p h=15 then(ns,-1,15)
 else if ns=[]then(if oP p h≠0 then(ns,-1,oP p h)else jf most ns h)
 else match fB ns (df h)with
  | some i=>(ns,i,10)
  | none=>match fB ns h.prev with
    | none=>(ns,-1,9)
    | some i=>if xY p ((jW ns i).map (gG ns)) h now≠0 then(ns,-1,xY p ((jW ns i).map (gG ns)) h now)else jf most ns h
theorem b03 (p:eF) (A:Option Addr) (c:Nat) (base T M:Nat) (v:Value) (most:Int) (ns:List Nd) (h:Hd) (cs:Array Value) (now:Int) (w:World) (hS:bV w) (hC:pG p A w) (dV:Tr ns) (hO:gm w base T M v most ns) (hl:ns.length≤100) (ho:h.ok) (hcs:bF h cs) (hbase:base≤w.heap.size) :
  Calls prog 216 #[gI p A c,pT T,.agg cs,iv now] w fun e w'=>e = .returned (.tuple #[iv (sN p most ns h now).2.1,iv (sN p most ns h now).2.2])∧∃ v',gm w' base T M v' most (sN p most ns h now).1∧aP (gy T M v) w w'∧(v'.ownBlock=v.ownBlock ∨ ∀ b,v'.ownBlock=some b→w.heap.size≤b):=by
 have xA:Hid (∀ y,Keep w y→Calls prog 5 #[gI p A c,.agg cs] y fun e w'=>e = .returned (iv (oP p h))∧Keep y w'):=hid fun y hy=>UA p A c h cs y (hS.keep hy) (hC.keep hy) ho hcs;have LN:Hid (∀ y,Keep w y→Calls prog 30 #[pT T] y fun e w'=>e = .returned (iv ns.length)∧Keep y w'):=hid fun y hy=>MB T ns y (hO.r.keep hy);have ID:Hid (∀ y,Keep w y→Calls prog 19 #[.agg cs] y fun e w' => ∃ ds,e = .returned (.agg ds)∧aX (df h) ds∧Keep y w'):=hid fun y hy=>D5 h cs y (hS.keep hy) ho hcs;have F1:Hid (∀ y xs,Keep w y→aX (df h) xs→Calls prog 68 #[pT T,.agg xs] y fun e w'=>e = .returned (.tuple #[iv ((fB ns (df h)).getD 0:Nat),.bool (fB ns (df h)).isSome])∧Keep y w'):=hid fun y xs hy h2=>U3 T ns _ xs y (hO.r.keep hy) (uB _) h2;obtain⟨pv,hpv⟩ : ∃ pv,aX h.prev pv:=⟨_,aX.of ho.1⟩
 have F2:Hid (∀ y,Keep w y→Calls prog 68 #[pT T,.agg pv] y fun e w'=>e = .returned (.tuple #[iv ((fB ns h.prev).getD 0:Nat),.bool (fB ns h.prev).isSome])∧Keep y w'):=hid fun y hy=>U3 T ns _ pv y (hO.r.keep hy) ho.1 hpv
 have AD:Hid (∀ y,Keep w y→Calls prog 40 #[pT T,.agg cs] y fun e w'=>e = .returned (.tuple #[iv (jf most ns h).2.1,iv (jf most ns h).2.2])∧∃ v',gm w' base T M v' most (jf most ns h).1∧aP (gy T M v) w w'∧(v'.ownBlock=v.ownBlock ∨ ∀ b,v'.ownBlock=some b→w.heap.size≤b)):=hid fun y hy =>
  (add_any base T M v most ns h cs y (hS.keep hy) dV (hO.keep hy) (by omega) ho hcs (Nat.le_trans hbase hy.size)).mono fun e w' ⟨h1,v',h2,h3,h4⟩=>⟨h1,v',h2,(aP.of hy).trans h3 (fun _ _ q=>q),h4.imp id fun q b hb=>Nat.le_trans hy.size (q b hb)⟩
 have gZ:Hid (∀ (i:Nat) y,Keep w y→i<ns.length→Calls prog 232 #[pT T,iv i] y (CQ y.heap.size ((jW ns i).map (gG ns)) y)):=hid fun i y hy hi=>a9T T ns i y (hO.r.keep hy) dV (by omega) (by omega)
 have CK:Hid (∀ (i:Nat) y B d,Keep w y→((jW ns i).map (gG ns)).length≤d→d≤maxLen→Rd y B (((jW ns i).map (gG ns)).flatMap Hd.cells)→Calls prog 231 #[gI p A c,.slice B ((jW ns i).map (gG ns)).length d,.agg cs,iv now] y fun e w'=>e = .returned (iv (xY p ((jW ns i).map (gG ns)) h now))∧Keep y w'):=hid fun i y B d hy h1 h2 h3 =>
  b2k p A c B _ d h cs now y (hS.keep hy) (hC.keep hy) (by rw[List.length_map];have:=a4E dV i;omega) h1 h2 h3 (fun x hx=>by obtain⟨k,-,rfl⟩:=List.mem_map.1 hx;exact VB dV k) ho hcs
 have mQ:Hid (∀ y g t,ae y g t cs.toList→y.rangeAt g 1 pv.toList):=hid fun y g t hb=>Vz ho hpv hb hcs
 have FS:Hid (∀ id i,fB ns id=some i→i<ns.length):=hid fun id i q=>by
  obtain⟨n,h1,-⟩:=U4 q;exact(List.getElem?_eq_some_iff.1 h1).1
 have HO:=hid hO;have hcz:=hcs.z;have hcn:=hcs.n;have hci:=hcs.i
 have hpz:=hpv.z;have hpn:=hpv.n;have hpi:=hpv.i
 obtain⟨RES,Dz⟩ : ∃ r,sN p most ns h now=r:=⟨_,rfl⟩
 rw[Dz];unfold sN at Dz;have jw:=hid Dz;clear Dz hS hC hO ho hcs hpv dV hl hbase;obtain⟨b0,hb0⟩ : ∃ b,oP p h=b:=⟨_,rfl⟩
 rw[hb0]at xA jw;clear hb0;obtain⟨ADD,a2p⟩ : ∃ r,jf most ns h=r:=⟨_,rfl⟩
 rw[a2p]at AD jw;clear a2p;generalize df h=I at *;generalize h.prev=fA at *;obtain⟨N,hN⟩ : ∃ N,ns.length=N:=⟨_,rfl⟩
 rw[hN]at LN FS gZ;have ES:=hid hN;clear hN;unfold CQ at *;unfold gI at *;generalize p.limit=limit at *;generalize p.bQ=bQ at *;generalize p.span=span at *;generalize p.dm=dm at *;generalize p.idx=idx at *;generalize p.dK=dK at *;generalize p.dH.length=m at *;have c2l:True:=trivial;go_enter func216,ntmps216
 go_upto_region 1 with fail
 obtain⟨w1,hw1,cZ,jZ,ai,-⟩:=vX w 25 29 [ag limit,iv bQ,iv span,iv dm,iv idx,iv dK,.slice A m c] cs;rw[←hw1];clear hw1;have p0:=cZ.out.cell 0;have p1:=cZ.out.cell 1;have p2:=cZ.out.cell 2;have p3:=cZ.out.cell 3;have p4:=cZ.out.cell 4;have p5:=cZ.out.cell 5;have p6:=cZ.out.cell 6;simp only[List.getElem?_cons_succ,List.getElem?_cons_zero]at p0 p1 p2 p3 p4 p5 p6;have rh:Hid (w1.rangeAt (w.heap.size+1) 0 cs.toList):=hid (cu jZ.out 0 cs.toList (by simp[List.take_of_length_le]));go_wp2_with ((with_reducible refine dw (w.heap.size+1) 0 cs (Eq.trans ?_ rfl) rh.out _ underlying29 rfl hci rfl ?_);rfl)
 refine(xA.out _ ai.out).mono ?_;clear xA p0 p1 p2 p3 p4 p5 p6 rh;rintro e w2 ⟨rfl,k2⟩;have HP2:=hid (cZ.out.keep k2);have oL:=hid (jZ.out.keep k2);have ay:=hid (af ai.out k2);clear k2 cZ jZ ai;by_cases h15:b0=15
 ·subst h15
  have hR:=jw.out;rw[if_pos rfl]at hR;subst hR;have zk:=hid (HO.out.keep ay.out);have kx:=hid (aP.of (X:=gy T M v) ay.out);clear jw LN ID F1 F2 AD gZ CK mQ FS;go_wp2
  exact bodyPost_ret (v:=.tuple #[iv (-1),iv 15]) (by simp[results,results216]) rfl ⟨rfl,v,zk.out,kx.out,Or.inl rfl⟩
 have c2R:(b0==15)=false:=by simp[h15]
 have hR:=jw.out;rw[if_neg h15]at hR;replace jw:=hid hR;clear hR;go_wp2_with fail
 refine(LN.out _ ay.out).mono ?_;clear LN;rintro e w3 ⟨rfl,k3⟩;have fZ:=hid (HP2.out.keep k3);have jR:=hid (oL.out.keep k3);have aA:=hid (af ay.out k3);clear k3 HP2 oL ay;by_cases hn0:N=0
 ·have hns:ns=[]:=List.eq_nil_of_length_eq_zero (by rw[ES.out];exact hn0)
  have hR:=jw.out;rw[if_pos hns]at hR;replace jw:=hid hR;have LN:=True.intro;clear hR hns;by_cases hb:b0=0
  ·subst hb
   have hR:=jw.out;rw[if_neg (by simp)]at hR;subst hR;have g0:(N==0)=true:=by simp[hn0]
   have rh:Hid (w3.rangeAt (w.heap.size+1) 0 cs.toList):=hid (cu jR.out 0 cs.toList (by simp[List.take_of_length_le]));subst hn0;go_wp2_with ((with_reducible refine dw (w.heap.size+1) 0 cs (Eq.trans ?_ rfl) rh.out _ underlying29 rfl hci rfl ?_);rfl)
   refine(AD.out _ aA.out).mono ?_;clear AD F1 F2 gZ CK ID mQ FS jw rh;rintro e w4 ⟨rfl,v',hT,hkx,hat⟩;have HT:=hid hT;have jF:=hid hkx;have HAT:=hid hat
   clear hT hkx hat;obtain⟨A1,A2,A3⟩:=ADD;go_wp2
   exact bodyPost_ret (v:=.tuple #[iv A2,iv A3]) (by simp[results,results216]) rfl ⟨rfl,v',HT.out,jF.out,HAT.out⟩
  ·have hb2:(b0 != 0)=true:=by simp[hb]
   subst hn0;have hR:=jw.out;rw[if_pos hb]at hR;subst hR;have zk:=hid (HO.out.keep aA.out);have kx:=hid (aP.of (X:=gy T M v) aA.out);clear jw LN ID F1 F2 AD gZ CK mQ FS;go_wp2
   exact bodyPost_ret (v:=.tuple #[iv (-1),iv b0]) (by simp[results,results216]) rfl ⟨rfl,v,zk.out,kx.out,Or.inl rfl⟩
 have hns : ¬ ns=[]:=fun q=>by rw[q]at ES;exact hn0 ES.out.symm
 have hR:=jw.out;rw[if_neg hns]at hR;replace jw:=hid hR;have c3J:0<N:=by omega
 have hnb:((N:Int)==0)=false:=by rw[beq_eq_false_iff_ne];omega
 clear hR hns hn0;have rh:Hid (w3.rangeAt (w.heap.size+1) 0 cs.toList):=hid (cu jR.out 0 cs.toList (by simp[List.take_of_length_le]));go_wp2_with ((with_reducible refine dw (w.heap.size+1) 0 cs (Eq.trans ?_ rfl) rh.out _ underlying29 rfl hci rfl ?_);rfl)
 refine(ID.out _ aA.out).mono ?_;clear ID rh;rintro e w4 ⟨ds,rfl,hds,k4⟩;have Yi:=hid (fun y hy=>F1.out y ds hy hds);clear hds F1;have pK:=hid (fZ.out.keep k4);have qp:=hid (jR.out.keep k4);have aQ:=hid (af aA.out k4);clear k4 fZ jR aA;go_wp2_with fail
 refine(Yi.out _ aQ.out).mono ?_;clear Yi;rintro e w5 ⟨rfl,k5⟩;have nK:=hid (pK.out.keep k5);have tN:=hid (qp.out.keep k5);have aJ:=hid (af aQ.out k5);clear k5 pK qp aQ;obtain⟨Rn,F5⟩ : ∃ f,fB ns I=f:=⟨_,rfl⟩
 rw[F5]at jw ⊢;clear F5
 cases Rn with
 | some i =>
   have ID:=True.intro;have F1:=True.intro;have LN:=True.intro
   have hR:=jw.out;simp only at hR;subst hR;have zk:=hid (HO.out.keep aJ.out);have kx:=hid (aP.of (X:=gy T M v) aJ.out);clear jw LN ID F1 F2 AD gZ CK mQ FS;go_wp2
   exact bodyPost_ret (v:=.tuple #[iv (i:Int),iv 10]) (by simp[results,results216]) rfl ⟨rfl,v,zk.out,kx.out,Or.inl rfl⟩
 | none =>
 have iG:Hid (w5.rangeAt (w.heap.size+1) 1 pv.toList):=hid (mQ.out _ _ _ tN.out);go_wp2_with ((with_reducible refine dw (w.heap.size+1) 1 pv (Eq.trans ?_ rfl) iG.out _ underlying27 rfl hpi rfl ?_);rfl)
 refine(F2.out _ aJ.out).mono ?_;clear F2 iG;rintro e w6 ⟨rfl,k6⟩;have yO:=hid (nK.out.keep k6);have ry:=hid (tN.out.keep k6);have bD:=hid (af aJ.out k6);clear k6 nK tN aJ;obtain⟨xG,Dx⟩ : ∃ f,fB ns fA=f:=⟨_,rfl⟩
 have Ve : ∀ i,xG=some i→i<N:=fun i q=>FS.out fA i (by rw[Dx,q]);rw[Dx]at jw ⊢;clear Dx FS
 cases xG with
 | none =>
   have ID:=True.intro;have F1:=True.intro;have LN:=True.intro;have F2:=True.intro;have FS:=True.intro
   have hR:=jw.out;simp only at hR;subst hR;have zk:=hid (HO.out.keep bD.out);have kx:=hid (aP.of (X:=gy T M v) bD.out);clear jw LN ID F1 F2 AD gZ CK mQ FS Ve;go_wp2
   exact bodyPost_ret (v:=.tuple #[iv (-1),iv 9]) (by simp[results,results216]) rfl ⟨rfl,v,zk.out,kx.out,Or.inl rfl⟩
 | some i =>
 have hiN:=Ve i rfl;have NJ:=hid (fun y hy=>gZ.out i y hy hiN);have Nj:=hid (fun y B d=>CK.out i y B d);clear gZ CK Ve;obtain⟨LL,J3⟩ : ∃ L,(jW ns i).map (gG ns)=L:=⟨_,rfl⟩
 simp only at jw;rw[J3]at jw NJ Nj;clear J3;obtain⟨ce,hce⟩ : ∃ c,xY p LL h now=c:=⟨_,rfl⟩
 rw[hce]at jw Nj;clear hce;go_upto_region 14 with fail
 refine bu (.take [0,1,2,4,5] (.force [3,6] (.take [7] .done))) [] (by kernel_rfl) (by kernel_rfl) (fun w7 k7=>?_);have nM:=hid (yO.out.keep k7);have tV:=hid (ry.out.keep k7);have bT:=hid (af bD.out k7);clear k7 yO ry bD;have q0:=aF (nM.out.cell 0);have q1:=aF (nM.out.cell 1);have q2:=aF (nM.out.cell 2);have q3:=aF (nM.out.cell 3);have q4:=aF (nM.out.cell 4);have q5:=aF (nM.out.cell 5);have q6:=aF (nM.out.cell 6);have bU:Hid (w7.rangeAt (w.heap.size+1) 0 cs.toList):=hid (cu tV.out 0 cs.toList (by simp[List.take_of_length_le]));refine aN w7 (Below.refl _ _) ?_;simp only[au,ax,ak,aj]
 repeat(first
  | ((with_reducible refine jY (w.heap.size+1) 0 cs (Eq.trans ?_ rfl) bU.out _ underlying29 rfl hci (Eq.trans ?_ rfl) ?_);rfl;rfl;simp only[Act.put,Array.set!_eq_setIfInBounds,List.setIfInBounds_toArray,List.set_cons_succ,List.set_cons_zero])
  | go_big_quiet_step (fail))
 clear q0 q1 q2 q3 q4 q5 q6 bU;refine wpQuiet_nil (bI ?_);simp only[au,ax,ak,aj];refine aI rfl (fun K hK=>?_);go_simp
 (with_reducible refine(NJ.out _ bT.out).mono ?_)
 rintro e w8 ⟨v8,rfl,PH,k8⟩;refine hK _ _ k8 ?_;clear hK K;obtain⟨XP,c8,rfl,hc8,PG,VO⟩:=dD PH;have X4:=hid (fun y hy=>Nj.out y XP c8 (af bT.out (af k8 hy)) hc8 PG (VO.keep hy));clear PH VO Nj;have EW:=hid (nM.out.keep k8);have yL:=hid (tV.out.keep k8);have bK:=hid (af bT.out k8);clear k8 nM tV bT;refine aI rfl (fun K hK=>?_);go_simp
 (with_reducible refine(X4.out _ (Below.refl _ _)).mono ?_)
 rintro e w9 ⟨rfl,k9⟩;refine hK _ _ k9 ?_;clear hK K;clear X4;have kW:=hid (EW.out.keep k9);have BQ:=hid (yL.out.keep k9);have bP:=hid (af bK.out k9);clear k9 EW yL bK;refine aS (aN w9 (Below.refl _ _) ?_);simp only[au,ax,ak,aj]
 repeat(first
  | go_big_quiet_step (fail))
 refine wpQuiet_nil (aT ?_);by_cases hc0:ce=0
 case neg =>
  have hc2:(ce != 0)=true:=by simp[hc0]
  have ID:=True.intro;have F1:=True.intro;have LN:=True.intro;have F2:=True.intro;have FS:=True.intro;have gZ:=True.intro;have CK:=True.intro
  have hR:=jw.out;rw[if_pos hc0]at hR;subst hR;have zk:=hid (HO.out.keep bP.out);have kx:=hid (aP.of (X:=gy T M v) bP.out);clear jw LN ID F1 F2 AD gZ CK mQ FS NJ;go_wp2
  exact bodyPost_ret (v:=.tuple #[iv (-1),iv ce]) (by simp[results,results216]) rfl ⟨rfl,v,zk.out,kx.out,Or.inl rfl⟩
 subst hc0;have hR:=jw.out;rw[if_neg (by simp)]at hR;subst hR;have rh:Hid (w9.rangeAt (w.heap.size+1) 0 cs.toList):=hid (cu BQ.out 0 cs.toList (by simp[List.take_of_length_le]));go_wp2_with ((with_reducible refine dw (w.heap.size+1) 0 cs (Eq.trans ?_ rfl) rh.out _ underlying29 rfl hci rfl ?_);rfl)
 refine(AD.out _ bP.out).mono ?_;clear AD NJ mQ jw rh;rintro e w4 ⟨rfl,v',hT,hkx,hat⟩;have HT:=hid hT;have jF:=hid hkx;have HAT:=hid hat
 clear hT hkx hat;obtain⟨A1,A2,A3⟩:=ADD;go_wp2
 exact bodyPost_ret (v:=.tuple #[iv A2,iv A3]) (by simp[results,results216]) rfl ⟨rfl,v',HT.out,jF.out,HAT.out⟩
def fE (p:eF) (A:Option Addr) (c:Nat) (h:Hd) (dE:UInt32) (cap wt sec:Int):List Value:=[ag p.limit,iv p.bQ,iv p.span,iv p.dm,iv p.idx,iv p.dK,.slice A p.dH.length c]++(h.cells++[ag dE,iv cap,iv wt,iv sec])
theorem UK {p:eF} {A:Option Addr} {c:Nat} {h:Hd} {dE:UInt32} {cap wt sec:Int} (ho:h.ok):(fE p A c h dE cap wt sec).length=79:=by simp[fE,Hd.len ho]
theorem b2e:(prog.info? 39).map (·.size)=some 79:=by kernel_rfl
theorem Dh (p:eF) (A:Option Addr) (c:Nat) (h:Hd) (dE:UInt32) (cap wt sec:Int) (ho:h.ok):Bx 39 79 (fE p A c h dE cap wt sec) (fE p A c h dE cap wt sec).toArray :=
 Bx.of b2e (UK ho) (by omega) (fun v hv=>by
  unfold fE at hv;simp only[List.mem_append,List.mem_cons,List.not_mem_nil,or_false]at hv;rcases hv with(rfl | rfl | rfl | rfl | rfl | rfl | rfl) | hv | rfl | rfl | rfl | rfl
  all_goals first | rfl | exact Hd.one _ v hv)
def uu (cf:List Value) (t:Value) (st tl:List Value):List Value:=cf++(t::(st++tl))
noncomputable def qH:List Value:=(nG 63).toList.drop 118
theorem a1k:(prog.info? 63).map (·.size)=some 300:=by kernel_rfl
theorem b2y:qH.length=182:=by kernel_rfl
theorem b2z : ∀ v∈qH,v.oneCell'=true:=by
 have h:qH.all (fun v=>v.oneCell')=true:=by kernel_rfl
 exact fun v hv=>List.all_eq_true.1 h v hv
theorem a7t : ∃ zs:Array Value,(∀ w,(zeroValue 63).run prog w = .ok (.agg zs) w)∧Bx 63 300 zs.toList zs∧prog.built 63 []=some zs∧zs.toList[79]?=some (.pointer none):=by
 refine⟨nG 63,fun w=>by kernel_rfl,?_,by kernel_rfl,by kernel_rfl⟩;have hl:(nG 63).toList.length=300:=by kernel_rfl
 have ho:(nG 63).toList.all (fun v=>v.oneCell')=true:=by kernel_rfl
 have h:=Bx.of a1k hl (by omega) (fun v hv=>List.all_eq_true.1 ho v hv)
 rwa[Array.toArray_toList]at h
theorem b2A (parts:List (Nat × Value)):prog.built 63 parts=Instr.fill (#[(0,79),(79,1),(80,38),(118,1),(119,176),(295,1),(296,3),(299,1)][·]?) (nG 63) parts:=by kernel_rfl
theorem a1j {cl sl:List Value} {cs ss:Array Value} {T:Nat} (hc:Bx 39 79 cl cs) (hs:oN sl ss) :
  ∃ xs,Bx 63 300 (uu cl (pT T) sl qH) xs∧prog.built 63 [(0,.agg cs),(1,pT T),(2,.agg ss)]=some xs:=by
 have hz:(nG 63).size=300:=by kernel_rfl
 have hcz:=hc.z;have hsz:=hs.z;have hcl:=hc.l;have hsl:=hs.l
 have l1:cl.length=79:=by rw[←hcl];simpa using hcz
 have l2:sl.length=38:=by rw[←hsl];simpa using hsz
 have hlen:(uu cl (pT T) sl qH).length=300:=by simp[uu,l1,l2,b2y]
 refine⟨(uu cl (pT T) sl qH).toArray,Bx.of a1k hlen (by omega) (fun v hv=>?_),?_⟩
 ·unfold uu at hv
  simp only[List.mem_append,List.mem_cons]at hv;rcases hv with hv | rfl | hv | hv
  ·exact hc.o v (by rw[hcl];exact hv)
  ·rfl
  ·exact hs.o v (by rw[hsl];exact hv)
  ·exact b2z v hv
 rw[b2A,Dn (off:=0) (size:=79) rfl (show(Value.agg cs).cells.size=79 from hcz) (by rw[hz];omega),Dn (off:=79) (size:=1) rfl rfl (by simp[hz]),Dn (off:=80) (size:=38) rfl (show(Value.agg ss).cells.size=38 from hsz) (by have q1:(Value.agg cs).cells.size=79:=hcz;have q2:(pT T).cells.size=1:=rfl;simp[hz,q1,q2]),Instr.fill]
 congr 2
 have e1:((Value.agg cs).cells.toList)=cl:=hcl;have e2:((Value.agg ss).cells.toList)=sl:=hsl;have e3:((pT T).cells.toList)=[pT T]:=rfl;rw[e1,e2,e3,List.take_zero,List.nil_append];simp only[List.toList_toArray];have hz2:(nG 63).toList.length=300:=by simpa using hz
 have s1:List.take 79 (cl++List.drop (0+79) (nG 63).toList)=cl:=by rw[List.take_append_of_le_length (by omega),List.take_of_length_le (by omega)]
 have s2:List.drop (79+1) (cl++List.drop (0+79) (nG 63).toList)=List.drop 80 (nG 63).toList:=by
  rw[List.drop_append,List.drop_eq_nil_of_le (by omega),List.nil_append,l1,List.drop_drop]
 rw[s1,s2];have s3:List.take 80 (cl++[pT T]++List.drop 80 (nG 63).toList)=cl++[pT T]:=by rw[List.take_append_of_le_length (by simp[l1]),List.take_of_length_le (by simp[l1])]
 have s4:List.drop (80+38) (cl++[pT T]++List.drop 80 (nG 63).toList)=qH:=by
  rw[List.drop_append,List.drop_eq_nil_of_le (by simp[l1]),List.nil_append];simp only[List.length_append,l1,List.length_cons,List.length_nil,List.drop_drop];rfl
 rw[s3,s4];unfold uu;simp
def Uh (w:World) (most:Int) (R:List Nd × Int × Int) (e:Ending) (w':World):Prop:=∃ T M v,e = .returned (.tuple #[pT T,iv R.2.2])∧gm w' w.heap.size T M v most R.1∧Keep w w'
theorem b8k (p:eF) (A:Option Addr) (c:Nat) (h:Hd) (dE:UInt32) (cap wt sec:Int) (cs:Array Value) (w:World) (hB:Bx 39 79 (fE p A c h dE cap wt sec) cs) (ho:h.ok) (hS:bV w) :
  Calls prog 23 #[.agg cs] w (Uh w (min (max p.idx 0) 1048576) (jf (min (max p.idx 0) 1048576) [] h)):=by
 obtain⟨hs,bH⟩ : ∃ hs,bF h hs:=⟨_,bF.of ho⟩
 obtain⟨most,hm⟩ : ∃ m,min (max p.idx 0) 1048576=m:=⟨_,rfl⟩
 have yX:Hid (∀ y,Calls prog 39 #[iv p.idx] y fun e w' => ∃ T M,e = .returned (pT T)∧gm w' y.heap.size T M (.slice none 0 0) most []∧Keep y w'):=hid fun y=>by rw[←hm];exact new_any p.idx y
 rw[hm];clear hm
 have AD:Hid (∀ y T M,Keep w y→gm y w.heap.size T M (.slice none 0 0) most []→Calls prog 40 #[pT T,.agg hs] y fun e w'=>e = .returned (.tuple #[iv (jf most [] h).2.1,iv (jf most [] h).2.2])∧∃ v',gm w' w.heap.size T M v' most (jf most [] h).1∧Keep w w'):=hid fun y T M hy hO =>
  (add_any w.heap.size T M _ most [] h hs y (hS.keep hy) Tr.nil hO (by simp) ho bH hy.size).mono fun e w' ⟨h1,v',h2,h3,h4⟩=>⟨h1,v',h2,h3.keep hy hO.x⟩
 have EJ:Hid (cs.toList=fE p A c h dE cap wt sec):=hid hB.l;have hcz:=hB.z;have hcn:=hB.n;have hci:=hB.i
 have hhz:=bH.z;have hhn:=bH.n;have hhi:=bH.i
 have Sj:=hid bH.l;have Iz:Hid (h.cells.length=68):=hid (Hd.len ho);clear hB ho hS bH;obtain⟨RES,Dz⟩ : ∃ r,jf most [] h=r:=⟨_,rfl⟩
 rw[Dz]at AD ⊢;clear Dz;go_enter func23,ntmps23
 go_upto_region 1 with fail
 obtain⟨w1,hw1,HB1,ai,-⟩:=di w 39 cs;rw[←hw1];clear hw1;have c4:w1.cell? ⟨w.heap.size,4,none⟩=some (iv p.idx):=(HB1.out.cell 4).trans (by rw[EJ.out];rfl);go_wp2_with fail
 refine(yX.out _).mono ?_;clear yX c4;rintro e w2 ⟨T,M,rfl,hO,k2⟩;have HB2:=hid (HB1.out.keep k2);have ay:=hid (af ai.out k2);have HO:=hid (show gm w2 w.heap.size T M (.slice none 0 0) most [] from⟨hO.b,own_base hO.o ai.out.size,hO.m,Nat.le_trans ai.out.size hO.AP,Nat.le_trans ai.out.size hO.AO,hO.ne,hO.xq,hO.zS⟩);clear hO k2 HB1 ai;have bU:Hid (w2.rangeAt w.heap.size 7 hs.toList):=hid (cu HB2.out 7 hs.toList (by rw[EJ.out,Sj.out];unfold fE;simp[Iz.out]));go_wp2_with ((with_reducible refine dw w.heap.size 7 hs (Eq.trans ?_ rfl) bU.out _ underlying29 rfl hhi rfl ?_);rfl)
 refine(AD.out _ T M ay.out HO.out).mono ?_;clear AD bU;rintro e w3 ⟨rfl,v',hO3,k3⟩;have nJ:=hid hO3;have aA:=hid k3
 clear hO3 k3;obtain⟨R1,R2,R3⟩:=RES;go_wp2
 exact bodyPost_ret (v:=.tuple #[pT T,iv R3]) (by simp[results,results23]) rfl ⟨T,M,v',rfl,nJ.out,aA.out⟩
theorem gm.base {w:World} {b b' T M:Nat} {v:Value} {most:Int} {ns:List Nd} (h:gm w b T M v most ns) (hb:b'≤b):gm w b' T M v most ns :=
 ⟨h.b,own_base h.o hb,h.m,Nat.le_trans hb h.AP,Nat.le_trans hb h.AO,h.ne,h.xq,h.zS⟩
def QV (lo hi:Nat) (w6:World) (ss:Array Value):Prop:=∀ y,(∀ k,lo≤k→k<hi→y.heap[k]?=w6.heap[k]?)→bV y → ∀ (h:Hd) (hd:Array Value),h.ok→bF h hd→Calls prog 217 #[.agg ss,.agg hd] y fun e w' => ∃ (ss':Array Value) (sl':List Value) (er:Int),e = .returned (.tuple #[.agg ss',iv er])∧oN sl' ss'∧Keep y w'
def Um (w:World) (e:Ending) (w':World):Prop:=∃ (ss:Array Value) (sl:List Value) (v:Value),e = .returned (.tuple #[.agg ss,v])∧oN sl ss∧QV w.heap.size w'.heap.size w' ss∧Keep w w'
theorem b9Q (A:Option Addr) (n c:Nat) (b:List UInt8) (w0:Nat) (w:World) (hn:n=b.length) (hA:w.ownsRow w0 5 1 (.slice A n c) n (b.map ah)) (hS:bV w) :
  Calls prog 24 #[.agg #[.slice A n c,ns0]] w (Um w):=by
 subst hn;obtain⟨A',c',h0,h1,h2,h3⟩:=dD hA;obtain⟨rfl,rfl⟩:A=A'∧c=c':=by injection h0 with a b c;exact⟨a,c⟩
 have hd:dJ w A b c none [] 0:=⟨h3,h1,h2,.inl rfl,by simp,by unfold maxLen;simp,by simp⟩
 refine(b9z A b c none [] 0 w hd hS (by simp)).mono ?_;rintro e w' ⟨ep,base,room,B,hs,A',c',cs,fM,ch,rfl,Vl,hA,hD,hO,hok,k⟩;refine⟨cs,_,_,rfl,hA,?_,k⟩;intro y hy b34 h hd hk hhd
 have hb : -9223372036854775808≤base∧base≤9223372036854775807:=by
  have q:=a0W (a4I (dC b [])).r (a6c ((b.length/32:Nat):Int));have e1:=Vl.b1j;have e2:=Vl.b8T
  simp only[List.map_nil]at e1;rw[e1,e2];omega
 have F : ∀ W,Keep y W→dJ W A' B c' none [] 0:=fun W hW=>hD W (fun k h1 h2 h3=>by
  by_cases hl:k<y.heap.size
  ·exact(hW.block k hl).trans (hy k h1 h2)
  ·have q:=hy k h1 h2
   rw[Array.getElem?_eq_getElem h2]at q
   exact absurd (Array.getElem?_eq_some_iff.1 q).1 hl)
 refine(b89 A' B c' none [] 0 base room hs ep cs h hd y (fun W=>Keep y W) (fun W hW=>hW) F b34 hb Vl.R.inv hA hk hhd).mono ?_;rintro e w2 ⟨A2,c2,dM,dI,vs,ss',er,n,last,rfl,-,h2,-,k2⟩;exact⟨ss',_,er,rfl,h2,k2⟩
def b0A (b:Int) (R:List Nd × Int × Int) (most:Int) (cf:List Value) (w:World) (e:Ending) (w':World):Prop:=∃ X:Nat,e = .returned (pT X)∧Keep w w' ∧
 ((b≠0∨R.2.2≠0)→w'.cell? ⟨X,79,none⟩=some (.pointer none)) ∧
 (b=0→R.2.2=0 → ∃ (T M lo hi:Nat) (v:Value) (ss:Array Value) (sl:List Value) (w6:World),ae w' X 63 (uu cf (pT T) sl qH)∧gm w' w.heap.size T M v most R.1∧oN sl ss∧QV lo hi w6 ss ∧
  (∀ k,lo≤k→k<hi→w'.heap[k]?=w6.heap[k]?)∧(∀ k,gy T M v k→k<lo)∧(w.heap.size≤lo∧lo≤hi)∧hi≤X∧X<w'.heap.size)
theorem a1o (p:eF) (A:Option Addr) (c:Nat) (h:Hd) (dE:UInt32) (cap wt sec:Int) (cs:Array Value) (w:World) (hB:Bx 39 79 (fE p A c h dE cap wt sec) cs) (ho:h.ok) (hS:bV w) (hC:pG p A w) :
  Calls prog 6 #[.agg cs] w (b0A (oP p h) (jf (min (max p.idx 0) 1048576) [] h) (min (max p.idx 0) 1048576) (fE p A c h dE cap wt sec) w):=by
 obtain⟨hs,bH⟩ : ∃ hs,bF h hs:=⟨_,bF.of ho⟩
 obtain⟨m,hm⟩ : ∃ m:Nat,(m:Int)=max 0 (min sec 4096):=⟨(max 0 (min sec 4096)).toNat,by omega⟩
 obtain⟨ps,hps⟩ : ∃ ps:Array Value,gI p A c = .agg ps:=⟨_,rfl⟩
 have xA:Hid (∀ y,Keep w y→Calls prog 5 #[.agg ps,.agg hs] y fun e w'=>e = .returned (iv (oP p h))∧Keep y w'):=hid fun y hy=>by rw[←hps];exact UA p A c h hs y (hS.keep hy) (hC.keep hy) ho bH
 have eX:Hid (∀ y,Keep w y→Calls prog 23 #[.agg cs] y (Uh y (min (max p.idx 0) 1048576) (jf (min (max p.idx 0) 1048576) [] h))):=hid fun y hy=>b8k p A c h dE cap wt sec cs y hB ho (hS.keep hy);have X9:Hid (∀ y,Calls prog 25 #[iv sec] y fun e w' => ∃ A c,e = .returned (.agg #[.slice A (32*m) c,.slice none 0 0])∧w'.ownsRow y.heap.size 5 1 (.slice A (32*m) c) (32*m) ((List.replicate (32*m) 0).map ah)∧Keep y w'):=hid fun y=>a1E sec m y hm;have OP:Hid (∀ y0 y A c,Keep w y→y.ownsRow y0 5 1 (.slice A (32*m) c) (32*m) ((List.replicate (32*m) 0).map ah)→Calls prog 24 #[.agg #[.slice A (32*m) c,.slice none 0 0]] y (Um y)):=hid fun y0 y A c hy ho=>b9Q A _ c _ y0 y (by simp) ho (hS.keep hy);have CB:Hid (∀ sl ss,oN sl ss → ∃ xs,Bx 63 300 (uu (fE p A c h dE cap wt sec) (pT 0) sl qH) xs):=hid fun sl ss hss=>by obtain⟨xs,h1,-⟩:=a1j (T:=0) hB hss;exact⟨xs,h1⟩
 have XX:Hid (∀ sl ss T,oN sl ss → ∃ xs,Bx 63 300 (uu (fE p A c h dE cap wt sec) (pT T) sl qH) xs∧prog.built 63 [(0,.agg cs),(1,pT T),(2,.agg ss)]=some xs):=hid fun sl ss T hss=>a1j hB hss;clear CB;have EJ:Hid (cs.toList=fE p A c h dE cap wt sec):=hid hB.l;have hcz:=hB.z;have hcn:=hB.n;have hci:=hB.i
 have hhz:=bH.z;have hhn:=bH.n;have hhi:=bH.i
 have Sj:=hid bH.l;have Iz:Hid (h.cells.length=68):=hid (Hd.len ho);obtain⟨b8r,iJ⟩ : ∃ l,Hid (ps.toList=l∧l=[ag p.limit,iv p.bQ,iv p.span,iv p.dm,iv p.idx,iv p.dK,.slice A p.dH.length c]):=⟨_,hid ⟨rfl,by unfold gI at hps;injection hps with e;rw[←e]⟩⟩
 have hpz:ps.size=7:=by rw[←Array.length_toList,iJ.out.1,iJ.out.2];rfl
 have hpn : ¬ ps = #[]:=fun e=>by rw[e]at hpz;simp at hpz
 have hpi:(prog.info? 25).map (·.size)=some ps.size:=by rw[hpz];kernel_rfl
 obtain⟨zc,c1x,MO,a7s,a7r⟩:=a7t;have hzn:=MO.n;have hzz:=MO.z;have hzi:=MO.i
 have HZ:=hid MO;have Jf:=hid a7r;obtain⟨zs,zs0,zs1,zs2⟩:=QR;clear hB ho hS bH hC hps MO a7r hm c1x;generalize jf (min (max p.idx 0) 1048576) [] h=R at *;obtain⟨R1,R2,R3⟩:=R;generalize oP p h=b at *;generalize min (max p.idx 0) 1048576=most at *;unfold Uh Um at *;generalize hcf:fE p A c h dE cap wt sec=cf at *;have Ip:=hid hcf;clear hcf;go_enter func6,ntmps6
 go_upto_region 1 with fail
 obtain⟨w1,hw1,HB1,ai,-⟩:=di w 39 cs;rw[←hw1];clear hw1;have iG:Hid (w1.rangeAt w.heap.size 0 ps.toList):=hid (cu HB1.out 0 ps.toList (by rw[EJ.out,←Ip.out,iJ.out.1,iJ.out.2];rfl));have bU:Hid (w1.rangeAt w.heap.size 7 hs.toList):=hid (cu HB1.out 7 hs.toList (by rw[EJ.out,←Ip.out,Sj.out];unfold fE;simp[Iz.out]));go_wp2_with (first | ((with_reducible refine dw w.heap.size 0 ps (Eq.trans ?_ rfl) iG.out _ underlying25 rfl hpi rfl ?_);rfl) | ((with_reducible refine dw w.heap.size 7 hs (Eq.trans ?_ rfl) bU.out _ underlying29 rfl hhi rfl ?_);rfl))
 refine(xA.out _ ai.out).mono ?_;clear xA iG bU;rintro e w2 ⟨rfl,k2⟩;have HB2:=hid (HB1.out.keep k2);have ay:=hid (af ai.out k2);clear k2 HB1 ai;by_cases hb:b=0
 case neg =>
  have d0:(b != 0)=true:=by simp[hb]
  have hN:Hid (∀ r,b=0→r):=hid fun r e=>absurd e hb;have aA:Hid (Keep w (w2.alloc (.cells zc 63))):=hid (af ay.out (aB _ _));have rq:Hid ((w2.alloc (.cells zc 63)).cell? ⟨w2.heap.size,79,none⟩=some (.pointer none)):=hid (((ae.new w2 _ zc.toList).cell 79).trans Jf.out);go_wp2_with ((with_reducible refine kT [] zc (Eq.trans ?_ rfl) a7s ?_);rfl)
  exact bodyPost_ret (v:=pT w2.heap.size) (by simp[results,results6]) rfl ⟨w2.heap.size,rfl,aA.out,fun _=>rq.out,fun e=>hN.out _ e⟩
 subst hb;go_upto_region 3 with fail
 have RC:Hid (w2.rangeAt w.heap.size 0 cs.toList):=hid (cu HB2.out 0 cs.toList (by simp[List.take_of_length_le]));go_wp2_with ((with_reducible refine dw w.heap.size 0 cs (Eq.trans ?_ rfl) RC.out _ underlying39 rfl hci rfl ?_);rfl)
 refine(eX.out _ ay.out).mono ?_;clear eX RC;rintro e w3 ⟨T,M,v,rfl,hT,k3⟩;have HT:=hid hT;have HB3:=hid (HB2.out.keep k3);have aA:=hid (af ay.out k3);have HZ2:=hid ay.out.size;clear k3 hT HB2 ay;by_cases hr:R3=0
 case neg =>
  have d0:(R3 != 0)=true:=by simp[hr]
  have hN:Hid (∀ r,R3=0→r):=hid fun r e=>absurd e hr;have aQ:Hid (Keep w (w3.alloc (.cells zc 63))):=hid (af aA.out (aB _ _));have Il:Hid ((w3.alloc (.cells zc 63)).cell? ⟨w3.heap.size,79,none⟩=some (.pointer none)):=hid (((ae.new w3 _ zc.toList).cell 79).trans Jf.out);clear HT;go_wp2_with ((with_reducible refine kT [] zc (Eq.trans ?_ rfl) a7s ?_);rfl)
  exact bodyPost_ret (v:=pT w3.heap.size) (by simp[results,results6]) rfl ⟨w3.heap.size,rfl,aQ.out,fun _=>Il.out,fun _ e=>hN.out _ e⟩
 subst hr
 have HT3:Hid (gm w3 w.heap.size T M v most R1∧∀ k,gy T M v k→k<w3.heap.size):=hid ⟨HT.out.base HZ2.out,by
  intro k hk;rcases hk with rfl | rfl | hk
  ·exact HT.out.b.lt
  ·exact HT.out.m.lt
  ·exact(HT.out.o.lt k hk).2⟩
 clear HT;go_upto_region 6 with fail
 have b1U:w3.cell? ⟨w.heap.size,78,none⟩=some (iv sec):=(HB3.out.cell 78).trans (by
  rw[EJ.out,←Ip.out];unfold fE;rw[List.getElem?_append_right (by simp),List.getElem?_append_right (by simp[Iz.out])]
  simp[Iz.out])
 go_wp2_with fail
 refine(X9.out _).mono ?_;clear X9;rintro e w4 ⟨A4,c4,rfl,A8,k4⟩;have aQ:=hid (af aA.out k4);have HB4:=hid (HB3.out.keep k4);have a0A:=hid (OP.out _ w4 A4 c4 aQ.out A8);have HT4:Hid (gm w4 w.heap.size T M v most R1∧∀ k,gy T M v k→k<w4.heap.size):=hid ⟨HT3.out.1.keep k4,fun k hk=>Nat.lt_of_lt_of_le (HT3.out.2 k hk) k4.size⟩;clear OP k4 A8 aA HB3 HT3 b1U;go_wp2_with fail
 refine a0A.out.mono ?_;clear a0A;rintro e w5 ⟨ss,sl,u,rfl,hss,a2q,k5⟩;have aJ:=hid (af aQ.out k5);have jE:=hid (HB4.out.keep k5);have sF:=hid (HT4.out.1.keep k5);have a8t:=hid a2q;have CB:=hid hss
 have a8R:=hid HT4.out.2;have Tc:=hid (And.intro aQ.out.size k5.size);have hsz:=hss.z;have hsn:=hss.n;have hsi:=hss.i
 have hst:=fK w5 47 hsi (zs0.trans hsz.symm) CB.out.o;clear a2q hss k5 aQ HB4 HT4;go_upto_region 7 with fail
 obtain⟨w6,hw6,Jc,Su,-⟩:=di w5 47 ss;rw[←hw6];clear hw6 hst;have jr:=hid (jE.out.keep Su.out);obtain⟨xs,KR,hxb⟩:=XX.out sl ss T CB.out;have hxz:=KR.z;have zA:=KR.n;have hxi:=KR.i
 have HX:=hid KR;clear KR XX;have RC:Hid (w6.rangeAt w.heap.size 0 cs.toList):=hid (cu jr.out 0 cs.toList (by simp[List.take_of_length_le]));have iZ:Hid (w6.rangeAt w5.heap.size 0 ss.toList):=hid (cu Jc.out 0 ss.toList (by simp[List.take_of_length_le]));go_wp2_with (first | ((with_reducible refine dw w.heap.size 0 cs (Eq.trans ?_ rfl) RC.out _ underlying39 rfl hci rfl ?_);rfl) | ((with_reducible refine dw w5.heap.size 0 ss (Eq.trans ?_ rfl) iZ.out _ underlying47 rfl hsi rfl ?_);rfl) | ((with_reducible refine kT [(0,.agg cs),(1,pT T),(2,.agg ss)] xs (Eq.trans ?_ rfl) hxb ?_);rfl))
 have b0r:=aB w6 (.cells xs 63);have TV:=af Su.out b0r;refine bodyPost_ret (v:=pT w6.heap.size) (by simp[results,results6]) rfl ⟨w6.heap.size,rfl,af aJ.out TV,fun e=>(by rcases e with e | e <;> exact absurd rfl e),fun _ _=>⟨T,M,w4.heap.size,w5.heap.size,v,ss,sl,w5,?_,sF.out.keep TV,CB.out,a8t.out,fun k _ h2=>TV.block k h2,a8R.out,Tc.out,Su.out.size,by simp⟩⟩;have h:=ae.new w6 63 xs.toList;rw[HX.out.l]at h;have e:xs=(uu cf (pT T) sl qH).toArray:=by rw[←HX.out.l,Array.toArray_toList]
 rw[e];exact h
def nD (ns:List Nd) (i:Nat):Nat:=(ns[i]?.map Nd.work).getD 0
def pV (ns:List Nd):Nat→Nat
 | 0=>0
 | k+1=>if nD ns k > nD ns (pV ns k)then k else pV ns k
def pW (ns:List Nd):Nat:=pV ns ns.length
theorem UC (ns:List Nd) : ∀ k,0<k→pV ns k<k
 | 0,h=>absurd h (Nat.lt_irrefl _)
 | k+1,_=>by
   unfold pV
   split
   ·omega
   ·by_cases h0:k=0
    ·subst h0;exact Nat.zero_lt_one
    ·have:=UC ns k (by omega);omega
theorem b1k {a b:Nat} (h:a > b):kF a b > 0:=by unfold kF;rw[if_neg (by omega),if_pos h];omega
theorem b1l {a b:Nat} (h : ¬ a > b) : ¬ kF a b > 0:=by unfold kF;by_cases h2:a<b <;> simp[h2,show ¬ b<a from h]
theorem c0A:(prog.info? 79).map (·.size)=some 4:=by kernel_rfl
theorem b1o (T:Nat) (ns:List Nd) (w:World) (h:vV w T ns) (hk : ∀ n∈ns,n.ok) (h0:ns≠[]) (hl:ns.length≤1048576) :
  Calls prog 56 #[pT T] w fun e w'=>e = .returned (.tuple #[iv (pW ns:Nat),.bool true])∧Keep w w':=by
 have LN:Hid (Calls prog 30 #[pT T] w fun e w'=>e = .returned (iv ns.length)∧Keep w w'):=hid (MB T ns w h);obtain⟨most,A,c,M,hb,hr,-,-,-⟩:=h
 have Hm:Hid (∀ i j y,Calls prog 60 #[.agg (uL (nD ns i)).toArray,.agg (uL (nD ns j)).toArray] y fun e w'=>e = .returned (.int .i64 (kF (nD ns i) (nD ns j)))∧Keep y w'):=hid fun i j y=>by
  have hw : ∀ k,nD ns k<2^256:=fun k=>by
   unfold nD
   cases e:ns[k]? with
   | none=>exact Nat.two_pow_pos _
   | some n=>exact(hk n (List.mem_of_getElem? e)).2.2
  exact JO _ _ y (hw i) (hw j)
 have HAT:Hid (∀ k,k<ns.length → ∃ b off,A=some ⟨b,off,none⟩∧w.rangeAt b (off+k*106+102) (uL (nD ns k))):=hid fun k hlt=>by
  obtain⟨b,off,h1,-,h2⟩:=P7 hr hk hlt;refine⟨b,off,h1,fun j v hv=>?_⟩;have e:nD ns k=ns[k].work:=by unfold nD;rw[List.getElem?_eq_getElem hlt];rfl
  rw[e]at hv
  have q:=h2 (102+j) v (by
   have t:=Ed (hk _ (List.getElem_mem hlt)) (2+j);rw[show 100+(2+j)=102+j by omega]at t;rw[t,show 2+j=j+1+1 by omega,List.getElem?_cons_succ,List.getElem?_cons_succ]
   exact hv)
  rw[Nat.add_assoc];exact q
 have hlen:0<ns.length:=List.length_pos_iff.2 h0;have yH:Hid (∀ k,0<k→pV ns k<k):=hid (UC ns);have HB0:Hid (pV ns 0=0):=hid rfl;have RN:Hid (∀ k,(nD ns k > nD ns (pV ns k)→pV ns (k+1)=k)∧(¬ nD ns k > nD ns (pV ns k)→pV ns (k+1)=pV ns k)):=hid fun k=>⟨fun q=>by rw[pV,if_pos q],fun q=>by rw[pV,if_neg q]⟩
 have Ij:Hid (pW ns=pV ns ns.length):=hid rfl;have HB:=hid hb;have NF:Hid (w.cell? ⟨T,1,none⟩=some (.slice A ns.length c)):=hid ((hb.cell 1).trans rfl);clear hb hr hk h0;generalize pW ns=gz at *;generalize pV ns=bk at *;have ZP:Hid (∀ k,(uL (nD ns k)).toArray.size=4∧(prog.info? 79).map (·.size)=some (uL (nD ns k)).toArray.size):=hid fun k=>⟨rfl,c0A⟩
 generalize c26:(fun k=>(uL (nD ns k)).toArray)=U at *;generalize nD ns=wk at *;generalize ns.length=n at *;go_enter func56,ntmps56
 go_wp2_with fail
 refine LN.out.mono ?_;clear LN;rintro e w1 ⟨rfl,k1⟩;have HB1:=hid (HB.out.keep k1);have ai:=hid k1;have d0:((n:Int)==0)=false:=by rw[beq_eq_false_iff_ne];omega
 have c1:=HB1.out.cell 1;simp only[List.getElem?_cons_succ,List.getElem?_cons_zero]at c1;clear k1 HB;go_wp2_with fail
 go_loopw [14,4] (fun i bv wr => ∃ k b:Nat,k≤n∧i = .int .i64 k∧bv = .int .i64 b∧Hid (b=bk k∧b<n)∧Hid (Keep w wr)) (fun i _ _=>n - (intOf i).toNat)
 case atStart=>exact⟨0,0,Nat.zero_le _,rfl,rfl,hid ⟨HB0.out.symm,hlen⟩,ai⟩
 case round =>
  obtain⟨k,b,hkn,rfl,rfl,Hb,bg⟩:=hrel;by_cases hlt:k<n
  ·have d1:(k:Int)<n:=by omega
   go_upto_region 7 with fail
   obtain⟨g,off,rfl,r1⟩:=HAT.out k hlt;obtain⟨g',off',he,r2⟩:=HAT.out b Hb.out.2;obtain⟨rfl,rfl⟩:g=g'∧off=off':=by injection he with he;injection he with a b;exact⟨a,b⟩
   refine bu (.take [0,1,2,3,4,5,6,7,8,9,10,11,12,13,14,15] (.force [16] (.take [17] .done))) [] (by kernel_rfl) (by kernel_rfl) (fun w9 k9=>?_);have bP:=hid (af bg.out k9);have c9:=aF (aC bP.out NF.out);have R1:Hid (w9.rangeAt g (off+k*106+102) (uL (wk k)).toArray.toList):=hid fun j v hv=>aC bP.out (r1 j v hv);have R2:Hid (w9.rangeAt g (off+b*106+102) (uL (wk b)).toArray.toList):=hid fun j v hv=>aC bP.out (r2 j v hv);clear k9 bg r1 r2;refine aN w9 (Below.refl _ _) ?_;simp only[au,ax,ak,aj];have i1:=(ZP.out k).2;have i2:=(ZP.out b).2
   have X6:=hid (Hm.out k b);have HS:=hid (RN.out k);rw[←Hb.out.1]at HS;have hbn:=Hb.out.2;clear Hm;generalize c33:(uL (wk k)).toArray=c0D at *;generalize hub:(uL (wk b)).toArray=ub at *
   repeat(first
    | ((with_reducible refine jY g (off+k*106+102) c0D (Eq.trans ?_ rfl) R1.out _ underlying79 rfl i1 (Eq.trans ?_ rfl) ?_);rfl;rfl;simp only[Act.put,Array.set!_eq_setIfInBounds,List.setIfInBounds_toArray,List.set_cons_succ,List.set_cons_zero])
    | ((with_reducible refine jY g (off+b*106+102) ub (Eq.trans ?_ rfl) R2.out _ underlying79 rfl i2 (Eq.trans ?_ rfl) ?_);rfl;rfl;simp only[Act.put,Array.set!_eq_setIfInBounds,List.setIfInBounds_toArray,List.set_cons_succ,List.set_cons_zero])
    | go_big_quiet_step (fail))
   refine wpQuiet_nil (bI ?_);simp only[au,ax,ak,aj];refine aI rfl (fun K hK=>?_);go_simp;refine(X6.out _).mono ?_;rintro e w3 ⟨rfl,k3⟩;have aA:=hid (af bP.out k3);refine hK _ _ k3 ?_;clear hK K c9 R1 R2 k3 bP X6;refine aS (aN w3 (Below.refl _ _) ?_);simp only[au,ax,ak,aj];repeat(go_big_quiet_step (fail))
   refine wpQuiet_nil (aT ?_);by_cases hgt:wk k > wk b
   ·have d3:=b1k hgt
    have e3:=HS.out.1 hgt;generalize kF (wk k) (wk b)=C at *;have E3:=hid e3;clear e3 hgt HS;go_wp2
    go_roundw
    case rel=>exact⟨k+1,k,by omega,by go_num,rfl,hid ⟨E3.out.symm,hlt⟩,aA⟩
    case measure=>simp[intOf];omega
   ·have d3:=b1l hgt
    have e3:=HS.out.2 hgt;generalize kF (wk k) (wk b)=C at *;have E3:=hid e3;clear e3 hgt HS;go_wp2
    go_roundw
    case rel=>exact⟨k+1,b,by omega,by go_num,rfl,hid ⟨E3.out.symm,hbn⟩,aA⟩
    case measure=>simp[intOf];omega
  ·obtain rfl:k=n:=by omega
   have d1 : ¬ ((k:Int)<k):=by omega
   have eb:=Hb.out.1;rw[←Ij.out]at eb;subst eb;go_wp2
   exact bodyPost_ret (v:=.tuple #[iv (b:Nat),.bool true]) (by simp[results,results56]) rfl ⟨rfl,bg.out⟩
noncomputable def wo:List Value:=(qH.drop 12).take 165
noncomputable def wu:List Value:=(qH.drop 178).take 3
noncomputable def gW (cf:List Value) (T:Nat) (sl:List Value) (b:Bool) (q:aW) (d:Int):List Value:=cf++(pT T::(sl++(iv 0::(.bool b::(q.cells++(wo++(ns0::(wu++[iv d]))))))))
theorem zh:wo.length=165:=by kernel_rfl
theorem JM:wu.length=3:=by kernel_rfl
theorem b2x:qH=iv 0::(.bool false::(rQ.cells++(wo++(ns0::(wu++[iv 0]))))):=by kernel_rfl
theorem b2q (cf:List Value) (T:Nat) (sl:List Value):uu cf (pT T) sl qH=gW cf T sl false rQ 0:=by unfold uu gW;rw[b2x]
structure bG (w0 w:World) (X T M:Nat) (v:Value) (ns:List Nd) (cf sl:List Value) (b:Bool) (q:aW) (d:Int):Prop where
 k:Keep w0 w
 B:ae w X 63 (gW cf T sl b q d)
 t:gm w w0.heap.size T M v 9 ns
 lc:cf.length=79
 ls:sl.length=38
 n : ¬ gy T M v X
 x:w0.heap.size≤X
section
variable {w0 w w':World} {X T M:Nat} {v:Value} {ns:List Nd} {cf sl:List Value} {b:Bool} {q:aW} {d:Int}
theorem bG.keep (h:bG w0 w X T M v ns cf sl b q d) (k:Keep w w'):bG w0 w' X T M v ns cf sl b q d:=⟨af h.k k,h.B.keep k,h.t.keep k,h.lc,h.ls,h.n,h.x⟩
theorem uK (q:aW):q.cells.length=10:=rfl
theorem OU (lc:cf.length=79) (ls:sl.length=38):(gW cf T sl b q d).length=300:=by simp[gW,lc,ls,uK,zh,JM]
theorem bG.mf (h:bG w0 w X T M v ns cf sl b q d):w.cell? ⟨X,79,none⟩=some (pT T):=(h.B.cell 79).trans (by unfold gW;rw[List.getElem?_append_right (by rw[h.lc];omega),h.lc];rfl)
theorem b2s (lc:cf.length=79):gW cf T sl b q d=(cf++[pT T])++(sl++(iv 0::(.bool b::(q.cells++(wo++(ns0::(wu++[iv d]))))))):=by simp[gW]
theorem a1i (lc:cf.length=79) (ls:sl.length=38):gW cf T sl b q d=(cf++(pT T::sl))++(iv 0::(.bool b::(q.cells++(wo++(ns0::(wu++[iv d])))))):=by simp[gW]
theorem JL (lc:cf.length=79) (ls:sl.length=38) (j:Nat):(gW cf T sl b q d)[118+j]?=(iv 0::(.bool b::(q.cells++(wo++(ns0::(wu++[iv d]))))))[j]?:=by
 rw[a1i lc ls,List.getElem?_append_right (by simp[lc,ls]),show 118+j - (cf++(pT T::sl)).length=j by simp[lc,ls]]
theorem bG.UH (h:bG w0 w X T M v ns cf sl b q d):w.cell? ⟨X,118,none⟩=some (iv 0):=(h.B.cell 118).trans (JL h.lc h.ls 0)
theorem bG.c119 (h:bG w0 w X T M v ns cf sl b q d):w.cell? ⟨X,119,none⟩=some (.bool b):=(h.B.cell 119).trans (JL h.lc h.ls 1)
theorem bG.a09 (h:bG w0 w X T M v ns cf sl b q d):w.cell? ⟨X,295,none⟩=some ns0:=(h.B.cell 295).trans ((JL h.lc h.ls 177).trans (by
 rw[List.getElem?_cons_succ,List.getElem?_cons_succ,List.getElem?_append_right (by rw[uK];omega),uK,List.getElem?_append_right (by rw[zh];omega),zh];rfl))
theorem bG.a1a (h:bG w0 w X T M v ns cf sl b q d):w.cell? ⟨X,299,none⟩=some (iv d):=(h.B.cell 299).trans ((JL h.lc h.ls 181).trans (by
 rw[List.getElem?_cons_succ,List.getElem?_cons_succ,List.getElem?_append_right (by rw[uK];omega),uK,List.getElem?_append_right (by rw[zh];omega),zh]
 rw[show 181 - 1 - 1 - 10 - 165=3+1 from rfl,List.getElem?_cons_succ,List.getElem?_append_right (by rw[JM];omega),JM];rfl))
theorem bG.b8z (h:bG w0 w X T M v ns cf sl b q d) {qs:Array Value} (hq:bZ q qs):w.rangeAt X 120 qs.toList :=
 cu h.B 120 qs.toList (by
  rw[a1i h.lc h.ls,show 120=(cf++(pT T::sl)).length+2 by simp[h.lc,h.ls],List.drop_append];rw[List.drop_eq_nil_of_le (by omega),List.nil_append,Nat.add_sub_cancel_left]
  show List.take qs.toList.length (q.cells++_)=_
  rw[hq.l,List.take_left' rfl])
theorem bG.b8B (h:bG w0 w X T M v ns cf sl b q d) {ss:Array Value} (hs:ss.toList=sl):w.rangeAt X 80 ss.toList :=
 cu h.B 80 ss.toList (by rw[b2s h.lc,List.drop_left' (by simp[h.lc]),hs,List.take_left' rfl])
theorem bG.b8C (h:bG w0 w X T M v ns cf sl b q d) (j m:Nat) {ps:Array Value} (hp:(cf.drop j).take m=ps.toList) (hm:ps.toList.length=m) (hj:j+m≤79):w.rangeAt X j ps.toList :=
 cu h.B j ps.toList (by
  unfold gW
  rw[List.drop_append,hm,List.take_append_of_le_length (by rw[List.length_drop,h.lc];omega),hp])
theorem b1W (h:bG w0 w X T M v ns cf sl b q d) (hk : ∀ n∈ns,n.ok) (h0:ns≠[]) (hl:ns.length≤1048576) :
  Calls prog 29 #[pT X] w fun e w'=>e = .returned (iv (pW ns:Nat))∧Keep w w':=by
 have BS:Hid (∀ y,Keep w y→Calls prog 56 #[pT T] y fun e w'=>e = .returned (.tuple #[iv (pW ns:Nat),.bool true])∧Keep y w'):=hid fun y hy=>b1o T ns y (h.t.r.keep hy) hk h0 hl;have mf:=h.mf;clear h hk h0 hl;generalize pW ns=aH at *;go_enter func29,ntmps29
 go_wp2_with fail
 refine(BS.out _ (Below.refl _ _)).mono ?_;rintro e w1 ⟨rfl,k1⟩;go_wp2
 exact bodyPost_ret (v:=iv (aH:Nat)) (by simp[results,results29]) rfl ⟨rfl,k1⟩
def Un (n:Nd) (w:World) (e:Ending) (w':World):Prop:=∃ vs,e = .returned (.tuple #[.agg vs,.bool true])∧iY n vs∧Keep w w'
theorem a1v (h:bG w0 w X T M v ns cf sl b q d) (hk : ∀ n∈ns,n.ok) (h0:ns≠[]) (hl:ns.length≤1048576) :
  Calls prog 10 #[pT X] w (Un ((fD ns (pW ns:Nat)).getD nd0) w):=by
 have uX:Hid (∀ y,Keep w y→Calls prog 26 #[pT X] y fun e w'=>e = .returned (.bool false)∧Keep y w'):=hid fun y hy=>OW X T y (h.keep hy).mf;have BS:Hid (∀ y,Keep w y→Calls prog 29 #[pT X] y fun e w'=>e = .returned (iv (pW ns:Nat))∧Keep y w'):=hid fun y hy=>b1W (h.keep hy) hk h0 hl;have hlt:pW ns<ns.length:=UC ns _ (List.length_pos_iff.2 h0)
 have Oy:Hid (∀ y,Keep w y→Calls prog 28 #[pT T,iv (pW ns:Nat)] y fun e w' => ∃ ds,e = .returned (.tuple #[.agg ds,.bool true])∧iY ((fD ns (pW ns:Nat)).getD nd0) ds∧Keep y w'):=hid fun y hy=>by
  have t:=LD T ns (pW ns:Nat) y (h.t.r.keep hy) hk hl (by omega)
  rwa[show(fD ns (pW ns:Nat)).isSome=true from by rw[LC,List.getElem?_eq_getElem hlt];rfl]at t
 have Nh:=hid h.mf;clear h hk h0 hl hlt;generalize pW ns=aH at *;generalize (fD ns (aH:Nat)).getD nd0=N at *;obtain⟨zs,hz1,hz2,hzn,-,-⟩:=yC;go_enter func10,ntmps10
 go_upto_region 1 with fail
 obtain⟨w1,hw1,HB1,ai,-⟩:=di w 81 zs;rw[←hw1];clear hw1;go_wp2_with fail
 refine(uX.out _ ai.out).mono ?_;clear uX;rintro e w2 ⟨rfl,k2⟩;have HB2:=hid (HB1.out.keep k2);have ay:=hid (af ai.out k2);clear k2 HB1 ai;go_upto_region 3 with fail
 refine bu (.take [0,1,2,3,4] (.force [5,6] (.take [7,8] .done))) [9,10] (by kernel_rfl) (by kernel_rfl) (fun w9 k9=>?_);have eY:=hid (HB2.out.keep k9);have bP:=hid (af ay.out k9);have c9:=aF (aC bP.out Nh.out);clear k9 HB2 ay;refine aN w9 (Below.refl _ _) ?_;simp only[au,ax,ak,aj];repeat(go_big_quiet_step (fail))
 refine wpQuiet_nil (bI ?_);simp only[au,ax,ak,aj];refine aI rfl (fun K hK=>?_);go_simp;refine(BS.out _ bP.out).mono ?_;clear BS;rintro e w3 ⟨rfl,k3⟩;have HB3:=hid (eY.out.keep k3);have aA:=hid (af bP.out k3);refine hK _ _ k3 ?_;clear hK K k3 eY bP c9;refine aI rfl (fun K hK=>?_);go_simp;refine(Oy.out _ aA.out).mono ?_;clear Oy;rintro e w4 ⟨vs,rfl,hvA,k4⟩;have HB4:=hid (HB3.out.keep k4);have aQ:=hid (af aA.out k4);have fF:=hvA.z;have hvn:=hvA.n;have jk:=hvA.i
 have HV:=hid hvA;refine hK _ _ k4 ?_;clear hK K k4 HB3 aA hvA;refine aS (aN w4 (Below.refl _ _) ?_);simp only[au,ax,ak,aj];repeat(go_big_quiet_step (fail))
 refine wpQuiet_nil (aT ?_);obtain⟨w5,hst,hb5,hg5⟩:=bn (P:=prog) vs.toList HB4.out (by simp[hz1,fF]) HV.out.o;have jE:=hid hb5;have aJ:Hid (Keep w w5):=hid (aK aQ.out hg5 (by omega));clear hb5 hg5 HB4 aQ;go_wp2
 exact bodyPost_ret (v:=.tuple #[.agg vs,.bool true]) (lq results10 jE.out underlying81 jk rfl rfl) rfl ⟨vs,rfl,HV.out,aJ.out⟩
end
end Go.Proofs.YtiagcenlnekdeaaGreatDoor
