/- Texts merged by pack.py: Zmg, Zmh, Zmk, Zmj, Vw, Vx, Vy, Vz, Ia, Ib, Ic, Id, Ie, If, Ig, Ih, Ii, Ij, Ik, Il, In, Io, Ip, Rgf, Rf. -/
import Derived.Test.YtiagcenlnekdeaaGreatDoorCx17
import Derived.Test.YtiagcenlnekdeaaGreatDoorCx8
import Derived.Great.BuildSlice
import Derived.Test.YtiagcenlnekdeaaGreatDoorCx10
import Derived.Test.YtiagcenlnekdeaaGreatDoorCx15
import Derived.Test.YtiagcenlnekdeaaGreatDoorCx9
import Derived.Test.YtiagcenlnekdeaaGreatDoorCx7
import Derived.Deep.CutBlock
import Derived.Test.YtiagcenlnekdeaaGreatDoorCx2
import Derived.RangeFuncNested
import Derived.RangeFuncLeaves
set_option maxRecDepth 1000000
set_option maxHeartbeats 16000000
open Go.Proofs.Tryz
open Go.Lib (hid)
set_option linter.unusedSimpArgs false
set_option linter.unusedVariables false
namespace Go.Proofs.YtiagcenlnekdeaaGreatDoor
open Go.RowKit
attribute [local go_sem ↓] Go.wp_at_zero Go.wp_at_succ
theorem a0T:dL prog 191 20 .nilIface 1 16:=dL.mk' underlying191 (by kernel_rfl) rfl (by omega)
theorem c1h {P:Program} {t e:TypeId} {bytes:Nat} (T:dL P t e .nilIface 1 bytes) {o:Oper} {a:Act} {w:World} {K:Act→World→Prop} {Q:Exit→Act→World→Prop} (x:Operand) (ho:o.op = .buildSlice t 1 #[(0,x)])
  (v:Value) (hz:v.cells = #[v]) (hx:a.eval x=v)
  (h:K (a.put o.dst (.slice (some ⟨w.heap.size,0,none⟩) 1 1)) (w.alloc (.cells #[v] e))):o.wp P a w K Q:=by
 obtain⟨i,hi,hiz,his,_⟩:=T.info;refine wp_buildSlice t e 1 _ ho #[v] i .nilIface T.und hi hiz (by rw[his];omega) (by rw[his];omega) ?_ h;have hn:Value.nilIface.cells = #[Value.nilIface]:=rfl;simp only[List.map_toArray,List.map_cons,List.map_nil,hx,Instr.fill,hz,his,hn,Nat.zero_mul,Nat.one_mul];simp[Array.range,Array.ofFn_succ]
theorem b6X {P:Program} {t e:TypeId} {bytes:Nat} (T:dL P t e .nilIface 1 bytes) {ops:Array Oper} {rest:List Oper} {a:Act} {w:World} {Q:Exit→Act→World→Prop} {x:Operand} {dst:Option Tmp} {ty':TypeId} {pos:String} {eG:Array Edge}
  (v:Value) (hz:v.cells = #[v]) (hx:a.eval x=v)
  (h:wpList P ops Q rest (a.put dst (.slice (some ⟨w.heap.size,0,none⟩) 1 1)) (w.alloc (.cells #[v] e))):wpList P ops Q ({ dst:=dst,op:=.buildSlice t 1 #[(0,x)],type:=ty',pos:=pos,after:=eG,guard:=none}::rest) a w :=
 wpList_plain rfl fun _ hK=>c1h T x rfl v hz hx (hK _ _ h)
def Ib (P:aV→World→Prop) (k:Int) (w:World) (e:Ending) (w':World):Prop:=∃ (m:aV) (ds:Array Value),e = .returned (.tuple #[.agg ds,iv 0])∧m.kind=k∧Bx 118 114 m.cells ds∧(∀ W:World,(∀ g,w.heap.size<g→g<w'.heap.size→W.heap[g]?=w'.heap[g]?)→P m W)∧Keep w w'
theorem U6 (z:aV) (hz:z.cells=qo z.kind) (s:List UInt8) (hk:((qg s).1:Int)=z.kind∧(qg s).2=true) (n:Nat) (hn:z.parts.length=n) (w:World) (B:Nat→List UInt8) (sz:Nat→Nat) (hB : ∀ j,j<n→sz j≤(B j).length∧B (j+1)=(B j).drop (sz j)) (hBn:B n=[])
  (OK:Nat→Value→World→Prop) (P:aV→World→Prop) (h1 : ∀ j q y,OK j q y→q.cells = #[q]∧q.oneCell'=true) (h2 : ∀ j q y y',OK j q y→(∀ g,w.heap.size<g→g<y.heap.size→y'.heap[g]?=y.heap[g]?)→OK j q y') (h3:n≤1 ∨ ∀ j q y y',OK j q y→OK j q y')
  (jS : ∀ j p,z.parts[j]?=some p → ∀ y A' c',Keep w y→w.heap.size<y.heap.size→(B j).length≤c'→c'≤maxLen→Rd y A' ((B j).map ah)→Calls prog 157 #[p.val,.slice A' (B j).length c'] y fun e w' => ∃ q,e = .returned (.tuple #[q,iv (sz j),iv 0])∧OK j q w'∧Keep y w')
  (ME : ∀ (qs:List Value) y,qs.length=n→(∀ j q,qs[j]?=some q→OK j q y) → ∃ m:aV,m.kind=z.kind∧m.parts.length=n∧m.parts.map eX.val=qs∧∀ W,(∀ j q,qs[j]?=some q→OK j q W)→P m W)
  (A:Option Addr) (c:Nat) (hc:(B 0).length≤c∧c≤maxLen) (hr:Rd w A ((B 0).map ah)) :
  Calls prog 111 #[.string (str s),.slice A (B 0).length c] w (Ib P z.kind w):=by
 obtain⟨ys,hy0,ng⟩:=Ez;obtain⟨ks,mY,hkb⟩:=a7z z.kind;have hyn:=ng.n;have o6:=ng.z;have hkn:=mY.n;have hkz:=mY.z
 have a0n:Hid (∀ y,Calls prog 110 #[.string (str s)] y fun e w'=>e = .returned (.tuple #[iv z.kind,.bool true])∧Keep y w'):=hid fun y=>by
  have q:=a4j s y
  rwa[hk.1,hk.2]at q
 have JD:Hid (∀ y,Calls prog 89 #[.agg ks] y fun e w' => ∃ A,e = .returned (.slice A n n)∧Rd w' A (z.parts.map eX.val)∧Keep y w'):=hid fun y=>by
  have q:=a5K z ks (by rw[hz];exact mY) y
  rwa[hn]at q
 have a0r:Hid (∀ (m:aV) A c y,m.kind=z.kind→m.parts.length=n→Rd y A (m.parts.map eX.val)→Calls prog 158 #[iv z.kind,.slice A n c] y fun e w' => ∃ ds,e = .returned (.agg ds)∧Bx 118 114 m.cells ds∧Keep y w'):=hid fun m A c y e1 e2 hr=>by
  have q:=b7c m A c y hr
  rwa[e1,e2]at q
 have HB:=hid hB;have Ij:=hid hBn;have H1:=hid h1;have H2:=hid h2;have H3:=hid h3;have SY:=hid jS;have Zl:=hid ME;have HN:=hid hn
 have NF:=hid hc;have HR0:=hid hr
 have hn3:n≤3:=by rw[←hn];cases z <;> simp[aV.parts]
 clear hB hBn h1 h2 h3 jS ME hc hr hz hk mY ng hn;generalize z.kind=k at *;generalize z.parts=ps at *;unfold Ib;go_enter func111,ntmps111
 go_upto_region 1 with fail
 obtain⟨w1,hw1,HR,HK⟩:=l7 w 118 ys;rw[hw1];have hlt:w.heap.size<w1.heap.size:=HR.out.lt;clear hw1;go_wp2_with fail
 refine(a0n.out _).mono ?_;clear a0n;rintro e w2 ⟨rfl,k2⟩;replace HR:=hid (HR.out.keep k2);replace HK:=hid (af HK.out k2);have hlt2:w.heap.size<w2.heap.size:=HR.out.lt;clear k2;go_wp2_with ((with_reducible refine La [(0,iv k)] ks (Eq.trans ?_ rfl) hkb (Eq.trans ?_ rfl) ?_);rfl;rfl)
 refine(JD.out _).mono ?_;clear JD;rintro e w3 ⟨dY,rfl,r3,k3⟩;replace HR:=hid (HR.out.keep k3);replace HK:=hid (af HK.out k3);have iG:=hid r3;have hlt3:w.heap.size<w3.heap.size:=HR.out.lt;have a0K:Hid (Rd w3 A ((B 0).map ah)):=hid (HR0.out.keep HK.out);clear r3 k3 hkb HR0;go_wp2_with fail
 go_loopw [1,8,26] (fun bv gv i wr => ∃ (j:Nat) (qs:List Value) (A':Option Addr) (c':Nat),j≤n∧i = .int .i64 j∧bv = .slice A' (B j).length c'∧Hid (qs.length=j∧(j=0→gv=gY))∧Hid ((B j).length≤c'∧c'≤maxLen)∧Hid (Rd w3 A' ((B j).map ah))∧Hid (wr.ownsRow w3.heap.size 20 1 gv j qs)∧Hid (∀ i q,qs[i]?=some q→OK i q wr)∧Hid (Keep w3 wr)) (fun _ _ i _=>n - (intOf i).toNat)
 case atStart=>exact⟨0,[],A,c,Nat.zero_le _,rfl,rfl,hid ⟨rfl,fun _=>rfl⟩,NF,a0K,hid (World.ownsRow_nil _ _ _ _),hid (fun i q h=>by simp at h),hid (Below.refl _ _)⟩
 case round =>
  obtain⟨j,qs,A',c',hj,rfl,rfl,HQ,Af,EX,Own,qx,qA⟩:=hrel;clear a0K NF;by_cases hlt:j<n
  ·have d1:(j:Int)<n:=by omega
   have hjl:j<ps.length:=by rw[HN.out];exact hlt
   obtain⟨g,off,hA',hgb,FF⟩:=(iG.out.keep qA.out).at (k:=j) (by rw[List.length_map];exact hjl);have c0:wr.cell? ⟨g,off+j,none⟩=some (ps[j].val):=by rw[FF j (by rw[List.length_map];exact hjl),List.getElem_map]
   have jS:=hid (SY.out j ps[j] (List.getElem?_eq_getElem hjl) wr A' c' (af HK.out qA.out) (Nat.lt_of_lt_of_le hlt3 qA.out.size) Af.out.1 Af.out.2 (EX.out.keep qA.out));obtain⟨hT2,hs2⟩:=HB.out j hlt;have HS2:=hid hs2;have hbc:=Af.out.1;have hbm:=Af.out.2
   have hq0:=HQ.out.2
   have b0M:Hid (Rd w3 (if c'=sz j then A' else A'.map fun x=>x.add (sz j)) ((B (j+1)).map ah)):=hid (by
    have q:=EX.out.drop (k:=sz j) (cap:=c') (by rw[List.length_map];exact hT2) (by rw[List.length_map];exact hbc);rw[Nat.mul_one,←List.map_drop]at q
    rw[hs2];exact q)
   have yH:Hid ((B (j+1)).length=(B j).length - sz j):=hid (by rw[hs2,List.length_drop]);subst hA';unfold maxLen at hbm;clear hgb FF hs2 SY HS2 EX;generalize ps[j].val=pv at *;generalize hbl:(B j).length=bl at *;generalize sz j=T2 at *;clear hbl;go_upto_region 12 with(first | (go_at_call 157;refine jS.out.mono ?_;rintro e w4 ⟨q,rfl,q4,k4⟩;obtain⟨hqc,hqo⟩:=H1.out _ _ _ q4;have I4:=hid q4;have ZB:=hid hqc;have ZC:=hid hqo;have K4:=hid k4;have Own4:=hid (jM Own.out k4);have Ob:Hid (w3.heap.size≤w4.heap.size):=hid (Nat.le_trans qA.out.size k4.size);clear q4 hqc hqo k4) | ((with_reducible refine b6X a0T q ZB.out (Eq.trans ?_ rfl) ?_);rfl) | (at_builtin;refine iF a0T (by rfl) _ _ (by rfl) w3.heap.size _ _ _ (by rfl) (Own4.out.alloc _) _ 1 1 [q] (by rfl) (by rfl) (Rd.new _ _ _) (by intro u hu;rw[List.mem_singleton.1 hu];exact ZC.out) (by omega) (by unfold maxLen;omega) (by have:=Ob.out;simp;omega) ?_;intro v6 w6 Bl jh Vs;have Oz:=hid Bl;have tK:=hid jh;clear Bl jh Vs))
   have K5:Hid (Keep w4 (w4.alloc (.cells #[q] 20))):=hid (aB _ _)
   have b0t:Hid (Keep w3 w6):=hid (by
    have k5:=af (af qA.out K4.out) K5.out
    exact lQ k5 k5.size tK.out (Own4.out.alloc _))
   have b0D:Hid (∀ i x,(qs++[q])[i]?=some x→OK i x w6):=hid fun i x hx=>by
    rcases H3.out with h0 | h3
    ·obtain rfl:j=0:=by omega
     obtain rfl:=hq0 rfl;obtain rfl:qs=[]:=List.eq_nil_of_length_eq_zero HQ.out.1;have hi:=(List.getElem?_eq_some_iff.1 hx).1;obtain rfl:i=0:=by simp at hi;omega
     obtain rfl:q=x:=by simpa using hx
     exact H2.out _ _ _ _ I4.out (fun g' _ h4=>(tK.out.block g' (Nat.lt_of_lt_of_le h4 K5.out.size) (fun e=>nomatch e)).trans (K5.out.block g' h4))
    ·by_cases hi:i<qs.length
     ·rw[List.getElem?_append_left hi]at hx
      exact h3 _ _ _ _ (qx.out i x hx)
     ·have hi2:=(List.getElem?_eq_some_iff.1 hx).1
      obtain rfl:i=qs.length:=by simp at hi2;omega
      obtain rfl:q=x:=by simpa using hx
      rw[HQ.out.1];exact h3 _ _ _ _ I4.out
   have a9d:Hid ((qs++[q]).length=j+1∧(j+1=0→v6=gY)):=hid ⟨by rw[List.length_append,HQ.out.1];rfl,fun e=>absurd e (by omega)⟩;have a7K:Hid ((B (j+1)).length≤c' - T2∧c' - T2≤maxLen):=hid (by rw[yH.out];exact⟨by omega,by unfold maxLen;omega⟩);clear jS tK K5 qx I4 ZB ZC K4 Own4 qA HQ Af c0 hq0;go_wp2
   go_roundw
   case rel=>exact⟨j+1,qs++[q],_,c' - T2,by omega,by go_num,by rw[yH.out],a9d,a7K,b0M,Oz,b0D,b0t⟩
   case measure=>simp[intOf];omega
  ·obtain rfl:j=n:=by omega
   have d1 : ¬ (j:Int)<j:=by omega
   obtain⟨m,e1,e2,e3,hP⟩:=Zl.out qs wr HQ.out.1 qx.out;obtain⟨A2,c2,rfl,-,-,hrd⟩:=dD Own.out;have ME:=hid (a0r.out m A2 c2 wr e1 e2 (by rw[e3];exact hrd));have HP:=hid hP;have E1:=hid e1
   have hb0:(B j).length=0:=by rw[Ij.out];rfl
   simp only[hb0];replace HR:=hid (HR.out.keep qA.out);replace HK:=hid (af HK.out qA.out);clear e1 e2 e3 hP hrd a0r Zl HQ Af EX Own qA hb0 SY;go_upto_region 16 with fail
   go_wp2_with (go_at_call 158;refine ME.out.mono ?_;rintro e w4 ⟨ds,rfl,A8,k4⟩;have uZ:=hid A8;have hdn:=A8.n;have hdz:=A8.z;have hdi:=A8.i;have aQ:=hid (af HK.out k4);have K4:=hid k4;obtain⟨w8,fQ,hb8,aZ⟩:=bn (P:=prog) ds.toList (HR.out.keep k4) (by rw[Array.length_toList,Array.length_toList,hdz,o6]) uZ.out.o;have gq:=hid hb8;have mP:=hid aZ;clear A8 k4 hb8 aZ)
   exact bodyPost_ret (v:=.tuple #[.agg ds,iv 0]) (lq results111 gq.out underlying118 hdi rfl rfl) rfl
    ⟨m,ds,rfl,E1.out,uZ.out,fun W hW=>HP.out W fun i x hx=>H2.out _ _ _ _ (qx.out i x hx) (fun g' h4 h5=>(hW g' h4 (Nat.lt_of_lt_of_le h5 (Nat.le_trans K4.out.size mP.out.size))).trans ((mP.out.block g' (Nat.lt_of_lt_of_le h5 K4.out.size) (fun e=>by have:=Option.some.inj e;omega)).trans (K4.out.block g' h5))),aK aQ.out mP.out (by omega)⟩
theorem Qs {w w':World} {g:Nat} {t:TypeId} {l xs:List Value} {P:Option Addr} (h:Rd w P xs) (hb:ae w g t l) (hl:xs=[]∨l.length<xs.length) (hg:w.grownBy w' (some g)):Rd w' P xs:=by
 rcases hl with h0 | hl
 ·exact .inl h0
 rcases h with h0 | ⟨b,off,rfl,hc⟩
 ·exact .inl h0
 refine .inr ⟨b,off,rfl,fun j hj=>qK hg (hc j hj) (fun e=>?_)⟩;injection e with e;subst e;have q:=hc (xs.length - 1) (by omega);rw[hb.cell]at q
 have:=(List.getElem?_eq_some_iff.1 q).1
 omega
theorem a5U {w:World} {g b off:Nat} {t:TypeId} {l xs:List Value} (h:Rd w (some ⟨b,off,none⟩) xs) (hb:ae w g t l) (hl:l.length<xs.length):b≠g:=fun e=>by
 subst e;rcases h with h0 | ⟨b',off',he,hc⟩
 ·rw[h0]at hl;simp at hl
 ·injection he with he
  injection he with e1 e2;subst e1;have q:=hc (xs.length - 1) (by omega);rw[hb.cell]at q
  have:=(List.getElem?_eq_some_iff.1 q).1
  omega
theorem aV.len (m:aV):m.cells.length=114:=by cases m <;> simp[aV.cells,qo,a4P]
def Nw:aV→List UInt8→Prop
 | .bz p n h,b=>b.length=16∧UInt32.ofNat (fH b 4)=p∧fH (b.drop 4) 8=n∧UInt32.ofNat (fH (b.drop 12) 4)=h
 | .kN,b=>b=[]
 | .hds _ l _,b=>qL b=(l,0)∧b.length≤1000000000
def sH:aV→aV→World→Prop
 | .hds _ l _,m,W => ∃ A c,m = .hds A l c∧(l.length≤c∧c≤maxLen)∧Rd W A (l.flatMap Hd.cells)
 | x,m,_=>m=x
def iE (m:aV):List UInt8:=jB m.kind
theorem WA (m:aV):((qg (iE m)).1:Int)=m.kind∧(qg (iE m)).2=true:=by cases m <;> exact⟨rfl,rfl⟩
theorem b3K (x:aV) (b:List UInt8) (hg:Nw x b) (A:Option Addr) (c:Nat) (w:World) (hc:b.length≤c∧c≤maxLen) (hr:Rd w A (b.map ah)) :
  Calls prog 111 #[.string (str (iE x)),.slice A b.length c] w (Ib (sH x) x.kind w):=by
 have hk:=WA x
 cases x with
 | bz p n h =>
   obtain⟨h0,h1,h2,h3⟩:=hg
   refine U6 (.bz 0 0 0) rfl (iE (.bz p n h)) hk 3 rfl w (fun j=>b.drop ([0,4,12,16].getD j 0)) (fun j=>[4,8,4].getD j 0) (fun j hj=>?_) (by show b.drop 16=[];exact List.drop_eq_nil_of_le (by omega))
    (fun j q _=>q=[eX.val (.u32 p),eX.val (.u64 n),eX.val (.u32 h)].getD j gY) _ (fun j q y e=>?_) (fun j q y y' e _=>e) (.inr fun j q y y' e=>e) (fun j pl hp y A' c' hy hl hc1 hc2 hr'=>?_) (fun qs y hq hok=>⟨.bz p n h,rfl,rfl,?_,fun W _=>rfl⟩) A c hc hr
   ·rcases(show j=0∨j=1∨j=2 by omega)with rfl | rfl | rfl
    ·exact⟨by show 4≤(b.drop 0).length;rw[List.length_drop];omega,by show b.drop 4=(b.drop 0).drop 4;rw[List.drop_drop]⟩
    ·exact⟨by show 8≤(b.drop 4).length;rw[List.length_drop];omega,by show b.drop 12=(b.drop 4).drop 8;rw[List.drop_drop]⟩
    ·exact⟨by show 4≤(b.drop 12).length;rw[List.length_drop];omega,by show b.drop 16=(b.drop 12).drop 4;rw[List.drop_drop]⟩
   ·subst e
    rcases(show j=0∨j=1∨j=2∨3≤j by omega)with rfl | rfl | rfl | hj
    ·exact⟨rfl,rfl⟩
    ·exact⟨rfl,rfl⟩
    ·exact⟨rfl,rfl⟩
    ·rw[List.getD_eq_getElem?_getD,List.getElem?_eq_none (by simpa using hj)];exact⟨rfl,rfl⟩
   ·have hj:=(List.getElem?_eq_some_iff.1 hp).1
    rcases(show j=0∨j=1∨j=2 by simp[aV.parts]at hj;omega)with rfl | rfl | rfl
    ·obtain rfl:eX.u32 0=pl:=Option.some.inj hp
     have q:=a6R 0 A' (b.drop 0) c' y (by rw[List.length_drop];omega) hc1 hr';rw[if_neg (by rw[List.length_drop];omega),if_neg (by rw[List.length_drop];omega),List.drop_zero,h1]at q;exact q.mono fun e w' ⟨e1,k⟩=>⟨_,e1,rfl,k⟩
    ·obtain rfl:eX.u64 0=pl:=Option.some.inj hp
     have q:=c0f 0 A' (b.drop 4) c' y (by rw[List.length_drop];omega) hc1 (by rw[List.length_drop];omega) hr';rw[h2]at q;exact q.mono fun e w' ⟨e1,k⟩=>⟨_,e1,rfl,k⟩
    ·obtain rfl:eX.u32 0=pl:=Option.some.inj hp
     have q:=a6R 0 A' (b.drop 12) c' y (by rw[List.length_drop];omega) hc1 hr';rw[if_neg (by rw[List.length_drop];omega),if_neg (by rw[List.length_drop];omega),h3]at q;exact q.mono fun e w' ⟨e1,k⟩=>⟨_,e1,rfl,k⟩
   ·match qs,hq with
    | [q0,q1,q2],_ =>
      have a0:=hok 0 q0 rfl;have a1:=hok 1 q1 rfl;have a2:=hok 2 q2 rfl
      rw[a0,a1,a2];rfl
 | kN =>
   obtain rfl:b=[]:=hg;exact U6 .kN rfl (iE .kN) hk 0 rfl w (fun _=>[]) (fun _=>0) (fun j hj=>absurd hj (by omega)) rfl (fun _ _ _=>False) _ (fun _ _ _ e=>e.elim) (fun _ _ _ _ e _=>e) (.inl (by omega)) (fun j pl hp=>by simp[aV.parts]at hp) (fun qs y hq _=>⟨.kN,rfl,rfl,by rw[List.eq_nil_of_length_eq_zero hq];rfl,fun _ _=>rfl⟩) A c hc hr
 | hds A0 l c0 =>
   obtain⟨hG,hl⟩:=hg
   refine U6 (.hds none [] 0) rfl (iE (.hds A0 l c0)) hk 1 rfl w (fun j=>if j=0 then b else[]) (fun _=>b.length) (fun j hj=>?_) rfl
    (fun j q y => ∃ A1 c1,q=eX.val (.heads A1 l c1)∧(l.length≤c1∧c1≤maxLen)∧∀ W:World,(∀ g,w.heap.size<g→g<y.heap.size→W.heap[g]?=y.heap[g]?)→Rd W A1 (l.flatMap Hd.cells)) _ (fun j q y ⟨A1,c1,e,_⟩=>by rw[e];exact⟨rfl,rfl⟩) (fun j q y y' ⟨A1,c1,e,h1,h2⟩ hk'=>?_) (.inl (by omega)) (fun j pl hp y A' c' hy hlt hc1 hc2 hr'=>?_) (fun qs y hq hok=>?_) A c hc hr
   ·obtain rfl:j=0:=by omega
    exact⟨Nat.le_refl _,by simp⟩
   ·refine⟨A1,c1,e,h1,fun W hW=>h2 W fun g h3 h4=>?_⟩
    have e1:=hk' g h3 h4
    have h5:g<y'.heap.size:=by
     rw[Array.getElem?_eq_getElem h4]at e1;exact(Array.getElem?_eq_some_iff.1 e1).1
    exact(hW g h3 h5).trans e1
   ·have hj:=(List.getElem?_eq_some_iff.1 hp).1
    obtain rfl:j=0:=by simp[aV.parts]at hj;omega
    obtain rfl:eX.heads none [] 0=pl:=Option.some.inj hp;have q:=c0e none 0 0 A' b c' y hl hc1 hc2 hr';rw[hG]at q;refine q.mono fun e w' ⟨v,e1,own,k⟩=>⟨_,e1,?_,k⟩
    obtain⟨A1,c1,rfl,h1,h2,-⟩:=dD own;refine⟨A1,c1,rfl,⟨h1,h2⟩,fun W hW=>?_⟩;rcases own.2 with⟨_,h0⟩ | ⟨g,cap,cur,e3,hb,hg,h4⟩
    ·exact .inl (by rw[List.eq_nil_of_length_eq_zero (l:=l) h0];rfl)
    ·exact wV (w:=W) (base:=y.heap.size) ⟨own.1,.inr ⟨g,cap,cur,e3,hb,(hW g (Nat.lt_of_lt_of_le hlt hb) (Array.getElem?_eq_some_iff.1 hg).1).trans hg,h4⟩⟩
   ·match qs,hq with
    | [q0],_ =>
      obtain⟨A1,c1,rfl,h1,h2⟩:=hok 0 q0 rfl;refine⟨.hds A1 l c1,rfl,rfl,rfl,fun W hW=>?_⟩;obtain⟨A2,c2,e2,h3,h4⟩:=hW 0 _ rfl;simp only[eX.val,Value.iface.injEq,Value.slice.injEq,true_and]at e2;obtain⟨rfl,rfl⟩:=e2;exact⟨A1,c1,rfl,h3,h4 W fun _ _ _=>rfl⟩
theorem a5b (m:aV):wz (iE m)=true:=by cases m <;> rfl
theorem a5O {m:aV} {w:World} (h : ∀ p∈m.parts,p.fit w):m.put.length≤4000000:=by
 have q:=U5 eX.lay 200000 m.parts fun x hx=>a4u (h x hx)
 have:m.parts.length≤3:=by cases m <;> simp[aV.parts]
 unfold aV.put;omega
theorem eX.fit.keep {p:eX} {w w':World} (q:p.fit w) (hy:Keep w w'):p.fit w':=by
 cases p with
 | heads A l c=>exact⟨q.1,q.2.1,q.2.2.keep hy⟩
 | u32 x=>exact q
 | u64 n=>exact q
theorem b9j (p:aW) (cs:Array Value) (hA:bZ p cs) (hr:p.rs=[]) (hT:qW p=p) (hst3:p.stage≠3) (m:aV) (hs:m.small) (ms:Array Value) (hM:Bx 118 114 m.cells ms) (w:World) (hm : ∀ p∈m.parts,p.fit w) (hS:bV w) :
  Calls prog 128 #[.agg cs,.agg ms] w fun e w' => ∃ (A:Option Addr) (k c:Nat),e = .returned (.tuple #[.slice A k c,iv 0])∧Keep w w':=by
 have jS:Hid (∀ y,Calls prog 108 #[.agg cs] y fun e w' => ∃ ds,e = .returned (.agg ds)∧bZ p ds∧Keep y w'):=hid fun y=>by
  have q:=WV p cs hA hr y
  rwa[hT]at q
 have CY:Hid (∀ y,Calls prog 59 #[.int .i64 m.kind] y fun e w'=>e = .returned (.string (str (iE m)))∧Keep y w'):=hid fun y=>name_any m.kind y
 have JE:Hid (∀ y,Keep w y→Calls prog 57 #[.agg ms] y fun e w' => ∃ A c,e = .returned (.tuple #[.slice A m.put.length c,iv 0])∧(m.put.length≤c∧c≤maxLen∧Rd w' A (m.put.map ah))∧Keep y w'):=hid fun y hy =>
  (a5P m hs ms hM y fun x hx=>(hm x hx).keep hy).mono fun e w' ⟨v,h1,h2,h3⟩=>by
   obtain⟨A,c,rfl,q⟩:=dD h2;exact⟨A,c,h1,q,h3⟩
 have hpl:=a5O hm
 have xG:Hid (∀ y A c,Keep w y→m.put.length≤c→c≤maxLen→Rd y A (m.put.map ah)→Calls prog 58 #[ag p.magic,.agg #[.string (str (iE m)),.slice A m.put.length c]] y fun e w' => ∃ A' k c',e = .returned (.tuple #[.slice A' k c',iv 0])∧Keep y w'):=hid fun y A c hy h1 h2 h3 =>
  (a2b p.magic (iE m) m.put A m.put.length c y rfl ⟨h1,h2⟩ hpl (a5b m) h3 (hS.keep hy)).mono fun e w' ⟨v,h1,h2,h3⟩=>by
   obtain⟨A,c,rfl,q⟩:=dD h2;exact⟨A,_,c,h1,h3⟩
 have hcn:=hA.n;have hcz:=hA.z;have hci:=hA.i
 have hmn:=hM.n;have hmz:=hM.z;have kR:=hM.i
 have SE:Hid (ms.toList[0]?=some (iv m.kind)):=hid (by rw[hM.l];cases m <;> rfl);have HST:=hid hst3;generalize m.put.length=bl at *;generalize m.put.map ah=bs at *;generalize m.kind=k at *;generalize str (iE m)=sx at *;clear hA hr hT hst3 hM hm hS hs hpl;go_enter func128,ntmps128
 go_upto_region 1 with fail
 obtain⟨w1,hw1,HB,HM,HK,-⟩:=qF w 52 118 cs ms;rw[←hw1];clear hw1;go_wp2_with ((with_reducible refine bY w.heap.size cs (Eq.trans ?_ rfl) HB.out _ underlying52 rfl hci ?_);rfl)
 refine(jS.out _).mono ?_;clear jS;rintro e w2 ⟨qs,rfl,eP,k2⟩;have DX:=eP.n;have hqz:=eP.z;have hqi:=eP.i
 obtain⟨w3,hst3,hb3,hg3⟩:=bn (P:=prog) qs.toList (HB.out.keep k2) (by rw[Array.length_toList,Array.length_toList,hcz,hqz]) eP.o;rw[eP.l]at hb3;replace HB:=hid hb3;replace HM:=hid ((HM.out.keep k2).grown hg3 (fun e=>by injection e with e;omega));replace HK:=hid (aK (af HK.out k2) hg3 (by omega));clear k2 eP hb3 hg3;go_upto_region 2 with fail
 clear hst3;have r0:w3.cell? ⟨w.heap.size,0,none⟩=some (iv p.stage):=HB.out.cell 0;have d0:(p.stage==3)=false:=by rw[beq_eq_false_iff_ne];exact HST.out
 go_wp2_with ((with_reducible refine bY (w.heap.size+1) ms (Eq.trans ?_ rfl) HM.out _ underlying118 rfl kR ?_);rfl)
 refine(JE.out _ HK.out).mono ?_;clear r0 d0 JE;rintro e w4 ⟨A4,c4,rfl,hc4,k4⟩;have HC:=hid hc4;replace HB:=hid (HB.out.keep k4);replace HM:=hid (HM.out.keep k4);replace HK:=hid (af HK.out k4);clear k4 hc4;go_upto_region 7 with fail
 refine bu (.take [0,1,2,3,4,6] (.force [5] (.take [7] (.force [8] (.take [9,10,11,12] .done))))) [] (by kernel_rfl) (by kernel_rfl) (fun y hk=>?_);have r6:=aF (show y.cell? ⟨w.heap.size,6,none⟩=some (ag p.magic) from(HB.out.keep hk).cell 6);have m0:=aF (show y.cell? ⟨w.heap.size+1,0,none⟩=some (iv k) from((HM.out.keep hk).cell 0).trans SE.out);replace HC:Hid (bl≤c4∧c4≤maxLen∧Rd y A4 bs):=hid ⟨HC.out.1,HC.out.2.1,HC.out.2.2.keep hk⟩;replace HK:=hid (af HK.out hk);clear hk HB HM;refine wR ?_;simp only[au,ax,ak,aj];repeat(go_big_quiet_step (fail))
 clear r6 m0;refine wpQuiet_nil (bI ?_);simp only[au,ax,ak,aj];refine aI rfl (fun K hK=>?_);go_simp
 (with_reducible refine(CY.out _).mono ?_)
 rintro e y1 ⟨rfl,hk⟩;refine hK _ _ hk (aS (wR ?_));clear hK K CY;replace HC:Hid (bl≤c4∧c4≤maxLen∧Rd y1 A4 bs):=hid ⟨HC.out.1,HC.out.2.1,HC.out.2.2.keep hk⟩;replace HK:=hid (af HK.out hk);clear hk;simp only[au,ax,ak,aj];repeat(go_big_quiet_step (fail))
 refine wpQuiet_nil (bI ?_);simp only[au,ax,ak,aj];refine aI rfl (fun K hK=>?_);go_simp
 (with_reducible refine(xG.out y1 A4 c4 HK.out HC.out.1 HC.out.2.1 HC.out.2.2).mono ?_)
 rintro e y2 ⟨A2,k2,c2,rfl,hk⟩;refine hK _ _ hk (aS (wR ?_));clear hK K xG;replace HK:=hid (af HK.out hk);clear hk;simp only[au,ax,ak,aj];repeat(go_big_quiet_step (fail))
 refine wpQuiet_nil (aT ?_);go_wp2
 exact bodyPost_ret (v:=.tuple #[.slice A2 k2 c2,iv 0]) (by simp[results,results128]) rfl ⟨_,_,_,rfl,HK.out⟩
def DN (p:aW):aV→aW × List aV
 | .bz _ n h=>({ p with stage:=1,dO:=n,height:=h},[.bz 70015 n 0,.kN])
 | .kN=>({ p with stage:=2},[])
 | .hds .. => ({ p with asked:=false,misses:=0},[])
def a6C:aV→Int
 | .bz .. => 0
 | .kN=>1
 | .hds .. => 2
def TC (R:aW × List aV) (w:World) (e:Ending) (w':World):Prop:=∃ ds A n,e = .returned (.tuple #[.agg ds,.slice A R.2.length n,iv 0])∧bZ R.1 ds∧R.2.length≤n∧n≤2∧Rd w' A (R.2.flatMap aV.cells)∧Keep w w'
theorem Dl (a b c d:Int) (r:Bool) (h:((a==c)&&((b==d)&&true))=r):(∀ w,(Go.binOp .eql 283 (.agg #[iv a,iv b]) (.agg #[iv c,iv d])).run prog w = .ok (.bool r) w)∧∀ w,(Op.equalIn 10000 283 (.agg #[iv a,iv b]) (.agg #[iv c,iv d])).run prog w = .ok r w:=⟨fun w=>by rw[b3t,h],fun w=>by rw[a1W,h]⟩
theorem Qy {w0 w:World} {g h i j:Nat} {t t' u:TypeId} {l zs ms:List Value} {v:Value} (HB:Hid (ae w g t l)) (HM:Hid (ae w i u ms)) (HR:Hid (ae w h t' zs)) (HK:Hid (Keep w0 w)) (h0:w0.heap.size≤g∧g<i∧i<h) : ∃ y,w.setCell ⟨g,j,none⟩ v=y∧Hid (ae y g t (l.set j v))∧Hid (ae y i u ms)∧Hid (ae y h t' zs)∧Hid (Keep w0 y):=⟨_,rfl,hid (HB.out.az j v),hid (HM.out.far (by simp;omega) _),hid (HR.out.far (by simp;omega) _),hid (Below.setCell HK.out (by simp;omega) _)⟩
theorem b4H (n:Nat) : ∃ ks,Bx 118 114 (aV.bz 70015 n 0).cells ks∧prog.built 118 [(0,.int .i64 0),(1,.int .u32 70015),(2,dA n)]=some ks:=⟨_,Bi _ _ _ _ _ (by simp[Value.oneCell']),by kernel_rfl⟩
theorem b04 : ∃ ks,Bx 118 114 aV.kN.cells ks∧prog.built 118 [(0,.int .i64 1)]=some ks:=⟨_,Bi _ _ _ _ _ (by simp[Value.oneCell']),by kernel_rfl⟩
theorem b4a (p:aW) (cs:Array Value) (hA:bZ p cs) (hr:p.rs=[]) (hT:qW p=p) (m:aV) (hs:m.small) (ms:Array Value) (hM:Bx 118 114 m.cells ms) (hst:p.stage=a6C m) (w:World) :
  Calls prog 113 #[.agg cs,.agg ms] w (TC (DN p m) w):=by
 obtain⟨zs,hz0,aU⟩:=yD;have H9:Hid (∀ y,Calls prog 88 #[.agg ms] y fun e w'=>e = .returned (.bool true)∧Keep y w'):=hid fun y=>a13 m hs ms hM y
 have jS:Hid (∀ y,Calls prog 108 #[.agg cs] y fun e w' => ∃ ds,e = .returned (.agg ds)∧bZ p ds∧Keep y w'):=hid fun y=>by
  have q:=WV p cs hA hr y
  rwa[hT]at q
 have hcn:=hA.n;have hcz:=hA.z;have hci:=hA.i
 have hzn:=aU.n;have hzz:=aU.z
 have hmn:=hM.n;have hmz:=hM.z;have kR:=hM.i
 have Cb:=hid hM.l;have HST:=hid hst
 have d0:(p.stage==3)=false:=by rw[hst];cases m <;> rfl
 obtain⟨k,hk⟩ : ∃ k,m.kind=k:=⟨_,rfl⟩
 obtain⟨s,hs'⟩ : ∃ s,p.stage=s:=⟨_,rfl⟩
 rw[hs']at d0;have hmk:m.cells[0]?=some (iv k):=by rw[←hk];cases m <;> rfl
 have IU:=hid hmk;have E5:=hid hs';have HKK:=hid hk
 clear hA aU hr hM hT hst hs hs' hk hmk;go_enter func113,ntmps113
 go_upto_region 1 with fail
 obtain⟨w1,hw1,HB,HM,-,HK,-⟩:=FM w 52 118 52 cs ms zs
 have HR:Hid (ae w1 (w.heap.size+2) 52 zs.toList):=by
  rw[hw1];have h2:=ae.new ((w.alloc (.cells cs 52)).alloc (.cells ms 118)) 52 zs.toList;rw[World.size_alloc,World.size_alloc]at h2;exact hid h2
 rw[←hw1];clear hw1;go_wp2_with ((with_reducible refine bY w.heap.size cs (Eq.trans ?_ rfl) HB.out _ underlying52 rfl hci ?_);rfl)
 refine(jS.out _).mono ?_;clear jS;rintro e w2 ⟨qs,rfl,eP,k2⟩;have DX:=eP.n;have hqz:=eP.z;have hqi:=eP.i
 obtain⟨w3,hst3,hb3,hg3⟩:=bn (P:=prog) qs.toList (HB.out.keep k2) (by rw[Array.length_toList,Array.length_toList,hcz,hqz]) eP.o;rw[eP.l]at hb3;replace HB:=hid hb3;replace HM:=hid ((HM.out.keep k2).grown hg3 (fun e=>by injection e with e;omega));replace HR:=hid ((HR.out.keep k2).grown hg3 (fun e=>by injection e with e;omega));replace HK:=hid (aK (af HK.out k2) hg3 (by omega));clear k2 eP hb3 hg3;go_upto_region 2 with fail
 clear hst3;have r0:w3.cell? ⟨w.heap.size,0,none⟩=some (iv s):=(HB.out.cell 0).trans (by rw[←E5.out];rfl);go_wp2_with ((with_reducible refine bY (w.heap.size+1) ms (Eq.trans ?_ rfl) HM.out _ underlying118 rfl kR ?_);rfl)
 refine(H9.out _).mono ?_;clear H9 r0;rintro e w4 ⟨rfl,k4⟩;replace HM:Hid (ae w4 (w.heap.size+1) 118 m.cells):=by rw[←Cb.out];exact hid (HM.out.keep k4)
 replace HB:=hid (HB.out.keep k4);replace HR:=hid (HR.out.keep k4);replace HK:=hid (af HK.out k4);clear k4 DX hqz hqi;have r0:w4.cell? ⟨w.heap.size,0,none⟩=some (iv s):=(HB.out.cell 0).trans (by rw[←E5.out];rfl);have m0:w4.cell? ⟨w.heap.size+1,0,none⟩=some (iv k):=(HM.out.cell 0).trans IU.out;have hgd:=b3p;rw[HST.out]at E5;rcases m with⟨pr,n,h⟩ | _ | ⟨A,l,c⟩
 ·obtain rfl:(0:Int)=s:=E5.out
  obtain rfl:(0:Int)=k:=HKK.out;obtain⟨he1,hi1⟩:=Dl 0 0 0 0 true rfl;have m2:w4.cell? ⟨w.heap.size+1,2,none⟩=some (dA n):=HM.out.cell 2;have m3:w4.cell? ⟨w.heap.size+1,3,none⟩=some (ag h):=HM.out.cell 3;go_upto_region 8 with fail
  letI jc:G.Mk:=⟨some w.heap.size⟩
  refine G.bu (.take [0,1,2,3,4] (.force [5] (.take [6] (.force [7] (.take [8] (.force [9] .done)))))) [] (by kernel_rfl) (by kernel_rfl) (fun wa ka=>?_);have yf:G.Mk.m≠some (w.heap.size+1):=fun q=>by have e:w.heap.size=w.heap.size+1:=Option.some.inj q;omega
  have b2:=G.ja (aC ka m2) yf;have b3:=G.ja (aC ka m3) yf;replace HB:=hid (HB.out.keep ka);replace HM:=hid (HM.out.keep ka);replace HR:=hid (HR.out.keep ka);replace HK:=hid (af HK.out ka);clear ka m2 m3 m0 r0 hgd he1 hi1;refine G.aN _ (G.Gr.refl _) ?_;simp only[au,ax,ak,aj];repeat(go_big_quiet_step (fail))
  refine wpQuiet_nil (G.bI ?_);clear b2 b3 yf;simp only[au,ax,ak,aj];refine G.aI rfl (fun K hK=>?_);obtain⟨v0,z0⟩ : ∃ v,World.cell? _ ⟨w.heap.size,0,none⟩=some v:=⟨_,(HB.out.cell 0).trans rfl⟩
  have y0:=HB.out.frozen 0;go_simp;refine hK _ _ (show G.Gr _ _ from eH (iH _ _)) (G.aS ?_);clear hK K z0 y0;obtain⟨y,hy,HB,HM,HR,HK⟩:=Qy (j:=0) (v:=(.int .i64 1)) HB HM HR HK ⟨Nat.le_refl _,by omega,by omega⟩;rw[hy];clear hy;refine G.aN _ (G.Gr.refl _) ?_;simp only[au,ax,ak,aj];repeat(go_big_quiet_step (fail))
  refine wpQuiet_nil (G.bI ?_);simp only[au,ax,ak,aj];refine G.aI rfl (fun K hK=>?_);obtain⟨v0,z0⟩ : ∃ v,World.cell? _ ⟨w.heap.size,1,none⟩=some v:=⟨_,(HB.out.cell 1).trans rfl⟩
  have y0:=HB.out.frozen 1;go_simp;refine hK _ _ (show G.Gr _ _ from eH (iH _ _)) (G.aS ?_);clear hK K z0 y0;obtain⟨y,hy,HB,HM,HR,HK⟩:=Qy (j:=1) (v:=(dA n)) HB HM HR HK ⟨Nat.le_refl _,by omega,by omega⟩;rw[hy];clear hy;refine G.aN _ (G.Gr.refl _) ?_;simp only[au,ax,ak,aj];repeat(go_big_quiet_step (fail))
  refine wpQuiet_nil (G.bI ?_);simp only[au,ax,ak,aj];refine G.aI rfl (fun K hK=>?_);obtain⟨v0,z0⟩ : ∃ v,World.cell? _ ⟨w.heap.size,2,none⟩=some v:=⟨_,(HB.out.cell 2).trans rfl⟩
  have y0:=HB.out.frozen 2;go_simp;refine hK _ _ (show G.Gr _ _ from eH (iH _ _)) (G.aS ?_);clear hK K z0 y0;obtain⟨y,hy,HB,HM,HR,HK⟩:=Qy (j:=2) (v:=(ag h)) HB HM HR HK ⟨Nat.le_refl _,by omega,by omega⟩;rw[hy];clear hy;refine G.aT ?_;clear jc;obtain⟨X,hX⟩ : ∃ X,X = { p with stage:=1,dO:=n,height:=h}:=⟨_,rfl⟩
  have HF:Hid (DN p (.bz pr n h)=(X,[.bz 70015 n 0,.kN])):=hid (by rw[hX];rfl);replace HB:Hid (ae y w.heap.size 52 X.cells):=by rw[hX];exact HB
  obtain⟨ds,hds⟩ : ∃ ds,bZ X ds:=⟨_,bZ.of X⟩
  rw[←hds.l]at HB;have hdi:=hds.i;have hdn:=hds.n;have hdz:=hds.z
  have gZ:=hid hds;have m2:y.cell? ⟨w.heap.size+1,2,none⟩=some (dA n):=HM.out.cell 2;obtain⟨ys,hy0,ng⟩:=Ez;obtain⟨ks,hks,hbu⟩:=b4H n;obtain⟨vs,hvs,hbv⟩:=b04;have hyn:=ng.n;have o6:=ng.z;have hkn:=hks.n;have hkz:=hks.z;have hki:=hks.i;have fF:=hvs.z
  have hst:=fK y 118 hki (o6.trans hkz.symm) hks.o;have BR:=hid hks.l;have a9q:=hid hvs.l;have a8x:=hid hbv
  clear hks hvs hbv ng hds hX;go_upto_region 10 with((with_reducible refine La [(0,.int .i64 0),(1,.int .u32 70015),(2,dA n)] ks (Eq.trans ?_ rfl) hbu (Eq.trans ?_ rfl) ?_);rfl;rfl)
  have hl2:=HR.out.lt;obtain⟨hn,w5,hg,hw,hl5,HH,k5⟩:=oQ y 118 ks;replace HB:=hid (HB.out.keep k5);replace HR:=hid (HR.out.keep k5);replace HK:=hid (af HK.out k5);simp only[hw,hg];clear hw hg k5 hst m2 hbu HM;letI jc:G.Mk:=⟨some (w.heap.size+2)⟩
  refine G.bu (.take [0,1,2] (.fork 3 (.force [4] (.take [5,6] .done)) 4 (.force [3] (.take [5,6] .done)))) [] (by kernel_rfl) (by kernel_rfl) (fun wa ka=>?_);have hne0:G.Mk.m≠some w.heap.size:=fun q=>by have e:w.heap.size+2=w.heap.size:=Option.some.inj q;omega
  have hne1:G.Mk.m≠some hn:=fun q=>by have e:w.heap.size+2=hn:=Option.some.inj q;omega
  replace HB:=hid (HB.out.keep ka);replace HR:=hid (HR.out.keep ka);replace HK:=hid (af HK.out ka);replace HH:=hid (HH.out.keep ka);clear ka;have hsz:=HK.out.size
  apply a6M (F:=fun(y:World) (g:Nat)=>Hid (ae y (w.heap.size+2) 52 ds.toList)∧Hid (ae y g 118 (ks.toList++vs.toList))∧Hid (Keep w y))
  ·intro AB
   repeat' first
    | ((with_reducible refine G.aN _ (G.Gr.refl _) ?_);simp only[au,ax,ak,aj];(repeat(first | ((with_reducible refine G.zV w.heap.size ds (Eq.trans ?_ rfl) HB.out hne0 _ underlying52 rfl hdi ?_);rfl;simp only[Act.put,Array.set!_eq_setIfInBounds,List.setIfInBounds_toArray,List.set_cons_succ,List.set_cons_zero]) | ((with_reducible refine G.zV hn ks (Eq.trans ?_ rfl) HH.out hne1 _ underlying118 rfl hki ?_);rfl;simp only[Act.put,Array.set!_eq_setIfInBounds,List.setIfInBounds_toArray,List.set_cons_succ,List.set_cons_zero]) | ((with_reducible refine c08 [(0,.int .i64 1)] vs (Eq.trans ?_ rfl) a8x.out ?_);rfl;simp only[Act.put,Array.set!_eq_setIfInBounds,List.setIfInBounds_toArray,List.set_cons_succ,List.set_cons_zero]) | go_big_quiet_step (fail)));refine wpQuiet_nil ?_)
    | ((with_reducible refine G.ny ?_ ?_) <;> simp only[au,ax,ak,aj])
    | ((with_reducible refine G.bI ?_);simp only[au,ax,ak,aj])
    | with_reducible refine G.aS ?_
    | (refine G.aI rfl (fun K hK=>?_);refine c1e Wu _ _ (by rfl) ks vs hkz fF (by omega) (by rfl) (by rfl) ?_;refine hK _ _ (G.Gr.oz (aB _ _)) ?_;clear hK K;have VJ:=HR.out.lt;obtain⟨g,y,hg,hw,hl,gz,k⟩:=oQ _ 118 (ks.toList++vs.toList).toArray;replace HR:=hid (HR.out.keep k);replace HK:=hid (af HK.out k);simp only[Act.put,Array.set!_eq_setIfInBounds,List.setIfInBounds_toArray,List.set_cons_succ,List.set_cons_zero];simp only[hw,hg];clear hw hg k)
    | (refine G.aI rfl (fun K hK=>?_);obtain⟨y,hy,hb,hg⟩:=bn (P:=prog) ds.toList HR.out (by rw[Array.length_toList,Array.length_toList,hzz,hdz]) gZ.out.o;go_simp;refine hK _ _ (show G.Gr _ y from hg) ?_;replace HR:=hid hb;replace HK:=hid (aK HK.out hg (by omega));try replace gz:=hid (gz.out.grown hg (by simp;omega));clear hK K hy hb hg)
   all_goals exact AB.out _ _ ⟨HR,gz,HK⟩
  ·rintro y g ⟨HR,gz,HK⟩
   refine G.aT ?_;clear hne0 hne1 jc;go_wp2
   exact bodyPost_ret (v:=.tuple #[.agg ds,.slice (some ⟨g,0,none⟩) 2 2,iv 0]) (rU results113 _ _ (w.heap.size+2) _ _ _ _ rfl HR.out underlying52 rfl (by rw[List.size_toArray,Array.length_toList];exact hdi)) rfl (by
    rw[HF.out]
    exact⟨ds,_,2,rfl,gZ.out,Nat.le_refl _,by omega,by have q:=gz.out.rd;rw[BR.out,a9q.out]at q;simpa using q,HK.out⟩)
 case' kN =>
  obtain rfl:(1:Int)=s:=E5.out;obtain rfl:(1:Int)=k:=HKK.out;obtain⟨he1,hi1⟩:=Dl 1 1 0 0 false rfl;obtain⟨he2,hi2⟩:=Dl 1 1 1 1 true rfl;have f0:=HB.out.frozen 0;go_upto_region 13 with fail
  obtain⟨X,hX⟩ : ∃ X,X = { p with stage:=2}:=⟨_,rfl⟩
  obtain⟨wx,hwx,HX,HG⟩ : ∃ wx,w4.setCell ⟨w.heap.size,0,none⟩ (.int .i64 2)=wx∧Hid (ae wx w.heap.size 52 X.cells)∧Hid (w4.grownBy wx (some w.heap.size)):=⟨_,rfl,hid (by rw[hX];exact HB.out.az 0 _),hid (eH (iH _ _))⟩
  have HF:Hid (DN p .kN=(X,[])):=hid (by rw[hX];rfl)
 case' hds =>
  obtain rfl:(2:Int)=s:=E5.out;obtain rfl:(5:Int)=k:=HKK.out;obtain⟨he1,hi1⟩:=Dl 2 5 0 0 false rfl;obtain⟨he2,hi2⟩:=Dl 2 5 1 1 false rfl;obtain⟨he3,hi3⟩:=Dl 2 5 2 2 false rfl;obtain⟨he4,hi4⟩:=Dl 2 5 2 5 true rfl;have f3:=HB.out.frozen 3;have f5:=HB.out.frozen 5;have r3:w4.cell? ⟨w.heap.size,3,none⟩=some (.bool p.asked):=(HB.out.cell 3).trans rfl;have r5:w4.cell? ⟨w.heap.size,5,none⟩=some (iv p.misses):=(HB.out.cell 5).trans rfl;go_upto_region 18 with fail
  obtain⟨X,hX⟩ : ∃ X,X = { p with asked:=false,misses:=0}:=⟨_,rfl⟩
  obtain⟨wx,hwx,HX,HG⟩ : ∃ wx,(w4.setCell ⟨w.heap.size,3,none⟩ (.bool false)).setCell ⟨w.heap.size,5,none⟩ (.int .i64 0)=wx∧Hid (ae wx w.heap.size 52 X.cells)∧Hid (w4.grownBy wx (some w.heap.size)):=⟨_,rfl,hid (by rw[hX];exact(HB.out.az 3 _).az 5 _),hid (eH (eH (iH _ _)))⟩
  have HF:Hid (DN p (.hds A l c)=(X,[])):=hid (by rw[hX];rfl)
 all_goals
  rw[hwx]
  try clear r3 r5 f3 f5
  try clear f0
  obtain⟨ds,hds⟩ : ∃ ds,bZ X ds:=⟨_,bZ.of X⟩
  have hdi:=hds.i;have hdn:=hds.n;have hdz:=hds.z
  rw[←hds.l]at HX;obtain⟨w8,fQ,hb8,aZ⟩:=bn (P:=prog) ds.toList (HR.out.grown HG.out (by simp)) (by rw[Array.length_toList,Array.length_toList,hzz,hdz]) hds.o;have hsz:=HK.out.size;have bK:Hid (Keep w w8):=hid (aK (aK HK.out HG.out (by omega)) aZ (by omega));have gq:=hid hb8;have gZ:=hid hds
  clear hb8 aZ hds hX hwx HG HR HK HB HM;go_wp2_with ((with_reducible refine bY w.heap.size ds (Eq.trans ?_ rfl) HX.out _ underlying52 rfl hdi ?_);rfl)
  exact bodyPost_ret (v:=.tuple #[.agg ds,.slice none 0 0,iv 0]) (rU results113 _ _ (w.heap.size+2) _ _ _ _ rfl gq.out underlying52 rfl (by rw[List.size_toArray,Array.length_toList];exact hdi)) rfl (by
   rw[HF.out]
   exact⟨ds,none,0,rfl,gZ.out,Nat.le_refl _,Nat.zero_le _,Rd.nil _ _,bK.out⟩)
inductive fA where
 | u32 (x:UInt32)
 | u64 (n:Nat)
 | hsh (A:Option Addr) (l:List (List UInt8)) (c most:Nat)
 | h32 (s:List UInt8)
 | heads (A:Option Addr) (l:List Hd) (c:Nat)
 | items (A:Option Addr) (l:List lJ) (c:Nat)
 | head (h:Hd)
 | bytes (A:Option Addr) (l:List UInt8) (c:Nat)
 | tx (t:lg)
def fA.val:fA→Value
 | .u32 x => .iface 22 (ag x)
 | .u64 n => .iface 48 (dA n)
 | .hsh A l c most => .iface 258 (.agg #[.slice A l.length c,dA most])
 | .h32 s => .iface 27 (.agg (s.map ah).toArray)
 | .heads A l c => .iface 86 (.slice A l.length c)
 | .items A l c => .iface 110 (.slice A l.length c)
 | .head h => .iface 29 (.agg h.cells.toArray)
 | .bytes A l c => .iface 32 (.slice A l.length c)
 | .tx t => .iface 116 (.agg t.cells.toArray)
def Qm (m:fO):List fA :=
 if m.kind=0 then[.u32 m.proto,.u64 m.dO,.u32 m.height]
 else if m.kind=2∨m.kind=3 then[.u64 m.dO]
 else if m.kind=4 then[.u32 m.proto,.hsh m.lA m.ls m.lc 101,.h32 m.stop]
 else if m.kind=5 then[.heads m.hA m.hs m.hc]
 else if m.kind=6∨m.kind=7∨m.kind=8 then[.items m.iA m.is m.ic]
 else if m.kind=9 then[.head m.bh,.u32 m.total,.hsh m.sA m.GI m.sc 4096,.bytes m.JV m.fs m.fc]
 else if m.kind=10 then[.tx m.t]
 else[]
theorem Gr.old {w0 a b:World} {u v:Value} {e:TypeId} {size n:Nat} {xs:List Value} (h:Gr a u b v) (ho:a.ownsRow w0.heap.size e size u n xs) (k:Keep w0 a):Keep w0 b :=
 Below.trans k (h.below ho k.size)
def fA.fit (w:World):fA→Prop
 | .u32 _=>True
 | .u64 n=>n<2^64
 | .hsh A l _ _=>l.length≤4096∧(∀ s∈l,s.length=32)∧Rd w A (hsL l)
 | .h32 s=>s.length=32
 | .heads A l _=>l.length≤2000∧(∀ h∈l,h.ok)∧Rd w A (l.flatMap Hd.cells)
 | .items A l _=>l.length≤50000∧(∀ x∈l,x.ok)∧Rd w A (l.flatMap lJ.cells)
 | .head h=>h.ok
 | .bytes A l _=>l.length≤50000∧Rd w A (l.map ah)
 | .tx t=>t.at w∧b86 t=true∧(c0r t).length≤90000000
def fA.pl:fA→fA
 | .hsh _ l _ most => .hsh none l 0 most
 | .heads _ l _ => .heads none l 0
 | .items _ l _ => .items none l 0
 | .bytes _ l _ => .bytes none l 0
 | .tx t => .tx t.pl
 | p=>p
def fA.at_ (w:World):fA→Prop
 | .u32 _=>True
 | .u64 n=>n<2^64
 | .hsh A l c _=>(∀ s∈l,s.length=32)∧(l.length≤c∧c≤maxLen)∧Rd w A (hsL l)
 | .h32 s=>s.length=32
 | .heads A l c=>(∀ h∈l,h.ok)∧(l.length≤c∧c≤maxLen)∧Rd w A (l.flatMap Hd.cells)
 | .items A l c=>(∀ x∈l,x.ok)∧(l.length≤c∧c≤maxLen)∧Rd w A (l.flatMap lJ.cells)
 | .head h=>h.ok
 | .bytes A l c=>(l.length≤c∧c≤maxLen)∧Rd w A (l.map ah)
 | .tx t=>t.at w
theorem fA.at_.keep {w w':World} {p:fA} (h:p.at_ w) (k:Keep w w'):p.at_ w':=by
 cases p with
 | u32 x=>trivial
 | u64 n=>exact h
 | hsh A l c most=>exact⟨h.1,h.2.1,h.2.2.keep k⟩
 | h32 s=>exact h
 | heads A l c=>exact⟨h.1,h.2.1,h.2.2.keep k⟩
 | items A l c=>exact⟨h.1,h.2.1,h.2.2.keep k⟩
 | head h'=>exact h
 | bytes A l c=>exact⟨h.1,h.2.keep k⟩
 | tx t=>exact lg.at.keep h k
def fA.qm (b:List UInt8):fA→fA × Nat × Int
 | .u32 _=>(.u32 (UInt32.ofNat (if b.length<4 then 0 else fH b 4)),4,if b.length<4 then 1 else 0)
 | .u64 _=>(.u64 (if b.length<8 then 0 else fH b 8),8,if b.length<8 then 1 else 0)
 | .hsh _ _ _ most=>(.hsh none (Xp b most).1 0 most,(Xp b most).2.1,(Xp b most).2.2)
 | .h32 _=>(.h32 (b.take 32),if b.length<32 then 0 else 32,if b.length<32 then 1 else 0)
 | .heads _ _ _=>(.heads none (qL b).1 0,b.length,(qL b).2)
 | .items _ _ _=>(.items none (Xq b).1 0,(Xq b).2.1,(Xq b).2.2)
 | .head _=>(.head (jJ (b.take 80)),80,if b.length<80 then 1 else 0)
 | .bytes _ _ _=>(.bytes none (FO b 1024).1 0,(FO b 1024).2.1,(FO b 1024).2.2)
 | .tx _=>(.tx (Xo b).1,(Xo b).2.1,(Xo b).2.2)
def rG:List fA→List UInt8→List fA × List UInt8 × Int
 | [],b=>([],b,0)
 | p::ps,b=>if(p.qm b).2.2=0 then((p.qm b).1::(rG ps (b.drop (p.qm b).2.1)).1,(rG ps (b.drop (p.qm b).2.1)).2)else([],b,(p.qm b).2.2)
def b7i (k:Int):List fA→fO
 | [.u64 n] => { qO k with dO:=n}
 | [.heads A l c] => { qO k with hA:=A,hs:=l,hc:=c}
 | [.items A l c] => { qO k with iA:=A,is:=l,ic:=c}
 | [.tx t] => { qO k with t:=t}
 | [.u32 p,.u64 n,.u32 h] => { qO k with proto:=p,dO:=n,height:=h}
 | [.u32 p,.hsh A l c _,.h32 s] => { qO k with proto:=p,lA:=A,ls:=l,lc:=c,stop:=s}
 | [.head h,.u32 t,.hsh A l c _,.bytes B f d] => { qO k with bh:=h,total:=t,sA:=A,GI:=l,sc:=c,JV:=B,fs:=f,fc:=d}
 | _=>qO k
def fO.pl (m:fO):fO:={ m with hA:=none,hc:=0,lA:=none,lc:=0,iA:=none,ic:=0,sA:=none,sc:=0,JV:=none,fc:=0,t:=m.t.pl}
def Eo (s:List UInt8) (b:List UInt8):fO × Int :=
 if(qg s).2=true then
  if(rG (Qm (qO (qg s).1)) b).2.2=0 then
   if(rG (Qm (qO (qg s).1)) b).2.1=[]then(b7i (qg s).1 (rG (Qm (qO (qg s).1)) b).1,0)else(qO 0,2)
  else(qO 0,(rG (Qm (qO (qg s).1)) b).2.2)
 else(qO 0,2)
end Go.Proofs.YtiagcenlnekdeaaGreatDoor
namespace Go.Proofs.YtiagcenlnekdeaaGreatDoor
open Go.RowKit
attribute [local go_sem ↓] Go.wp_at_zero Go.wp_at_succ
namespace fO
end fO
end Go.Proofs.YtiagcenlnekdeaaGreatDoor
namespace Go.Proofs.YtiagcenlnekdeaaGreatDoor
open Go.RowKit
theorem b3M (p:fA) (ps:List fA) (b:List UInt8) (h:(p.qm b).2.2=0):rG (p::ps) b=((p.qm b).1::(rG ps (b.drop (p.qm b).2.1)).1,(rG ps (b.drop (p.qm b).2.1)).2):=by
 rw[rG,if_pos h]
theorem b3L (p:fA) (ps:List fA) (b:List UInt8) (h : ¬ (p.qm b).2.2=0):rG (p::ps) b=([],b,(p.qm b).2.2):=by
 rw[rG,if_neg h]
end Go.Proofs.YtiagcenlnekdeaaGreatDoor
namespace Go.Proofs.YtiagcenlnekdeaaGreatDoor
open Go.RowKit
attribute [local go_sem ↓] Go.wp_at_zero Go.wp_at_succ
def CX (G:List fA × List UInt8 × Int) (ps:List fA) (j:Nat) (qs:List fA) (b:List UInt8):Prop:=G=(qs.map fA.pl++(rG (ps.drop j) b).1,(rG (ps.drop j) b).2)
theorem CX.step {G:List fA × List UInt8 × Int} {ps:List fA} {j:Nat} {qs:List fA} {b:List UInt8} (h:CX G ps j qs b) {p:fA} (hp:ps[j]?=some p) (h0:(p.qm b).2.2=0) {q:fA} (hq:q.pl=(p.qm b).1):CX G ps (j+1) (qs++[q]) (b.drop (p.qm b).2.1):=by
 unfold CX at h ⊢;obtain⟨hj,rfl⟩:=List.getElem?_eq_some_iff.1 hp;rw[h,List.drop_eq_getElem_cons hj,b3M _ _ _ h0,List.map_append,←hq,List.append_assoc];rfl
theorem CX.bad {G:List fA × List UInt8 × Int} {ps:List fA} {j:Nat} {qs:List fA} {b:List UInt8} (h:CX G ps j qs b) {p:fA} (hp:ps[j]?=some p) (h0 : ¬ (p.qm b).2.2=0):G.2.2=(p.qm b).2.2:=by
 unfold CX at h;obtain⟨hj,rfl⟩:=List.getElem?_eq_some_iff.1 hp;rw[h,List.drop_eq_getElem_cons hj,b3L _ _ _ h0]
section
variable {P:Program}
structure ed (B:Nat) (X:Nat→Prop) (W W':World):Prop where
 os:W'.os=W.os
 tape:W'.tape=W.tape
 output:W'.output=W.output
 size:W.heap.size≤W'.heap.size
 block : ∀ k,k<B→k<W.heap.size → ¬ X k→W'.heap[k]?=W.heap[k]?
theorem ed.refl (B:Nat) (X:Nat→Prop) (W:World):ed B X W W:=⟨rfl,rfl,rfl,Nat.le_refl _,fun _ _ _ _=>rfl⟩
theorem ed.trans {B:Nat} {X:Nat→Prop} {A C D:World} (h:ed B X A C) (k:ed B X C D):ed B X A D :=
 ⟨k.os.trans h.os,k.tape.trans h.tape,k.output.trans h.output,Nat.le_trans h.size k.size,fun j h1 h2 h3=>(k.block j h1 (Nat.lt_of_lt_of_le h2 h.size) h3).trans (h.block j h1 h2 h3)⟩
theorem ed.putObj {B:Nat} {X:Nat→Prop} (W:World) {l:Nat} (o:Obj) (hl:B≤l):ed B X W (W.putObj l o) :=
 ⟨rfl,rfl,rfl,by simp,fun k h1 _ _=>World.putObj_heap_other (by omega)⟩
def Nv (bb:Nat) (A C:World):Prop:=A.grownBy C (some bb)∧∀ (k:Nat) (o:Obj),A.heap[k]?=some o→o.isCells=false→C.heap[k]?=some o
theorem c1m {α:Type} {g:Operand} {ps:Array Tmp} {assign body:Code} {Q:Exit→Act→World→Prop} {a:Act} {w:World} {gf:Nat} {lb:Array Value}
  (hg:a.eval g = .func (.func gf) #[] lb) (eg : ∀ args w,(callFunc gf args).run P w = .ok (.enter gf args) w)
  (encs:α→Array Value) (hps : ∀ x,(encs x).size=ps.size) (nH:List α→α→World→World→Prop) (S:List α→Prop) (bb:Nat) (X:Nat→Prop)
  (I:List α→World→Prop)
  (hseq : ∀ (l:Nat) (J:List α→World→Prop) (W1:World),Keep w W1→J [] W1→(∀ pre A C,J pre A→Nv bb A C→J pre C) →
   (∀ pre x wr W,J pre wr→Keep wr W→nH pre x wr W→YieldAt Fence.wide 0 P l (encs x) W (fun e W'=>e = .returned (.bool true)∧J (pre++[x]) W'∧ed w.heap.size X W W')) →
   Calls P gf (#[.func (.yield l) #[] #[]]++lb) W1 (fun e W'=>(∃ v,e = .returned v)∧∃ xs,S xs∧J xs W'))
  (hGi : ∀ pre A C,I pre A→Nv bb A C→I pre C) (hI:OwnFrom w.heap.size I) (h0:I [] w)
  (VQ : ∀ l pre x wr W,w.heap.size≤l→I pre wr→Keep wr W→nH pre x wr W →
   assign.wpIn (Fence.wide.inRound l) 0 P (Exit.then (fun a₁ w₁=>KeepsFrom w.heap.size W w₁∧ed w.heap.size X W w₁∧∀ st,(∃ r,w₁.heap[l]?=some (.loop r))→body.wpIn (Fence.wide.inRound l) 0 P (fun e a' W'=>e = .normal∧KeepsFrom w.heap.size (w₁.putObj l (.loop st)) W'∧ed w.heap.size X (w₁.putObj l (.loop st)) W'∧I (pre++[x]) W') a₁ (w₁.putObj l (.loop st))) (fun _ _ _=>False))
    { tmps:=(ps.zip (encs x)).foldl (fun t (p,v)=>t.setIfInBounds p v) a.tmps,defers:=[]} W)
  (hdone : ∀ (D:Nat) (xs:List α) (W:World),w.heap.size≤D→S xs→I xs W→W.heap[D]?=some (.deferred (some []))→Q .normal { a with defers:={ target:=.collected D,args:=#[]}::a.defers} W) :
  (Code.rangeFunc g ps assign body).wp P Q a w:=by
 refine(wpIn_wide (n:=1)).1 (wpIn_rangeFunc ?_);intro fn hfn;obtain⟨rec,hrec⟩ : ∃ rec:LoopState→Option Code→Loop,rec=fun st pe => { state:=st,pending:=pe,fn,tmps:=a.tmps,params:=ps,assign,body,defers:=w.heap.size}:=⟨_,rfl⟩
 obtain⟨W1,hW1⟩ : ∃ W1,(w.alloc (.deferred (some []))).alloc (.loop (rec .ready none))=W1:=⟨_,rfl⟩
 have hL1:W1.heap[w.heap.size+1]?=some (.loop (rec .ready none)):=by
  rw[←hW1];have:=World.alloc_heap_new (w.alloc (.deferred (some []))) (.loop (rec .ready none));rwa[World.size_alloc]at this
 have hK1:W1.heap[w.heap.size]?=some (.deferred (some [])):=by
  rw[←hW1];exact(Below.heap_alloc _ _ _ (by simp)).trans (World.alloc_heap_new w _)
 have hI1:I [] W1:=by
  rw[←hW1];refine hI _ _ _ none (hI _ _ _ none h0 (World.grownBy_alloc w _ none) (fun r e=>by cases e)) (World.grownBy_alloc _ _ none) (fun r e=>by cases e)
 have hb1:Keep w W1:=by rw[←hW1];exact af ((Below.refl _ _).alloc (Nat.le_refl _) _) ((Below.refl _ _).alloc (Nat.le_refl _) _)
 refine⟨w.heap.size+1,[{ target:=.collected w.heap.size,args:=#[]}],W1,{ target:=.fn (.func gf) lb,args:=#[.func (.yield (w.heap.size+1)) #[] #[]]},W1,gf,
  #[.func (.yield (w.heap.size+1)) #[] #[]]++lb,W1,?_,?_,?_,?_,fun _=>Nat.le_refl 1,?_⟩
 ·rw[←hW1,hrec];exact run_enterLoop_outer _ _ _ _ _
 ·simp only[resolve,hg]
  simp[go_sem]
 ·intro f' _;trivial
 ·simp[invoke,go_sem,eg]
 ·refine callsIn_wide.2 ((hseq (w.heap.size+1) (fun pre W=>I pre W∧W.heap[w.heap.size+1]?=some (.loop (rec .ready none))∧W.heap[w.heap.size]?=some (.deferred (some []))) W1 hb1 ⟨hI1,hL1,hK1⟩
   (fun pre A C h hg'=>⟨hGi pre A C h.1 hg',hg'.2 _ _ h.2.1 rfl,hg'.2 _ _ h.2.2 rfl⟩) ?_).mono ?_)
  ·rintro pre x wr W ⟨hi,hl0,hk0⟩ hkw hφ
   have hl:W.heap[w.heap.size+1]?=some (.loop (rec .ready none)):=(hkw.block _ (Array.getElem?_eq_some_iff.1 hl0).1).trans hl0;have hk:W.heap[w.heap.size]?=some (.deferred (some [])):=(hkw.block _ (Array.getElem?_eq_some_iff.1 hk0).1).trans hk0;have hlt:w.heap.size+1<W.heap.size:=(Array.getElem?_eq_some_iff.1 hl).1;have hy:=run_yield (P:=P) (args:=encs x) hl (by rw[hrec];exact hps x);rw[hrec]at hy;refine⟨fn,_,assign,body,hy,roundIn_of_wpIn hfn (wpIn_mono (VQ _ pre x wr W (by omega) hi hkw hφ) ?_)⟩;rintro e a' Wa hp
   cases e with
   | normal =>
     obtain⟨hkfa,b44,hbody⟩:=hp;replace hl:=hkfa.same _ _ (by omega) hl rfl;replace hk:=hkfa.same _ _ (Nat.le_refl _) hk rfl;have hlt:w.heap.size+1<Wa.heap.size:=(Array.getElem?_eq_some_iff.1 hl).1;refine⟨_,run_beginRound hl (by rw[hrec]),?_⟩;have hl2:(Wa.putObj (w.heap.size+1) (.loop { rec .ready none with state:=.busy})).heap[w.heap.size+1]?=some (.loop { rec .ready none with state:=.busy}):=World.putObj_heap_same hlt;have hk2:(Wa.putObj (w.heap.size+1) (.loop { rec .ready none with state:=.busy})).heap[w.heap.size]?=some (.deferred (some [])):=(World.putObj_heap_other (by omega)).trans hk;refine wpIn_mono (hbody _ ⟨_,hl⟩) ?_;rintro e a3 W3 ⟨rfl,hk3,hx3,hi3⟩;have hl3:=hk3.same _ _ (by omega) hl2 rfl;have hend:=run_endRound (P:=P) none hl3;refine⟨_,_,hend,rfl,⟨?_,?_,?_⟩,?_⟩
     ·exact hI.putObj _ hi3 (by omega) hl3 rfl
     ·rw[World.putObj_heap_same (Array.getElem?_eq_some_iff.1 hl3).1,hrec];rfl
     ·exact(World.putObj_heap_other (by omega)).trans (hk3.same _ _ (Nat.le_refl _) hk2 rfl)
     ·exact b44.trans ((ed.putObj _ _ (by omega)).trans (hx3.trans (ed.putObj _ _ (by omega))))
   | ret=>exact hp.elim
   | exit id=>exact hp.elim
   | goto t=>exact hp.elim
   | panic c=>exact hp.elim
   | outgrown=>exact hp.elim
  ·rintro e W3 ⟨⟨v,rfl⟩,xs,hs,hi,hl,hk⟩
   have hq:=run_endLoop (P:=P) hl (by rw[hrec];exact fun h=>by cases h);rw[show(rec .ready none).pending=none from by rw[hrec]]at hq;refine⟨none,_,hq,?_⟩;exact hdone _ xs _ (Nat.le_refl _) hs (hI.putObj _ hi (by omega) hl rfl) ((World.putObj_heap_other (by omega)).trans hk)
end
end Go.Proofs.YtiagcenlnekdeaaGreatDoor
