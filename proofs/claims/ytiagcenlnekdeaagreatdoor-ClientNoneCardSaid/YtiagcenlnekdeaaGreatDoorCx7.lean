/- Texts merged by pack.py: Ta, MoG, UQ, US, Bd, Ei, Byt, Sqz, Vp, Va. -/
import Derived.Test.YtiagcenlnekdeaaGreatDoorCx6
import Derived.Test.YtiagcenlnekdeaaGreatDoorCx3
import Derived.Deep.MidRow
import Derived.Great.BuildSlice
import Derived.LaidEql
import Derived.Stop.Asserts
import Derived.RowKitTokens
import Derived.Lib.IfaceEq
import Derived.Test.YtiagcenlnekdeaaGreatDoorRows
import Derived.Test.YtiagcenlnekdeaaGreatDoorCx2
import Derived.Deep.RegionHeld3
import Derived.Deep.DrawnRows
import Derived.Deep.DeepCutAuto
import Derived.Deep.RegionLaw
import Derived.Test.YtiagcenlnekdeaaGreatDoorProg
set_option maxRecDepth 1000000
set_option maxHeartbeats 16000000
open Go.Proofs.Tryz
open Go.Lib (hid)
set_option linter.unusedSimpArgs false
set_option linter.unusedVariables false
namespace Go.Proofs.YtiagcenlnekdeaaGreatDoor
open Go.RowKit
structure Nd where
 id:List UInt8
 head:Hd
 par:Int
 hgt:Nat
 work:Nat
def Nd.ok (n:Nd):Prop:=n.id.length=32∧n.head.ok∧n.work<2^256
def Nd.cells (n:Nd):List Value:=n.id.map ah++(n.head.cells++(Value.int .i64 n.par::Value.int .i64 n.hgt::uL n.work))
theorem Nd.len {n:Nd} (h:n.ok):n.cells.length=106:=by simp[Nd.cells,Hd.len h.2.1,h.1,uL]
theorem Nd.one (n:Nd) : ∀ u∈n.cells,u.oneCell'=true:=by
 intro u hu;simp only[Nd.cells,List.mem_append,List.mem_cons]at hu;rcases hu with hu | hu | rfl | rfl | hu
 ·exact jL _ u hu
 ·exact Hd.one _ u hu
 ·rfl
 ·rfl
 ·exact c0y _ u hu
def fB (ns:List Nd) (id:List UInt8):Option Nat:=ns.findIdx? fun n=>n.id==id
def lM (ns:List Nd) (i:Nat):Nat:=(ns[i]?.map Nd.hgt).getD 0
def qR (ns:List Nd) (i:Nat):Int:=(ns[i]?.map Nd.par).getD 0
def uQ (ns:List Nd) (i:Nat):Nat→Nat
 | 0=>i
 | k+1=>(qR ns (uQ ns i k)).toNat
def qh (ns:List Nd) (i:Nat):List Nat:=(List.range (lM ns i+1)).map fun k=>uQ ns i (lM ns i - k)
theorem a4F (ns:List Nd) (i:Nat):(qh ns i).length=lM ns i+1:=by simp[qh]
structure Tr (ns:List Nd):Prop where
 ok : ∀ n∈ns,n.ok
 id : ∀ n∈ns,n.id=df n.head
 root : ∀ n:Nd,ns[0]?=some n→n.par = -1∧n.hgt=0
 up : ∀ (i:Nat) (n:Nd),0<i→ns[i]?=some n → ∃ p:Nat,n.par=(p:Int)∧p<i∧∃ m,ns[p]?=some m∧n.hgt=m.hgt+1∧n.head.prev=m.id
 one : ∀ (i j:Nat) (n m:Nd),ns[i]?=some n→ns[j]?=some m→n.id=m.id→i=j
theorem Tr.nil:Tr []:=by
 refine⟨?_,?_,?_,?_,?_⟩
 ·intro n h;cases h
 ·intro n h;cases h
 ·intro n h;simp at h
 ·intro i n _ h;simp at h
 ·intro i j n m h;simp at h
theorem Bd {ns:List Nd} {i:Nat} {n:Nd} (h:ns[i]?=some n):lM ns i=n.hgt:=by simp[lM,h]
theorem a5H {ns:List Nd} {i:Nat} {n:Nd} (h:ns[i]?=some n):qR ns i=n.par:=by simp[qR,h]
theorem Tr.a3j {ns:List Nd} (T:Tr ns) (h:0<ns.length):lM ns 0=0:=by
 have e:=List.getElem?_eq_getElem h;rw[Bd e];exact(T.root _ e).2
theorem Tr.par {ns:List Nd} (T:Tr ns) {i:Nat} (h0:0<i) (hi:i<ns.length):(qR ns i).toNat<i∧qR ns i=(qR ns i).toNat∧lM ns i=lM ns (qR ns i).toNat+1:=by
 have e:=List.getElem?_eq_getElem hi;obtain⟨p,h1,h2,m,h3,h4,-⟩:=T.up i _ h0 e;rw[a5H e,h1];simp only[Int.toNat_natCast,true_and];refine⟨h2,?_⟩;rw[Bd e,Bd h3,h4]
theorem Tr.pos {ns:List Nd} (T:Tr ns) {i:Nat} (hi:i<ns.length):0<lM ns i↔0<i:=by
 constructor
 ·intro h
  rcases Nat.eq_zero_or_pos i with rfl | h0
  ·rw[T.a3j hi]at h;exact h
  ·exact h0
 ·intro h
  rw[(T.par h hi).2.2];omega
theorem Tr.le {ns:List Nd} (T:Tr ns) : ∀ i,i<ns.length→lM ns i≤i:=by
 intro i
 induction i using Nat.strongRecOn with
 | ind i ih =>
   intro hi;rcases Nat.eq_zero_or_pos i with rfl | h0
   ·rw[T.a3j hi];exact Nat.le_refl 0
   ·obtain⟨a,b,c⟩:=T.par h0 hi
    have:=ih _ a (by omega)
    omega
theorem Tr.Xw {ns:List Nd} (T:Tr ns) {i:Nat} (hi:i<ns.length) : ∀ k,k≤lM ns i→uQ ns i k≤i∧uQ ns i k<ns.length∧lM ns (uQ ns i k)=lM ns i - k
 | 0,_=>⟨Nat.le_refl _,hi,rfl⟩
 | k+1,h=>by
   obtain⟨a,b,c⟩:=T.Xw hi k (by omega);have h0:0<uQ ns i k:=(T.pos b).1 (by omega);obtain⟨d,e,f⟩:=T.par h0 b
   show(qR ns (uQ ns i k)).toNat≤i∧_
   refine⟨by omega,?_,?_⟩
   ·show(qR ns (uQ ns i k)).toNat<_
    omega
   ·show lM ns (qR ns (uQ ns i k)).toNat=_
    omega
theorem b6T {ns:List Nd} {i k:Nat} (h:k≤lM ns i):(qh ns i)[k]?=some (uQ ns i (lM ns i - k)):=by
 unfold qh;rw[List.getElem?_map,List.getElem?_range (by omega)];rfl
def kH (ns:List Nd) (I:List UInt8) (h:Hd) (W:Nat):Nd:=if ns=[]then⟨I,h,-1,0,W⟩else match fB ns h.prev with
 | some i=>⟨I,h,i,lM ns i+1,iU ((ns[i]?.map Nd.work).getD 0) W⟩
 | none=>⟨I,h,-1,0,W⟩
def pU (most:Int) (ns:List Nd) (I:List UInt8) (h:Hd) (W:Nat):List Nd × Int × Int :=
 match fB ns I with
 | some i=>(ns,i,10)
 | none=>if ns≠[]∧fB ns h.prev=none then(ns,-1,9)
   else if most≤ns.length then(ns,-1,12)else(ns++[kH ns I h W],ns.length,0)
def jf (most:Int) (ns:List Nd) (h:Hd):List Nd × Int × Int:=pU most ns (df h) h (uS h.bits)
theorem U4 {ns:List Nd} {id:List UInt8} {i:Nat} (h:fB ns id=some i) : ∃ n,ns[i]?=some n∧n.id=id:=by
 unfold fB at h;rw[List.findIdx?_eq_some_iff_getElem]at h;obtain⟨h1,h2,-⟩:=h;exact⟨ns[i],List.getElem?_eq_getElem h1,by simpa using h2⟩
theorem a1Z {ns:List Nd} {id:List UInt8} (h:fB ns id=none) : ∀ n∈ns,n.id≠id:=by
 unfold fB at h;rw[List.findIdx?_eq_none_iff]at h;intro n hn e
 have:=h n hn
 simp[e]at this
theorem Wy (ns:List Nd) (I:List UInt8) (h:Hd) (W:Nat):(kH ns I h W).id=I:=by unfold kH;split <;> (try rfl);split <;> rfl
theorem b7q (ns:List Nd) (I:List UInt8) (h:Hd) (W:Nat):(kH ns I h W).head=h:=by unfold kH;split <;> (try rfl);split <;> rfl
theorem b7r (ns:List Nd) (I:List UInt8) (h:Hd) (W:Nat) (hW:W<2^256):(kH ns I h W).work<2^256:=by
 unfold kH;split
 ·exact hW
 ·split
  ·exact a6F _ _
  ·exact hW
theorem Tr.push {ns:List Nd} (T:Tr ns) {h:Hd} (ho:h.ok) {I:List UInt8} {W:Nat} (hI:I=df h) (hI2:I.length=32) (hW:W<2^256) (hn:fB ns I=none) (hp : ¬ (ns≠[]∧fB ns h.prev=none)):Tr (ns++[kH ns I h W]):=by
 have hxi:=Wy ns I h W;have hxh:=b7q ns I h W;have hxw:=b7r ns I h W hW;obtain⟨x,hx⟩ : ∃ x,kH ns I h W=x:=⟨_,rfl⟩
 rw[hx]at hxi hxh hxw;rw[hx]
 have split2 : ∀ i n,(ns++[x])[i]?=some n→ns[i]?=some n∨(i=ns.length∧n=x):=fun i n hi=>by
  by_cases hlt:i<ns.length
  ·rw[List.getElem?_append_left hlt]at hi;exact .inl hi
  ·rw[List.getElem?_append_right (by omega)]at hi
   by_cases he:i=ns.length
   ·subst he;simp at hi;exact .inr ⟨rfl,hi.symm⟩
   ·rw[List.getElem?_eq_none (by simp;omega)]at hi;cases hi
 have old : ∀ i n,ns[i]?=some n→(ns++[x])[i]?=some n:=fun i n hi=>by
  rw[List.getElem?_append_left (List.getElem?_eq_some_iff.1 hi).1];exact hi
 refine⟨fun n hn=>?_,fun n hn=>?_,fun n hn=>?_,fun i n h0 hi=>?_,fun i j n m hi hj e=>?_⟩
 ·rcases List.mem_append.1 hn with h1 | h1
  ·exact T.ok n h1
  ·rw[List.mem_singleton.1 h1];exact⟨by rw[hxi];exact hI2,by rw[hxh];exact ho,hxw⟩
 ·rcases List.mem_append.1 hn with h1 | h1
  ·exact T.id n h1
  ·rw[List.mem_singleton.1 h1,hxi,hxh];exact hI
 ·rcases split2 0 n hn with h1 | ⟨h1,rfl⟩
  ·exact T.root n h1
  ·have h2:ns=[]:=List.eq_nil_of_length_eq_zero h1.symm
   unfold kH at hx;rw[if_pos h2]at hx;rw[←hx];exact⟨rfl,rfl⟩
 ·rcases split2 i n hi with h1 | ⟨h1,rfl⟩
  ·obtain⟨p,a,b,m,c,d⟩:=T.up i n h0 h1
   exact⟨p,a,b,m,old p m c,d⟩
  ·have h2:ns≠[]:=fun e=>by rw[e]at h1;simp at h1;omega
   cases hf:fB ns h.prev with
   | none=>exact absurd ⟨h2,hf⟩ hp
   | some p =>
     obtain⟨m,hm,kR⟩:=U4 hf;unfold kH at hx;rw[if_neg h2,hf]at hx;simp only at hx;have hpl:=(List.getElem?_eq_some_iff.1 hm).1;refine⟨p,by rw[←hx],by omega,m,old p m hm,by rw[←hx,Bd hm],by rw[hxh,kR]⟩
 ·rcases split2 i n hi with h1 | ⟨h1,rfl⟩
  ·rcases split2 j m hj with h2 | ⟨h2,rfl⟩
   ·exact T.one i j n m h1 h2 e
   ·exact absurd (e.trans hxi) (a1Z hn n (List.mem_of_getElem? h1))
  ·rcases split2 j m hj with h2 | ⟨h2,rfl⟩
   ·exact absurd (e.symm.trans hxi) (a1Z hn m (List.mem_of_getElem? h2))
   ·omega
theorem Tr.pU {ns:List Nd} (T:Tr ns) {h:Hd} (ho:h.ok) (most:Int) {I:List UInt8} {W:Nat} (hI:I=df h) (hI2:I.length=32) (hW:W<2^256):Tr (pU most ns I h W).1∧(pU most ns I h W).1.length≤ns.length+1:=by
 unfold Go.Proofs.YtiagcenlnekdeaaGreatDoor.pU
 cases hf:fB ns I with
 | some i=>exact⟨T,by simp⟩
 | none =>
   simp only;by_cases hp:ns≠[]∧fB ns h.prev=none
   ·rw[if_pos hp];exact⟨T,by simp⟩
   ·rw[if_neg hp]
    by_cases hm:most≤ns.length
    ·rw[if_pos hm];exact⟨T,by simp⟩
    ·rw[if_neg hm];exact⟨T.push ho hI hI2 hW hf hp,by simp⟩
theorem Tr.add {ns:List Nd} (T:Tr ns) {h:Hd} (ho:h.ok) (most:Int):Tr (jf most ns h).1∧(jf most ns h).1.length≤ns.length+1:=T.pU ho most rfl (uB _) (Xz _)
end Go.Proofs.YtiagcenlnekdeaaGreatDoor
namespace Go.Proofs.YtiagcenlnekdeaaGreatDoor.G
open Go.RowKit
class Mk where
 m:Option Nat
theorem a2i {a b:World} (h:Keep a b) (row:Option Nat):a.grownBy b row:=⟨h.os,h.tape,h.output,h.size,fun k hk _=>h.block k hk⟩
variable [Fv:Mk]
def Gr (w w':World):Prop:=w.grownBy w' Fv.m
theorem Gr.refl (w:World):Gr w w:=⟨rfl,rfl,rfl,Nat.le_refl _,fun _ _ _=>rfl⟩
theorem Gr.drew (w:World):Gr w { w with drawn:=w.drawn+1}:=⟨rfl,rfl,rfl,Nat.le_refl _,fun _ _ _=>rfl⟩
theorem Gr.trans {a b c:World} (h:Gr a b) (k:Gr b c):Gr a c:=World.grownBy.trans h k
theorem Gr.oz {a b:World} (h:Keep a b):Gr a b:=⟨h.os,h.tape,h.output,h.size,fun k hk _=>h.block k hk⟩
open Classical in
noncomputable def oO (w x:World):World:=if Gr w x then x else w
theorem Ut (w x:World):Gr w (oO w x):=by
 unfold oO;split
 ·assumption
 ·exact Gr.refl _
theorem b1c {w w':World} (h:Gr w w'):w'=oO w w':=by unfold oO;rw[if_pos h]
theorem ja {w:World} {b o:Nat} {v:Value} (h:w.cell? ⟨b,o,none⟩=some v) (hne:Fv.m≠some b) : ∀ x,(oO w x).cell? ⟨b,o,none⟩=some v:=fun x=>qK (Ut w x) h hne
theorem b1b {w:World} {g:Nat} {t:TypeId} {cs:List Value} (h:ae w g t cs) (hne:Fv.m≠some g) (x:World):ae (oO w x) g t cs:=h.grown (Ut w x) hne
section
variable {P:Program} {ops:Array Oper} {Q:Exit→Act→World→Prop} {tl:List Nat}
def jq (P:Program) (ops:Array Oper) (Q:Exit→Act→World→Prop) (tl:List Nat):Nat→Array Bool→Act→World→Prop
 | 0,listed,a,w=>Region.ready .any ops listed=[]∧Q .normal a w
 | n+1,listed,a,w=>(Region.ready .any ops listed=[]→Q .normal a w) ∧
   ∀ i∈Region.ready .any ops listed,wpOp P ops Q i (fun a' w'=>(i ∉ tl→Gr w w')∧jq P ops Q tl n (listed.setIfInBounds i true) a' w') a w
theorem G9 : ∀ (n:Nat) (listed:Array Bool) (a:Act) (w:World),jq P ops Q tl n listed a w→wpAny P .any ops Q n listed a w
 | 0,_,_,_,h=>h
 | n+1,_,_,_,h=>⟨h.1,fun i hi=>wpOp_mono (fun a' w' h'=>G9 n _ a' w' h'.2) (h.2 i hi)⟩
theorem MI (hs:Region.noSelect ops=true) {i:Nat} {oi:Oper} {v:Value} (hi:ops[i]?=some oi) (hQ : ∀ c a w,Q (.panic c) (a.put oi.dst v) w→Q (.panic c) a w)
  {S:World→Prop} (hk : ∀ w w',S w→Gr w w'→S w') (hr:(∀ j∈tl,Bv ops j i=true) ∨ ∀ w,S w) : ∀ (fuel:Nat) (listed:Array Bool) (a:Act) (w:World),Closed ops listed →
   (∀ j oj,ops[j]?=some oj→j≠i→listed.getD j true=false→(∀ e∈oj.after,Region.binds .any e=true→e.on≠i)→oi.apart ops oj=true) →
   i∈Region.ready .any ops listed→YieldsIf P ops S oi v a→S w →
   jq P ops Q tl fuel (listed.setIfInBounds i true) (a.put oi.dst v) w→jq P ops Q tl (fuel+1) listed a w:=by
 intro fuel;have hsel:=fun j o cs b (h:ops[j]?=some o)=>Region.noSelect_spec hs j o cs b h
 induction fuel with
 | zero =>
   intro listed a w _ _ kS hy hS H;refine⟨fun h=>absurd kS (by rw[h];simp),fun j hj=>?_⟩;by_cases hji:j=i
   ·subst hji;exact hy.wpOp hi hS ⟨fun _=>Gr.refl _,H⟩
   ·have:=ready_mono hj hji
    rw[H.1]at this
    cases this
 | succ fuel ih =>
   intro listed a w hc hfree kS hy hS H;refine⟨fun h=>absurd kS (by rw[h];simp),fun j hj=>?_⟩;by_cases hji:j=i
   ·subst hji;exact hy.wpOp hi hS ⟨fun _=>Gr.refl _,H⟩
   ·have h1:=H.2 j (ready_mono hj hji)
    obtain⟨hjun,oj,hoj,hall⟩:=mem_ready.1 hj;have Ku:=(mem_ready.1 kS).1
    have hnot : ∀ e∈oj.after,Region.binds .any e=true→e.on≠i:=fun e he hb heq=>by
     have h1:=hall e he hb;rw[heq,O9 Ku]at h1
     cases h1
    have hjt:j ∉ tl ∨ ∀ w,S w:=hr.imp (fun hr hjt=>by
     have:=a5V hc j i (fun k hk=>W9 hj hk) (hr j hjt)
     rw[O9 Ku]at this
     cases this) id
    have h2:=wpOp_putIf hoj (hfree j oj hoj hji hjun hnot) (fun cs b=>hsel i oi cs b hi) (fun cs b=>hsel j oj cs b hoj) hQ hy h1
    have hfree' : ∀ k ok,ops[k]?=some ok→k≠i→(listed.setIfInBounds j true).getD k true=false →
      (∀ e∈ok.after,Region.binds .any e=true→e.on≠i)→oi.apart ops ok=true:=fun k ok hk hki hun hno=>by
     refine hfree k ok hk hki ?_ hno;by_cases hjk:j=k
     ·subst hjk;exact hjun
     ·rw[getD_set_ne true hjk]at hun;exact hun
    refine wpOp_mono (fun a' w' h3=>⟨fun hn=>h3.2.1 hn,ih (listed.setIfInBounds j true) a' w' (hc.az hj) hfree' (ready_mono kS (Ne.symm hji)) h3.1 (hjt.elim (fun hn=>hk _ _ hS (h3.2.1 hn)) (fun h=>h _)) ?_⟩) h2;rw[Array.setIfInBounds_comm _ _ hji];exact h3.2.2
def JX (o:Oper):Bool :=
 match o.op with
 | .move _ | .assign _ | .extract .. => true
 | _=>false
def yB (ops:Array Oper) (tl:List Nat):List Nat→Array Bool→Bool
 | [],_=>true
 | i::l,listed=>(Region.ready .any ops listed).contains i&&Region.free .any ops listed i&&(match ops[i]? with | some o=>Gx o | none=>false)&&((match ops[i]? with | some o=>JX o | none=>false) || tl.all fun j=>Bv ops j i)&&yB ops tl l (listed.setIfInBounds i true)
def qI (ops:Array Oper):List Nat→Array Bool→Bool
 | [],_=>true
 | i::l,listed=>decide (Region.ready .any ops listed=[i])&&qI ops l (listed.setIfInBounds i true)
def eu (P:Program) (ops:Array Oper) (Q:Exit→Act→World→Prop) (N:Act→World→Prop):List Oper→Act→World→Prop
 | [],a,w=>N a w
 | o::l,a,w=>if Region.wanted o (yielded ops a.tmps)then(∀ K:Act→World→Prop,(∀ a' w',Gr w w'→eu P ops Q N l a' w'→K a' w')→o.wp P a w K Q)else eu P ops Q N l (a.put o.dst undef) w
theorem MK (t0:List Nat) : ∀ (t:List Nat) (T:List Oper) (listed:Array Bool) (a:Act) (w:World),(∀ i∈t,i∈t0)→qI ops t listed=true→Region.ready .any ops (jO listed t)=[] →
  (∀ (k:Nat),T[k]?=(t[k]?).bind (fun(i:Nat)=>ops[i]?))→wpList P ops Q T a w→jq P ops Q t0 t.length listed a w
 | [],T,listed,a,w,_,_,he,hT,hw=>by
   have:T=[]:=by cases T with
    | nil=>rfl
    | cons x T=>have:=hT 0;simp at this
   subst this;exact⟨he,hw⟩
 | t::l,T,listed,a,w,h0,hB,he,hT,hw=>by
   simp only[qI,Bool.and_eq_true,decide_eq_true_eq]at hB;refine⟨fun h0=>(by rw[hB.1]at h0;cases h0),fun i hi=>?_⟩;rw[hB.1]at hi;obtain rfl:i=t:=by simpa using hi
   have hlt:i<ops.size:=by
    have hr:i∈Region.ready .any ops listed:=by rw[hB.1];simp
    obtain⟨o,ho,_⟩:=(mem_ready.1 hr).2;exact(Array.getElem?_eq_some_iff.1 ho).1
   cases T with
   | nil=>have:=hT 0;simp[hlt]at this
   | cons o T =>
     have ho:ops[i]?=some o:=by have:=hT 0;simpa using this.symm
     have hw':wpOp P ops Q i (wpList P ops Q T) a w:=by unfold wpOp;simp only[ho];exact hw
     exact wpOp_mono (fun a' w' h'=>⟨fun hn=>absurd (h0 i (by simp)) hn,MK t0 l T _ a' w' (fun j hj=>h0 j (by simp[hj])) hB.2 he (fun k=>by have:=hT (k+1);simpa using this) h'⟩) hw'
theorem MJ (g:Nat) {N:Act→World→Prop} : ∀ (l:List Nat) (L:List Oper) (listed:Array Bool) (a:Act) (w:World),Closed ops listed→qI ops l listed=true →
  (∀ (k:Nat),L[k]?=(l[k]?).bind (fun(i:Nat)=>ops[i]?))→(∀ a w,Closed ops (jO listed l)→N a w→jq P ops Q tl g (jO listed l) a w)→eu P ops Q N L a w→jq P ops Q tl (g+l.length) listed a w
 | [],L,listed,a,w,hc,_,hL,hN,h=>by
   have:L=[]:=by cases L with
    | nil=>rfl
    | cons x T=>have:=hL 0;simp at this
   subst this;exact hN a w hc h
 | t::l,L,listed,a,w,hc,hB,hL,hN,h=>by
   simp only[qI,Bool.and_eq_true,decide_eq_true_eq]at hB;refine⟨fun h0=>(by rw[hB.1]at h0;cases h0),fun i hi=>?_⟩;have hi':=hi;rw[hB.1]at hi;obtain rfl:i=t:=by simpa using hi
   have hlt:i<ops.size:=by
    obtain⟨o,ho,_⟩:=(mem_ready.1 hi').2;exact(Array.getElem?_eq_some_iff.1 ho).1
   cases L with
   | nil=>have:=hL 0;simp[hlt]at this
   | cons o L =>
     have ho:ops[i]?=some o:=by have:=hL 0;simpa using this.symm
     have go:=fun(a':Act) (w':World) (h':eu P ops Q N L a' w')=>MJ g l L (listed.setIfInBounds i true) a' w' (hc.az hi') hB.2 (fun k=>by have:=hL (k+1);simpa using this) hN h';unfold wpOp;simp only[ho];unfold eu at h
     split at h
     ·rename_i hwt
      rw[if_pos hwt];exact .inl (h _ fun a' w' hk h'=>⟨fun _=>hk,go a' w' h'⟩)
     ·rename_i hwt
      rw[if_neg hwt];exact⟨fun _=>Gr.refl _,go _ _ h⟩
theorem G8 (hs:Region.noSelect ops=true) (hQ : ∀ c a x v w,Q (.panic c) (a.put x v) w→Q (.panic c) a w) (g:Nat) (w w0:World) (hw:Gr w0 w) : ∀ (l:List Nat) (L:List Oper) (listed:Array Bool) (a:Act),Closed ops listed→yB ops tl l listed=true →
  (∀ (k:Nat),L[k]?=(l[k]?).bind (fun(i:Nat)=>ops[i]?))→wpQuiet P ops (fun w' => ∃ x,w'=oO w0 x) (fun a'=>Closed ops (jO listed l)→jq P ops Q tl g (jO listed l) a' w) L a→jq P ops Q tl (g+l.length) listed a w
 | [],L,listed,a,hc,_,hL,h=>by
   have:L=[]:=by cases L with
    | nil=>rfl
    | cons x T=>have:=hL 0;simp at this
   subst this;exact h hc
 | i::l,L,listed,a,hc,hB,hL,h=>by
   simp only[yB,Bool.and_eq_true]at hB;obtain⟨⟨⟨⟨hr,hf⟩,hpl⟩,hre⟩,hB⟩:=hB;have hr':i∈Region.ready .any ops listed:=by simpa using hr
   have hi:i<ops.size:=by
    obtain⟨o,ho,_⟩:=(mem_ready.1 hr').2;exact(Array.getElem?_eq_some_iff.1 ho).1
   cases L with
   | nil=>have:=hL 0;simp[hi]at this
   | cons o L =>
     have ho:ops[i]?=some o:=by have:=hL 0;simpa using this.symm
     rw[ho]at hpl;have h1:qOp P ops (fun w' => ∃ x,w'=oO w0 x) i (wpQuiet P ops (fun w' => ∃ x,w'=oO w0 x) (fun a'=>Closed ops (jO listed (i::l))→jq P ops Q tl g (jO listed (i::l)) a' w) L) a:=by unfold qOp;simp only[ho];exact h
     obtain⟨v,hy,h⟩:=yieldsIn_of_qOp ho h1
     have hy':YieldsIf P ops (fun w'=>Gr w0 w') o v a:=by
      rcases hy with⟨h2,h3⟩ | h2
      ·exact .inl ⟨h2,fun w hw=>a5N hpl (h3 w ⟨_,b1c hw⟩)⟩
      ·exact .inr h2
     have:=G8 hs hQ g w w0 hw l L (listed.setIfInBounds i true) (a.put o.dst v) (hc.az hr') hB (fun k=>by have:=hL (k+1);simpa using this) h
     rw[ho,Bool.or_eq_true]at hre;rcases hre with hre | hre
     ·have hy2:YieldsIf P ops (fun _=>True) o v a:=by
       rcases hy' with⟨h2,h3⟩ | h2
       ·exact .inl ⟨h2,fun w' _=>a2c hre (h3 w hw) w'⟩
       ·exact .inr h2
      exact MI hs ho (fun c a w=>hQ c a _ _ w) (fun _ _ _ _=>trivial) (.inr fun _=>trivial) _ listed a w hc (Region.free_spec ho hf) hr' hy2 trivial this
     ·exact MI hs ho (fun c a w=>hQ c a _ _ w) (fun _ _ h1 h2=>Gr.trans h1 h2) (.inl fun j hj=>List.all_eq_true.1 hre j hj) _ listed a w hc (Region.free_spec ho hf) hr' hy' hw this
def total:List (Bool × List Nat)→Nat
 | []=>0
 | (_,l)::r=>total r+l.length
end
section
variable {P:Program} {ops:Array Oper} {Q:Exit→Act→World→Prop} {T l:List Oper} {r:List (Bool × List Oper)} {o:Oper} {a:Act} {w:World} {N:Act→World→Prop}
theorem aS (h:N a w):eu P ops Q N [] a w:=h
theorem aI (hw:Region.wanted o (yielded ops a.tmps)=true) (h : ∀ K:Act→World→Prop,(∀ a' w',Gr w w'→eu P ops Q N l a' w'→K a' w')→o.wp P a w K Q):eu P ops Q N (o::l) a w:=by
 unfold eu;rw[if_pos hw];exact h
end
inductive Mv where
 | done
 | take (l:List Nat) (r:Mv)
 | force (l:List Nat) (r:Mv)
 | fork (i:Nat) (ri:Mv) (j:Nat) (rj:Mv)
 | qc (i:Nat) (ri:Mv) (j:Nat) (rj:Mv) (k:Nat) (rk:Mv)
def Mv.total:Mv→Nat
 | .done=>0
 | .take l r=>r.total+l.length
 | .force l r=>r.total+l.length
 | .fork _ ri _ _=>ri.total+1
 | .qc _ ri _ _ _ _=>ri.total+1
def Mv.okB (ops:Array Oper) (tl:List Nat):Mv→Array Bool→Bool
 | .done,listed=>qI ops tl listed&&decide (Region.ready .any ops (jO listed tl)=[])
 | .take l r,listed=>(l.all (· < ops.size))&&yB ops tl l listed&&r.okB ops tl (jO listed l)
 | .force l r,listed=>(l.all (· < ops.size))&&qI ops l listed&&r.okB ops tl (jO listed l)
 | .fork i ri j rj,listed=>decide (i<ops.size)&&decide (j<ops.size)&&decide (Region.ready .any ops listed=[i,j])&&decide (ri.total=rj.total)&&ri.okB ops tl (listed.setIfInBounds i true)&&rj.okB ops tl (listed.setIfInBounds j true)
 | .qc i ri j rj k rk,listed=>decide (i<ops.size)&&decide (j<ops.size)&&decide (k<ops.size)&&decide (Region.ready .any ops listed=[i,j,k])&&decide (ri.total=rj.total)&&decide (ri.total=rk.total)&&ri.okB ops tl (listed.setIfInBounds i true)&&rj.okB ops tl (listed.setIfInBounds j true)&&rk.okB ops tl (listed.setIfInBounds k true)
def Mv.wp (P:Program) (l0:List Oper) (Q:Exit→Act→World→Prop) (T:List Oper):Mv→Act→World→Prop
 | .done,a,w=>wpList P l0.toArray Q T a w
 | .take l r,a,w => ∃ w0,Gr w0 w∧wpQuiet P l0.toArray (fun w' => ∃ x,w'=oO w0 x) (fun a'=>r.wp P l0 Q T a' w) (pick l0 l) a
 | .force l r,a,w=>eu P l0.toArray Q (r.wp P l0 Q T) (pick l0 l) a w
 | .fork i ri j rj,a,w=>eu P l0.toArray Q (ri.wp P l0 Q T) [nth l0 i] a w∧eu P l0.toArray Q (rj.wp P l0 Q T) [nth l0 j] a w
 | .qc i ri j rj k rk,a,w=>eu P l0.toArray Q (ri.wp P l0 Q T) [nth l0 i] a w∧eu P l0.toArray Q (rj.wp P l0 Q T) [nth l0 j] a w∧eu P l0.toArray Q (rk.wp P l0 Q T) [nth l0 k] a w
section
variable {P:Program} {Q:Exit→Act→World→Prop} {tl:List Nat} {l0:List Oper}
theorem wS {ops:Array Oper} {N:Act→World→Prop} {i:Nat} {o:Oper} (ho:ops[i]?=some o) {listed:Array Bool} {a:Act} {w:World} {g:Nat} (hN : ∀ a w,N a w→jq P ops Q tl g (listed.setIfInBounds i true) a w)
  (h:eu P ops Q N [o] a w):wpOp P ops Q i (fun a' w'=>(i ∉ tl→Gr w w')∧jq P ops Q tl g (listed.setIfInBounds i true) a' w') a w:=by
 unfold wpOp;simp only[ho];unfold eu at h
 split at h
 ·rename_i hwt
  rw[if_pos hwt];exact .inl (h _ fun a' w' hk h'=>⟨fun _=>hk,hN _ _ h'⟩)
 ·rename_i hwt
  rw[if_neg hwt];exact⟨fun _=>Gr.refl _,hN _ _ h⟩
theorem Mv.sound (hs:Region.noSelect l0.toArray=true) (hQ : ∀ c a x v w,Q (.panic c) (a.put x v) w→Q (.panic c) a w) (htl : ∀ i∈tl,i<l0.length) : ∀ (mv:Mv) (listed:Array Bool) (a:Act) (w:World),Closed l0.toArray listed→mv.okB l0.toArray tl listed=true →
  mv.wp P l0 Q (pick l0 tl) a w→jq P l0.toArray Q tl (mv.total+tl.length) listed a w
 | .done,listed,a,w,hc,hB,h=>by
   simp only[Mv.okB,Bool.and_eq_true,decide_eq_true_eq]at hB;rw[Mv.total,Nat.zero_add];exact MK tl tl (pick l0 tl) listed a w (fun _ h=>h) hB.1 hB.2 (Dp tl htl).2 h
 | .take l r,listed,a,w,hc,hB,h=>by
   simp only[Mv.okB,Bool.and_eq_true]at hB;obtain⟨⟨hin,htk⟩,hB⟩:=hB;obtain⟨w0,hw0,hq⟩:=h;have hl : ∀ i∈l,i<l0.length:=fun i hi=>by simpa using List.all_eq_true.1 hin i hi
   rw[show(Mv.take l r).total+tl.length=(r.total+tl.length)+l.length by show r.total+l.length+tl.length=_;omega];exact G8 hs hQ _ w w0 hw0 l (pick l0 l) listed a hc htk (Dp l hl).2 (LV (fun a' h' hc'=>Mv.sound hs hQ htl r _ a' w hc' hB h') _ _ hq)
 | .force l r,listed,a,w,hc,hB,h=>by
   simp only[Mv.okB,Bool.and_eq_true]at hB;obtain⟨⟨hin,hfo⟩,hB⟩:=hB;have hl : ∀ i∈l,i<l0.length:=fun i hi=>by simpa using List.all_eq_true.1 hin i hi
   rw[show(Mv.force l r).total+tl.length=(r.total+tl.length)+l.length by show r.total+l.length+tl.length=_;omega];exact MJ _ l (pick l0 l) listed a w hc hfo (Dp l hl).2 (fun a' w' hc' h'=>Mv.sound hs hQ htl r _ a' w' hc' hB h') h
 | .fork i ri j rj,listed,a,w,hc,hB,h=>by
   simp only[Mv.okB,Bool.and_eq_true,decide_eq_true_eq]at hB;obtain⟨⟨⟨⟨⟨hi,hj⟩,hr⟩,ht⟩,Dv⟩,Dw⟩:=hB;obtain⟨h1,h2⟩:=h;have hoi:l0.toArray[i]?=some (nth l0 i):=by simp at hi ⊢;simp[nth,hi]
   have hoj:l0.toArray[j]?=some (nth l0 j):=by simp at hj ⊢;simp[nth,hj]
   have kS:i∈Region.ready .any l0.toArray listed:=by rw[hr];simp
   have DY:j∈Region.ready .any l0.toArray listed:=by rw[hr];simp
   rw[show(Mv.fork i ri j rj).total+tl.length=(ri.total+tl.length)+1 by show ri.total+1+tl.length=_;omega];refine⟨fun h0=>(by rw[hr]at h0;cases h0),fun k hk=>?_⟩;rw[hr]at hk;have hk':k=i∨k=j:=by simpa using hk
   by_cases hki:k=i
   ·subst hki
    exact wS hoi (fun a' w' h'=>Mv.sound hs hQ htl ri _ a' w' (hc.az kS) Dv h') h1
   ·obtain rfl:k=j:=hk'.resolve_left hki
    rw[ht];exact wS hoj (fun a' w' h'=>Mv.sound hs hQ htl rj _ a' w' (hc.az DY) Dw h') h2
 | .qc i ri j rj k rk,listed,a,w,hc,hB,h=>by
   simp only[Mv.okB,Bool.and_eq_true,decide_eq_true_eq]at hB;obtain⟨⟨⟨⟨⟨⟨⟨⟨hi,hj⟩,hk⟩,hr⟩,ht⟩,ht2⟩,Dv⟩,Dw⟩,Vb⟩:=hB;obtain⟨h1,h2,h3⟩:=h;have hoi:l0.toArray[i]?=some (nth l0 i):=by simp at hi ⊢;simp[nth,hi]
   have hoj:l0.toArray[j]?=some (nth l0 j):=by simp at hj ⊢;simp[nth,hj]
   have hok:l0.toArray[k]?=some (nth l0 k):=by simp at hk ⊢;simp[nth,hk]
   have kS:i∈Region.ready .any l0.toArray listed:=by rw[hr];simp
   have DY:j∈Region.ready .any l0.toArray listed:=by rw[hr];simp
   have hrk:k∈Region.ready .any l0.toArray listed:=by rw[hr];simp
   rw[show(Mv.qc i ri j rj k rk).total+tl.length=(ri.total+tl.length)+1 by show ri.total+1+tl.length=_;omega];refine⟨fun h0=>(by rw[hr]at h0;cases h0),fun m hm=>?_⟩;rw[hr]at hm;have hm':m=i∨m=j∨m=k:=by simpa using hm
   by_cases kR:m=i
   ·subst kR
    exact wS hoi (fun a' w' h'=>Mv.sound hs hQ htl ri _ a' w' (hc.az kS) Dv h') h1
   ·by_cases hmj:m=j
    ·subst hmj
     rw[ht];exact wS hoj (fun a' w' h'=>Mv.sound hs hQ htl rj _ a' w' (hc.az DY) Dw h') h2
    ·obtain rfl:m=k:=(hm'.resolve_left kR).resolve_left hmj
     rw[ht2];exact wS hok (fun a' w' h'=>Mv.sound hs hQ htl rk _ a' w' (hc.az hrk) Vb h') h3
end
def Lm (ops:Array Oper) (mv:Mv) (tl:List Nat):Bool :=
 Region.noSelect ops&&(tl.all (· < ops.size))&&decide (mv.total+tl.length=ops.size)&&mv.okB ops tl (Array.replicate ops.size false)
theorem bu {P:Program} {id:Nat} {Q:Exit→Act→World→Prop} {a:Act} {w:World} {l:List Oper} (mv:Mv) (tl:List Nat) (hm:P.follows .mixedOrders=true) (hB:Lm l.toArray mv tl=true)
  (h : ∀ w1,Keep w w1→mv.wp P l (Exit.then (fun a w=>Q .normal a w) (fun _ _ _=>False)) (pick l tl) a w1):(Code.region id l.toArray true).wp P Q a w:=by
 simp only[Lm,Bool.and_eq_true,decide_eq_true_eq]at hB;obtain⟨⟨⟨hs,htl⟩,hlen⟩,hB⟩:=hB
 refine wp_mono (Q:=Exit.then (fun a w=>Q .normal a w) (fun _ _ _=>False)) (wp_region_any hm ?_) fun e a w h=>by
  cases e with
  | normal=>exact h
  | _=>exact False.elim h
 have:=Mv.sound (P:=P) (Q:=Exit.then (fun a w=>Q .normal a w) (fun _ _ _=>False)) hs (fun _ _ _ _ _ h=>h) (fun i hi=>by simpa using List.all_eq_true.1 htl i hi) mv _ a { w with drawn:=w.drawn+1} (UL _ _) hB (h _ (((Below.refl _ _).drew)))
 rw[hlen]at this;exact G9 _ _ _ _ this
section
variable {P:Program} {l0 T:List Oper} {Q:Exit→Act→World→Prop} {a:Act} {w:World} {l:List Nat} {r ri rj rk:Mv} {i j k:Nat}
theorem aN (w0:World) (hw:Gr w0 w) (h:wpQuiet P l0.toArray (fun w' => ∃ x,w'=oO w0 x) (fun a'=>r.wp P l0 Q T a' w) (pick l0 l) a):(Mv.take l r).wp P l0 Q T a w:=⟨w0,hw,h⟩
theorem bI (h:eu P l0.toArray Q (r.wp P l0 Q T) (pick l0 l) a w):(Mv.force l r).wp P l0 Q T a w:=h
theorem ny (h1:eu P l0.toArray Q (ri.wp P l0 Q T) [nth l0 i] a w) (h2:eu P l0.toArray Q (rj.wp P l0 Q T) [nth l0 j] a w):(Mv.fork i ri j rj).wp P l0 Q T a w:=⟨h1,h2⟩
theorem Wv (h1:eu P l0.toArray Q (ri.wp P l0 Q T) [nth l0 i] a w) (h2:eu P l0.toArray Q (rj.wp P l0 Q T) [nth l0 j] a w) (h3:eu P l0.toArray Q (rk.wp P l0 Q T) [nth l0 k] a w):(Mv.qc i ri j rj k rk).wp P l0 Q T a w:=⟨h1,h2,h3⟩
theorem aT (h:wpList P l0.toArray Q T a w):Mv.done.wp P l0 Q T a w:=h
end
theorem zV {P:Program} {w0:World} {ops:Array Oper} {rest:List Oper} {a:Act} {Q:Act→Prop} {x:Operand} {dst:Option Tmp} {ty ty' t:TypeId} {pos:String} {eG:Array Edge}
  (g:Nat) (cs:Array Value) (hx:a.eval x = .pointer (some ⟨g,0,none⟩)) (hb:ae w0 g t cs.toList) (hne:Fv.m≠some g) (d:TypeDesc) (hu:P.underlying ty=some d) (hd:d.isRow=true) (hi:(P.info? ty).map (·.size)=some cs.size)
  (h:wpQuiet P ops (fun w' => ∃ x,w'=oO w0 x) Q rest (a.put dst (.agg cs))) :
  wpQuiet P ops (fun w' => ∃ x,w'=oO w0 x) Q ({ dst:=dst,op:=.load ty x,type:=ty',pos:=pos,after:=eG,guard:=none}::rest) a:=by
 refine BigFrame.wpQuiet_want (by simp[Region.wanted]) fun K hK=>⟨.agg cs,fun w hw=>?_,hK _ h⟩
 obtain⟨y,rfl⟩:=hw;have hb2:=b1b hb hne y;unfold Oper.quietAt execOp;have hl:=run_loadVar_mid (P:=P) (oO w0 y) g 0 ty cs.toList d (fun j v hv=>by rw[Nat.zero_add,hb2.cell];exact hv) hu hd (by simpa using hi);simp only[hx,Instr.loadAt,Instr.sureAddr,Sem.run_bind,Sem.run_pure,Result.andThen_ok,hl,Array.toArray_toList];exact⟨rfl,rfl⟩
end Go.Proofs.YtiagcenlnekdeaaGreatDoor.G
namespace Go.Proofs.YtiagcenlnekdeaaGreatDoor
structure DStep (y1 y0 u n q r : Nat) : Prop where
  e : q * y1 + r = u
  ge : (u * 4294967296 + n) / (y1 * 4294967296 + y0) ≤ q
  q2 : q ≤ 4294967297
  rl : r < 4294967296
section
variable {y1 y0 u n q r : Nat}
theorem a1y (h1 : 2147483648 ≤ y1) (h2 : y1 < 4294967296) (h3 : y0 < 4294967296) (hu : u < y1 * 4294967296 + y0) (hn : n < 4294967296) : DStep y1 y0 u n (u / y1) (u % y1) := by
  have hp : 0 < y1 := by omega
  have hm := Nat.mod_lt u hp;have hd := Nat.div_add_mod u y1;refine ⟨by rw [Nat.mul_comm]; exact hd, ?_, ?_, by omega⟩
  · apply Nat.le_of_lt_succ
    rw [Nat.div_lt_iff_lt_mul (by omega), Nat.succ_mul, Nat.mul_add, ← Nat.mul_assoc];generalize hb : u / y1 * y0 = b;rw [Nat.mul_comm y1] at hd;generalize u / y1 * y1 = a at *;omega
  · apply Nat.le_of_lt_succ
    rw [Nat.div_lt_iff_lt_mul hp]
    show u < 4294967298 * y1
    omega
theorem UT (hu : u < y1 * 4294967296 + y0) (hn : n < 4294967296) : (u * 4294967296 + n) / (y1 * 4294967296 + y0) < 4294967296 := by
  rw [Nat.div_lt_iff_lt_mul (by omega)];omega
theorem a1x (hp : 0 < y1) (h : DStep y1 y0 u n q r) (hb : q * y0 ≤ 4294967296 * r + n) : q = (u * 4294967296 + n) / (y1 * 4294967296 + y0) := by
  refine Nat.le_antisymm ?_ h.ge;rw [Nat.le_div_iff_mul_le (by omega), Nat.mul_add, ← Nat.mul_assoc];have he := h.e;generalize q * y1 = a at *;generalize q * y0 = b at *;omega
theorem a1z (hp : 0 < y1) (hu : u < y1 * 4294967296 + y0) (hn : n < 4294967296) (h : DStep y1 y0 u n q r) (hb : ¬ (q < 4294967296 ∧ q * y0 ≤ 4294967296 * r + n)) :
    1 ≤ q ∧ (u * 4294967296 + n) / (y1 * 4294967296 + y0) ≤ q - 1 ∧ (q - 1) * y1 + (r + y1) = u ∧ q - 1 ≤ 4294967296 := by
  have hQ := UT hu hn
  have hlt : (u * 4294967296 + n) / (y1 * 4294967296 + y0) < q := by
    by_cases hq : q < 4294967296
    · have hb2 : ¬ q * y0 ≤ 4294967296 * r + n := fun e => hb ⟨hq, e⟩
      rw [Nat.div_lt_iff_lt_mul (by omega), Nat.mul_add, ← Nat.mul_assoc];have he := h.e;generalize q * y1 = a at *;generalize q * y0 = b at *;omega
    · exact Nat.lt_of_lt_of_le hQ (Nat.le_of_not_lt hq)
  generalize (u * 4294967296 + n) / (y1 * 4294967296 + y0) = Q at *;have h1 : 1 ≤ q := by omega
  have h2 := h.q2;refine ⟨h1, by omega, ?_, by omega⟩;have he := h.e;obtain ⟨p, rfl⟩ : ∃ p, q = p + 1 := ⟨q - 1, by omega⟩
  rw [Nat.add_mul, Nat.one_mul] at he;rw [Nat.add_sub_cancel];omega
theorem a1w (hp : 0 < y1) (h3 : y0 < 4294967296) (he : q * y1 + r = u) (hge : (u * 4294967296 + n) / (y1 * 4294967296 + y0) ≤ q) (h2 : q ≤ 4294967296) (hr : 4294967296 ≤ r) : q = (u * 4294967296 + n) / (y1 * 4294967296 + y0) := by
  refine Nat.le_antisymm ?_ hge;rw [Nat.le_div_iff_mul_le (by omega), Nat.mul_add, ← Nat.mul_assoc];have hb : q * y0 ≤ 4294967296 * 4294967295 := Nat.mul_le_mul h2 (by omega);generalize q * y1 = a at *;generalize q * y0 = b at *;omega
end
theorem b2S {N y s y' u32 n1 n0 q1 q0 r1 r0 : Nat} (hy : 0 < y) (hy' : y' = y * 2 ^ s) (hU : N * 2 ^ s = (u32 * 4294967296 + n1) * 4294967296 + n0)
    (e1 : q1 = (u32 * 4294967296 + n1) / y') (e2 : r1 = (u32 * 4294967296 + n1) % y') (e3 : q0 = (r1 * 4294967296 + n0) / y') (e4 : r0 = (r1 * 4294967296 + n0) % y') :
    q1 * 4294967296 + q0 = N / y ∧ r0 / 2 ^ s = N % y := by
  have hp : 0 < 2 ^ s := Nat.two_pow_pos s;have hyp : 0 < y' := by rw [hy']; exact Nat.mul_pos hy hp
  have a1 := Nat.div_add_mod (u32 * 4294967296 + n1) y';have a2 := Nat.div_add_mod (r1 * 4294967296 + n0) y';have a3 : r0 < y' := by rw [e4]; exact Nat.mod_lt _ hyp
  rw [← e1, ← e2] at a1;rw [← e3, ← e4] at a2
  have hE : N * 2 ^ s = y' * (q1 * 4294967296 + q0) + r0 := by
    rw [hU, ← a1, Nat.mul_add, Nat.add_mul, ← Nat.mul_assoc];generalize y' * q1 = b at *;omega
  have hd : N * 2 ^ s / y' = q1 * 4294967296 + q0 := by
    rw [hE, Nat.mul_add_div hyp, Nat.div_eq_of_lt a3, Nat.add_zero]
  have hm : N * 2 ^ s % y' = r0 := by
    rw [hE, Nat.mul_add_mod, Nat.mod_eq_of_lt a3]
  rw [hy', Nat.mul_div_mul_right _ _ hp] at hd;rw [hy', Nat.mul_mod_mul_right] at hm;exact ⟨hd.symm, by rw [← hm]; exact Nat.mul_div_cancel _ hp⟩
theorem a4T (T i:Nat):T%2^(64*(i+1))=T%2^(64*i)+2^(64*i)*limb T i:=by
 rw[show 64*(i+1)=64*i+64 by omega,Nat.pow_add,Nat.mod_mul];rfl
theorem b6L {S X i j:Nat} (hj:j<i):limb (S+2^(64*i)*X) j=limb S j:=by
 unfold limb
 have e:2^(64*i)*X=2^(64*j)*(2^64*(2^(64*(i - j - 1))*X)):=by
  rw[←Nat.mul_assoc,←Nat.mul_assoc,←Nat.pow_add,←Nat.pow_add]
  congr 2;omega
 rw[e,Nat.add_mul_div_left _ _ (Nat.two_pow_pos _),Nat.add_mul_mod_self_left]
theorem b9F {S i:Nat} (hS:S<2^(64*(i+1))):S=S%2^(64*i)+2^(64*i)*limb S i:=by
 have h:=a4T S i;rw[Nat.mod_eq_of_lt hS]at h;exact h
theorem a4C {r Z i k:Nat} (hr:r<2^(64*i)):limb (r+2^(64*i)*Z) (i+k)=limb Z k:=by
 unfold limb;rw[show 64*(i+k)=64*i+64*k by omega,Nat.pow_add,←Nat.div_div_eq_div_mul,Nat.add_mul_div_left _ _ (Nat.two_pow_pos _),Nat.div_eq_of_lt hr,Nat.zero_add]
theorem b8o {S X i:Nat} (hS:S<2^(64*(i+1))) (hX:limb S i+X<2^128) :
  (∀ j,j<i→limb (S+2^(64*i)*X) j=limb S j)∧limb (S+2^(64*i)*X) i=(limb S i+X)%2^64∧limb (S+2^(64*i)*X) (i+1)=(limb S i+X)/2^64∧S+2^(64*i)*X<2^(64*(i+1+1)):=by
 have hs:=b9F hS;have hr:S%2^(64*i)<2^(64*i):=Nat.mod_lt _ (Nat.two_pow_pos _)
 have e:S+2^(64*i)*X=S%2^(64*i)+2^(64*i)*(limb S i+X):=by
  rw[Nat.mul_add,←Nat.add_assoc,←hs]
 refine⟨fun j hj=>b6L hj,?_,?_,?_⟩
 ·have h:=a4C (Z:=limb S i+X) (k:=0) hr
  rw[←e]at h;rw[Nat.add_zero]at h;rw[h];simp[limb]
 ·have h:=a4C (Z:=limb S i+X) (k:=1) hr
  rw[←e]at h;rw[h]
  show(limb S i+X)/2^(64*1)%2^64=_
  rw[Nat.mul_one,Nat.mod_eq_of_lt];rw[Nat.div_lt_iff_lt_mul (Nat.two_pow_pos _),←Nat.pow_add];exact hX
 ·rw[e]
  have h1:2^(64*i)*(limb S i+X+1)≤2^(64*i)*2^128:=Nat.mul_le_mul_left _ hX;rw[Nat.mul_add,Nat.mul_one,←Nat.pow_add]at h1;rw[show 64*(i+1+1)=64*i+128 by omega];omega
theorem b65 {a t num:Nat} (ha:a<2^64) (ht:t<2^64) (hn:num<2^64) :
  a+t*num<2^128∧(a+t*num)%2^64=(a+t*num%2^64)%2^64∧(a+t*num)/2^64=t*num/2^64+(a+t*num%2^64)/2^64∧t*num/2^64+(a+t*num%2^64)/2^64<2^64:=by
 have h1:t*num≤(2^64 - 1)*(2^64 - 1):=Nat.mul_le_mul (by omega) (by omega);generalize t*num=p at *;simp only[Nat.reducePow,Nat.reduceSub,Nat.reduceMul]at *;omega
theorem b8y {P den i:Nat} (hd:0<den):limb (P/den) i=(P/2^(64*(i+1))%den*2^64+limb P i)/den:=by
 obtain⟨h1,_,h3⟩:=a1C (P:=P) (i:=i) hd;unfold limb;rw[Nat.div_div_eq_div_mul,Nat.mul_comm den,←Nat.div_div_eq_div_mul,h1]
 show(_*2^64+_)%2^64=_
 rw[Nat.mul_comm,Nat.mul_add_mod,Nat.mod_eq_of_lt h3];rfl
theorem a6U {P:Nat} (h:P<2^64*2^256):P/2^256=limb P 4:=by
 unfold limb;rw[Nat.mod_eq_of_lt];rw[Nat.div_lt_iff_lt_mul (Nat.two_pow_pos _)];exact h
theorem b3A {P den:Nat} (h:P<2^64*2^256) (hd:0<den):limb P 4/den=0↔P/den<2^256:=by
 rw[←a6U h,Nat.div_div_eq_div_mul,Nat.mul_comm,←Nat.div_div_eq_div_mul];constructor
 ·intro e
  have:=Nat.div_eq_zero_iff.1 e
  rcases this with h | h
  ·exact absurd h (by decide)
  ·exact h
 ·intro e;exact Nat.div_eq_of_lt e
end Go.Proofs.YtiagcenlnekdeaaGreatDoor
namespace Go.Proofs.YtiagcenlnekdeaaGreatDoor
open Go.RowKit
attribute [local go_sem ↓] Go.wp_at_zero Go.wp_at_succ
theorem a15 : ∀ (l:List Value) (k:Nat) (acc:Array Value),k+l.length=acc.size→(l.zipIdx k).foldl (fun cs x=>cs.setIfInBounds (0+x.2) x.1) acc=(acc.toList.take k++l).toArray
 | [],k,acc,h=>by
   have:acc.toList.take k=acc.toList:=List.take_of_length_le (by simp at h ⊢;omega)
   simp[this]
 | v::r,k,acc,h=>by
   rw[List.zipIdx_cons,List.foldl_cons,a15 r (k+1) _ (by simp at h ⊢;omega)];have hk:k<acc.size:=by simp at h;omega
   congr 1
   rw[Array.toList_setIfInBounds,Nat.zero_add,List.take_succ_eq_append_getElem (by simpa using hk),List.getElem_set_self,List.take_set_of_le (Nat.le_refl _)];simp
theorem Ha {P:Program} {t e:TypeId} {zc:Array Value} {size bytes:Nat} (T:dL P t e (.agg zc) size bytes) {o:Oper} {a:Act} {w:World} {K:Act→World→Prop} {Q:Exit→Act→World→Prop} (x:Operand) (ho:o.op = .buildSlice t 1 #[(0,x)])
  (cs:Array Value) (hz:cs.size=size) (hsm:size≤1000) (hx:a.eval x = .agg cs)
  (h:K (a.put o.dst (.slice (some ⟨w.heap.size,0,none⟩) 1 1)) (w.alloc (.cells cs e))):o.wp P a w K Q:=by
 obtain⟨i,hi,hiz,his,_⟩:=T.info;have hzc:zc.size=size:=T.zs;have hp:=T.pos;refine wp_buildSlice t e 1 _ ho cs i (.agg zc) T.und hi hiz (by rw[his];omega) (by rw[his];omega) ?_ h;have hc:(Value.agg cs).cells=cs:=rfl;simp only[List.map_toArray,List.map_cons,List.map_nil,hx,Instr.fill,hc,his,hz,Nat.zero_mul,Nat.one_mul];rw[if_neg (by simp)]
 congr 1
 rw[←Array.foldl_toList,Array.toList_zipIdx];have hf:=a15 cs.toList 0 ((Array.range size).map fun j=>zc[j%zc.size]!) (by simp[hz]);simp only[List.take_zero,List.nil_append,Array.toArray_toList]at hf;exact hf
theorem PD:dL prog 86 29 (Value.agg uU) 68 80:=dL.mk' underlying86 (by kernel_rfl) Ew (by omega)
theorem Gl {l:List UInt8} (h:l.length=32) : ∃ a0 a1 a2 a3 a4 a5 a6 a7 a8 a9 b0 b1 b2 b3 b4 b5 b6 b7 b8 b9 c0 c1 c2 c3 c4 c5 c6 c7 c8 c9 d0 d1:UInt8,l=[a0,a1,a2,a3,a4,a5,a6,a7,a8,a9,b0,b1,b2,b3,b4,b5,b6,b7,b8,b9,c0,c1,c2,c3,c4,c5,c6,c7,c8,c9,d0,d1]:=by
 match l,h with
 | [a0,a1,a2,a3,a4,a5,a6,a7,a8,a9,b0,b1,b2,b3,b4,b5,b6,b7,b8,b9,c0,c1,c2,c3,c4,c5,c6,c7,c8,c9,d0,d1],_=>exact⟨a0,a1,a2,a3,a4,a5,a6,a7,a8,a9,b0,b1,b2,b3,b4,b5,b6,b7,b8,b9,c0,c1,c2,c3,c4,c5,c6,c7,c8,c9,d0,d1,rfl⟩
theorem PE {w:World} {B:Option Addr} {l:List Hd} (hr:Rd w B (l.flatMap Hd.cells)) (hk : ∀ h∈l,h.ok) {k:Nat} (h:k<l.length) :
  ∃ b off,B=some ⟨b,off,none⟩∧b<w.heap.size∧w.rangeAt b (off+k*68) l[k].cells:=by
 have hlen : ∀ a∈l,a.cells.length=68:=fun a ha=>Hd.len (hk a ha);obtain⟨b,off,rfl,hb,F⟩:=hr.at (k:=k*68) (by rw[rF _ 68 _ hlen];omega);refine⟨b,off,rfl,hb,fun j v hv=>?_⟩;have hj:j<68:=by rw[←hlen l[k] (List.getElem_mem h)];exact(List.getElem?_eq_some_iff.1 hv).1
 have hg:=JW Hd.cells 68 l hlen k j h hj;have hlt:k*68+j<(l.flatMap Hd.cells).length:=by rw[rF _ 68 _ hlen];omega
 have hc:=F (k*68+j) hlt;rw[Nat.add_assoc,hc,←hv,←hg,List.getElem?_eq_getElem hlt]
end Go.Proofs.YtiagcenlnekdeaaGreatDoor
namespace Go.Proofs.YtiagcenlnekdeaaGreatDoor
open Go.RowKit Go.Extern.Stop Go.Stop Go.Extern
attribute [local go_sem ↓] Go.wp_at_zero Go.wp_at_succ
theorem b3m:(prog.info? 36).map (·.comparable)=some true:=by kernel_rfl
theorem b3h (v:Value) (w:World):(Extern.ReflectliteType.typeOf #[.iface 36 v]).run prog w = .ok (.iface 419 (.agg #[.pointer (some ⟨6,36,none⟩)])) w:=by kernel_rfl
def a1q : Array Value → Sem Value := Extern.ReflectliteType.method fun t => do Extern.Rtype.noPackHeld "Comparable" t; pure (.bool (← typeInfo t).comparable)
theorem b3c (w:World):(a1q #[.agg #[.pointer (some ⟨6,36,none⟩)]]).run prog w = .ok (.bool true) w:=by kernel_rfl
theorem b3d (v : Value) (w : World) : (Go.method 574 419 v "Comparable").run prog w = .ok (289, v) w := by kernel_rfl
theorem b3e (v:Value) (xT:TypeId) (w:World):(Instr.typeAssert (.iface 36 v) xT 421 true).run prog w = .ok (.tuple #[.nilIface,.bool false]) w:=run_typeAssert_lacksB underlying421 (by kernel_rfl) (by kernel_rfl) v xT w
theorem b3f (v:Value) (xT:TypeId) (w:World):(Instr.typeAssert (.iface 36 v) xT 424 true).run prog w = .ok (.tuple #[.nilIface,.bool false]) w:=run_typeAssert_lacksB underlying424 (by kernel_rfl) (by kernel_rfl) v xT w
theorem b3g (v:Value) (xT:TypeId) (w:World):(Instr.typeAssert (.iface 36 v) xT 426 true).run prog w = .ok (.tuple #[.nilIface,.bool false]) w:=run_typeAssert_lacksB underlying426 (by kernel_rfl) (by kernel_rfl) v xT w
theorem b3n (e:Int) (w:World):Calls prog 247 #[.iface 36 (.int .i64 e),.iface 36 (.int .i64 0)] w fun x w'=>x = .returned (.bool (e==0))∧w'=w:=by
 have h8:=@run_callFunc_extern prog 252 _ Extern.ReflectliteType.typeOf func252 (by kernel_rfl) (by kernel_rfl) (by kernel_rfl) (by kernel_rfl);have h32:=@run_callFunc_extern prog 289 _ a1q func289 (by kernel_rfl) (by kernel_rfl) (by kernel_rfl) (by kernel_rfl);have tT:=b3h;have cT:=b3c;have mR:=b3d;have nE:=b3e;have uE:=b3f;have vE:=b3g;have heq:=Lib.run_eql_iface_int (P:=prog) w (k:=.i64) e 0 underlying406 b3m underlying36;go_enter func247,ntmps247
 by_cases h0:e=0
 ·subst h0
  have hb:((0:Int)==0)=true:=rfl;rw[hb]at heq;go_wp2
  refine wp_loop_rounds 1 ?_;rw[rounds_succ];go_wp2
  go_ret
  exact⟨rfl,rfl⟩
 ·have hb:(e==0)=false:=by simp[h0]
  rw[hb]at heq ⊢;clear h0;go_wp2
  refine wp_loop_rounds 1 ?_;rw[rounds_succ];go_wp2
  go_ret
  exact⟨rfl,rfl⟩
theorem a7l (e:Int) (w:World):Calls prog 240 #[.int .i64 e] w fun x w'=>x = .returned (.bool (e != 0))∧w'=w:=by
 go_enter func240,ntmps240
 go_wp2_with fail
 refine(b3n e _).mono ?_;rintro x w' ⟨rfl,rfl⟩;go_wp2
 exact bodyPost_ret (v:=.bool (e != 0)) (by simp[results,results240,bne]) rfl ⟨rfl,rfl⟩
end Go.Proofs.YtiagcenlnekdeaaGreatDoor
namespace Go.Proofs.YtiagcenlnekdeaaGreatDoor
open Go.RowKit
attribute [local go_sem ↓] Go.wp_at_zero Go.wp_at_succ
theorem jU:dL prog 32 5 (.int .u8 0) 1 1:=dL.mk' underlying32 (by kernel_rfl) rfl (by omega)
theorem Qa (l:List UInt8) : ∀ u∈l.map ah,u.oneCell'=true:=by
 intro u hu;obtain⟨x,_,rfl⟩:=List.mem_map.1 hu;rfl
theorem clone_any (A:Option Addr) (l:List UInt8) (c:Nat) (w:World) (hl:l.length≤140737488355328) (hr:Rd w A (l.map ah)) :
  Calls prog 125 #[.slice A l.length c] w fun e w' => ∃ v,e = .returned v∧w'.ownsRow w.heap.size 5 1 v l.length (l.map ah)∧Keep w w':=by
 have hq:=fun W=>run_eql_slice_nil (P:=prog) W A l.length c underlying32
 cases A with
 | none =>
   obtain rfl:l=[]:=by
    rcases hr with h | ⟨b,off,h,_⟩
    ·simpa using h
    ·cases h
   simp only[List.length_nil,Option.isNone_none]at hq;go_enter func125,ntmps125
   go_wp2
   go_ret
   exact⟨_,rfl,World.ownsRow_nil _ _ _ _,Below.refl _ _⟩
 | some a =>
   go_enter func125,ntmps125
   simp only[Option.isNone_some]at hq;go_wp2_with (at_builtin;refine iF jU (by rfl) (.tmp 5) (.tmp 6) (by rfl) w.heap.size _ 0 [] (by rfl) (Qh _ _ _) _ l.length c (l.map ah) (by rfl) (by simp) (hr.alloc _) (Qa _) (by omega) (by unfold maxLen;omega) (by simp) ?_;intro v1 w1 hown1 hg1 c3e)
   go_ret
   rw[List.nil_append,Nat.zero_add]at hown1;exact⟨_,rfl,hown1,lQ ((Below.refl _ _).alloc (Nat.le_refl _) _) (by simp) hg1 (Qh _ _ 1)⟩
structure Bx (t:TypeId) (n:Nat) (l:List Value) (cs:Array Value):Prop where
 l:cs.toList=l
 z:cs.size=n
 i:(prog.info? t).map (·.size)=some cs.size
 n : ¬ cs = #[]
 o : ∀ v∈cs.toList,v.oneCell'=true
theorem Bx.of {t:TypeId} {n:Nat} {l:List Value} (hi:(prog.info? t).map (·.size)=some n) (hl:l.length=n) (h0:0<n) (ho : ∀ v∈l,v.oneCell'=true):Bx t n l l.toArray :=
 ⟨rfl,by simpa using hl,by rw[hi];simp[hl],fun e=>by have:l=[]:=by simpa using e
                                                     subst this;simp at hl;omega,by simpa using ho⟩
theorem l7 (w:World) (t:TypeId) (cs:Array Value) : ∃ y,w.alloc (.cells cs t)=y∧Hid (ae y w.heap.size t cs.toList)∧Hid (Keep w y):=⟨_,rfl,hid (ae.new w t cs.toList),hid (aB _ _)⟩
theorem oQ (w:World) (t:TypeId) (cs:Array Value) : ∃ g y,w.heap.size=g∧w.alloc (.cells cs t)=y∧w.heap.size≤g∧Hid (ae y g t cs.toList)∧Keep w y:=⟨_,_,rfl,rfl,Nat.le_refl _,hid (ae.new w t cs.toList),aB _ _⟩
theorem a6M {α β:Type} {G F:α→β→Prop} {C:Prop} (h:Hid (∀ a b,F a b→G a b)→C) (t : ∀ a b,F a b→G a b):C:=h (hid t)
theorem tail3 {α β γ:Type} {G F:α→β→γ→Prop} {C:Prop} (h:Hid (∀ a b c,F a b c→G a b c)→C) (t : ∀ a b c,F a b c→G a b c):C:=h (hid t)
theorem b99 {α β γ c1Y ε c1Z:Type} {G F:α→β→γ→c1Y→ε→c1Z→Prop} {C:Prop} (h:Hid (∀ a b c d e f,F a b c d e f→G a b c d e f)→C) (t : ∀ a b c d e f,F a b c d e f→G a b c d e f):C:=h (hid t)
section
variable {P:Program} {l0:List Oper} {Q:Exit→Act→World→Prop} {T:List Oper} {a:Act} {w:World} {l:List Nat} {r:Mv}
theorem wR (h:wpQuiet P l0.toArray (fun w' => ∃ x,w'=dn w x) (fun a'=>r.wp P l0 Q T a' w) (pick l0 l) a):(Mv.take l r).wp P l0 Q T a w:=aN w (Below.refl _ _) h
end
end Go.Proofs.YtiagcenlnekdeaaGreatDoor
namespace Go.Proofs.YtiagcenlnekdeaaGreatDoor
def fG (n k:Nat):List UInt8:=(List.range k).map fun i=>UInt8.ofNat (n/2^(8*i))
theorem Gm (n k:Nat):(fG n k).length=k:=by simp[fG]
theorem Ld (n:Nat):fG n 0=[]:=rfl
theorem Lc (n k:Nat):fG n (k+1)=fG n k++[UInt8.ofNat (n/2^(8*k))]:=by
 unfold fG;rw[List.range_succ,List.map_append];rfl
theorem b6Z (n:Nat) {k i:Nat} (h:i<k):(fG n k)[i]?=some (UInt8.ofNat (n/2^(8*i))):=by
 unfold fG;rw[List.getElem?_map,List.getElem?_range h];rfl
def fH (b:List UInt8):Nat→Nat
 | 0=>0
 | k+1=>fH b k+(b.getD k 0).toNat*2^(8*k)
theorem b8n (k:Nat):(2:Nat)^(8*(k+1))=256*2^(8*k):=by rw[Nat.mul_succ,Nat.pow_add];omega
theorem Gu (b:List UInt8) : ∀ k,fH b k<2^(8*k)
 | 0=>by simp[fH]
 | k+1=>by
   have ih:=Gu b k;have hy:=(b.getD k 0).toNat_lt;rw[fH,b8n];have h1:(b.getD k 0).toNat*2^(8*k)≤255*2^(8*k):=Nat.mul_le_mul_right _ (by omega);omega
theorem a5e (b:List UInt8) : ∀ k i,i<k→fH b k/2^(8*i)%256=(b.getD i 0).toNat
 | 0,i,h=>absurd h (Nat.not_lt_zero _)
 | k+1,i,h=>by
   have hb:=(b.getD i 0).toNat_lt;by_cases e:i=k
   ·subst e
    rw[fH,Nat.add_mul_div_right _ _ (Nat.two_pow_pos _),Nat.div_eq_of_lt (Gu b i)];omega
   ·have hk:(2:Nat)^(8*k)=256*2^(8*(k - i - 1))*2^(8*i):=by
     rw[Nat.mul_assoc,←Nat.pow_add,show(256:Nat)=2^8 from rfl,←Nat.pow_add]
     congr 1;omega
    rw[fH,hk,←Nat.mul_assoc,Nat.add_mul_div_right _ _ (Nat.two_pow_pos _),←Nat.mul_assoc,Nat.mul_right_comm,Nat.add_mul_mod_self_right];exact a5e b k i (by omega)
theorem b60 {b:List UInt8} {k:Nat} (h:k≤b.length):fG (fH b k) k=b.take k:=by
 apply List.ext_getElem?
 intro i;by_cases hi:i<k
 ·rw[b6Z _ hi,List.getElem?_take_of_lt hi,List.getElem?_eq_getElem (show i<b.length by omega)]
  congr 1
  apply UInt8.toNat_inj.1
  rw[UInt8.toNat_ofNat',a5e b k i hi,List.getD_eq_getElem?_getD,List.getElem?_eq_getElem (show i<b.length by omega)];rfl
 ·rw[List.getElem?_eq_none (by rw[Gm];omega),List.getElem?_eq_none (by rw[List.length_take];omega)]
def iP (n:Nat):Nat:=if n<253 then 1 else if n<65536 then 3 else if n<4294967296 then 5 else 9
def mi (n:Nat):List UInt8:=if n<253 then[UInt8.ofNat n]else if n<65536 then 253::fG n 2 else if n<4294967296 then 254::fG n 4 else 255::fG n 8
theorem JP (n:Nat):(mi n).length=iP n:=by
 unfold mi iP
 split
 ·rfl
 ·split
  ·simp[Gm]
  ·split <;> simp[Gm]
theorem Md (n:Nat):1≤iP n∧iP n≤9:=by unfold iP;split <;> (try split) <;> (try split) <;> omega
def jG (x:UInt8):Nat:=if x=253 then 2 else if x=254 then 4 else if x=255 then 8 else 0
def lK:List UInt8→Nat × Nat × Int
 | []=>(0,0,1)
 | x::t=>if jG x=0 then(x.toNat,1,0)else if t.length<jG x then(0,0,1)else if iP (fH t (jG x))=1+jG x then(fH t (jG x),1+jG x,0)else(0,0,2)
theorem a1e (x:UInt8) (t:List UInt8):lK (x::t)=if jG x=0 then(x.toNat,1,0)else if t.length<jG x then(0,0,1)else if iP (fH t (jG x))=1+jG x then(fH t (jG x),1+jG x,0)else(0,0,2):=rfl
theorem UB (x:UInt8):(jG x=0∧x.toNat<253)∨(x=253∧jG x=2)∨(x=254∧jG x=4)∨(x=255∧jG x=8):=by
 unfold jG;by_cases h1:x=253
 ·subst h1;exact .inr (.inl ⟨rfl,rfl⟩)
 ·by_cases h2:x=254
  ·subst h2;exact .inr (.inr (.inl ⟨rfl,rfl⟩))
  ·by_cases h3:x=255
   ·subst h3;exact .inr (.inr (.inr ⟨rfl,rfl⟩))
   ·left
    rw[if_neg h1,if_neg h2,if_neg h3];have e1:x.toNat≠253:=fun e=>h1 (UInt8.toNat_inj.1 e);have e2:x.toNat≠254:=fun e=>h2 (UInt8.toNat_inj.1 e);have e3:x.toNat≠255:=fun e=>h3 (UInt8.toNat_inj.1 e)
    have:=x.toNat_lt
    exact⟨rfl,by omega⟩
theorem b7E (x:UInt8):UInt8.ofNat x.toNat=x:=UInt8.toNat_inj.1 (by rw[UInt8.toNat_ofNat'];have:=x.toNat_lt;omega)
theorem b2h {b:List UInt8} {n k:Nat} (h:lK b=(n,k,0)):k≤b.length∧b.take k=mi n∧k=iP n∧n<2^64:=by
 cases b with
 | nil=>unfold lK at h;cases h
 | cons x t =>
   rw[a1e]at h;rcases UB x with⟨q,hx⟩ | ⟨q,hb⟩ | ⟨q,hb⟩ | ⟨q,hb⟩
   ·rw[if_pos q]at h
    obtain⟨rfl,rfl,-⟩:x.toNat=n∧1=k∧True:=by simpa using h
    refine⟨by simp,?_,?_,by omega⟩
    ·unfold mi;rw[if_pos hx,b7E];rfl
    ·unfold iP;rw[if_pos hx]
   all_goals
    have hlt:=Gu t (jG x);have hln:jG x≤t.length→fG (fH t (jG x)) (jG x)=t.take (jG x):=fun h=>b60 h;rw[hb]at h hlt hln;rw[if_neg (by omega)]at h
    split at h
    ·cases h
    ·rename_i hl
     split at h
     ·rename_i hs
      have hln:=hln (by omega);have e1:=(Prod.mk.inj h).1;have e2:=(Prod.mk.inj (Prod.mk.inj h).2).1;subst e2;rw[e1]at hs hlt hln;refine⟨by simp;omega,?_,hs.symm,by simp at hlt ⊢;omega⟩;subst q;unfold iP at hs;unfold mi;by_cases h1:n<253
      ·rw[if_pos h1]at hs;omega
      ·rw[if_neg h1]at hs ⊢
       by_cases h2:n<65536
       ·rw[if_pos h2]at hs ⊢
        first | omega | (rw[hln,Nat.add_comm,List.take_succ_cons])
       ·rw[if_neg h2]at hs ⊢
        by_cases h3:n<4294967296
        ·rw[if_pos h3]at hs ⊢
         first | omega | (rw[hln,Nat.add_comm,List.take_succ_cons])
        ·rw[if_neg h3]at hs ⊢
         first | omega | (rw[hln,Nat.add_comm,List.take_succ_cons])
     ·cases h
def dR (b:List UInt8) (most:Nat):Nat × Nat × Int :=
 if(lK b).2.2=0 then if most<(lK b).1∨2147483647<(lK b).1 then(0,0,3)else lK b else(0,0,(lK b).2.2)
def FO (b:List UInt8) (most:Nat):List UInt8 × Nat × Int :=
 if(dR b most).2.2=0 then if b.length - (dR b most).2.1<(dR b most).1 then([],0,1)else((b.drop (dR b most).2.1).take (dR b most).1,(dR b most).2.1+(dR b most).1,0)else([],0,(dR b most).2.2)
end Go.Proofs.YtiagcenlnekdeaaGreatDoor
namespace Go.Proofs.YtiagcenlnekdeaaGreatDoor
open Go.RowKit
attribute [local go_sem ↓] Go.wp_at_zero Go.wp_at_succ
theorem a1t (n:Nat) (w:World):Calls prog 207 #[dA n] w fun e w'=>e = .returned (iv (iP n))∧Keep w w':=by
 unfold iP;by_cases h1:n<253
 ·rw[if_pos h1]
  have a1 : ¬ (4294967295:Int)<n:=by omega
  have a2 : ¬ (65535:Int)<n:=by omega
  have a3 : ¬ (253:Int)≤n:=by omega
  go_enter func207,ntmps207
  go_wp2
  exact bodyPost_ret (v:=iv 1) (by simp[results,results207]) rfl ⟨rfl,Below.refl _ _⟩
 ·rw[if_neg h1]
  have a3:(253:Int)≤n:=by omega
  by_cases h2:n<65536
  ·rw[if_pos h2]
   have a1 : ¬ (4294967295:Int)<n:=by omega
   have a2 : ¬ (65535:Int)<n:=by omega
   go_enter func207,ntmps207
   go_wp2
   exact bodyPost_ret (v:=iv 3) (by simp[results,results207]) rfl ⟨rfl,Below.refl _ _⟩
  ·rw[if_neg h2]
   have a2:(65535:Int)<n:=by omega
   by_cases h3:n<4294967296
   ·rw[if_pos h3]
    have a1 : ¬ (4294967295:Int)<n:=by omega
    go_enter func207,ntmps207
    go_wp2
    exact bodyPost_ret (v:=iv 5) (by simp[results,results207]) rfl ⟨rfl,Below.refl _ _⟩
   ·rw[if_neg h3]
    have a1:(4294967295:Int)<n:=by omega
    go_enter func207,ntmps207
    go_wp2
    exact bodyPost_ret (v:=iv 9) (by simp[results,results207]) rfl ⟨rfl,Below.refl _ _⟩
theorem b1n (x:UInt8) (w:World):Calls prog 238 #[ah x] w fun e w'=>e = .returned (iv (jG x))∧Keep w w':=by
 rcases UB x with⟨q,hx⟩ | ⟨rfl,q⟩ | ⟨rfl,q⟩ | ⟨rfl,q⟩
 ·rw[q]
  have a1:((x.toNat:Int)==253)=false:=by rw[beq_eq_false_iff_ne];omega
  have a2:((x.toNat:Int)==254)=false:=by rw[beq_eq_false_iff_ne];omega
  have a3:((x.toNat:Int)==255)=false:=by rw[beq_eq_false_iff_ne];omega
  clear q hx;go_enter func238,ntmps238
  go_wp2
  exact bodyPost_ret (v:=iv 0) (by simp[results,results238]) rfl ⟨rfl,Below.refl _ _⟩
 ·rw[q]
  show Calls prog 238 #[.int .u8 253] w _
  go_enter func238,ntmps238
  go_wp2
  exact bodyPost_ret (v:=iv 2) (by simp[results,results238]) rfl ⟨rfl,Below.refl _ _⟩
 ·rw[q]
  show Calls prog 238 #[.int .u8 254] w _
  go_enter func238,ntmps238
  go_wp2
  exact bodyPost_ret (v:=iv 4) (by simp[results,results238]) rfl ⟨rfl,Below.refl _ _⟩
 ·rw[q]
  show Calls prog 238 #[.int .u8 255] w _
  go_enter func238,ntmps238
  go_wp2
  exact bodyPost_ret (v:=iv 8) (by simp[results,results238]) rfl ⟨rfl,Below.refl _ _⟩
end Go.Proofs.YtiagcenlnekdeaaGreatDoor
