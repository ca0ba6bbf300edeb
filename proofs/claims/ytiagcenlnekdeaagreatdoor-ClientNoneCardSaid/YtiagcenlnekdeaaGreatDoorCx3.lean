/- Texts merged by pack.py: Mov, ClkP, ClkA, ClkB, ClkC, ClkD, ClkE, ClkMz, ClkN. -/
import Derived.Test.YtiagcenlnekdeaaGreatDoorCx2
import Derived.Test.YtiagcenlnekdeaaGreatDoorRows
import Derived.Deep.RegionHeld3
import Derived.Deep.DrawnRows
import Derived.Deep.DeepCutAuto
import Derived.Deep.RegionLaw
import Derived.Lib.AppendZerosOnto
import Derived.Laws.Externs
import Derived.Lib.Overlaps
import Derived.Deep.MidRow
import Derived.Deep.WholeRow
set_option maxRecDepth 1000000
set_option maxHeartbeats 16000000
open Go.Proofs.Tryz
open Go.Lib (hid)
set_option linter.unusedSimpArgs false
set_option linter.unusedVariables false
namespace Go.Proofs.YtiagcenlnekdeaaGreatDoor
open Go.RowKit
section
variable {P:Program} {ops:Array Oper} {Q:Exit→Act→World→Prop} {tl:List Nat}
def jq (P:Program) (ops:Array Oper) (Q:Exit→Act→World→Prop) (tl:List Nat):Nat→Array Bool→Act→World→Prop
 | 0,listed,a,w=>Region.ready .any ops listed=[]∧Q .normal a w
 | n+1,listed,a,w=>(Region.ready .any ops listed=[]→Q .normal a w) ∧
   ∀ i∈Region.ready .any ops listed,wpOp P ops Q i (fun a' w'=>(i ∉ tl→Keep w w')∧jq P ops Q tl n (listed.setIfInBounds i true) a' w') a w
theorem G9 : ∀ (n:Nat) (listed:Array Bool) (a:Act) (w:World),jq P ops Q tl n listed a w→wpAny P .any ops Q n listed a w
 | 0,_,_,_,h=>h
 | n+1,_,_,_,h=>⟨h.1,fun i hi=>wpOp_mono (fun a' w' h'=>G9 n _ a' w' h'.2) (h.2 i hi)⟩
theorem MI (hs:Region.noSelect ops=true) {i:Nat} {oi:Oper} {v:Value} (hi:ops[i]?=some oi) (hQ : ∀ c a w,Q (.panic c) (a.put oi.dst v) w→Q (.panic c) a w)
  {S:World→Prop} (hk : ∀ w w',S w→Keep w w'→S w') (hr:(∀ j∈tl,Bv ops j i=true) ∨ ∀ w,S w) : ∀ (fuel:Nat) (listed:Array Bool) (a:Act) (w:World),Closed ops listed →
   (∀ j oj,ops[j]?=some oj→j≠i→listed.getD j true=false→(∀ e∈oj.after,Region.binds .any e=true→e.on≠i)→oi.apart ops oj=true) →
   i∈Region.ready .any ops listed→YieldsIf P ops S oi v a→S w →
   jq P ops Q tl fuel (listed.setIfInBounds i true) (a.put oi.dst v) w→jq P ops Q tl (fuel+1) listed a w:=by
 intro fuel;have hsel:=fun j o cs b (h:ops[j]?=some o)=>Region.noSelect_spec hs j o cs b h
 induction fuel with
 | zero =>
   intro listed a w _ _ kS hy hS H;refine⟨fun h=>absurd kS (by rw[h];simp),fun j hj=>?_⟩;by_cases hji:j=i
   ·subst hji;exact hy.wpOp hi hS ⟨fun _=>Below.refl _ _,H⟩
   ·have:=ready_mono hj hji
    rw[H.1]at this
    cases this
 | succ fuel ih =>
   intro listed a w hc hfree kS hy hS H;refine⟨fun h=>absurd kS (by rw[h];simp),fun j hj=>?_⟩;by_cases hji:j=i
   ·subst hji;exact hy.wpOp hi hS ⟨fun _=>Below.refl _ _,H⟩
   ·have h1:=H.2 j (ready_mono hj hji)
    obtain⟨hjun,oj,hoj,hall⟩:=mem_ready.1 hj;have Ku:=(mem_ready.1 kS).1
    have hnot : ∀ e∈oj.after,Region.binds .any e=true→e.on≠i:=fun e he hb heq=>by
     have h1:=hall e he hb;rw[heq,O9 Ku]at h1
     cases h1
    have hjt:j ∉ tl ∨ ∀ w,S w:=hr.imp (fun hr hjt=>by
     have:=a5V hc j i (fun k hk=>W9 hj hk) (hr j hjt)
     rw[O9 Ku]at this
     cases this) id
    have h2:=wpOp_putIf hoj (hfree j oj hoj hji hjun hnot) (fun cs b=>hsel i oi cs b hi) (fun cs b=>hsel j oj cs b hoj) hQ hy h1
    have hfree' : ∀ k ok,ops[k]?=some ok→k≠i→(listed.setIfInBounds j true).getD k true=false →
      (∀ e∈ok.after,Region.binds .any e=true→e.on≠i)→oi.apart ops ok=true:=fun k ok hk hki hun hno=>by
     refine hfree k ok hk hki ?_ hno;by_cases hjk:j=k
     ·subst hjk;exact hjun
     ·rw[getD_set_ne true hjk]at hun;exact hun
    refine wpOp_mono (fun a' w' h3=>⟨fun hn=>h3.2.1 hn,ih (listed.setIfInBounds j true) a' w' (hc.az hj) hfree' (ready_mono kS (Ne.symm hji)) h3.1 (hjt.elim (fun hn=>hk _ _ hS (h3.2.1 hn)) (fun h=>h _)) ?_⟩) h2;rw[Array.setIfInBounds_comm _ _ hji];exact h3.2.2
def JX (o:Oper):Bool :=
 match o.op with
 | .move _ | .assign _ | .extract .. => true
 | _=>false
theorem a2c {P:Program} {o:Oper} {a:Act} {w:World} {v:Value} (hf:JX o=true) (h:(execOp a.eval o).run P w = .ok (.value v) w) (w':World):(execOp a.eval o).run P w' = .ok (.value v) w':=by
 unfold JX at hf;unfold execOp at h ⊢
 split at hf <;> rename_i ho <;> (try cases hf) <;> simp only[ho]at h ⊢
 ·simp only[Sem.run_pure]at h ⊢
  injection h with h1;rw[h1]
 ·simp only[Sem.run_pure]at h ⊢
  injection h with h1;rw[h1]
 ·rename_i t ix
  unfold Instr.extract at h ⊢
  cases ht:a.eval t with
  | tuple vs =>
    rw[ht]at h;simp only at h ⊢
    cases hv:vs[ix]? with
    | some u =>
      rw[hv]at h;simp only[Sem.run_bind,Sem.run_pure,Result.andThen_ok]at h ⊢;injection h with h1;rw[h1]
    | none=>rw[hv]at h;simp[Sem.run_bind,stuck,Result.andThen]at h
  | _=>rw[ht]at h;simp[Sem.run_bind,stuck,Result.andThen]at h
def yB (ops:Array Oper) (tl:List Nat):List Nat→Array Bool→Bool
 | [],_=>true
 | i::l,listed=>(Region.ready .any ops listed).contains i&&Region.free .any ops listed i&&(match ops[i]? with | some o=>Gx o | none=>false)&&((match ops[i]? with | some o=>JX o | none=>false) || tl.all fun j=>Bv ops j i)&&yB ops tl l (listed.setIfInBounds i true)
def qI (ops:Array Oper):List Nat→Array Bool→Bool
 | [],_=>true
 | i::l,listed=>decide (Region.ready .any ops listed=[i])&&qI ops l (listed.setIfInBounds i true)
def eu (P:Program) (ops:Array Oper) (Q:Exit→Act→World→Prop) (N:Act→World→Prop):List Oper→Act→World→Prop
 | [],a,w=>N a w
 | o::l,a,w=>if Region.wanted o (yielded ops a.tmps)then(∀ K:Act→World→Prop,(∀ a' w',Keep w w'→eu P ops Q N l a' w'→K a' w')→o.wp P a w K Q)else eu P ops Q N l (a.put o.dst undef) w
theorem MK (t0:List Nat) : ∀ (t:List Nat) (T:List Oper) (listed:Array Bool) (a:Act) (w:World),(∀ i∈t,i∈t0)→qI ops t listed=true→Region.ready .any ops (jO listed t)=[] →
  (∀ (k:Nat),T[k]?=(t[k]?).bind (fun(i:Nat)=>ops[i]?))→wpList P ops Q T a w→jq P ops Q t0 t.length listed a w
 | [],T,listed,a,w,_,_,he,hT,hw=>by
   have:T=[]:=by cases T with
    | nil=>rfl
    | cons x T=>have:=hT 0;simp at this
   subst this;exact⟨he,hw⟩
 | t::l,T,listed,a,w,h0,hB,he,hT,hw=>by
   simp only[qI,Bool.and_eq_true,decide_eq_true_eq]at hB;refine⟨fun h0=>(by rw[hB.1]at h0;cases h0),fun i hi=>?_⟩;rw[hB.1]at hi;obtain rfl:i=t:=by simpa using hi
   have hlt:i<ops.size:=by
    have hr:i∈Region.ready .any ops listed:=by rw[hB.1];simp
    obtain⟨o,ho,_⟩:=(mem_ready.1 hr).2;exact(Array.getElem?_eq_some_iff.1 ho).1
   cases T with
   | nil=>have:=hT 0;simp[hlt]at this
   | cons o T =>
     have ho:ops[i]?=some o:=by have:=hT 0;simpa using this.symm
     have hw':wpOp P ops Q i (wpList P ops Q T) a w:=by unfold wpOp;simp only[ho];exact hw
     exact wpOp_mono (fun a' w' h'=>⟨fun hn=>absurd (h0 i (by simp)) hn,MK t0 l T _ a' w' (fun j hj=>h0 j (by simp[hj])) hB.2 he (fun k=>by have:=hT (k+1);simpa using this) h'⟩) hw'
theorem MJ (g:Nat) {N:Act→World→Prop} : ∀ (l:List Nat) (L:List Oper) (listed:Array Bool) (a:Act) (w:World),Closed ops listed→qI ops l listed=true →
  (∀ (k:Nat),L[k]?=(l[k]?).bind (fun(i:Nat)=>ops[i]?))→(∀ a w,Closed ops (jO listed l)→N a w→jq P ops Q tl g (jO listed l) a w)→eu P ops Q N L a w→jq P ops Q tl (g+l.length) listed a w
 | [],L,listed,a,w,hc,_,hL,hN,h=>by
   have:L=[]:=by cases L with
    | nil=>rfl
    | cons x T=>have:=hL 0;simp at this
   subst this;exact hN a w hc h
 | t::l,L,listed,a,w,hc,hB,hL,hN,h=>by
   simp only[qI,Bool.and_eq_true,decide_eq_true_eq]at hB;refine⟨fun h0=>(by rw[hB.1]at h0;cases h0),fun i hi=>?_⟩;have hi':=hi;rw[hB.1]at hi;obtain rfl:i=t:=by simpa using hi
   have hlt:i<ops.size:=by
    obtain⟨o,ho,_⟩:=(mem_ready.1 hi').2;exact(Array.getElem?_eq_some_iff.1 ho).1
   cases L with
   | nil=>have:=hL 0;simp[hlt]at this
   | cons o L =>
     have ho:ops[i]?=some o:=by have:=hL 0;simpa using this.symm
     have go:=fun(a':Act) (w':World) (h':eu P ops Q N L a' w')=>MJ g l L (listed.setIfInBounds i true) a' w' (hc.az hi') hB.2 (fun k=>by have:=hL (k+1);simpa using this) hN h';unfold wpOp;simp only[ho];unfold eu at h
     split at h
     ·rename_i hwt
      rw[if_pos hwt];exact .inl (h _ fun a' w' hk h'=>⟨fun _=>hk,go a' w' h'⟩)
     ·rename_i hwt
      rw[if_neg hwt];exact⟨fun _=>Below.refl _ _,go _ _ h⟩
theorem G8 (hs:Region.noSelect ops=true) (hQ : ∀ c a x v w,Q (.panic c) (a.put x v) w→Q (.panic c) a w) (g:Nat) (w w0:World) (hw:Keep w0 w) : ∀ (l:List Nat) (L:List Oper) (listed:Array Bool) (a:Act),Closed ops listed→yB ops tl l listed=true →
  (∀ (k:Nat),L[k]?=(l[k]?).bind (fun(i:Nat)=>ops[i]?))→wpQuiet P ops (fun w' => ∃ x,w'=dn w0 x) (fun a'=>Closed ops (jO listed l)→jq P ops Q tl g (jO listed l) a' w) L a→jq P ops Q tl (g+l.length) listed a w
 | [],L,listed,a,hc,_,hL,h=>by
   have:L=[]:=by cases L with
    | nil=>rfl
    | cons x T=>have:=hL 0;simp at this
   subst this;exact h hc
 | i::l,L,listed,a,hc,hB,hL,h=>by
   simp only[yB,Bool.and_eq_true]at hB;obtain⟨⟨⟨⟨hr,hf⟩,hpl⟩,hre⟩,hB⟩:=hB;have hr':i∈Region.ready .any ops listed:=by simpa using hr
   have hi:i<ops.size:=by
    obtain⟨o,ho,_⟩:=(mem_ready.1 hr').2;exact(Array.getElem?_eq_some_iff.1 ho).1
   cases L with
   | nil=>have:=hL 0;simp[hi]at this
   | cons o L =>
     have ho:ops[i]?=some o:=by have:=hL 0;simpa using this.symm
     rw[ho]at hpl;have h1:qOp P ops (fun w' => ∃ x,w'=dn w0 x) i (wpQuiet P ops (fun w' => ∃ x,w'=dn w0 x) (fun a'=>Closed ops (jO listed (i::l))→jq P ops Q tl g (jO listed (i::l)) a' w) L) a:=by unfold qOp;simp only[ho];exact h
     obtain⟨v,hy,h⟩:=yieldsIn_of_qOp ho h1
     have hy':YieldsIf P ops (fun w'=>Keep w0 w') o v a:=by
      rcases hy with⟨h2,h3⟩ | h2
      ·exact .inl ⟨h2,fun w hw=>a5N hpl (h3 w ⟨_,Uu hw⟩)⟩
      ·exact .inr h2
     have:=G8 hs hQ g w w0 hw l L (listed.setIfInBounds i true) (a.put o.dst v) (hc.az hr') hB (fun k=>by have:=hL (k+1);simpa using this) h
     rw[ho,Bool.or_eq_true]at hre;rcases hre with hre | hre
     ·have hy2:YieldsIf P ops (fun _=>True) o v a:=by
       rcases hy' with⟨h2,h3⟩ | h2
       ·exact .inl ⟨h2,fun w' _=>a2c hre (h3 w hw) w'⟩
       ·exact .inr h2
      exact MI hs ho (fun c a w=>hQ c a _ _ w) (fun _ _ _ _=>trivial) (.inr fun _=>trivial) _ listed a w hc (Region.free_spec ho hf) hr' hy2 trivial this
     ·exact MI hs ho (fun c a w=>hQ c a _ _ w) (fun _ _ h1 h2=>af h1 h2) (.inl fun j hj=>List.all_eq_true.1 hre j hj) _ listed a w hc (Region.free_spec ho hf) hr' hy' hw this
def total:List (Bool × List Nat)→Nat
 | []=>0
 | (_,l)::r=>total r+l.length
theorem LV {C:World→Prop} {N N':Act→Prop} (hN : ∀ a,N a→N' a) : ∀ (F:List Oper) (a:Act),wpQuiet P ops C N F a→wpQuiet P ops C N' F a
 | [],a,h=>hN _ h
 | o::F,a,h=>by
   unfold wpQuiet at h ⊢
   split
   ·rename_i hw;rw[if_pos hw]at h;exact Oper.quiet_mono (fun a h=>LV hN F a h) h
   ·rename_i hw;rw[if_neg hw]at h;exact LV hN F _ h
end
section
variable {P:Program} {ops:Array Oper} {Q:Exit→Act→World→Prop} {T l:List Oper} {r:List (Bool × List Oper)} {o:Oper} {a:Act} {w:World} {N:Act→World→Prop}
theorem aS (h:N a w):eu P ops Q N [] a w:=h
theorem aI (hw:Region.wanted o (yielded ops a.tmps)=true) (h : ∀ K:Act→World→Prop,(∀ a' w',Keep w w'→eu P ops Q N l a' w'→K a' w')→o.wp P a w K Q):eu P ops Q N (o::l) a w:=by
 unfold eu;rw[if_pos hw];exact h
end
inductive Mv where
 | done
 | take (l:List Nat) (r:Mv)
 | force (l:List Nat) (r:Mv)
 | fork (i:Nat) (ri:Mv) (j:Nat) (rj:Mv)
 | qc (i:Nat) (ri:Mv) (j:Nat) (rj:Mv) (k:Nat) (rk:Mv)
def Mv.total:Mv→Nat
 | .done=>0
 | .take l r=>r.total+l.length
 | .force l r=>r.total+l.length
 | .fork _ ri _ _=>ri.total+1
 | .qc _ ri _ _ _ _=>ri.total+1
def Mv.okB (ops:Array Oper) (tl:List Nat):Mv→Array Bool→Bool
 | .done,listed=>qI ops tl listed&&decide (Region.ready .any ops (jO listed tl)=[])
 | .take l r,listed=>(l.all (· < ops.size))&&yB ops tl l listed&&r.okB ops tl (jO listed l)
 | .force l r,listed=>(l.all (· < ops.size))&&qI ops l listed&&r.okB ops tl (jO listed l)
 | .fork i ri j rj,listed=>decide (i<ops.size)&&decide (j<ops.size)&&decide (Region.ready .any ops listed=[i,j])&&decide (ri.total=rj.total)&&ri.okB ops tl (listed.setIfInBounds i true)&&rj.okB ops tl (listed.setIfInBounds j true)
 | .qc i ri j rj k rk,listed=>decide (i<ops.size)&&decide (j<ops.size)&&decide (k<ops.size)&&decide (Region.ready .any ops listed=[i,j,k])&&decide (ri.total=rj.total)&&decide (ri.total=rk.total)&&ri.okB ops tl (listed.setIfInBounds i true)&&rj.okB ops tl (listed.setIfInBounds j true)&&rk.okB ops tl (listed.setIfInBounds k true)
def Mv.wp (P:Program) (l0:List Oper) (Q:Exit→Act→World→Prop) (T:List Oper):Mv→Act→World→Prop
 | .done,a,w=>wpList P l0.toArray Q T a w
 | .take l r,a,w => ∃ w0,Keep w0 w∧wpQuiet P l0.toArray (fun w' => ∃ x,w'=dn w0 x) (fun a'=>r.wp P l0 Q T a' w) (pick l0 l) a
 | .force l r,a,w=>eu P l0.toArray Q (r.wp P l0 Q T) (pick l0 l) a w
 | .fork i ri j rj,a,w=>eu P l0.toArray Q (ri.wp P l0 Q T) [nth l0 i] a w∧eu P l0.toArray Q (rj.wp P l0 Q T) [nth l0 j] a w
 | .qc i ri j rj k rk,a,w=>eu P l0.toArray Q (ri.wp P l0 Q T) [nth l0 i] a w∧eu P l0.toArray Q (rj.wp P l0 Q T) [nth l0 j] a w∧eu P l0.toArray Q (rk.wp P l0 Q T) [nth l0 k] a w
section
variable {P:Program} {Q:Exit→Act→World→Prop} {tl:List Nat} {l0:List Oper}
theorem wS {ops:Array Oper} {N:Act→World→Prop} {i:Nat} {o:Oper} (ho:ops[i]?=some o) {listed:Array Bool} {a:Act} {w:World} {g:Nat} (hN : ∀ a w,N a w→jq P ops Q tl g (listed.setIfInBounds i true) a w)
  (h:eu P ops Q N [o] a w):wpOp P ops Q i (fun a' w'=>(i ∉ tl→Keep w w')∧jq P ops Q tl g (listed.setIfInBounds i true) a' w') a w:=by
 unfold wpOp;simp only[ho];unfold eu at h
 split at h
 ·rename_i hwt
  rw[if_pos hwt];exact .inl (h _ fun a' w' hk h'=>⟨fun _=>hk,hN _ _ h'⟩)
 ·rename_i hwt
  rw[if_neg hwt];exact⟨fun _=>Below.refl _ _,hN _ _ h⟩
theorem Mv.sound (hs:Region.noSelect l0.toArray=true) (hQ : ∀ c a x v w,Q (.panic c) (a.put x v) w→Q (.panic c) a w) (htl : ∀ i∈tl,i<l0.length) : ∀ (mv:Mv) (listed:Array Bool) (a:Act) (w:World),Closed l0.toArray listed→mv.okB l0.toArray tl listed=true →
  mv.wp P l0 Q (pick l0 tl) a w→jq P l0.toArray Q tl (mv.total+tl.length) listed a w
 | .done,listed,a,w,hc,hB,h=>by
   simp only[Mv.okB,Bool.and_eq_true,decide_eq_true_eq]at hB;rw[Mv.total,Nat.zero_add];exact MK tl tl (pick l0 tl) listed a w (fun _ h=>h) hB.1 hB.2 (Dp tl htl).2 h
 | .take l r,listed,a,w,hc,hB,h=>by
   simp only[Mv.okB,Bool.and_eq_true]at hB;obtain⟨⟨hin,htk⟩,hB⟩:=hB;obtain⟨w0,hw0,hq⟩:=h;have hl : ∀ i∈l,i<l0.length:=fun i hi=>by simpa using List.all_eq_true.1 hin i hi
   rw[show(Mv.take l r).total+tl.length=(r.total+tl.length)+l.length by show r.total+l.length+tl.length=_;omega];exact G8 hs hQ _ w w0 hw0 l (pick l0 l) listed a hc htk (Dp l hl).2 (LV (fun a' h' hc'=>Mv.sound hs hQ htl r _ a' w hc' hB h') _ _ hq)
 | .force l r,listed,a,w,hc,hB,h=>by
   simp only[Mv.okB,Bool.and_eq_true]at hB;obtain⟨⟨hin,hfo⟩,hB⟩:=hB;have hl : ∀ i∈l,i<l0.length:=fun i hi=>by simpa using List.all_eq_true.1 hin i hi
   rw[show(Mv.force l r).total+tl.length=(r.total+tl.length)+l.length by show r.total+l.length+tl.length=_;omega];exact MJ _ l (pick l0 l) listed a w hc hfo (Dp l hl).2 (fun a' w' hc' h'=>Mv.sound hs hQ htl r _ a' w' hc' hB h') h
 | .fork i ri j rj,listed,a,w,hc,hB,h=>by
   simp only[Mv.okB,Bool.and_eq_true,decide_eq_true_eq]at hB;obtain⟨⟨⟨⟨⟨hi,hj⟩,hr⟩,ht⟩,Dv⟩,Dw⟩:=hB;obtain⟨h1,h2⟩:=h;have hoi:l0.toArray[i]?=some (nth l0 i):=by simp at hi ⊢;simp[nth,hi]
   have hoj:l0.toArray[j]?=some (nth l0 j):=by simp at hj ⊢;simp[nth,hj]
   have kS:i∈Region.ready .any l0.toArray listed:=by rw[hr];simp
   have DY:j∈Region.ready .any l0.toArray listed:=by rw[hr];simp
   rw[show(Mv.fork i ri j rj).total+tl.length=(ri.total+tl.length)+1 by show ri.total+1+tl.length=_;omega];refine⟨fun h0=>(by rw[hr]at h0;cases h0),fun k hk=>?_⟩;rw[hr]at hk;have hk':k=i∨k=j:=by simpa using hk
   by_cases hki:k=i
   ·subst hki
    exact wS hoi (fun a' w' h'=>Mv.sound hs hQ htl ri _ a' w' (hc.az kS) Dv h') h1
   ·obtain rfl:k=j:=hk'.resolve_left hki
    rw[ht];exact wS hoj (fun a' w' h'=>Mv.sound hs hQ htl rj _ a' w' (hc.az DY) Dw h') h2
 | .qc i ri j rj k rk,listed,a,w,hc,hB,h=>by
   simp only[Mv.okB,Bool.and_eq_true,decide_eq_true_eq]at hB;obtain⟨⟨⟨⟨⟨⟨⟨⟨hi,hj⟩,hk⟩,hr⟩,ht⟩,ht2⟩,Dv⟩,Dw⟩,Vb⟩:=hB;obtain⟨h1,h2,h3⟩:=h;have hoi:l0.toArray[i]?=some (nth l0 i):=by simp at hi ⊢;simp[nth,hi]
   have hoj:l0.toArray[j]?=some (nth l0 j):=by simp at hj ⊢;simp[nth,hj]
   have hok:l0.toArray[k]?=some (nth l0 k):=by simp at hk ⊢;simp[nth,hk]
   have kS:i∈Region.ready .any l0.toArray listed:=by rw[hr];simp
   have DY:j∈Region.ready .any l0.toArray listed:=by rw[hr];simp
   have hrk:k∈Region.ready .any l0.toArray listed:=by rw[hr];simp
   rw[show(Mv.qc i ri j rj k rk).total+tl.length=(ri.total+tl.length)+1 by show ri.total+1+tl.length=_;omega];refine⟨fun h0=>(by rw[hr]at h0;cases h0),fun m hm=>?_⟩;rw[hr]at hm;have hm':m=i∨m=j∨m=k:=by simpa using hm
   by_cases kR:m=i
   ·subst kR
    exact wS hoi (fun a' w' h'=>Mv.sound hs hQ htl ri _ a' w' (hc.az kS) Dv h') h1
   ·by_cases hmj:m=j
    ·subst hmj
     rw[ht];exact wS hoj (fun a' w' h'=>Mv.sound hs hQ htl rj _ a' w' (hc.az DY) Dw h') h2
    ·obtain rfl:m=k:=(hm'.resolve_left kR).resolve_left hmj
     rw[ht2];exact wS hok (fun a' w' h'=>Mv.sound hs hQ htl rk _ a' w' (hc.az hrk) Vb h') h3
end
def Lm (ops:Array Oper) (mv:Mv) (tl:List Nat):Bool :=
 Region.noSelect ops&&(tl.all (· < ops.size))&&decide (mv.total+tl.length=ops.size)&&mv.okB ops tl (Array.replicate ops.size false)
theorem bu {P:Program} {id:Nat} {Q:Exit→Act→World→Prop} {a:Act} {w:World} {l:List Oper} (mv:Mv) (tl:List Nat) (hm:P.follows .mixedOrders=true) (hB:Lm l.toArray mv tl=true)
  (h : ∀ w1,Keep w w1→mv.wp P l (Exit.then (fun a w=>Q .normal a w) (fun _ _ _=>False)) (pick l tl) a w1):(Code.region id l.toArray true).wp P Q a w:=by
 simp only[Lm,Bool.and_eq_true,decide_eq_true_eq]at hB;obtain⟨⟨⟨hs,htl⟩,hlen⟩,hB⟩:=hB
 refine wp_mono (Q:=Exit.then (fun a w=>Q .normal a w) (fun _ _ _=>False)) (wp_region_any hm ?_) fun e a w h=>by
  cases e with
  | normal=>exact h
  | _=>exact False.elim h
 have:=Mv.sound (P:=P) (Q:=Exit.then (fun a w=>Q .normal a w) (fun _ _ _=>False)) hs (fun _ _ _ _ _ h=>h) (fun i hi=>by simpa using List.all_eq_true.1 htl i hi) mv _ a { w with drawn:=w.drawn+1} (UL _ _) hB (h _ ((Below.refl _ _).drew))
 rw[hlen]at this;exact G9 _ _ _ _ this
section
variable {P:Program} {l0 T:List Oper} {Q:Exit→Act→World→Prop} {a:Act} {w:World} {l:List Nat} {r ri rj rk:Mv} {i j k:Nat}
theorem aN (w0:World) (hw:Keep w0 w) (h:wpQuiet P l0.toArray (fun w' => ∃ x,w'=dn w0 x) (fun a'=>r.wp P l0 Q T a' w) (pick l0 l) a):(Mv.take l r).wp P l0 Q T a w:=⟨w0,hw,h⟩
theorem bI (h:eu P l0.toArray Q (r.wp P l0 Q T) (pick l0 l) a w):(Mv.force l r).wp P l0 Q T a w:=h
theorem ny (h1:eu P l0.toArray Q (ri.wp P l0 Q T) [nth l0 i] a w) (h2:eu P l0.toArray Q (rj.wp P l0 Q T) [nth l0 j] a w):(Mv.fork i ri j rj).wp P l0 Q T a w:=⟨h1,h2⟩
theorem Wv (h1:eu P l0.toArray Q (ri.wp P l0 Q T) [nth l0 i] a w) (h2:eu P l0.toArray Q (rj.wp P l0 Q T) [nth l0 j] a w) (h3:eu P l0.toArray Q (rk.wp P l0 Q T) [nth l0 k] a w):(Mv.qc i ri j rj k rk).wp P l0 Q T a w:=⟨h1,h2,h3⟩
theorem aT (h:wpList P l0.toArray Q T a w):Mv.done.wp P l0 Q T a w:=h
end
end Go.Proofs.YtiagcenlnekdeaaGreatDoor
namespace Go.Proofs.YtiagcenlnekdeaaGreatDoor
abbrev uD (a b : UInt32) : Prop := a.toNat ≤ b.toNat
def lb (xs : List UInt32) (t : UInt32) : Nat := xs.countP fun x => decide (x.toNat < t.toNat)
def uC (xs : List UInt32) (t : UInt32) : List UInt32 := xs.take (lb xs t) ++ t :: xs.drop (lb xs t)
def sortL (l : List UInt32) : List UInt32 := l.foldl uC []
def zG (l : List UInt32) : List UInt32 := sortL (l.drop (l.length - 11))
def Gq (l : List UInt32) : UInt32 := (zG l).getD ((zG l).length / 2) 0
theorem a4w (xs : List UInt32) (t : UInt32) : lb xs t ≤ xs.length := List.countP_le_length
theorem b6A {x t : UInt32} (xs : List UInt32) (h : x.toNat < t.toNat) : lb (x :: xs) t = lb xs t + 1 := by unfold lb; rw [List.countP_cons]; simp [h]
theorem a4x {t : UInt32} : ∀ {xs : List UInt32}, (∀ x ∈ xs, t.toNat ≤ x.toNat) → lb xs t = 0
  | [], _ => rfl
  | x :: xs, h => by
    have h1 := h x (by simp);unfold lb;rw [List.countP_cons];have := a4x (xs := xs) fun y hy => h y (by simp [hy]);unfold lb at this;rw [this];simp; omega
theorem PW {t : UInt32} : ∀ {xs : List UInt32}, xs.Pairwise uD → (∀ x ∈ xs.take (lb xs t), x.toNat < t.toNat) ∧ (∀ x ∈ xs.drop (lb xs t), t.toNat ≤ x.toNat)
  | [], _ => by simp
  | x :: xs, h => by
    rw [List.pairwise_cons] at h;by_cases hx : x.toNat < t.toNat
    · rw [b6A xs hx]
      obtain ⟨h1, h2⟩ := PW (t := t) h.2;refine ⟨fun y hy => ?_, fun y hy => h2 y (by simpa using hy)⟩;rw [List.take_succ_cons, List.mem_cons] at hy;rcases hy with rfl | hy
      · exact hx
      · exact h1 y hy
    · have h0 : lb (x :: xs) t = 0 := a4x fun y hy => by
        rcases List.mem_cons.1 hy with rfl | hy
        · omega
        · have := h.1 y hy; unfold uD at this; omega
      rw [h0];refine ⟨by simp, fun y hy => ?_⟩;rw [List.drop_zero] at hy;rcases List.mem_cons.1 hy with rfl | hy
      · omega
      · have := h.1 y hy; unfold uD at this; omega
theorem b6C {xs : List UInt32} {t : UInt32} (h : xs.Pairwise uD) {i : Nat} (hi : i < xs.length) (hl : i < lb xs t) : xs[i].toNat < t.toNat :=
  (PW h).1 _ (List.mem_take_iff_getElem.2 ⟨i, by omega, rfl⟩)
theorem b6B {xs : List UInt32} {t : UInt32} (h : xs.Pairwise uD) {i : Nat} (hi : i < xs.length) (hl : lb xs t ≤ i) : t.toNat ≤ xs[i].toNat := by
  refine (PW h).2 _ ?_;rw [List.mem_drop_iff_getElem];exact ⟨i - lb xs t, by omega, by congr 1; omega⟩
theorem a4c (xs : List UInt32) (t : UInt32) : (uC xs t).Perm (t :: xs) := by
  unfold uC;have := List.perm_middle (a := t) (l₁ := xs.take (lb xs t)) (l₂ := xs.drop (lb xs t))
  rwa [List.take_append_drop] at this
theorem b50 (xs : List UInt32) (t : UInt32) : (uC xs t).length = xs.length + 1 := by have := (a4c xs t).length_eq; simpa using this
theorem b51 {xs : List UInt32} (t : UInt32) (h : xs.Pairwise uD) : (uC xs t).Pairwise uD := by
  obtain ⟨h1, h2⟩ := PW (t := t) h;unfold uC;rw [List.pairwise_append, List.pairwise_cons];refine ⟨h.sublist (List.take_sublist _ _), ⟨fun y hy => h2 y hy, h.sublist (List.drop_sublist _ _)⟩, fun a ha b hb => ?_⟩;have ha1 := h1 a ha;rcases List.mem_cons.1 hb with rfl | hb
  · show _ ≤ _; omega
  · have hb1 := h2 b hb
    show _ ≤ _; omega
theorem a6x (l : List UInt32) : ∀ (acc : List UInt32), acc.Pairwise uD → (l.foldl uC acc).Pairwise uD ∧ (l.foldl uC acc).Perm (l ++ acc) := by
  induction l with
  | nil => intro acc h; exact ⟨h, List.Perm.refl _⟩
  | cons t l ih =>
    intro acc h;obtain ⟨h1, h2⟩ := ih (uC acc t) (b51 t h);refine ⟨h1, h2.trans ?_⟩;exact ((a4c acc t).append_left l).trans List.perm_middle
theorem b9C (l : List UInt32) : (sortL l).Pairwise uD := (a6x l [] List.Pairwise.nil).1
theorem b9A (l : List UInt32) : (sortL l).Perm l := by have := (a6x l [] List.Pairwise.nil).2; rwa [List.append_nil] at this
theorem Qz (l : List UInt32) : (sortL l).length = l.length := (b9A l).length_eq
theorem b9B (l : List UInt32) (t : UInt32) : sortL (l ++ [t]) = uC (sortL l) t := by unfold sortL; rw [List.foldl_append]; rfl
theorem b6s (l : List UInt32) : (zG l).length = min l.length 11 := by unfold zG; rw [Qz, List.length_drop]; omega
end Go.Proofs.YtiagcenlnekdeaaGreatDoor
namespace Go.Proofs.YtiagcenlnekdeaaGreatDoor
open Go.RowKit
attribute [local go_sem ↓] Go.wp_at_zero Go.wp_at_succ
theorem zU:dL prog 399 22 (.int .u32 0) 1 4:=dL.mk' underlying399 (by kernel_rfl) rfl (by omega)
theorem a5r (l:List UInt32) : ∀ u∈l.map ag,u.oneCell'=true:=by
 intro u hu;obtain⟨x,_,rfl⟩:=List.mem_map.1 hu;rfl
theorem a4B (x y:UInt32) (w:World):Calls prog 262 #[ag x,ag y] w fun e w'=>e = .returned (.bool (decide (x.toNat<y.toNat)))∧w=w':=by
 go_enter func262,ntmps262
 go_wp2
 go_ret
 exact⟨xe (by simp),rfl⟩
def a7T (n:Nat) (w:World) (e:Ending) (w':World):Prop:=∃ f,e = .returned (.tuple #[.int .i64 n,.bool f])∧w=w'
theorem b9b (A:Option Addr) (xs:List UInt32) (c:Nat) (t:UInt32) (w:World) (hs:xs.Pairwise uD) (hl:xs.length≤100000) (hr:Rd w A (xs.map ag)) :
  Calls prog 258 #[.slice A xs.length c,ag t] w (a7T (lb xs t) w):=by
 have hlb:=a4w xs t;go_enter func258,ntmps258
 go_wp2_with fail
 go_loop [7,8] (fun i j => ∃ a b:Nat,i = .int .i64 a∧j = .int .i64 b∧a≤lb xs t∧lb xs t≤b∧b≤xs.length) (fun i j=>(intOf j).toNat - (intOf i).toNat)
 case atStart=>exact⟨0,xs.length,rfl,rfl,Nat.zero_le _,hlb,Nat.le_refl _⟩
 case round =>
  obtain⟨a,b,rfl,rfl,ha,hb,hbl⟩:=hrel;by_cases hlt:a<b
  ·have hm:(a+b)/2<xs.length:=by omega
   obtain⟨g,o,rfl,hg,F⟩:=hr.at (k:=(a+b)/2) (by simpa using hm);have hc:=F ((a+b)/2) (by simpa using hm);simp only[List.getElem_map]at hc;have h1:=fun h=>b6C (t:=t) hs hm h;have h2:=fun h=>b6B (t:=t) hs hm h;generalize xs[(a+b)/2]=y at hc h1 h2;have H1:=hid h1;have H2:=hid h2
   clear F h1 h2;by_cases hy:y.toNat<t.toNat
   ·have a3q:(a+b)/2<lb xs t:=by
     rcases Nat.lt_or_ge ((a+b)/2) (lb xs t)with h | h
     ·exact h
     ·have:=H2.out h;omega
    go_wp2_with (go_at_call 262;refine(a4B y t _).mono ?_;rw[decide_eq_true hy];rintro e w' ⟨rfl,rfl⟩)
    go_round
    case rel=>exact⟨(a+b)/2+1,b,by go_num,rfl,by omega,hb,hbl⟩
    case measure=>simp[intOf];omega
   ·have a3q:lb xs t≤(a+b)/2:=by
     rcases Nat.lt_or_ge ((a+b)/2) (lb xs t)with h | h
     ·have:=H1.out h;omega
     ·exact h
    go_wp2_with (go_at_call 262;refine(a4B y t _).mono ?_;rw[decide_eq_false hy];rintro e w' ⟨rfl,rfl⟩)
    go_round
    case rel=>exact⟨a,(a+b)/2,rfl,by go_num,ha,a3q,by omega⟩
    case measure=>simp[intOf];omega
  ·obtain rfl:a=lb xs t:=by omega
   obtain rfl:b=lb xs t:=by omega
   generalize hk0:lb xs t=k at ha hb hbl hlb hlt ⊢;have Hk:=hid hk0;clear hk0;by_cases hk:k<xs.length
   ·obtain⟨g,o,rfl,hg,F⟩:=hr.at (k:=k) (by simpa using hk)
    have hc:=F k (by simpa using hk);simp only[List.getElem_map]at hc;generalize xs[k]=y at hc;clear F;by_cases hy:y=t
    ·subst hy
     go_wp2
     go_ret2
     exact⟨true,by rw[Hk.out];rfl,rfl⟩
    ·have hy':((y.toNat:Int)==(t.toNat:Int))=false:=by
      have:y.toNat≠t.toNat:=fun e=>hy (UInt32.toNat_inj.1 e)
      simp;omega
     go_wp2
     go_ret2
     exact⟨false,by rw[Hk.out];rfl,rfl⟩
   ·obtain rfl:k=xs.length:=by omega
    go_wp2
    go_ret2
    exact⟨false,by rw[Hk.out];rfl,rfl⟩
theorem QB {α:Type} {b d:List α} {o k:Nat} (hk:k<b.length) (ho:o+d.length≤b.length):(splice b o d)[k]?=if o≤k∧k<o+d.length then d[k - o]? else b[k]?:=by
 unfold splice;by_cases h1:k<o
 ·rw[if_neg (by omega),List.getElem?_append_left (by simp;omega),List.getElem?_take,if_pos h1]
 ·by_cases h2:k<o+d.length
  ·rw[if_pos ⟨by omega,h2⟩,List.getElem?_append_right (by simp;omega),List.getElem?_append_left (by simp;omega)]
   congr 1;simp;omega
  ·rw[if_neg (by omega),List.getElem?_append_right (by simp;omega),List.getElem?_append_right (by simp;omega),List.getElem?_drop]
   congr 1;simp;omega
theorem a4d {α:Type} (L:List α) (i k:Nat) (t:α) (hi:i≤L.length):(L.take i++t::L.drop i)[k]?=if k<i then L[k]? else if k=i then some t else L[k - 1]?:=by
 by_cases h1:k<i
 ·rw[if_pos h1,List.getElem?_append_left (by simp;omega),List.getElem?_take,if_pos h1]
 ·rw[if_neg h1,List.getElem?_append_right (by simp;omega),List.length_take,Nat.min_eq_left hi]
  by_cases h2:k=i
  ·rw[if_pos h2,show k - i=0 by omega];rfl
  ·rw[if_neg h2,show k - i=(k - i - 1)+1 by omega,List.getElem?_cons_succ,List.getElem?_drop]
   congr 1;omega
theorem b53 {α:Type} (cur L:List α) (i:Nat) (t:α) (hL:cur.take L.length=L) (hi:i<L.length) (hc:L.length+1≤cur.length) :
  (splice (splice cur (i+1) (L.drop i)) i [t]).take (L.length+1)=L.take i++t::L.drop i:=by
 have hl:(splice cur (i+1) (L.drop i)).length=cur.length:=by rw[length_splice];simp;omega
 have hg : ∀ k,k<L.length→cur[k]?=L[k]?:=fun k hk=>by rw[←hL,List.getElem?_take,if_pos hk]
 apply List.ext_getElem?
 intro k;rw[a4d _ _ _ _ (by omega),List.getElem?_take];by_cases hk:k<L.length+1
 ·rw[if_pos hk,QB (by omega) (by rw[hl];simp;omega),QB (by omega) (by simp;omega)]
  by_cases h1:k<i
  ·rw[if_neg (by simp;omega),if_neg (by simp;omega),if_pos h1,hg k (by omega)]
  ·by_cases h2:k=i
   ·subst h2;rw[if_pos (by simp),if_neg h1,if_pos rfl,Nat.sub_self];rfl
   ·rw[if_neg (by simp;omega),if_pos (by simp;omega),if_neg h1,if_neg h2,List.getElem?_drop]
    congr 1;omega
 ·rw[if_neg hk,if_neg (by omega),if_neg (by omega),List.getElem?_eq_none (by omega)]
theorem b52 {α:Type} (cur L:List α) (i:Nat) (t:α) (hL:cur.take i=L.take i) (hi:i<L.length) (hc:L.length+1≤cur.length) :
  (splice (splice cur i [t]) (i+1) (L.drop i)).take (L.length+1)=L.take i++t::L.drop i:=by
 have hl:(splice cur i [t]).length=cur.length:=by rw[length_splice];simp;omega
 have hg : ∀ k,k<i→cur[k]?=L[k]?:=fun k hk=>by
  have:=congrArg (fun l=>l[k]?) hL
  simp only[List.getElem?_take,if_pos hk]at this;exact this
 apply List.ext_getElem?
 intro k;rw[a4d _ _ _ _ (by omega),List.getElem?_take];by_cases hk:k<L.length+1
 ·rw[if_pos hk,QB (by omega) (by rw[hl];simp;omega),QB (by omega) (by simp;omega)]
  by_cases h1:k<i
  ·rw[if_neg (by simp;omega),if_neg (by simp;omega),if_pos h1,hg k h1]
  ·by_cases h2:k=i
   ·subst h2;rw[if_neg (by simp;omega),if_pos (by simp),if_neg h1,if_pos rfl,Nat.sub_self];rfl
   ·rw[if_pos (by simp;omega),if_neg h1,if_neg h2,List.getElem?_drop]
    congr 1;omega
 ·rw[if_neg hk,if_neg (by omega),if_neg (by omega),List.getElem?_eq_none (by omega)]
theorem a5B {w:World} {base:Nat} {e:TypeId} {g n c:Nat} {xs:List Value} (h:w.ownsRow base e 1 (.slice (some ⟨g,0,none⟩) n c) n xs) :
  ∃ cur:List Value,w.heap[g]?=some (.cells cur.toArray e (0,0))∧cur.length=c∧n≤c∧c≤maxLen∧cur.take n=xs∧base≤g:=by
 rcases h.2 with⟨h0,_⟩ | ⟨g',cap,cur',hv,hb,hg,hnc,hcm,hcs,htake⟩
 ·cases h0
 ·injection hv with h1 _ h3
  injection h1 with h1;injection h1 with h1;subst h1 h3;exact⟨cur'.toList,by simpa using hg,by simpa using hcs,hnc,hcm,by simpa using htake,hb⟩
theorem a5D {w:World} {base:Nat} {e:TypeId} {g n c:Nat} {cur xs:List Value} (hg:w.heap[g]?=some (.cells cur.toArray e (0,0))) (hb:base≤g) (hc:cur.length=c) (hn:n≤c) (hm:c≤maxLen) (ht:cur.take n=xs):w.ownsRow base e 1 (.slice (some ⟨g,0,none⟩) n c) n xs:=by
 refine⟨by rw[←ht];simp;omega,.inr ⟨g,c,_,rfl,hb,hg,hn,hm,by simpa using hc,by simpa using ht⟩⟩
theorem QJ {P:Program} {t e:TypeId} {z:Value} {bytes:Nat} (T:dL P t e z 1 bytes) {w:World} {ops:Array Oper} {rest:List Oper} {o:Oper} {a:Act} {Q:Exit→Act→World→Prop} (hgd:o.guard=none) (d x:Operand)
  (ho:o.op = .call { callee:=.builtin .copy,args:=#[d,x],argTypes:=#[t,t]}) (g off dLen dCap:Nat) (hd:a.eval d = .slice (some ⟨g,off,none⟩) dLen dCap)
  (b o2 n c:Nat) (hx:a.eval x = .slice (some ⟨b,o2,none⟩) n c) (xs:List Value) (hl:xs.length=min n dLen) (hr:Rd w (some ⟨b,o2,none⟩) xs) (h1 : ∀ u∈xs,u.oneCell'=true)
  (cur:List Value) (t':TypeId) (hg:w.heap[g]?=some (.cells cur.toArray t' (0,0))) (hfit:off+xs.length≤cur.length)
  (h : ∀ w',Hid (w'.heap[g]?=some (.cells (splice cur off xs).toArray t' (0,0)))→w.grownBy w' (some g)→wpList P ops Q rest (a.put o.dst (.int .i64 (xs.length:Nat))) w'):wpList P ops Q (o::rest) a w:=by
 refine wpList_plain hgd fun K hK=>?_;have hsz:(P.info? e).map (·.size)=some 1:=by obtain⟨i,hi,_,h2,_⟩:=T.info;simp[hi,h2]
 by_cases h0:xs.length=0
 ·obtain rfl:xs=[]:=List.eq_nil_of_length_eq_zero h0
  have hrun:=run_copy_none (P:=P) w t t o.type e (some ⟨g,off,none⟩) (some ⟨b,o2,none⟩) dLen dCap n c T.und hsz (by have:=hl.symm;simpa using this);unfold Oper.wp;simp[execOp,ho,resolve,invoke,builtin,hd,hx,hrun,Result.andThen];have hk:=h w (show _=_ by simpa[splice]using hg) (World.grownBy.refl w _);exact hK _ _ hk
 ·have hrun:=run_copy_row (P:=P) w t t o.type e g off dLen dCap ⟨b,o2,none⟩ n c cur.toArray t' xs T.und hsz hg hl (fun j v hv=>by
   obtain⟨hj,rfl⟩:=List.getElem?_eq_some_iff.1 hv;rcases hr with h | ⟨b',o',e',hc⟩
   ·rw[h]at h0;simp at h0
   ·injection e' with e';injection e' with e1 e2;subst e1 e2
    rw[qE];exact hc j hj) (by simpa using hfit) h1
  unfold Oper.wp;simp only[execOp,ho,resolve,invoke,builtin,Sem.run_bind,Sem.run_pure,Result.andThen_ok,List.map_toArray,List.map_cons,List.map_nil,hd,hx,hrun,Oper.upon];refine hK _ _ (h _ ?_ ⟨rfl,rfl,rfl,by simp[World.setRow],fun k _ hne=>setRow_other w g k _ (fun e=>hne (by rw[e]))⟩);have hs:splice cur off xs=cur.take off++xs++cur.drop (off+xs.length):=by rw[splice,List.append_assoc]
  rw[hs];exact setRow_heap w g cur.toArray _ t' (0,0) hg
theorem a2h {w w':World} {row:Option Nat} (h:Keep w w'):w.grownBy w' row:=⟨h.os,h.tape,h.output,h.size,fun k hk _=>h.block k hk⟩
theorem a2l {a b c:World} {row:Option Nat} (h:a.grownBy b row) (g:b.grownBy c row):a.grownBy c row :=
 ⟨g.os.trans h.os,g.tape.trans h.tape,g.output.trans h.output,Nat.le_trans h.size g.size,fun k hk hne=>(g.block k (Nat.lt_of_lt_of_le hk h.size) hne).trans (h.block k hk hne)⟩
def Ins (base:Nat) (v:Value) (ys:List UInt32) (w:World) (e:Ending) (w':World):Prop :=
 ∃ v',e = .returned v'∧w'.ownsRow base 22 1 v' ys.length (ys.map ag)∧w.grownBy w' v.ownBlock∧(v'.ownBlock=v.ownBlock∨v'.ownBlock=some w.heap.size)
theorem a4e (xs:List UInt32) (i:Nat) (t:UInt32) (hi:i≤xs.length):(xs.take i++t::xs.drop i).length=xs.length+1:=by simp;omega
theorem b55 (base:Nat) (v:Value) (xs:List UInt32) (t:UInt32) (G:Nat) (w:World) (hown:w.ownsRow base 22 1 v xs.length (xs.map ag)) (hl:xs.length≤100000) (hG:ae w G 22 [ag t]) (hb:base≤w.heap.size) :
  Calls prog 259 #[v,.int .i64 xs.length,.slice (some ⟨G,0,none⟩) 1 1] w (Ins base v (xs.take xs.length++t::xs.drop xs.length) w):=by
 have e0:xs.take xs.length++t::xs.drop xs.length=xs++[t]:=by simp
 rw[e0];clear e0;have gU:=hid hown;obtain⟨A,c,rfl,hc,hm,hrd⟩:=dD hown;have TK:=hid hG.rd;unfold maxLen at hm;clear hown hrd hG
 have hcA:A=none→xs.length=0∧c=0:=fun h=>by
  rcases gU.out.2 with⟨h1,_⟩ | ⟨g,cap,cur,h1,_⟩
  ·injection h1 with _ h2 h3;exact⟨h2,h3⟩
  ·rw[h]at h1;injection h1 with h1;cases h1
 cases A with
 | none =>
   obtain⟨h1,rfl⟩:=hcA rfl;obtain rfl:xs=[]:=List.eq_nil_of_length_eq_zero h1;clear hcA h1;go_enter func259,ntmps259
   go_wp2_with (at_builtin;refine iF zU (by rfl) _ _ (by rfl) base _ 0 _ (by rfl) gU.out _ 1 1 [ag t] (by rfl) (by rfl) TK.out (by simp[Value.oneCell']) (by omega) (by unfold maxLen;omega) hb ?_;intro v2 w2 kJ hg2 zn;have Own2:=hid kJ;clear kJ)
   go_ret
   exact⟨_,rfl,by simpa using Own2.out,hg2,zn⟩
 | some a =>
   obtain⟨g,cap,hga,hgb,hgl⟩ : ∃ g cap,(Value.slice (some a) xs.length c) = .slice (some ⟨g,0,none⟩) xs.length cap∧base≤g∧g<w.heap.size:=by
    rcases gU.out.2 with⟨h1,_⟩ | ⟨g,cap,cur,h1,h2,h3,_⟩
    ·cases h1
    ·exact⟨g,cap,h1,h2,(Array.getElem?_eq_some_iff.1 h3).1⟩
   injection hga with hga _ hgc;injection hga with hga;subst hga hgc;clear hcA;by_cases hcn:c=xs.length
   ·subst hcn
    go_enter func259,ntmps259
    go_wp2_with (at_builtin;refine iF zU (by rfl) _ _ (by rfl) base _ xs.length _ (by rfl) gU.out _ 1 1 [ag t] (by rfl) (by rfl) TK.out (by simp[Value.oneCell']) (by omega) (by unfold maxLen;omega) hb ?_;intro v2 w2 kJ hg2 zn;have Own2:=hid kJ;clear kJ)
    go_ret
    exact⟨_,rfl,by simpa using Own2.out,hg2,zn⟩
   ·go_enter func259,ntmps259
    go_wp2_with (at_builtin;refine iF zU (by rfl) _ _ (by rfl) base _ xs.length _ (by rfl) gU.out _ 1 1 [ag t] (by rfl) (by rfl) TK.out (by simp[Value.oneCell']) (by omega) (by unfold maxLen;omega) hb ?_;intro v2 w2 kJ hg2 zn;have Own2:=hid kJ;clear kJ)
    go_ret
    exact⟨_,rfl,by simpa using Own2.out,hg2,zn⟩
theorem b57 (base g cap:Nat) (xs:List UInt32) (i:Nat) (t:UInt32) (G:Nat) (w:World) (hown:w.ownsRow base 22 1 (.slice (some ⟨g,0,none⟩) xs.length cap) xs.length (xs.map ag)) (hi:i<xs.length) (hl:xs.length≤100000) (hG:ae w G 22 [ag t]) (Pj:G≠g) (hb:base≤w.heap.size)
  (hroom:xs.length+1≤cap) :
  Calls prog 259 #[.slice (some ⟨g,0,none⟩) xs.length cap,.int .i64 i,.slice (some ⟨G,0,none⟩) 1 1] w (Ins base (.slice (some ⟨g,0,none⟩) xs.length cap) (xs.take i++t::xs.drop i) w):=by
 obtain⟨cur,lL,hcl,hnc,hm,hct,hbg⟩:=a5B hown
 have hov : ∀ lb cb,(callFunc 264 #[.slice (some ⟨G,0,none⟩) 1 1,.slice (some ⟨g,i+1,none⟩) lb cb]).run prog w = .ok (.value (.bool false)) w:=fun lb cb=>by
  rw[run_callFunc_extern func264 (by kernel_rfl) (by kernel_rfl) (by kernel_rfl) (e:=Extern.SlicesOverlaps.overlaps #[399,399] #[4]) (by kernel_rfl),
   Lib.run_overlaps_apart w 399 4 22 underlying399 1 (fun w=>by kernel_rfl) ⟨G,0,none⟩ ⟨g,i+1,none⟩ 1 1 lb cb Pj 22 22 1 cap (by unfold ae at hG;simp[World.shape?,hG]) (by simp[World.shape?,lL,hcl]) (by omega) (hG.frozen 0) (hG.frozen 1)]
  rfl
 have Ji:=hid lL;have Hct:=hid hct;have vN:=hid hcl
 have hgl:g<w.heap.size:=(Array.getElem?_eq_some_iff.1 lL).1;clear lL hct hcl hown;unfold maxLen at hm;have hz2:((i:Int)==(xs.length:Int))=false:=by simp;omega
 have hz3:(xs.length:Int)+1≤(cap:Int):=by omega
 have hi':(i:Int)<(xs.length:Int):=by omega
 have hc1:cap≠i:=by omega
 have hc2:cap≠i+1:=by omega
 go_enter func259,ntmps259
 go_wp2_with (simp only[hov])
 refine bu (.take [0,1,2,3,4,5,6,7] .done) [8] (by kernel_rfl) (by kernel_rfl) (fun w1 k1=>?_);refine aN w1 (Below.refl _ _) ?_;simp only[au,ax,ak,aj];repeat(go_big_quiet_step (fail))
 refine wpQuiet_nil (aT ?_);have F9:((xs.map ag).drop i).length=xs.length - i:=by simp
 have KN:Rd w1 (some ⟨g,i,none⟩) ((xs.map ag).drop i):=by
  have hb1:ae w1 g 22 cur:=(show ae w g 22 cur from Ji.out).keep k1;have h1:=hb1.rd.sub i (xs.length - i) (by rw[vN.out];omega);rw[Nat.zero_add]at h1;have e:(cur.drop i).take (xs.length - i)=(xs.map ag).drop i:=by rw[←Hct.out,List.drop_take]
  rwa[e]at h1
 have hG1:ae w1 G 22 [ag t]:=hG.keep k1;have yV:=hid F9;have TL:=hid KN;have RY:=hid hG1
 have Tv:Hid (w1.heap[g]?=some (.cells cur.toArray 22 (0,0))):=(k1.block g hgl).trans Ji.out;clear F9 KN hG1 hG
 go_wp2_with (first
  | (refine QJ zU (by rfl) _ _ (by rfl) g (i+1) _ _ (by rfl) g i _ _ (by rfl) ((xs.map ag).drop i) (by rw[yV.out];omega) TL.out (fun u hu=>a5r xs u (List.mem_of_mem_drop hu)) cur 22 Tv.out (by rw[yV.out,vN.out];omega) ?_;intro w2 Pz hg2)
  | (refine QJ zU (by rfl) _ _ (by rfl) g i _ _ (by rfl) G 0 1 1 (by rfl) [ag t] (by simp;omega) (RY.out.grown hg2 (fun h=>Pj (by injection h with h;exact h.symm))).rd (by simp[Value.oneCell']) _ 22 Pz.out (by rw[length_splice _ _ _ (by rw[yV.out,vN.out];omega),vN.out];simp;omega) ?_;intro w3 Vw hg3))
 go_ret
 refine⟨_,rfl,?_,a2l (a2l (a2h k1) hg2) hg3,.inl rfl⟩;rw[a4e xs i t (by omega)];refine a5D Vw.out hbg ?_ hroom (by unfold maxLen;omega) ?_
 ·rw[length_splice,length_splice,vN.out]
  ·rw[yV.out,vN.out];omega
  ·rw[length_splice _ _ _ (by rw[yV.out,vN.out];omega),vN.out];simp;omega
 ·have h1:=b53 cur (xs.map ag) i (ag t) (by rw[List.length_map];exact Hct.out) (by simpa using hi) (by rw[List.length_map,vN.out];exact hroom)
  rw[List.length_map]at h1;rw[h1,List.map_append,List.map_cons,List.map_take,List.map_drop]
theorem b56 (base g cap:Nat) (xs:List UInt32) (i:Nat) (t:UInt32) (G:Nat) (w:World) (hown:w.ownsRow base 22 1 (.slice (some ⟨g,0,none⟩) xs.length cap) xs.length (xs.map ag)) (hi:i<xs.length) (hl:xs.length≤100000) (hG:ae w G 22 [ag t]) (hb:base≤w.heap.size)
  (hroom:cap<xs.length+1) :
  Calls prog 259 #[.slice (some ⟨g,0,none⟩) xs.length cap,.int .i64 i,.slice (some ⟨G,0,none⟩) 1 1] w (Ins base (.slice (some ⟨g,0,none⟩) xs.length cap) (xs.take i++t::xs.drop i) w):=by
 obtain⟨cur,lL,hcl,hnc,hm,hct,hbg⟩:=a5B hown;have hgl:g<w.heap.size:=(Array.getElem?_eq_some_iff.1 lL).1;have c2T:G<w.heap.size:=hG.lt;obtain⟨i0,hi0,hz0,hzs,hzb⟩:=zU.info;have hrd:Rd w (some ⟨g,0,none⟩) (xs.map ag):=wV hown
 have hold:(Builtin.firstCells i0.size i (.slice (some ⟨g,0,none⟩) i cap)).run prog w.drew = .ok ((xs.map ag).take i).toArray w.drew:=by
  rw[hzs]
  exact run_firstCells_some w.drew 1 i ⟨g,0,none⟩ i cap ((xs.map ag).take i) (by simp;omega) (fun j v hj=>by
   obtain⟨hj2,rfl⟩:=List.getElem?_eq_some_iff.1 hj;rcases hrd.take i with h | ⟨b',o',e',hc⟩
   ·rw[h]at hj2;simp at hj2
   ·injection e' with e';injection e' with e1 e2;subst e1 e2
    rw[qE];exact hc j hj2)
 obtain⟨Gc,Ph⟩ : ∃ Gc,Gc=grownCap w (xs.length+1) cap 22:=⟨_,rfl⟩
 obtain⟨row,hrow⟩ : ∃ row:List Value,row=(((xs.map ag).take i).toArray++Builtin.zeroCells (Value.int .u32 0).cells (xs.length+1 - i)++Builtin.zeroCells (Value.int .u32 0).cells (Gc - (xs.length+1))).toList:=⟨_,rfl⟩
 have hrz : ∀ ty,(Builtin.append_ #[399,3] ty #[.slice (some ⟨g,0,none⟩) i cap,.int .i64 ((xs.length:Int)+1 - (i:Int))]).run prog w =
   .ok (.slice (some ⟨w.heap.size,0,none⟩) (xs.length+1) Gc) (w.drew.alloc (.cells row.toArray 22)):=fun ty=>by
  have h:=Lib.run_append_grow_zeros w 399 3 ty 22 i0 _ .i64 .i64 underlying399 underlying3 hi0 hz0 (some ⟨g,0,none⟩) i cap ((xs.map ag).take i) hold (xs.length+1 - i) (by omega) (by omega) (by omega) (by omega) (by rw[hzb];omega) (by rw[hzb];exact growslice_fits (by omega) (by omega));rw[show i+(xs.length+1 - i)=xs.length+1 by omega,←Ph]at h;rw[show(xs.length:Int)+1 - (i:Int)=((xs.length+1 - i:Nat):Int) by omega,h,hrow,Array.toArray_toList]
 have hGn:xs.length+1≤Gc:=by rw[Ph];exact grownCap_ge w _ _ _
 have hG63:Gc≤9223372036854775807:=by
  have:=grownCap_le_maxLen w (xs.length+1) cap 22 (by unfold maxLen;omega)
  rw[←Ph]at this;unfold maxLen at this;omega
 have hrl:row.length=Gc:=by rw[hrow];simp[Builtin.zeroCells,Value.cells];omega
 have hrt:row.take i=(xs.map ag).take i:=by
  rw[hrow,Array.toList_append,Array.toList_append,List.append_assoc,List.take_append_of_le_length (by simp;omega)];rw[List.toList_toArray,List.take_take,Nat.min_self]
 obtain⟨w1,hw1⟩ : ∃ w1,w1=w.drew.alloc (.cells row.toArray 22):=⟨_,rfl⟩
 rw[←hw1]at hrz;have k1:Keep w w1:=by rw[hw1];exact((Below.refl _ _).drew).alloc (Nat.le_refl _) _
 obtain⟨g1,hg1⟩ : ∃ g1,g1=w.heap.size:=⟨_,rfl⟩
 have a2T:w1.heap[g1]?=some (.cells row.toArray 22 (0,0)):=by rw[hw1,hg1];exact heap_alloc_new w.drew _
 have Tv:=hid a2T;have Hrl:=hid hrl;have b0k:=hid hrt;have CS:=hid hg1
 rw[←hg1]at hrz;have F9:((xs.map ag).drop i).length=xs.length - i:=by simp
 have KN:Rd w1 (some ⟨g,i,none⟩) ((xs.map ag).drop i):=by
  have h1:=((hrd.keep k1).sub i (xs.length - i) (by simp;omega))
  rw[Nat.zero_add,List.take_of_length_le (by rw[F9];omega)]at h1;exact h1
 have RY:=hid (hG.keep k1);have yV:=hid F9;have TL:=hid KN
 have hgg:g≠g1:=by omega
 have Pj:G≠g1:=by omega
 clear F9 KN hG lL hcl hct hold hrow Ph hw1 a2T hrl hrt hg1 hrd hown;unfold maxLen at hm;have hz2:((i:Int)==(xs.length:Int))=false:=by simp;omega
 have hz3:(cap:Int)<(xs.length:Int)+1:=by omega
 have hi':(i:Int)<(xs.length:Int):=by omega
 have hc1:cap≠i:=by omega
 have hc2:Gc≠i:=by omega
 have hc3:Gc≠i+1:=by omega
 go_enter func259,ntmps259
 go_wp2_with (first
  | (at_builtin;refine Lib.wpList_append_run _ rfl _ _ _ _ rfl _ _ rfl rfl _ _ (hrz _) ?_)
  | (refine QJ zU (by rfl) _ _ (by rfl) g1 i _ _ (by rfl) G 0 1 1 (by rfl) [ag t] (by simp;omega) RY.out.rd (by simp[Value.oneCell']) row 22 Tv.out (by rw[Hrl.out];simp;omega) ?_;intro w2 Pz hg2))
 simp only[List.length_cons,List.length_nil,Act.put,Array.set!_eq_setIfInBounds,List.setIfInBounds_toArray,List.set_cons_succ,List.set_cons_zero];refine bu (.take [0,1,2,3,4,5,6,7] .done) [8] (by kernel_rfl) (by kernel_rfl) (fun w3 k3=>?_);refine aN w3 (Below.refl _ _) ?_;simp only[au,ax,ak,aj];repeat(go_big_quiet_step (fail))
 refine wpQuiet_nil (aT ?_);have Vw:Hid (w3.heap[g1]?=some (.cells (splice row i [ag t]).toArray 22 (0,0))):=(k3.block g1 (Array.getElem?_eq_some_iff.1 Pz.out).1).trans Pz.out
 have b0i:Hid (Rd w3 (some ⟨g,i,none⟩) ((xs.map ag).drop i)):=by
  refine Rd.keep ?_ k3;rcases TL.out with h | ⟨b',o',e',hc⟩
  ·exact .inl h
  ·injection e' with e';injection e' with e1 e2;subst e1 e2
   exact .inr ⟨_,_,rfl,fun j hj=>qK hg2 (hc j hj) (fun e=>hgg (by injection e with e;exact e.symm))⟩
 go_wp2_with (refine QJ zU (by rfl) _ _ (by rfl) g1 (i+1) _ _ (by rfl) g i _ _ (by rfl) ((xs.map ag).drop i) (by rw[yV.out];omega) b0i.out (fun u hu=>a5r xs u (List.mem_of_mem_drop hu)) _ 22 Vw.out (by rw[length_splice _ _ _ (by rw[Hrl.out];simp;omega),Hrl.out,yV.out];omega) ?_;intro w4 b4o hg4)
 go_ret
 refine⟨_,rfl,?_,?_,.inr (by rw[CS.out];rfl)⟩
 ·rw[a4e xs i t (by omega)]
  refine a5D b4o.out (by rw[CS.out];exact hb) ?_ hGn (by unfold maxLen;omega) ?_
  ·rw[length_splice,length_splice,Hrl.out]
   ·rw[Hrl.out];simp;omega
   ·rw[length_splice _ _ _ (by rw[Hrl.out];simp;omega),Hrl.out,yV.out];omega
  ·have h1:=b52 row (xs.map ag) i (ag t) b0k.out (by simpa using hi) (by rw[List.length_map,Hrl.out];exact hGn)
   rw[List.length_map]at h1;rw[h1,List.map_append,List.map_cons,List.map_take,List.map_drop]
 ·have e : ∀ a b:World,a.grownBy b (some g1)→w.heap.size≤a.heap.size→Keep w a→Keep w b:=fun a b h hs hk=>hk.grown h hs (fun k hk2=>by injection hk2 with hk2;have:=CS.out;omega)
  have k2:=e _ _ hg2 k1.size k1;have a4h:=af k2 k3;exact a2h (e _ _ hg4 a4h.size a4h)
theorem b54 (base:Nat) (v:Value) (xs:List UInt32) (i:Nat) (t:UInt32) (G:Nat) (w:World) (hown:w.ownsRow base 22 1 v xs.length (xs.map ag)) (hi:i≤xs.length) (hl:xs.length≤100000) (hG:ae w G 22 [ag t]) (b3W:v.ownBlock≠some G) (hb:base≤w.heap.size) :
  Calls prog 259 #[v,.int .i64 i,.slice (some ⟨G,0,none⟩) 1 1] w (Ins base v (xs.take i++t::xs.drop i) w):=by
 by_cases h:i=xs.length
 ·subst h;exact b55 base v xs t G w hown hl hG hb
 ·obtain⟨g,cap,rfl,hgb,hgl⟩:=hown.form (by omega)
  by_cases hr:xs.length+1≤cap
  ·exact b57 base g cap xs i t G w hown (by omega) hl hG (fun e=>b3W (by rw[e];rfl)) hb hr
  ·exact b56 base g cap xs i t G w hown (by omega) hl hG hb (by omega)
def b0I (B:Nat) (ys:List UInt32) (w:World) (e:Ending) (w':World):Prop :=
 e = .returned (.tuple #[])∧∃ v',w'.cell? ⟨B,0,none⟩=some v'∧w'.frozen? ⟨B,0,none⟩=false∧w'.ownsRow (B+1) 22 1 v' ys.length (ys.map ag)∧Below B w w'∧B<w'.heap.size
theorem b8t (B:Nat) (v:Value) (xs:List UInt32) (t:UInt32) (w:World) (hB:w.cell? ⟨B,0,none⟩=some v) (hf:w.frozen? ⟨B,0,none⟩=false) (hown:w.ownsRow (B+1) 22 1 v xs.length (xs.map ag)) (hs:xs.Pairwise uD) (hl:xs.length≤1000) :
  Calls prog 257 #[ag t,.pointer (some ⟨B,0,none⟩)] w (b0I B (uC xs t) w):=by
 have hlb:=a4w xs t;obtain⟨A,c,rfl,hc,hm,hrd⟩:=dD hown;have hbl:=cell_lt hB;have hln:=b50 xs t;go_enter func257,ntmps257
 go_wp2_with fail
 refine(b9b A xs c t w hs (by omega) hrd).mono ?_;rintro e w1 ⟨f,rfl,rfl⟩;have gU:=hid hown;clear hown hrd;go_wp2_with fail
 refine(b54 (B+1) _ xs (lb xs t) t w.heap.size _ (gU.out.alloc _) hlb (by omega) (ae.new w 22 [ag t]) (own_ne gU.out (Nat.le_refl _)) (by simp;omega)).mono ?_;rintro e w2 ⟨v',rfl,hown2,hg2,zn⟩;have hne:(Value.slice A xs.length c).ownBlock≠some B:=fun h=>by have:=(gU.out.lt B h).1;omega
 have b2:=qK hg2 (aC (aB w _) hB) hne;have f2:=b3P hg2 hB (aB w _) hf hne;have k2:Below B w w2:=((aB w _).mono (by omega)).grown hg2 (by simp;omega) (fun g hg=>by have:=(gU.out.lt g hg).1;omega);obtain⟨A',c',rfl,hc',hm',b5s⟩:=dD hown2;clear b5s;have b0c:=hid hown2;clear hown2 hg2;go_wp2
 go_end0
 refine⟨rfl,.slice A' (lb xs t+(xs.length - lb xs t+1)) c',by go_simp,by go_simp,?_,k2.setCell (Nat.le_refl _) _,?_⟩
 ·have hj:(xs.take (lb xs t)++t::xs.drop (lb xs t)).length=lb xs t+(xs.length - lb xs t+1):=by rw[List.length_append,List.length_take,List.length_cons,List.length_drop,Nat.min_eq_left hlb]
  rw[←hj];exact ownsRow_setCell_below b0c.out (a:=⟨B,0,none⟩) (Nat.lt_succ_self B) _
 ·have:=cell_lt b2;simpa using this
def Ov (B:Nat) (ys:List UInt32) (w:World) (e:Ending) (w':World):Prop :=
 ∃ v,e = .returned v∧w'.ownsRow B 22 1 v ys.length (ys.map ag)∧Keep w w'
theorem b3F (xs:List UInt32) (k:Nat) (h:k<xs.length):sortL (xs.take (k+1))=uC (sortL (xs.take k)) xs[k]:=by
 rw[List.take_succ_eq_append_getElem h,b9B]
theorem last_any (A:Option Addr) (l:List UInt32) (c:Nat) (w:World) (hc:l.length≤c) (hm:c≤maxLen) (hr:Rd w A (l.map ag)) :
  Calls prog 254 #[.slice A l.length c] w (Ov (w.heap.size+1) (zG l) w):=by
 unfold maxLen at hm;have hmf : ∀ (fn:Fn) (first cap:Array Value) (w:World),(Instr.makeFunc fn first cap).run prog w = .ok (.func fn first cap) w:=fun _ _ _ _=>rfl;have hd:(l.drop (l.length - 11)).length≤11:=by simp;omega
 go_enter func254,ntmps254
 go_upto_region 3 with fail
 obtain⟨d,hdd⟩ : ∃ d,d=l.drop (l.length - 11):=⟨_,rfl⟩
 have hdl:d.length=l.length - (l.length - 11):=by rw[hdd];simp
 have Hd:=hid hdd;have TB:=hid hdl
 have hd11:d.length≤11:=by omega
 have eU:=hid hr;clear hdd hd hdl hr;have hnb:(w.alloc (.cells #[.slice none 0 0] 399)).cell? ⟨w.heap.size,0,none⟩=some (.slice none 0 0):=by go_simp
 have hnf:(w.alloc (.cells #[.slice none 0 0] 399)).frozen? ⟨w.heap.size,0,none⟩=false:=by go_simp
 go_cut [13,14,15] (fun s n i wx => ∃ A2 c2,s = .slice A2 d.length c2∧n = .int .i64 d.length∧i = .int .i64 0∧Rd w A2 (d.map ag)∧wx=w.alloc (.cells #[.slice none 0 0] 399))
 case first =>
  by_cases h11:11≤l.length
  ·obtain⟨b,off,rfl,hb,F⟩:=eU.out.at (k:=0) (by simp;omega)
   clear F;go_wp2
   go_meet
   refine⟨_,_,by rw[TB.out],by rw[TB.out],rfl,?_,rfl⟩;rw[Hd.out,List.map_drop];have h:=eU.out.JR (k:=l.length - 11) (by simp)
   rwa[Option.map_some,qE]at h
  ·have hdl0:d=l:=by rw[Hd.out,show l.length - 11=0 by omega,List.drop_zero]
   subst hdl0;by_cases h0:d.length=0
   ·obtain rfl:=List.eq_nil_of_length_eq_zero h0
    go_wp2_with fail
    all_goals go_meet
    all_goals exact⟨A,c,rfl,rfl,rfl,Rd.nil _ _,rfl⟩
   ·obtain⟨b,off,rfl,hb,F⟩:=eU.out.at (k:=0) (by simp;omega)
    clear F;go_wp2
    go_meet
    exact⟨some ⟨b,off,none⟩,c,rfl,rfl,rfl,eU.out,rfl⟩
 case rest =>
  obtain⟨A2,c2,rfl,rfl,rfl,hr2,rfl⟩:=hcut;go_wp2
  go_loopw [15] (fun i wr => ∃ (k:Nat) (v:Value),k≤d.length∧i = .int .i64 k∧wr.cell? ⟨w.heap.size,0,none⟩=some v∧wr.frozen? ⟨w.heap.size,0,none⟩=false∧wr.ownsRow (w.heap.size+1) 22 1 v k ((sortL (d.take k)).map ag)∧Keep w wr) (fun i _=>d.length - (intOf i).toNat)
  case atStart=>exact⟨0,.slice none 0 0,Nat.zero_le _,rfl,hnb,hnf,World.ownsRow_nil _ _ _ _,aB _ _⟩
  case round =>
   obtain⟨k,v,hk,rfl,e1,f1,hown,hkeep⟩:=hrel;have hz:=hkeep.size;have hlen:(sortL (d.take k)).length=k:=by rw[Qz,List.length_take];omega
   by_cases hlt:k<d.length
   ·obtain⟨b,off,rfl,hb,F⟩:=hr2.at (k:=k) (by simpa using hlt)
    have hx:=aC hkeep (F k (by simpa using hlt));have hts:=b3F d k hlt;simp only[List.getElem_map]at hx;generalize d[k]=x at hx hts;have hp:=b8t w.heap.size v (sortL (d.take k)) x wr e1 f1 (by rw[hlen];exact hown) (b9C _) (by omega);rw[←hts]at hp;have Oo:=hid hts;have Fj:=hid hr2
    clear F hts hr2 hnb hnf;go_wp2_with (go_at_call 257;refine hp.mono ?_;rintro e w2 ⟨rfl,v2,e2,f2,hown2,b4k,hsz2⟩)
    go_roundw
    case rel =>
     exact⟨k+1,v2,by omega,by go_num,e2,f2,by have h3:=Qz (d.take (k+1));rw[List.length_take,Nat.min_eq_left (by omega)]at h3;rw[h3]at hown2;exact hown2,Below.trans hkeep b4k⟩
    case measure=>simp[intOf];omega
   ·have hk':k=d.length:=by omega
    subst hk';rw[List.take_length]at hown;go_wp2
    go_ret
    refine⟨v,rfl,?_,hkeep⟩;unfold zG;rw[←Hd.out,Qz];exact hown
def YM (v:Value) (w:World) (e:Ending) (w':World):Prop:=e = .returned v∧Keep w w'
theorem b7b (A:Option Addr) (l:List UInt32) (c:Nat) (w:World) (hc:l.length≤c) (hm:c≤maxLen) (hr:Rd w A (l.map ag)) :
  Calls prog 248 #[.slice A l.length c] w (YM (ag (Gq l)) w):=by
 have hlast:=last_any A l c w hc hm hr;have hll:=b6s l;have DR:Gq l=(zG l).getD ((zG l).length/2) 0:=rfl;unfold maxLen at hm;generalize Gq l=m at DR ⊢;generalize zG l=ys at hlast hll DR;have a0b:=hid DR;clear DR;have hy:ys.length≤11:=by omega
 clear hll;go_enter func248,ntmps248
 go_wp2_with fail
 refine hlast.mono ?_;rintro e w1 ⟨v,rfl,hown,hk⟩;obtain⟨A1,c1,rfl,hc1,hm1,hrd⟩:=dD hown;clear hown;by_cases h0:ys.length=0
 ·go_wp2
  go_ret
  refine⟨?_,hk⟩;rw[a0b.out,List.eq_nil_of_length_eq_zero h0];rfl
 ·have hlt:ys.length/2<ys.length:=by omega
  obtain⟨b,off,rfl,hb,F⟩:=hrd.at (k:=ys.length/2) (by simpa using hlt);have hx:=F (ys.length/2) (by simpa using hlt);have he:m=ys[ys.length/2]:=by rw[a0b.out,List.getD_eq_getElem?_getD,List.getElem?_eq_getElem hlt];rfl
  simp only[List.getElem_map]at hx;rw[←he]at hx;clear F he;go_wp2
  go_ret
  exact⟨rfl,hk⟩
def FQ (x:Int):Int:=min (max x 0) 1099511627776
def zg (t:UInt32) (l:List UInt32) (n f:Int):Int:=if(l≠[]∧t.toNat≤(Gq l).toNat)∨FQ n+FQ f<(t.toNat:Int)then 8 else 0
theorem check_any (t:UInt32) (A:Option Addr) (l:List UInt32) (c:Nat) (n f:Int) (w:World) (hc:l.length≤c) (hm:c≤maxLen) (hr:Rd w A (l.map ag)) :
  Calls prog 241 #[ag t,.slice A l.length c,.int .i64 n,.int .i64 f] w (YM (.int .i64 (zg t l n f)) w):=by
 have DR:=b7b A l c w hc hm hr;have Oi:=hid (show zg t l n f=if(l≠[]∧t.toNat≤(Gq l).toNat)∨FQ n+FQ f<(t.toNat:Int)then 8 else 0 from rfl);have ht:=t.toNat_lt;unfold maxLen at hm;generalize Gq l=m at *;generalize zg t l n f=r at *;go_enter func241,ntmps241
 by_cases h0:l.length=0
 ·have h0':l=[]:=List.eq_nil_of_length_eq_zero h0
  go_wp2_with fail
  all_goals go_ret
  all_goals refine⟨?_,Below.refl _ _⟩
  all_goals (have hQ:=Oi.out;rw[hQ];clear hQ Oi DR;subst h0';unfold FQ)
  all_goals (split <;> first | rfl | (exfalso;simp at *;omega))
 ·have hne:l≠[]:=fun h=>h0 (by rw[h];rfl)
  go_wp2_with fail
  refine DR.mono ?_;rintro e w2 ⟨rfl,hk2⟩;go_wp2_with fail
  all_goals go_ret
  all_goals refine⟨?_,hk2⟩
  all_goals (have hQ:=Oi.out;rw[hQ];clear hQ Oi;simp only[hne,not_false_eq_true,true_and,ne_eq];unfold FQ)
  all_goals (split <;> first | rfl | (exfalso;simp at *;omega))
structure iK where
 pre:List Value
 t:UInt32
 post:List Value
 h1:pre.length=65
 h2:post.length=2
 h3 : ∀ u∈pre,u.oneCell'=true
 h4 : ∀ u∈post,u.oneCell'=true
def iK.cells (h:iK):List Value:=h.pre++ag h.t::h.post
theorem iK.len (h:iK):h.cells.length=68:=by simp[iK.cells,h.h1,h.h2]
theorem iK.time (h:iK):h.cells[65]?=some (ag h.t):=by
 unfold iK.cells;rw[List.getElem?_append_right (by rw[h.h1];omega),h.h1];rfl
theorem iK.at {w:World} {A:Option Addr} {hs:List iK} (hr:Rd w A (hs.flatMap iK.cells)) {k:Nat} (hk:k<hs.length) :
  ∃ b off,A=some ⟨b,off,none⟩∧b<w.heap.size∧∀ j,j<68→w.cell? ⟨b,off+k*68+j,none⟩=hs[k].cells[j]?:=by
 obtain⟨b,off,rfl,hb,F⟩:=hr.at (k:=k*68) (by rw[FV _ 68 iK.len];omega);exact⟨b,off,rfl,hb,fun j hj=>Rd.field iK.len F k j hk hj⟩
theorem c0k (hs:List iK) (k:Nat) (h:k<hs.length):(hs.take (k+1)).map iK.t=(hs.take k).map iK.t++[hs[k].t]:=by
 rw[List.take_succ_eq_append_getElem h,List.map_append];rfl
theorem iK.one (h:iK) : ∀ u∈h.cells,u.oneCell'=true:=by
 intro u hu;unfold iK.cells at hu;rcases List.mem_append.1 hu with hu | hu
 ·exact h.h3 u hu
 ·rcases List.mem_cons.1 hu with rfl | hu
  ·rfl
  ·exact h.h4 u hu
theorem a2Z:(prog.info? 29).map (·.size)=some 68:=by kernel_rfl
noncomputable def XG:Array Value:=match(prog.info? 29).bind (·.zero)with | some (.agg c)=>c | _ => #[]
theorem c1A:XG.size=68:=by kernel_rfl
theorem c1B (w:World):(zeroValue 29).run prog w = .ok (.agg XG) w:=by kernel_rfl
theorem times_any (A:Option Addr) (hs:List iK) (c:Nat) (w:World) (hl:hs.length≤100) (hr:Rd w A (hs.flatMap iK.cells)) :
  Calls prog 242 #[.slice A hs.length c] w (Ov w.heap.size (hs.map iK.t) w):=by
 obtain⟨zs,hzs⟩ : ∃ zs,zs=XG:=⟨_,rfl⟩
 have hz1:zs.size=68:=by rw[hzs];exact c1A
 have hz2 : ∀ w,(zeroValue 29).run prog w = .ok (.agg zs) w:=fun w=>by rw[hzs];exact c1B w
 have hz3 : ¬ zs = #[]:=fun h=>by rw[h]at hz1;cases hz1
 clear hzs;go_enter func242,ntmps242
 go_wp2
 go_loopw [3,8] (fun v i wr => ∃ k:Nat,k≤hs.length∧i = .int .i64 k∧wr.ownsRow w.heap.size 22 1 v k (((hs.take k).map iK.t).map ag)∧Keep w wr) (fun _ i _=>hs.length - (intOf i).toNat)
 case atStart=>exact⟨0,Nat.zero_le _,rfl,World.ownsRow_nil _ _ _ _,Below.refl _ _⟩
 case round =>
  obtain⟨k,hk,rfl,hown,hkr⟩:=hrel;have hz:=hkr.size;by_cases hlt:k<hs.length
  ·obtain⟨b,off,rfl,hb,F⟩:=iK.at hr hlt
   have hts:=c0k hs k hlt;have hlen:=iK.len hs[k];have hone:=iK.one hs[k];have zx:=iK.time hs[k]
   have hrg:wr.rangeAt b (off+k*68) hs[k].cells:=fun j v hv=>by
    have hj:j<68:=by rw[←hlen];exact(List.getElem?_eq_some_iff.1 hv).1
    exact aC hkr ((F j hj).trans hv)
   generalize hs[k].t=x at hts zx;generalize hs[k].cells=cs at *;have Oo:=hid hts;have uj:=hid hrg;have b0a:=hid hone;have Hlen:=hid hlen;have b0m:=hid zx
   obtain⟨Av,cv,rfl,hcv,hmv,wL⟩:=dD hown;have gU:=hid hown;clear F hts hown wL hrg hone hlen zx hr
   have hst:(storeCells ⟨wr.heap.size,0,none⟩ cs 0).run prog (wr.alloc (.cells zs 29)) = .ok () (wr.alloc (.cells cs.toArray 29)):=by
    have h:=run_storeCells_new (P:=prog) wr 29 zs cs.toArray (by rw[List.size_toArray,Hlen.out];exact a2Z) (hz1.trans (by rw[List.size_toArray,Hlen.out])) (all_oneCell_toArray b0a.out);exact h
   go_upto_region 5 with(refine wpList_load_mid rfl 29 _ rfl b (off+k*68) rfl cs _ uj.out underlying29 rfl (by rw[Hlen.out];exact a2Z) ?_)
   clear hst;have r0:(wr.alloc (.cells cs.toArray 29)).cell? ⟨wr.heap.size,65,none⟩=some (ag x):=(cell_of_row _ _ 65 _ _ _ (heap_alloc_new wr _)).trans (by simpa using b0m.out);have k0:=af hkr (aB wr (.cells cs.toArray 29));have nP:=hid (gU.out.alloc (.cells cs.toArray 29));have hz0:(wr.alloc (.cells cs.toArray 29)).heap.size=wr.heap.size+1:=by simp
   obtain⟨w0,hw0⟩ : ∃ w0,w0=wr.alloc (.cells cs.toArray 29):=⟨_,rfl⟩
   rw[←hw0]at r0 k0 nP hz0 ⊢;clear hw0;have hzw:w.heap.size≤w0.heap.size:=by omega
   clear hz0;go_wp2_with (at_builtin;refine iF zU (by rfl) _ _ (by rfl) w.heap.size _ k _ (by rfl) (nP.out.alloc _) _ 1 1 [ag x] (by rfl) (by rfl) (Rd.new _ _ _) (by simp[Value.oneCell']) (by omega) (by unfold maxLen;omega) (by first | (simp;omega) | (rw[World.size_alloc];omega)) ?_;intro v4 w4 own4 hg4 zo;have k4:=lQ (af k0 (aB _ _)) (by simp;omega) hg4 (nP.out.alloc _);obtain⟨A4,c4,rfl,hc4,hm4,VP⟩:=dD own4;have Own4:=hid own4;clear own4 VP hg4 zo)
   go_roundw
   case rel =>
    refine⟨k+1,by omega,by go_num,?_,k4⟩;rw[Oo.out,List.map_append];exact Own4.out
   case measure=>simp[intOf];omega
  ·obtain rfl:hs.length=k:=by omega
   rw[List.take_length]at hown;obtain⟨Av,cv,rfl,hcv,hmv,wL⟩:=dD hown;have gU:=hid hown;clear hown wL;go_wp2
   go_ret
   exact⟨_,rfl,by rw[List.length_map];exact gU.out,hkr⟩
end Go.Proofs.YtiagcenlnekdeaaGreatDoor
