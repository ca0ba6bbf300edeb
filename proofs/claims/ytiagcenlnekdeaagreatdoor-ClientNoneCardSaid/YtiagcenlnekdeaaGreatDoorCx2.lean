/- Texts merged by pack.py: Base, Rgn, Seq. -/
import Derived.WalkKit
import Derived.WalkSpells
import Derived.WalkLawsBesides
import Derived.BigQuiet
import Derived.Deep.AppendLies
import Derived.Maps.AppendAt
import Derived.Laws.CopyOwn
import Derived.Lib.Hide
import Derived.Deep.WholeRow
import Derived.Deep.MidRow
import Derived.Laws.Rows
import Derived.Deep.QuietTactic
import Derived.OrdersHeld
set_option maxRecDepth 1000000
set_option maxHeartbeats 16000000
open Go.Lib (hid)
set_option linter.unusedSimpArgs false
set_option linter.unusedVariables false
namespace Go.Proofs.YtiagcenlnekdeaaGreatDoor
open Go.RowKit
theorem qE (b off j:Nat):(⟨b,off,none⟩:Addr).add j=⟨b,off+j,none⟩:=by
 unfold Addr.add;split <;> simp_all
def Rd (w:World) (A:Option Addr) (xs:List Value):Prop :=
 xs=[] ∨ ∃ b off,A=some ⟨b,off,none⟩∧∀ j (h:j<xs.length),w.cell? ⟨b,off+j,none⟩=some xs[j]
theorem cell_lt {w:World} {b o:Nat} {v:Value} (h:w.cell? ⟨b,o,none⟩=some v):b<w.heap.size:=World.block_lt_of_cell? w _ h
abbrev Keep (w w':World):Prop:=Below w.heap.size w w'
section
variable {w w':World} {A:Option Addr} {xs ys:List Value}
theorem Rd.nil (w:World) (A:Option Addr):Rd w A []:=.inl rfl
theorem Rd.at (h:Rd w A xs) {k:Nat} (hk:k<xs.length) : ∃ b off,A=some ⟨b,off,none⟩∧b<w.heap.size∧∀ j (h:j<xs.length),w.cell? ⟨b,off+j,none⟩=some xs[j]:=by
 rcases h with rfl | ⟨b,off,rfl,hc⟩
 ·simp at hk
 ·exact⟨b,off,rfl,cell_lt (hc k hk),hc⟩
theorem Rd.mono (h:Rd w A xs) (hk : ∀ b o v,w.cell? ⟨b,o,none⟩=some v→w'.cell? ⟨b,o,none⟩=some v):Rd w' A xs:=by
 rcases h with rfl | ⟨b,off,rfl,hc⟩
 ·exact .inl rfl
 ·exact .inr ⟨b,off,rfl,fun j hj=>hk _ _ _ (hc j hj)⟩
theorem Rd.keep (h:Rd w A xs) (hb:Keep w w'):Rd w' A xs :=
 h.mono fun b o v hv=>by rw[hb.cell (p:=⟨b,o,none⟩) (cell_lt hv)];exact hv
theorem Rd.at2 (h:Rd w A xs) (hb:Keep w w') {k:Nat} (hk:k<xs.length) :
  ∃ b off,A=some ⟨b,off,none⟩∧b<w.heap.size∧(∀ j (h:j<xs.length),w'.cell? ⟨b,off+j,none⟩=some xs[j]) ∧
    (∀ w2,Keep w w2 → ∀ j (h:j<xs.length),w2.cell? ⟨b,off+j,none⟩=some xs[j]):=by
 obtain⟨b,off,rfl,hlt,hc⟩:=h.at hk;exact⟨b,off,rfl,hlt,fun j hj=>(hb.cell (p:=⟨b,off+j,none⟩) hlt).trans (hc j hj),fun w2 h2 j hj=>(h2.cell (p:=⟨b,off+j,none⟩) hlt).trans (hc j hj)⟩
theorem lQ {w wr w1:World} {base:Nat} {e:TypeId} {size:Nat} {v:Value} {n:Nat} {xs:List Value} (hk:Below base w wr) (hs:base≤wr.heap.size) (hg:wr.grownBy w1 v.ownBlock)
  (hown:wr.ownsRow base e size v n xs):Below base w w1:=hk.grown hg hs fun k hk=>(hown.lt k hk).1
theorem aC {w w':World} (hk:Keep w w') {b o:Nat} {v:Value} (h:w.cell? ⟨b,o,none⟩=some v):w'.cell? ⟨b,o,none⟩=some v :=
 (hk.cell (p:=⟨b,o,none⟩) (cell_lt h)).trans h
theorem fU {w w':World} (hk:Keep w w') {b o:Nat} (hb:b<w.heap.size) (h:w.frozen? ⟨b,o,none⟩=false):w'.frozen? ⟨b,o,none⟩=false :=
 (hk.frozen (p:=⟨b,o,none⟩) hb).trans h
theorem af {a b c:World} (h:Keep a b) (k:Keep b c):Keep a c:=h.trans (k.mono h.size)
theorem Df (w:World) (cs:Array Value) (t:TypeId) (j:Nat):(w.alloc (.cells cs t)).cell? ⟨w.heap.size,j,none⟩=cs[j]? :=
 cell_of_row _ _ _ _ _ (0,0) (heap_alloc_new w _)
theorem Gg {w w2:World} {cs:Array Value} {t:TypeId} (hk:Keep (w.alloc (.cells cs t)) w2) (j:Nat) (v:Value) (hv:cs[j]?=some v):w2.cell? ⟨w.heap.size,j,none⟩=some v :=
 aC hk ((Df w cs t j).trans hv)
theorem jM {w w':World} {base:Nat} {e:TypeId} {size:Nat} {v:Value} {n:Nat} {xs:List Value} (h:w.ownsRow base e size v n xs) (hk:Keep w w'):w'.ownsRow base e size v n xs :=
 h.kept ⟨hk.os,hk.tape,hk.output,hk.size,fun k hl _=>hk.block k hl⟩ (row:=none) (by cases hv:v.ownBlock <;> simp)
theorem qK {w w':World} {row:Option Nat} (hg:w.grownBy w' row) {b o:Nat} {v:Value} (h:w.cell? ⟨b,o,none⟩=some v) (hne:row≠some b):w'.cell? ⟨b,o,none⟩=some v :=
 (hg.cell_far _ (cell_lt h) (Ne.symm hne)).trans h
theorem own_ne {w:World} {base:Nat} {e:TypeId} {size:Nat} {v:Value} {n:Nat} {xs:List Value} (h:w.ownsRow base e size v n xs) {b:Nat} (hb:w.heap.size≤b):v.ownBlock≠some b :=
 fun e=>by have:=(h.lt b e).2;omega
theorem jm {w:World} {base:Nat} {e:TypeId} {size:Nat} {v:Value} {n n':Nat} {xs xs':List Value} (h:w.ownsRow base e size v n xs) (hn:n=n') (hx:xs=xs'):w.ownsRow base e size v n' xs':=hn ▸ hx ▸ h
theorem dD {w:World} {base:Nat} {e:TypeId} {size:Nat} {v:Value} {n:Nat} {xs:List Value} (h:w.ownsRow base e size v n xs) :
  ∃ A c,v = .slice A n c∧n≤c∧c≤maxLen∧Rd w A xs:=by
 rcases h.2 with⟨rfl,rfl⟩ | ⟨g,cap,cur,rfl,hb,hg,h1,h2,h3,h4⟩
 ·exact⟨none,0,rfl,Nat.le_refl _,Nat.zero_le _,.inl (List.eq_nil_of_length_eq_zero (by simpa using h.1))⟩
 ·refine⟨_,cap,rfl,h1,h2,.inr ⟨g,0,rfl,fun j hj=>?_⟩⟩
  have:=h.cells (g:=g) rfl j _ (List.getElem?_eq_getElem hj)
  rwa[qE]at this
theorem Rd.drew (h:Rd w A xs):Rd w.drew A xs:=h
theorem Rd.alloc (h:Rd w A xs) (o:Obj):Rd (w.alloc o) A xs:=h.keep ((Below.refl _ _).alloc (Nat.le_refl _) o)
end
theorem Gz {k:IntKind} {a b:Int} (h:a=b):Ending.returned (.int k a) = .returned (.int k b):=by rw[h]
theorem xe {a b:Bool} (h:a=b):Ending.returned (.bool a) = .returned (.bool b):=by rw[h]
theorem b1L (x:UInt8):IntKind.i64.wrap x.toNat=x.toNat:=IntWalk.i64_in _ (by have:=x.toNat_lt;omega)
theorem b1N (x:UInt8):wrap64 x.toNat=x.toNat:=IntWalk.wrap64_in _ (by have:=x.toNat_lt;omega)
attribute [go_sem] b1L b1N
abbrev ah (x:UInt8):Value:=.int .u8 x.toNat
abbrev ag (x:UInt32):Value:=.int .u32 x.toNat
abbrev iv (n:Int):Value:=.int .i64 n
abbrev dA (n:Nat):Value:=.int .u64 n
theorem FV {α β:Type} (f:α→List β) (size:Nat) (hf : ∀ a,(f a).length=size) (l:List α):(l.flatMap f).length=l.length*size:=by
 induction l with
 | nil=>simp
 | cons a l ih=>simp[hf,ih,Nat.add_mul];omega
theorem b3B {α β:Type} (f:α→List β) (size:Nat) (hf : ∀ a,(f a).length=size) (l:List α) (i j:Nat) (hi:i<l.length) (hj:j<size) :
  (l.flatMap f)[i*size+j]?=(f l[i])[j]?:=by
 induction l generalizing i with
 | nil=>simp at hi
 | cons a l ih =>
   cases i with
   | zero=>simp[List.getElem?_append_left (show j<(f a).length by rw[hf];exact hj)]
   | succ i =>
     have h:=ih i (by simpa using hi);simp only[List.flatMap_cons,List.getElem_cons_succ];rw[List.getElem?_append_right (by rw[hf,Nat.succ_mul];omega),hf,show(i+1)*size+j - size=i*size+j from by rw[Nat.succ_mul];omega];exact h
theorem rF {α β:Type} (f:α→List β) (size:Nat) (l:List α) (hf : ∀ a∈l,(f a).length=size):(l.flatMap f).length=l.length*size:=by
 induction l with
 | nil=>simp
 | cons a l ih =>
   have:=ih fun b hb=>hf b (by simp[hb])
   simp[hf a (by simp),Nat.add_mul];simp at this;omega
theorem JW {α β:Type} (f:α→List β) (size:Nat) (l:List α) (hf : ∀ a∈l,(f a).length=size) (i j:Nat) (hi:i<l.length) (hj:j<size) :
  (l.flatMap f)[i*size+j]?=(f l[i])[j]?:=by
 induction l generalizing i with
 | nil=>simp at hi
 | cons a l ih =>
   have ha:=hf a (by simp)
   cases i with
   | zero=>simp[List.getElem?_append_left (show j<(f a).length by rw[ha];exact hj)]
   | succ i =>
     have h:=ih (fun b hb=>hf b (by simp[hb])) i (by simpa using hi);simp only[List.flatMap_cons,List.getElem_cons_succ];rw[List.getElem?_append_right (by rw[ha,Nat.succ_mul];omega),ha,show(i+1)*size+j - size=i*size+j from by rw[Nat.succ_mul];omega];exact h
theorem add_add' (a:Addr) (i j:Nat):(a.add i).add j=a.add (i+j):=by
 unfold Addr.add;by_cases hi:i=0 <;> by_cases hj:j=0 <;> simp[hi,hj,Nat.add_assoc]
theorem Rd.field {α:Type} {w:World} {b off size:Nat} {f:α→List Value} (hf : ∀ a,(f a).length=size) {l:List α}
  (h : ∀ j (h:j<(l.flatMap f).length),w.cell? ⟨b,off+j,none⟩=some (l.flatMap f)[j]) (i j:Nat) (hi:i<l.length) (hj:j<size) :
  w.cell? ⟨b,off+i*size+j,none⟩=(f l[i])[j]?:=by
 have hl:=FV f size hf l
 have hlt:i*size+j<(l.flatMap f).length:=by
  rw[hl]
  calc i*size+j<i*size+size:=by omega
   _=(i+1)*size:=by rw[Nat.succ_mul]
   _≤l.length*size:=Nat.mul_le_mul_right _ hi
 have:=h (i*size+j) hlt
 rw[Nat.add_assoc,this,←b3B f size hf l i j hi hj,List.getElem?_eq_getElem hlt]
structure dL (P:Program) (t e:TypeId) (z:Value) (size bytes:Nat):Prop where
 und:P.underlying t=some (.slice e)
 info : ∃ i,P.info? e=some i∧i.zero=some z∧i.size=size∧i.bytes=bytes
 zs:z.cells.size=size
 pos:0<size
theorem dL.mk' {P:Program} {t e:TypeId} {z:Value} {size bytes:Nat} (h1:P.underlying t=some (.slice e)) (h2:(P.info? e).map (fun i=>(i.zero,i.size,i.bytes))=some (some z,size,bytes))
  (h3:z.cells.size=size) (h4:0<size):dL P t e z size bytes:=by
 obtain⟨i,hi,a,b,c⟩:=info_parts h2;exact⟨h1,⟨i,hi,a,b,c⟩,h3,h4⟩
section
variable {P:Program} {t e:TypeId} {z:Value} {size bytes:Nat}
theorem Rd.a6e (T:dL P t e z size bytes) (w:World) (base:Nat) (ty:TypeId) (v:Value) (n:Nat) (xs:List Value) (hown:w.ownsRow base e size v n xs)
  (A:Option Addr) (m c:Nat) (news:List Value) (hl:news.length=m*size) (hr:Rd w A news) (h1 : ∀ u∈news,u.oneCell'=true)
  (hb:(n+m)*bytes≤140737488355328) (h63:n+m≤maxLen) (hbase:base≤w.heap.size) :
  ∃ v' w',(Builtin.append_ #[t,t] ty #[v,.slice A m c]).run P w = .ok v' w'∧w'.ownsRow base e size v' (n+m) (xs++news)∧w.grownBy w' v.ownBlock ∧
    (v'.ownBlock=v.ownBlock∨v'.ownBlock=some w.heap.size):=by
 obtain⟨i,hi,hz,hsz,hby⟩:=T.info;by_cases hm:m=0
 ·subst hm
  obtain rfl:news=[]:=List.eq_nil_of_length_eq_zero (by simpa using hl);refine⟨v,w,?_,by simpa using hown,World.grownBy.refl w _,.inl rfl⟩
  rcases hown.2 with⟨rfl,rfl⟩ | ⟨g,cap,cur,rfl,_,_,hnc,_⟩ <;> cases A <;>
   simp[Builtin.append_,run_underlying T.und,sizeOf,typeInfo,Builtin.lenOf,Builtin.firstCells,loadCells,loadCellsFrom,storeCells, *]
 ·have hpos:0<m*size:=Nat.mul_pos (by omega) T.pos
  rcases hr with rfl | ⟨b,off,rfl,hc⟩
  ·simp at hl;omega
  ·obtain⟨v',w',hrun,h2,h3,_,h5⟩:=run_append_own_at (P:=P) w base t ty e i z size bytes T.und hi hz hsz hby T.zs T.pos v n xs hown ⟨b,off,none⟩ m c news hl
    (fun j u hu=>by
     obtain⟨hj,rfl⟩:=List.getElem?_eq_some_iff.1 hu
     rw[qE];exact hc j hj) h1 h63 hb hbase
   exact⟨v',w',hrun,h2,h3,h5⟩
theorem Es (T:dL P t e z size bytes) {w:World} {o:Oper} {a:Act} {K:Act→World→Prop} {Q:Exit→Act→World→Prop} (s x:Operand)
  (ho:o.op = .call { callee:=.builtin .append,args:=#[s,x],argTypes:=#[t,t]}) (base:Nat)
  (v:Value) (n:Nat) (xs:List Value) (hs:a.eval s=v) (hown:w.ownsRow base e size v n xs)
  (A:Option Addr) (m c:Nat) (news:List Value) (hx:a.eval x = .slice A m c) (hl:news.length=m*size) (hr:Rd w A news) (h1 : ∀ u∈news,u.oneCell'=true)
  (hb:(n+m)*bytes≤140737488355328) (h63:n+m≤maxLen) (hbase:base≤w.heap.size)
  (h : ∀ v' w',w'.ownsRow base e size v' (n+m) (xs++news)→w.grownBy w' v.ownBlock→(v'.ownBlock=v.ownBlock∨v'.ownBlock=some w.heap.size)→K (a.put o.dst v') w'):o.wp P a w K Q:=by
 obtain⟨v',w',hrun,h2,h3,h4⟩:=Rd.a6e T w base o.type v n xs hown A m c news hl hr h1 hb h63 hbase;unfold Oper.wp execOp;simp only[ho,resolve,invoke,builtin,Sem.run_bind,Sem.run_pure,Result.andThen_ok,List.map_toArray,List.map_cons,List.map_nil,hs,hx,hrun];exact h v' w' h2 h3 h4
theorem iF (T:dL P t e z size bytes) {w:World} {ops:Array Oper} {rest:List Oper} {o:Oper} {a:Act} {Q:Exit→Act→World→Prop} (hgd:o.guard=none) (s x:Operand)
  (ho:o.op = .call { callee:=.builtin .append,args:=#[s,x],argTypes:=#[t,t]}) (base:Nat)
  (v:Value) (n:Nat) (xs:List Value) (hs:a.eval s=v) (hown:w.ownsRow base e size v n xs)
  (A:Option Addr) (m c:Nat) (news:List Value) (hx:a.eval x = .slice A m c) (hl:news.length=m*size) (hr:Rd w A news) (h1 : ∀ u∈news,u.oneCell'=true)
  (hb:(n+m)*bytes≤140737488355328) (h63:n+m≤maxLen) (hbase:base≤w.heap.size)
  (h : ∀ v' w',w'.ownsRow base e size v' (n+m) (xs++news)→w.grownBy w' v.ownBlock→(v'.ownBlock=v.ownBlock∨v'.ownBlock=some w.heap.size)→wpList P ops Q rest (a.put o.dst v') w'):wpList P ops Q (o::rest) a w :=
 wpList_plain hgd fun _ hK=>Es T s x ho base v n xs hs hown A m c news hx hl hr h1 hb h63 hbase fun v' w' h2 h3 h4=>hK _ _ (h v' w' h2 h3 h4)
end
theorem Rd.new (w:World) (cs:List Value) (t:TypeId):Rd (w.alloc (.cells cs.toArray t)) (some ⟨w.heap.size,0,none⟩) cs:=by
 refine .inr ⟨_,_,rfl,fun j hj=>?_⟩;rw[cell_of_row _ _ _ _ _ (0,0) (heap_alloc_new w _)];simp
section
variable {P:Program} {t e:TypeId} {z:Value} {bytes:Nat}
theorem a7k (T:dL P t e z 1 bytes) {w:World} {o:Oper} {a:Act} {K:Act→World→Prop} {Q:Exit→Act→World→Prop} (d x:Operand)
  (ho:o.op = .call { callee:=.builtin .copy,args:=#[d,x],argTypes:=#[t,t]}) (g off dLen dCap:Nat) (hd:a.eval d = .slice (some ⟨g,off,none⟩) dLen dCap)
  (A:Option Addr) (n c:Nat) (xs:List Value) (hx:a.eval x = .slice A n c) (hn:xs.length=n) (hr:Rd w A xs) (h1 : ∀ u∈xs,u.oneCell'=true)
  (cur:List Value) (t':TypeId) (hg:w.heap[g]?=some (.cells cur.toArray t' (0,0))) (hfit:off+min n dLen≤cur.length)
  (h : ∀ w',Hid (w'.heap[g]?=some (.cells (splice cur off (xs.take dLen)).toArray t' (0,0)))→w.grownBy w' (some g)→K (a.put o.dst (.int .i64 (min n dLen:Nat))) w'):o.wp P a w K Q:=by
 have hsz:(P.info? e).map (·.size)=some 1:=by obtain⟨i,hi,_,h2,_⟩:=T.info;simp[hi,h2]
 have hl:(xs.take dLen).length=min n dLen:=by simp[hn,Nat.min_comm]
 by_cases h0:min n dLen=0
 ·have hrun:=run_copy_none (P:=P) w t t o.type e (some ⟨g,off,none⟩) A dLen dCap n c T.und hsz h0
  unfold Oper.wp;simp[execOp,ho,resolve,invoke,builtin,hd,hx,hrun,Result.andThen]
  have hk:=h w (show _=_ by
   have:xs.take dLen=[]:=List.eq_nil_of_length_eq_zero (by omega)
   simpa[this,splice]using hg) (World.grownBy.refl w _)
  rw[h0]at hk;exact hk
 ·rcases hr with rfl | ⟨b,o2,rfl,hc⟩
  ·simp at hn;omega
  ·have hrun:=run_copy_row (P:=P) w t t o.type e g off dLen dCap ⟨b,o2,none⟩ n c cur.toArray t' (xs.take dLen) T.und hsz hg hl (fun j v hv=>by
    obtain⟨hj,rfl⟩:=List.getElem?_eq_some_iff.1 hv
    rw[qE,hc j (by simp at hj;omega)];simp) (by rw[hl];simpa using hfit) (fun v hv=>h1 v (List.mem_of_mem_take hv))
   unfold Oper.wp;simp only[execOp,ho,resolve,invoke,builtin,Sem.run_bind,Sem.run_pure,Result.andThen_ok,List.map_toArray,List.map_cons,List.map_nil,hd,hx,hrun,Oper.upon];rw[hl];refine h _ ?_ ⟨rfl,rfl,rfl,by simp[World.setRow],fun k _ hne=>setRow_other w g k _ (fun e=>hne (by rw[e]))⟩;have hs:splice cur off (xs.take dLen)=cur.take off++xs.take dLen++cur.drop (off+min n dLen):=by rw[splice,hl,List.append_assoc]
   rw[hs];exact setRow_heap w g cur.toArray _ t' (0,0) hg
theorem ML (T:dL P t e z 1 bytes) {w:World} {ops:Array Oper} {rest:List Oper} {o:Oper} {a:Act} {Q:Exit→Act→World→Prop} (hgd:o.guard=none) (d x:Operand)
  (ho:o.op = .call { callee:=.builtin .copy,args:=#[d,x],argTypes:=#[t,t]}) (g off dLen dCap:Nat) (hd:a.eval d = .slice (some ⟨g,off,none⟩) dLen dCap)
  (A:Option Addr) (n c:Nat) (xs:List Value) (hx:a.eval x = .slice A n c) (hn:xs.length=n) (hr:Rd w A xs) (h1 : ∀ u∈xs,u.oneCell'=true)
  (cur:List Value) (t':TypeId) (hg:w.heap[g]?=some (.cells cur.toArray t' (0,0))) (hfit:off+min n dLen≤cur.length)
  (h : ∀ w',Hid (w'.heap[g]?=some (.cells (splice cur off (xs.take dLen)).toArray t' (0,0)))→w.grownBy w' (some g)→wpList P ops Q rest (a.put o.dst (.int .i64 (min n dLen:Nat))) w'):wpList P ops Q (o::rest) a w :=
 wpList_plain hgd fun _ hK=>a7k T d x ho g off dLen dCap hd A n c xs hx hn hr h1 cur t' hg hfit fun w' h2 h3=>hK _ _ (h w' h2 h3)
theorem b9M (T:dL P t e z 1 bytes) {w:World} {ops:Array Oper} {o:Oper} {a:Act} {K:Act→World→Prop} {Q:Exit→Act→World→Prop} {E:Prop} (hgd:o.guard=none) (d x:Operand)
  (ho:o.op = .call { callee:=.builtin .copy,args:=#[d,x],argTypes:=#[t,t]}) (g off dLen dCap:Nat) (hd:a.eval d = .slice (some ⟨g,off,none⟩) dLen dCap)
  (A:Option Addr) (n c:Nat) (xs:List Value) (hx:a.eval x = .slice A n c) (hn:xs.length=n) (hr:Rd w A xs) (h1 : ∀ u∈xs,u.oneCell'=true)
  (cur:List Value) (t':TypeId) (hg:w.heap[g]?=some (.cells cur.toArray t' (0,0))) (hfit:off+min n dLen≤cur.length)
  (h : ∀ w',Hid (w'.heap[g]?=some (.cells (splice cur off (xs.take dLen)).toArray t' (0,0)))→w.grownBy w' (some g)→K (a.put o.dst (.int .i64 (min n dLen:Nat))) w') :
  if Region.wanted o (yielded ops a.tmps)=true then Oper.wp P o a w K Q else E:=by
 have hw:Region.wanted o (yielded ops a.tmps)=true:=by simp[Region.wanted,hgd]
 rw[if_pos hw];exact a7k T d x ho g off dLen dCap hd A n c xs hx hn hr h1 cur t' hg hfit h
end
theorem c1k {P:Program} {t e:TypeId} {z:Value} {size bytes:Nat} (T:dL P t e z size bytes) {w:World} {o:Oper} {a:Act} {K:Act→World→Prop} {Q:Exit→Act→World→Prop} (d x:Operand)
  (ho:o.op = .call { callee:=.builtin .copy,args:=#[d,x],argTypes:=#[t,t]}) (g off dLen dCap:Nat) (hd:a.eval d = .slice (some ⟨g,off,none⟩) dLen dCap)
  (A:Option Addr) (n c:Nat) (xs:List Value) (hx:a.eval x = .slice A n c) (hn:xs.length=n*size) (hr:Rd w A xs) (h1 : ∀ u∈xs,u.oneCell'=true)
  (cur:List Value) (t':TypeId) (hg:w.heap[g]?=some (.cells cur.toArray t' (0,0))) (hfit:off+min n dLen*size≤cur.length)
  (h : ∀ w',Hid (w'.heap[g]?=some (.cells (splice cur off (xs.take (min n dLen*size))).toArray t' (0,0)))→w.grownBy w' (some g)→K (a.put o.dst (.int .i64 (min n dLen:Nat))) w'):o.wp P a w K Q:=by
 obtain⟨i,hi,_,hsz,_⟩:=T.info;have hle:min n dLen*size≤n*size:=Nat.mul_le_mul_right _ (Nat.min_le_left _ _);have hl:(xs.take (min n dLen*size)).length=min n dLen*size:=by rw[List.length_take,hn];omega
 have hmin:Nat.min n dLen=min n dLen:=rfl;unfold Oper.wp;simp only[execOp,ho,resolve,invoke,builtin,Sem.run_bind,Sem.run_pure,Result.andThen_ok,List.map_toArray,List.map_cons,List.map_nil,hd,hx,Oper.upon];rcases hr with rfl | ⟨b,o2,rfl,hc⟩
 ·have h0:n=0:=by
   have:n*size=0:=by simpa using hn.symm
   rcases Nat.mul_eq_zero.1 this with h | h
   ·exact h
   ·have:=T.pos;omega
  subst h0
  have hrun:(Builtin.copy_ #[t,t] o.type #[.slice (some ⟨g,off,none⟩) dLen dCap,.slice A 0 c]).run P w = .ok (goInt 0) w:=by
   cases A <;> simp[Builtin.copy_,run_underlying T.und,Builtin.lenOf,Builtin.firstCells,sizeOf,typeInfo,hi,loadCells,loadCellsFrom,storeCells]
  rw[hrun];have hk:=h w (show _=_ by simpa[splice]using hg) (World.grownBy.refl w _);rw[Nat.zero_min]at hk;exact hk
 ·have hf:=run_firstCells_some (P:=P) w size (min n dLen) ⟨b,o2,none⟩ n c (xs.take (min n dLen*size)) hl (fun j v hv=>by
   obtain⟨hj,rfl⟩:=List.getElem?_eq_some_iff.1 hv
   rw[qE,hc j (by simp at hj;omega)];simp)
  have hst:=run_storeCells_at P g off t' (xs.take (min n dLen*size)) 0 cur.toArray w hg (by rw[hl];simpa using hfit) (fun v hv=>h1 v (List.mem_of_mem_take hv))
  have hrun:(Builtin.copy_ #[t,t] o.type #[.slice (some ⟨g,off,none⟩) dLen dCap,.slice (some ⟨b,o2,none⟩) n c]).run P w =
    .ok (goInt ((min n dLen:Nat):Int)) (w.setRow g (cur.take off++xs.take (min n dLen*size)++cur.drop (off+(xs.take (min n dLen*size)).length)).toArray):=by
   simp only[Nat.add_zero,List.toList_toArray]at hst;simp[Builtin.copy_,run_underlying T.und,Builtin.lenOf,sizeOf,typeInfo,hi,hsz,hmin,hf,hst]
  rw[hrun];refine h (w.setRow g (cur.take off++xs.take (min n dLen*size)++cur.drop (off+(xs.take (min n dLen*size)).length)).toArray) ?_ ⟨rfl,rfl,rfl,by simp[World.setRow],fun k _ hne=>setRow_other w g k _ (fun e=>hne (by rw[e]))⟩;have hs:splice cur off (xs.take (min n dLen*size))=cur.take off++xs.take (min n dLen*size)++cur.drop (off+(xs.take (min n dLen*size)).length):=by rw[splice,List.append_assoc]
  rw[hs];exact setRow_heap w g cur.toArray _ t' (0,0) hg
theorem c05 {P:Program} {t e:TypeId} {z:Value} {size bytes:Nat} (T:dL P t e z size bytes) {w:World} {ops:Array Oper} {rest:List Oper} {a:Act} {Q:Exit→Act→World→Prop} {d x:Operand} {dst:Option Tmp} {ty:TypeId} {pos:String} {eG:Array Edge}
  (g off dLen dCap:Nat) (hd:a.eval d = .slice (some ⟨g,off,none⟩) dLen dCap)
  (A:Option Addr) (n c:Nat) (xs:List Value) (hx:a.eval x = .slice A n c) (hn:xs.length=n*size) (hr:Rd w A xs) (h1 : ∀ u∈xs,u.oneCell'=true)
  (cur:List Value) (t':TypeId) (hg:w.heap[g]?=some (.cells cur.toArray t' (0,0))) (hfit:off+min n dLen*size≤cur.length)
  (h : ∀ w',Hid (w'.heap[g]?=some (.cells (splice cur off (xs.take (min n dLen*size))).toArray t' (0,0)))→w.grownBy w' (some g)→wpList P ops Q rest (a.put dst (.int .i64 (min n dLen:Nat))) w') :
  wpList P ops Q ({ dst:=dst,op:=.call { callee:=.builtin .copy,args:=#[d,x],argTypes:=#[t,t]},type:=ty,pos:=pos,after:=eG,guard:=none}::rest) a w :=
 wpList_plain rfl fun _ hK=>c1k T d x rfl g off dLen dCap hd A n c xs hx hn hr h1 cur t' hg hfit fun w' h2 h3=>hK _ _ (h w' h2 h3)
theorem LQ {w:World} {base:Nat} {e:TypeId} {size g n c:Nat} {cur xs:List Value} (hg:w.heap[g]?=some (.cells (splice cur 0 xs).toArray e (0,0))) (hb:base≤g) (hx:xs.length=n*size) (hc:cur.length=c*size)
  (hn:n≤c) (hm:c≤maxLen):w.ownsRow base e size (.slice (some ⟨g,0,none⟩) n c) n xs:=by
 have hle:n*size≤c*size:=Nat.mul_le_mul_right _ hn;refine⟨hx,.inr ⟨g,c,_,rfl,hb,hg,hn,hm,by simp[length_splice cur 0 xs (by omega),hc],?_⟩⟩;simp[splice,←hx]
theorem b9S {P:Program} {t e:TypeId} {z:Value} {bytes:Nat} (T:dL P t e z 1 bytes) {w:World} {ops:Array Oper} {a:Act} {K:Act→World→Prop} {Q:Exit→Act→World→Prop} {E:Prop} {d x:Operand} {dst:Option Tmp} {ty:TypeId} {pos:String} {eG:Array Edge}
  (g off dLen dCap:Nat) (hd:a.eval d = .slice (some ⟨g,off,none⟩) dLen dCap)
  (A:Option Addr) (n c:Nat) (xs:List Value) (hx:a.eval x = .slice A n c) (hn:xs.length=n) (hr:Rd w A xs) (h1 : ∀ u∈xs,u.oneCell'=true)
  (cur:List Value) (t':TypeId) (hg:w.heap[g]?=some (.cells cur.toArray t' (0,0))) (hfit:off+min n dLen≤cur.length)
  (h : ∀ w',Hid (w'.heap[g]?=some (.cells (splice cur off (xs.take dLen)).toArray t' (0,0)))→w.grownBy w' (some g)→K (a.put dst (.int .i64 (min n dLen:Nat))) w') :
  if Region.wanted { dst:=dst,op:=.call { callee:=.builtin .copy,args:=#[d,x],argTypes:=#[t,t]},type:=ty,pos:=pos,after:=eG,guard:=none} (yielded ops a.tmps)=true then
   Oper.wp P { dst:=dst,op:=.call { callee:=.builtin .copy,args:=#[d,x],argTypes:=#[t,t]},type:=ty,pos:=pos,after:=eG,guard:=none} a w K Q else E :=
 b9M T rfl d x rfl g off dLen dCap hd A n c xs hx hn hr h1 cur t' hg hfit h
theorem Rd.drop {w:World} {A:Option Addr} {xs:List Value} (h:Rd w A xs) {k cap:Nat} (hk:k≤xs.length) (hc:xs.length≤cap):Rd w (if cap=k then A else A.map (·.add (k*1))) (xs.drop k):=by
 by_cases h0:k=xs.length
 ·subst h0;exact .inl (by simp)
 ·rcases h with rfl | ⟨b,off,rfl,hcell⟩
  ·simp at hk h0;omega
  ·rw[if_neg (by omega)]
   refine .inr ⟨b,off+k,by simp[qE],fun j hj=>?_⟩;simp at hj;rw[Nat.add_assoc,hcell (k+j) (by omega)];simp
theorem Rd.JR {w:World} {A:Option Addr} {xs:List Value} (h:Rd w A xs) {k:Nat} (hk:k≤xs.length):Rd w (A.map (·.add k)) (xs.drop k):=by
 have h2:=h.drop (k:=k) (cap:=xs.length+k+1) hk (by omega);rw[if_neg (by omega),Nat.mul_one]at h2;exact h2
theorem Rd.take {w:World} {A:Option Addr} {xs:List Value} (h:Rd w A xs) (k:Nat):Rd w A (xs.take k):=by
 rcases h with rfl | ⟨b,off,rfl,hcell⟩
 ·exact .inl (by simp)
 ·exact .inr ⟨b,off,rfl,fun j hj=>by simp at hj;rw[hcell j (by omega)];simp⟩
theorem wV {w:World} {base:Nat} {e:TypeId} {size:Nat} {A:Option Addr} {n m c:Nat} {xs:List Value} (h:w.ownsRow base e size (.slice A m c) n xs):Rd w A xs:=by
 obtain⟨A',c',h1,_,_,h2⟩:=dD h;injection h1 with h1;rw[h1];exact h2
def lF (base:Nat) (A:Option Addr) (n:Nat):Prop:=n=0 ∨ ∃ b off,A=some ⟨b,off,none⟩∧base≤b
theorem WR {w:World} {base:Nat} {e:TypeId} {size:Nat} {A:Option Addr} {n m c:Nat} {xs:List Value} (h:w.ownsRow base e size (.slice A m c) n xs):lF base A n:=by
 rcases h.2 with⟨_,h0⟩ | ⟨g,cap,cur,hv,hb,_⟩
 ·exact .inl h0
 ·injection hv with hA
  exact .inr ⟨g,0,hA,hb⟩
theorem lF.mono {b b':Nat} {A:Option Addr} {n:Nat} (h:lF b A n) (hb:b'≤b):lF b' A n:=h.imp id fun⟨x,o,h1,h2⟩=>⟨x,o,h1,by omega⟩
def dQ (row:Option Nat) (w:World) (A:Option Addr) (xs:List Value):Prop :=
 xs=[] ∨ ∃ b off,A=some ⟨b,off,none⟩∧row≠some b∧∀ j (h:j<xs.length),w.cell? ⟨b,off+j,none⟩=some xs[j]
section
variable {w w':World} {row row':Option Nat} {A:Option Addr} {xs:List Value}
theorem dQ.rd (h:dQ row w A xs):Rd w A xs:=h.imp id fun⟨b,off,h1,_,h3⟩=>⟨b,off,h1,h3⟩
theorem dQ.keep (h:dQ row w A xs) (hk:Keep w w'):dQ row w' A xs :=
 h.imp id fun⟨b,off,h1,h2,h3⟩=>⟨b,off,h1,h2,fun j hj=>aC hk (h3 j hj)⟩
theorem dQ.grown (h:dQ row w A xs) (hg:w.grownBy w' row) (hr:row'=row∨row'=some w.heap.size):dQ row' w' A xs:=by
 rcases h with rfl | ⟨b,off,rfl,h2,h3⟩
 ·exact .inl rfl
 ·by_cases h0:xs=[]
  ·exact .inl h0
  ·have hp:0<xs.length:=List.length_pos_iff.2 h0
   have hb:=cell_lt (h3 0 hp);refine .inr ⟨b,off,rfl,?_,fun j hj=>qK hg (h3 j hj) h2⟩;rcases hr with rfl | rfl
   ·exact h2
   ·intro e;injection e with e;omega
theorem dQ.a5k {base:Nat} {e:TypeId} {size n m c:Nat} (h:w.ownsRow base e size (.slice A m c) n xs) (hr : ∀ k,row=some k→k<base):dQ row w A xs:=by
 rcases wV h with h0 | ⟨b,off,rfl,h3⟩
 ·exact .inl h0
 ·refine .inr ⟨b,off,rfl,fun e=>?_,h3⟩
  have:=(h.lt b rfl).1
  have:=hr b e
  omega
theorem dQ.a5j {base n:Nat} (h:Rd w A xs) (hf:lF base A n) (hn:n=xs.length) (hr : ∀ k,row=some k→k<base):dQ row w A xs:=by
 rcases hf with h0 | ⟨b,off,rfl,hb⟩
 ·exact .inl (List.eq_nil_of_length_eq_zero (by omega))
 ·rcases h with h | ⟨b',off',h1,h3⟩
  ·exact .inl h
  ·injection h1 with h1;injection h1 with h1 h2;subst h1 h2
   exact .inr ⟨b,off,rfl,fun e=>by have:=hr b e;omega,h3⟩
theorem dQ.b7H (h:Rd w A xs) (hr : ∀ k,row=some k→w.heap.size≤k):dQ row w A xs:=by
 by_cases h0:xs=[]
 ·exact .inl h0
 ·rcases h with h | ⟨b,off,rfl,h3⟩
  ·exact .inl h
  ·exact .inr ⟨b,off,rfl,fun e=>by have:=cell_lt (h3 0 (List.length_pos_iff.2 h0));have:=hr b e;omega,h3⟩
theorem dQ.setCell (h:dQ row w A xs) {p:Addr} (u:Value) (hp:row=some p.block):dQ row (w.setCell p u) A xs :=
 h.imp id fun⟨b,off,h1,h2,h3⟩=>⟨b,off,h1,h2,fun j hj=>(World.cell?_setCell_other w p _ u (fun e=>h2 (by rw[hp,e]))).trans (h3 j hj)⟩
theorem dQ.setCell' (h:dQ row w A xs) {p:Addr} (u:Value) (hp : ∀ b off,A=some ⟨b,off,none⟩→p.block≠b):dQ row (w.setCell p u) A xs :=
 h.imp id fun⟨b,off,h1,h2,h3⟩=>⟨b,off,h1,h2,fun j hj=>(World.cell?_setCell_other w p _ u (fun e=>hp b off h1 (by rw[e]))).trans (h3 j hj)⟩
end
def ae (w:World) (g:Nat) (t:TypeId) (cs:List Value):Prop:=w.heap[g]?=some (.cells cs.toArray t (0,0))
section
variable {w w':World} {g:Nat} {t:TypeId} {cs:List Value}
theorem ae.lt (h:ae w g t cs):g<w.heap.size:=(Array.getElem?_eq_some_iff.1 h).1
theorem ae.cell (h:ae w g t cs) (i:Nat):w.cell? ⟨g,i,none⟩=cs[i]?:=by rw[cell_of_row w g i _ t (0,0) h];simp
theorem ae.frozen (h:ae w g t cs) (i:Nat):w.frozen? ⟨g,i,none⟩=false:=by unfold ae at h;simp[World.frozen?,h]
theorem ae.new (w:World) (t:TypeId) (cs:List Value):ae (w.alloc (.cells cs.toArray t)) w.heap.size t cs:=heap_alloc_new w _
theorem ae.drew (h:ae w g t cs):ae w.drew g t cs:=h
theorem ae.keep (h:ae w g t cs) (hk:Keep w w'):ae w' g t cs:=(hk.block g h.lt).trans h
theorem ae.alloc (h:ae w g t cs) (o:Obj):ae (w.alloc o) g t cs:=(Below.heap_alloc w o g h.lt).trans h
theorem ae.grown {row:Option Nat} (h:ae w g t cs) (hg:w.grownBy w' row) (hne:row≠some g):ae w' g t cs:=(hg.block g h.lt (Ne.symm hne)).trans h
theorem ae.far (h:ae w g t cs) {p:Addr} (hp:g≠p.block) (u:Value):ae (w.setCell p u) g t cs:=(Below.heap_setCell w p u g hp).trans h
theorem ae.az (h:ae w g t cs) (i:Nat) (u:Value):ae (w.setCell ⟨g,i,none⟩ u) g t (cs.set i u):=by
 unfold ae at h ⊢;simp[World.setCell,Array.getElem?_modify,h]
theorem ae.rd (h:ae w g t cs):Rd w (some ⟨g,0,none⟩) cs:=.inr ⟨g,0,rfl,fun j hj=>by rw[h.cell];simp[hj]⟩
end
theorem aB (w:World) (o:Obj):Keep w (w.alloc o):=(Below.refl _ _).alloc (Nat.le_refl _) o
theorem aK {w y z:World} {g:Nat} (h:Keep w y) (k:y.grownBy z (some g)) (l:w.heap.size≤g):Keep w z:=h.grown k h.size (fun q hq=>by injection hq with hq;omega)
theorem iw {a b:Nat} (h:a≠b):some a≠some b:=fun e=>h (Option.some.inj e)
theorem mW (w:World) (t:TypeId) (l:List Value) : ∃ y,y=w.alloc (.cells l.toArray t)∧Hid (ae y w.heap.size t l)∧Hid (Keep w y)∧w.heap.size+1≤y.heap.size :=
 ⟨_,rfl,hid (ae.new w t l),hid (aB _ _),by simp⟩
theorem FN (w:World) (t u:TypeId) (l m:List Value) : ∃ y,y=(w.alloc (.cells l.toArray t)).alloc (.cells m.toArray u)∧Hid (ae y w.heap.size t l)∧Hid (ae y (w.heap.size+1) u m)∧Hid (Keep w y)∧w.heap.size+2≤y.heap.size:=by
 obtain⟨y,e,h,k,z⟩:=mW w t l;have b:=ae.new y u m;have s:y.heap.size=w.heap.size+1:=by rw[e];simp
 rw[s]at b;exact⟨_,by rw[←e],hid (h.out.alloc _),hid b,hid (af k.out (aB _ _)),by simp[s]⟩
theorem JJ (w:World) (t u v:TypeId) (l m n:List Value) : ∃ y,y=((w.alloc (.cells l.toArray t)).alloc (.cells m.toArray u)).alloc (.cells n.toArray v)∧Hid (ae y w.heap.size t l)∧Hid (ae y (w.heap.size+1) u m)∧Hid (ae y (w.heap.size+1+1) v n)∧Hid (Keep w y)∧w.heap.size+3≤y.heap.size:=by
 obtain⟨y,e,h,i,k,z⟩:=FN w t u l m;have b:=ae.new y v n;have s:y.heap.size=w.heap.size+1+1:=by rw[e];simp
 rw[s]at b;exact⟨_,by rw[←e],hid (h.out.alloc _),hid (i.out.alloc _),hid b,hid (af k.out (aB _ _)),by simp[s]⟩
theorem di (w:World) (t:TypeId) (a:Array Value) : ∃ y,y=w.alloc (.cells a t)∧Hid (ae y w.heap.size t a.toList)∧Hid (Keep w y)∧w.heap.size+1≤y.heap.size:=mW w t a.toList
theorem qF (w:World) (t u:TypeId) (a b:Array Value) : ∃ y,y=(w.alloc (.cells a t)).alloc (.cells b u)∧Hid (ae y w.heap.size t a.toList)∧Hid (ae y (w.heap.size+1) u b.toList)∧Hid (Keep w y)∧w.heap.size+2≤y.heap.size:=FN w t u a.toList b.toList
theorem vX (w:World) (t u:TypeId) (l:List Value) (b:Array Value) : ∃ y,y=(w.alloc (.cells l.toArray t)).alloc (.cells b u)∧Hid (ae y w.heap.size t l)∧Hid (ae y (w.heap.size+1) u b.toList)∧Hid (Keep w y)∧w.heap.size+2≤y.heap.size:=FN w t u l b.toList
theorem b1w (w:World) (t u:TypeId) (a:Array Value) (m:List Value) : ∃ y,y=(w.alloc (.cells a t)).alloc (.cells m.toArray u)∧Hid (ae y w.heap.size t a.toList)∧Hid (ae y (w.heap.size+1) u m)∧Hid (Keep w y)∧w.heap.size+2≤y.heap.size:=FN w t u a.toList m
theorem FM (w:World) (t u v:TypeId) (a b c:Array Value) : ∃ y,y=((w.alloc (.cells a t)).alloc (.cells b u)).alloc (.cells c v)∧Hid (ae y w.heap.size t a.toList)∧Hid (ae y (w.heap.size+1) u b.toList)∧Hid (ae y (w.heap.size+1+1) v c.toList)∧Hid (Keep w y)∧w.heap.size+3≤y.heap.size:=JJ w t u v a.toList b.toList c.toList
theorem b1x (w:World) (t u v:TypeId) (a:Array Value) (m n:List Value) : ∃ y,y=((w.alloc (.cells a t)).alloc (.cells m.toArray u)).alloc (.cells n.toArray v)∧Hid (ae y w.heap.size t a.toList)∧Hid (ae y (w.heap.size+1) u m)∧Hid (ae y (w.heap.size+1+1) v n)∧Hid (Keep w y)∧w.heap.size+3≤y.heap.size:=JJ w t u v a.toList m n
section
variable {P:Program}
theorem fK (w:World) (t:TypeId) {zs cs:Array Value} (hi:(P.info? t).map (·.size)=some cs.size) (hz:zs.size=cs.size) (ho : ∀ v∈cs.toList,v.oneCell'=true):(storeCells ⟨w.heap.size,0,none⟩ cs.toList 0).run P (w.alloc (.cells zs t)) = .ok () (w.alloc (.cells cs t)) :=
 run_storeCells_new w t zs cs hi hz (by have:=all_oneCell_toArray ho;rwa[Array.toArray_toList]at this)
theorem gJ {fn:Func} {p:Tmp} {ty:TypeId} (h:fn.results = #[.cell p ty]) {w:World} {g:Nat} {t:TypeId} {cs:Array Value} (hg:ae w g t cs.toList) {d:TypeDesc} (hu:P.underlying ty=some d) (hi:(P.info? ty).map (·.size)=some cs.size) {tmps:Array Value}
  (hp:tmps.getD p undef = .pointer (some ⟨g,0,none⟩)) (hd:(match d with | .struct _ | .array _ _=>true | _=>false)=true):(results fn tmps).run P w = .ok (.agg cs) w :=
 results_cell_row h tmps w g t cs _ d hp hg hu hd hi
end
theorem dL.make {P:Program} {t e:TypeId} {z:Value} {size bytes:Nat} (T:dL P t e z size bytes) (n c:Nat) (hnc:n≤c) (hb:bytes*c≤281474976710656) (h63:c≤9223372036854775807) (w:World) :
  (Instr.makeSlice t (.int .i64 (n:Int)) (.int .i64 (c:Int))).run P w = .ok (.slice (some ⟨w.heap.size,0,none⟩) n c) (w.alloc (.cells (madeCells z.cells (c*size)) e)):=by
 obtain⟨i,hi,hz,h1,h2⟩:=T.info
 have hb':(i.bytes:Int)*(c:Int)≤281474976710656:=by
  have h:((i.bytes*c:Nat):Int)≤281474976710656:=by rw[h2];omega
  rwa[Int.natCast_mul]at h
 have hr:=run_make (P:=P) w t e i z T.und hi hz .i64 .i64 n c (by omega) (by omega) hb' (by omega);simp only[Int.toNat_natCast]at hr;rw[hr,h1]
theorem run_eql_slice_nil {P:Program} (w:World) {t e:TypeId} (a:Option Addr) (n c:Nat) (ht:P.underlying t=some (.slice e)) :
  (binOp .eql t (.slice a n c) (.slice none 0 0)).run P w = .ok (.bool a.isNone) w:=by
 have h : ∀ d:Nat,(Op.equalIn (d+1) t (.slice a n c) (.slice none 0 0)).run P w = .ok a.isNone w:=fun d=>by
  cases a <;> simp[Op.equalIn,run_underlying ht]
 simp only[binOp];simp[Op.equal,Op.maxDepth,h 9999]
theorem b71 {w:World} {base:Nat} {e:TypeId} {g n c:Nat} {xs:List Value} (h:w.ownsRow base e 1 (.slice (some ⟨g,0,none⟩) n c) n xs) :
  ∃ cur:List Value,w.heap[g]?=some (.cells cur.toArray e (0,0))∧n≤cur.length∧base≤g:=by
 rcases h.2 with⟨h0,_⟩ | ⟨g',cap,cur',hv,hb,hg,hnc,hcm,hcs,htake⟩
 ·cases h0
 ·injection hv with h1 _ h3
  injection h1 with h1;injection h1 with h1;subst h1 h3;exact⟨cur'.toList,by simpa using hg,by simp;omega,hb⟩
theorem b75 {w w':World} {base:Nat} {e:TypeId} {g n c:Nat} {xs:List Value} (h:w.ownsRow base e 1 (.slice (some ⟨g,0,none⟩) n c) n xs) {off:Nat} {ys:List Value} (hfit:off+ys.length≤n)
  {cur:List Value} (lL:w.heap[g]?=some (.cells cur.toArray e (0,0))) (hw:w'.heap[g]?=some (.cells (splice cur off ys).toArray e (0,0))):w'.ownsRow base e 1 (.slice (some ⟨g,0,none⟩) n c) n (splice xs off ys):=by
 rcases h.2 with⟨h0,_⟩ | ⟨g',cap,cur',hv,hb,hg,hnc,hcm,hcs,htake⟩
 ·cases h0
 ·injection hv with h1 _ h3
  injection h1 with h1;injection h1 with h1;subst h1 h3;rw[hg]at lL;injection lL with lL;injection lL with lL;subst lL;have hxl:xs.length=n:=by simpa using h.1
  have hcl:cur.length=c:=by simpa using hcs
  simp only[List.toList_toArray,Nat.mul_one]at htake;refine⟨by rw[length_splice _ _ _ (by omega),hxl];simp,.inr ⟨g,c,_,rfl,hb,hw,hnc,hcm,by simp[length_splice _ _ _ (show off+ys.length≤cur.length by omega),hcl],?_⟩⟩;simp only[List.toList_toArray,Nat.mul_one];rw[←htake];unfold splice;rw[List.take_append,List.take_append,List.take_take,List.drop_take,List.take_take];simp only[List.length_take,hcl];rw[Nat.min_eq_left (show off≤c by omega),Nat.min_eq_right (show off≤n by omega),Nat.min_eq_left (show off≤n by omega),List.take_of_length_le (show ys.length≤n - off by omega)]
  congr 3
  omega
theorem own_base {w:World} {b b':Nat} {e:TypeId} {size:Nat} {v:Value} {n:Nat} {xs:List Value} (h:w.ownsRow b e size v n xs) (hb:b'≤b):w.ownsRow b' e size v n xs :=
 ⟨h.1,h.2.imp id fun⟨g,cap,cur,h1,h2,rest⟩=>⟨g,cap,cur,h1,Nat.le_trans hb h2,rest⟩⟩
theorem Qh (w:World) (e:TypeId) (size:Nat):(w.alloc (.cells #[] e)).ownsRow w.heap.size e size (.slice (some ⟨w.heap.size,0,none⟩) 0 0) 0 [] :=
 World.ownsRow_made w #[] 0 (Nat.le_refl _) (Nat.zero_le _) (by simp)
theorem Rd.sub {w:World} {b off:Nat} {xs:List Value} (h:Rd w (some ⟨b,off,none⟩) xs) (k m:Nat) (hk:k+m≤xs.length):Rd w (some ⟨b,off+k,none⟩) ((xs.drop k).take m):=by
 have h1:=(h.JR (k:=k) (by omega)).take m
 rwa[Option.map_some,qE]at h1
theorem Rd.far {w:World} {g off:Nat} {xs:List Value} (h:Rd w (some ⟨g,off,none⟩) xs) {p:Addr} (hp:p.block≠g) (u:Value):Rd (w.setCell p u) (some ⟨g,off,none⟩) xs:=by
 rcases h with h | ⟨b,o,e,hc⟩
 ·exact .inl h
 ·injection e with e;injection e with e1 e2;subst e1 e2
  exact .inr ⟨g,off,rfl,fun j hj=>(World.cell?_setCell_other w p _ u (fun e=>hp (by rw[e]))).trans (hc j hj)⟩
def lY (F:World→Prop) (w w' W:World):Prop:=F W∧∀ k,w.heap.size≤k→k<w'.heap.size→W.heap[k]?=w'.heap[k]?
def Mid (w0 w w' W:World):Prop:=lY (fun W=>Keep w0 W) w w' W
theorem Mid.oz {w0 w w' W:World} (h0:Keep w0 w') (h:Keep w' W):Mid w0 w w' W:=⟨af h0 h,fun k _ h2=>h.block k h2⟩
theorem Rd.mid {F:World→Prop} {w w' W:World} {b off:Nat} {xs:List Value} (h:Rd w' (some ⟨b,off,none⟩) xs) (hb:w.heap.size≤b) (hm:lY F w w' W):Rd W (some ⟨b,off,none⟩) xs:=by
 by_cases h0:xs=[]
 ·exact .inl h0
 ·rcases h with h | ⟨b',o',e,hc⟩
  ·exact .inl h
  ·injection e with e;injection e with e1 e2;subst e1 e2
   exact .inr ⟨b,off,rfl,fun j hj=>(World.cell?_of_block (w:=w') (hm.2 b hb (cell_lt (hc 0 (List.length_pos_iff.2 h0))))).trans (hc j hj)⟩
theorem WS {F:World→Prop} {w w' W:World} {base:Nat} {e:TypeId} {size:Nat} {A:Option Addr} {n m c:Nat} {xs:List Value} (h:w'.ownsRow base e size (.slice A m c) n xs) (hb:w.heap.size≤base) (hm:lY F w w' W):Rd W A xs:=by
 rcases wV h with h0 | ⟨b,off,rfl,hc⟩
 ·exact .inl h0
 ·exact Rd.mid (.inr ⟨b,off,rfl,hc⟩) (by have:=(h.lt b rfl).1;omega) hm
def str (l:List UInt8):ByteArray:=⟨l.toArray⟩
theorem QC (a b:List UInt8):(str a==str b)=decide (a=b):=by
 have h:(str a==str b)=((str a).data==(str b).data):=rfl;rw[h]
 show(a.toArray==b.toArray)=_
 by_cases hab:a=b
 ·subst hab;simp
 ·simp[hab]
theorem b9U {a b:List UInt8} (h:a=b):(str a==str b)=true:=by rw[QC];simp[h]
theorem b9T {a b:List UInt8} (h:a≠b):(str a==str b)=false:=by rw[QC];simp[h]
theorem b9W (l:List UInt8):(str l).toList=l:=by
 rw[ByteArray.toList_eq];rfl
attribute [go_sem] b9W
theorem a6g {P:Program} {w:World} {src dst e:TypeId} (hs:P.underlying src=some (.slice e)) (he:P.underlying e=some (.int .u8)) (hd:P.underlying dst=some .string)
  {A:Option Addr} {l:List UInt8} (c:Nat) (hr:Rd w A (l.map ah)):(convert src dst (.slice A l.length c)).run P w = .ok (.string (str l)) w:=by
 rcases hr with h | ⟨b,off,rfl,hc⟩
 ·obtain rfl:l=[]:=by simpa using h
  rw[run_convert_bytes_string w src dst e _ _ c hs he hd]
  cases A <;> simp[Conv.bytesToString,loadCells,loadCellsFrom] <;> rfl
 ·rw[run_convert_bytes_arg w src e hs he b off l.length c (l.map fun x=>(x.toNat:Int)) (by simp) (fun i hi=>by
   rw[hc i (by simpa using hi)];simp[hi]) dst hd]
  congr 2
  simp only[strOfNums,str,List.map_map]
  congr 2
  exact List.map_id'' (fun x=>by simp) l
open Classical in
noncomputable def dn (w x:World):World:=if Keep w x then x else w
theorem jg (w x:World):Keep w (dn w x):=by
 unfold dn;split
 ·assumption
 ·exact Below.refl _ _
theorem Uu {w w':World} (h:Keep w w'):w'=dn w w':=by unfold dn;rw[if_pos h]
theorem aF {w:World} {b o:Nat} {v:Value} (h:w.cell? ⟨b,o,none⟩=some v) : ∀ x,(dn w x).cell? ⟨b,o,none⟩=some v:=fun x=>aC (jg w x) h
theorem Qq {P:Program} {f:FuncId} {args:Array Value} {w x:World} {v:Value} (h:Calls P f args (dn w x) fun e w'=>e = .returned v∧Keep (dn w x) w') :
  Calls P f args (dn w x) fun e w''=>e = .returned v∧∃ y,w''=dn w y :=
 h.mono fun _ w' ⟨he,hk⟩=>⟨he,w',Uu (af (jg w x) hk)⟩
theorem Eh {P:Program} {f:FuncId} {args:Array Value} {w x:World} {v:Value} (h:Calls P f args (dn w x) fun e w'=>e = .returned v∧dn w x=w') :
  Calls P f args (dn w x) fun e w''=>e = .returned v∧∃ y,w''=dn w y :=
 h.mono fun _ w' ⟨he,hk⟩=>⟨he,x,hk.symm⟩
theorem lC {P:Program} {id:Nat} {Q:Exit→Act→World→Prop} {a:Act} {w:World} {l:List Oper} (hm:P.follows .mixedOrders=true) (hB:Region.lexB .any l.toArray=true) (w0:World) (hw:Keep w0 w)
  (h:wpQuiet P l.toArray (fun w' => ∃ x,w'=dn w0 x) (fun a' => ∀ w',(∃ x,w'=dn w0 x)→Q .normal a' w') l a):(Code.region id l.toArray true).wp P Q a w :=
 wp_region_quiet (C:=fun w' => ∃ x,w'=dn w0 x) hm hB ⟨_,Uu (hw.drew)⟩ (by simpa using h)
def waits (ops:Array Oper) (j i:Nat):Bool :=
 match ops[j]? with
 | some o=>o.after.any fun e=>Region.binds .any e&&e.on==i
 | none=>false
theorem a7g {ops:Array Oper} {j i:Nat} (h:waits ops j i=true) : ∃ o,ops[j]?=some o∧∃ e∈o.after,Region.binds .any e=true∧e.on=i:=by
 unfold waits at h
 split at h
 ·rename_i o ho
  obtain⟨e,he,hb⟩:=Array.any_eq_true'.1 h;simp only[Bool.and_eq_true,beq_iff_eq]at hb;exact⟨o,ho,e,he,hb.1,hb.2⟩
 ·cases h
theorem c0X {ops:Array Oper} {j i:Nat} {o:Oper} (ho:ops[j]?=some o) {e:Edge} (he:e∈o.after) (hb:Region.binds .any e=true) (hi:e.on=i):waits ops j i=true:=by
 unfold waits;rw[ho];exact Array.any_eq_true'.2 ⟨e,he,by simp[hb,hi]⟩
def WT (ops:Array Oper) (i j:Nat):Bool :=
 match ops[i]?,ops[j]? with
 | some x,some y=>x.apart ops y
 | _,_=>false
structure HT (ops:Array Oper) (listed:Array Bool) (hd tl:List Nat):Prop where
 un : ∀ i,listed.getD i true=false↔i∈hd++tl
 inb : ∀ i∈hd++tl,i<ops.size
 nd:(hd++tl).Nodup
 edge : ∀ pre i post,hd++tl=pre++i::post → ∀ k,waits ops i k=true→listed.getD k false=true∨k∈pre
 part : ∀ pre i post j,hd=pre++i::post→j∈post→waits ops j i=true∨WT ops i j=true
 sink : ∀ pre i post,hd=pre++i::post → ∃ j∈post++tl.head?.toList,waits ops j i=true
 chain : ∀ pre t t' post,tl=pre++t::t'::post→waits ops t' t=true
section
variable {P:Program} {ops:Array Oper} {listed:Array Bool} {hd tl:List Nat} {C:World→Prop} {Q:Exit→Act→World→Prop}
theorem O9 {l:Array Bool} {i:Nat} (h:l.getD i true=false):l.getD i false=false:=by
 rcases Nat.lt_or_ge i l.size with h' | h'
 ·simp[h']at h ⊢;exact h
 ·simp[Array.getElem?_eq_none h']at h
end
def O0 (ops:Array Oper):List Nat→List Nat→Bool
 | _,[]=>true
 | pre,i::post=>(match ops[i]? with | some o=>o.after.all fun e=>!Region.binds .any e || pre.contains e.on | none=>false)&&O0 ops (i::pre) post
def Ql (ops:Array Oper):List Nat→Bool
 | []=>true
 | i::post=>(post.all fun j=>waits ops j i || WT ops i j)&&Ql ops post
def sinkB (ops:Array Oper) (t:List Nat):List Nat→Bool
 | []=>true
 | i::post=>((post++t).any fun j=>waits ops j i)&&sinkB ops t post
def chainB (ops:Array Oper):List Nat→Bool
 | []=>true
 | [_]=>true
 | t::t'::post=>waits ops t' t&&chainB ops (t'::post)
theorem a1M {ops:Array Oper} : ∀ (l Qo:List Nat),O0 ops Qo l=true → ∀ pre i post,l=pre++i::post → ∀ k,waits ops i k=true→k∈pre∨k∈Qo
 | [],_,_,pre,i,post,e,_,_=>by simp at e
 | x::l,Qo,h,pre,i,post,e,k,hk=>by
   simp only[O0,Bool.and_eq_true]at h
   cases pre with
   | nil =>
     simp at e;obtain⟨rfl,rfl⟩:=e;obtain⟨o,ho,FT,b4G,hb,hon⟩:=a7g hk;have h1:=h.1;rw[ho]at h1
     have:=Array.all_eq_true_iff_forall_mem.1 h1 FT b4G
     simp[hb]at this;exact .inr (hon ▸ this)
   | cons y pre =>
     simp at e;obtain⟨rfl,e⟩:=e;rcases a1M l (x::Qo) h.2 pre i post e k hk with h1 | h1
     ·exact .inl (by simp[h1])
     ·rcases List.mem_cons.1 h1 with rfl | h1
      ·exact .inl (by simp)
      ·exact .inr h1
theorem a5J {ops:Array Oper} : ∀ (l:List Nat),Ql ops l=true → ∀ pre i post j,l=pre++i::post→j∈post→waits ops j i=true∨WT ops i j=true
 | [],_,pre,i,post,j,e,_=>by simp at e
 | x::l,h,pre,i,post,j,e,hj=>by
   simp only[Ql,Bool.and_eq_true]at h
   cases pre with
   | nil=>simp at e;obtain⟨rfl,rfl⟩:=e;simpa using List.all_eq_true.1 h.1 j hj
   | cons y pre=>simp at e;exact a5J l h.2 pre i post j e.2 hj
theorem a6u {ops:Array Oper} {t:List Nat} : ∀ (l:List Nat),sinkB ops t l=true → ∀ pre i post,l=pre++i::post → ∃ j∈post++t,waits ops j i=true
 | [],_,pre,i,post,e=>by simp at e
 | x::l,h,pre,i,post,e=>by
   simp only[sinkB,Bool.and_eq_true]at h
   cases pre with
   | nil=>simp at e;obtain⟨rfl,rfl⟩:=e;exact List.any_eq_true.1 h.1
   | cons y pre=>simp at e;exact a6u l h.2 pre i post e.2
theorem a1f {ops:Array Oper} : ∀ (l:List Nat),chainB ops l=true → ∀ pre t t' post,l=pre++t::t'::post→waits ops t' t=true
 | [],_,pre,t,t',post,e=>by simp at e
 | [x],_,pre,t,t',post,e=>by
   have:=congrArg List.length e;simp at this;omega
 | x::y::l,h,pre,t,t',post,e=>by
   simp only[chainB,Bool.and_eq_true]at h
   cases pre with
   | nil=>simp at e;obtain⟨rfl,rfl,rfl⟩:=e;exact h.1
   | cons z pre=>simp at e;exact a1f (y::l) h.2 pre t t' post e.2
def takeB (ops:Array Oper):List Nat→Array Bool→Bool
 | [],_=>true
 | i::l,listed=>(Region.ready .any ops listed).contains i&&Region.free .any ops listed i&&takeB ops l (listed.setIfInBounds i true)
def jO (listed:Array Bool) (l:List Nat):Array Bool:=l.foldl (fun x i=>x.setIfInBounds i true) listed
def Gx (o:Oper):Bool :=
 match o.op with
 | .move _ | .assign _ | .load .. | .fieldAddr .. | .indexAddr .. | .index .. | .binOp .. | .unOp .. | .convert .. | .slice .. | .field .. | .extract .. | .build .. => true
 | .pick .. | .makeInterface .. | .nilCheck .. | .typeAssert .. => true
 | .call { callee:=.builtin .len,..} | .call { callee:=.builtin .cap,..} | .call { callee:=.builtin .min,..} | .call { callee:=.builtin .max,..}=>true
 | _=>false
theorem b7w {P:Program} {C:World→Prop} {w:World} {v:Value} {o:Oper} {a:Act} {x:Operand} (ho:o.op = .nilCheck x) (h:Oper.quietUpon P C w v ((execOp a.eval o).run P w)):(execOp a.eval o).run P w = .ok (.value v) w:=by
 unfold execOp at h ⊢;simp only[ho]at h ⊢;generalize a.eval x=y at h ⊢
 split at h
 ·simp[runtimePanic,Oper.quietUpon]at h
 ·simp[runtimePanic,Oper.quietUpon]at h
 ·simp[runtimePanic,Oper.quietUpon]at h
 ·split at h
  ·simp[runtimePanic,Oper.quietUpon]at h
  ·rename_i t w0 hq
   simp only[Sem.run_bind]at h ⊢
   cases hx:(program).run P w with
   | halt e w'=>rw[hx]at h;simp[Result.andThen,Oper.quietUpon]at h
   | ok p w' =>
     rw[hx]at h;simp only[Result.andThen_ok]at h ⊢
     cases hy:(nilAhead (p.types.size+Made.depth) t w0 _).run P w' with
     | halt e w''=>rw[hy]at h;simp[Result.andThen,Oper.quietUpon]at h
     | ok b w'' =>
       rw[hy]at h;simp only[Result.andThen_ok]at h ⊢
       split at h
       ·simp[unsupported,Oper.quietUpon,Result.andThen]at h
       ·rename_i hb
        rw[if_neg hb];simp only[Sem.run_pure,Oper.quietUpon]at h ⊢;rw[h.1,h.2]
  ·simp only[Sem.run_pure,Oper.quietUpon]at h ⊢
   rw[h.2]
 ·simp only[Sem.run_pure,Oper.quietUpon]at h ⊢
  rw[h.2]
theorem a5N {P:Program} {o:Oper} {a:Act} {C:World→Prop} {w:World} {v:Value} (hp:Gx o=true) (h:o.quietAt P a C w v):(execOp a.eval o).run P w = .ok (.value v) w:=by
 have fin : ∀ (r:Sem Value),Oper.quietUpon P C w v ((do pure (Next.value (←r)):Sem Next).run P w)→(do pure (Next.value (←r)):Sem Next).run P w = .ok (.value v) w:=by
  intro r hr;rw[Sem.run_bind]at hr ⊢
  cases hx:r.run P w with
  | ok u w' =>
    rw[hx]at hr;simp only[Result.andThen_ok,Sem.run_pure,Oper.quietUpon]at hr ⊢;rw[hr.1,hr.2]
  | halt x w'=>rw[hx]at hr;simp[Result.andThen,Oper.quietUpon]at hr
 have fin2 : ∀ (r:Sem Bool) (g:Bool→Value),Oper.quietUpon P C w v ((do let b ←r;pure (Next.value (g b)):Sem Next).run P w)→(do let b ←r;pure (Next.value (g b)):Sem Next).run P w = .ok (.value v) w:=by
  intro r g hr;rw[Sem.run_bind]at hr ⊢
  cases hx:r.run P w with
  | ok u w' =>
    rw[hx]at hr;simp only[Result.andThen_ok,Sem.run_pure,Oper.quietUpon]at hr ⊢;rw[hr.1,hr.2]
  | halt x w'=>rw[hx]at hr;simp[Result.andThen,Oper.quietUpon]at hr
 unfold Oper.quietAt at h;unfold Gx at hp;by_cases hnc : ∃ x,o.op = .nilCheck x
 ·obtain⟨x,hx⟩:=hnc;exact b7w hx h
 unfold execOp at h ⊢
 split at hp <;> rename_i ho <;> (try cases hp) <;> simp only[ho]at h ⊢ <;> first
  | exact(hnc ⟨_,ho⟩).elim
  | exact fin _ h
  | exact fin2 _ (fun b=>if b=true then _ else _) h
  | (simp only[resolve,invoke,builtin,Sem.run_bind,Sem.run_pure,Result.andThen_ok]at h ⊢;simp only[←Sem.run_pure,←Sem.run_bind]at h ⊢;exact fin _ h)
  | (simp only[resolve,invoke,builtin,Sem.run_bind,Sem.run_pure,Result.andThen_ok]at h ⊢
     have h2:=fin _ (by rw[Sem.run_bind];exact h);rw[Sem.run_bind]at h2
     exact h2)
  | (simp only[Sem.run_pure,Oper.quietUpon]at h ⊢;rw[h.2])
def OX (ops:Array Oper) (k:Nat):List Nat :=
 match ops[k]? with
 | some o=>(o.after.toList.filter fun e=>Region.binds .any e).map (·.on)
 | none=>[]
def UW (ops:Array Oper):Nat→List Nat→List Nat
 | 0,S=>S
 | k+1,S=>UW ops k (if S.contains k then OX ops k++S else S)
def Bv (ops:Array Oper) (j i:Nat):Bool:=(UW ops ops.size (OX ops j)).contains i
theorem a1B {ops:Array Oper} {k i:Nat} (h:i∈OX ops k):waits ops k i=true:=by
 unfold OX at h
 split at h
 ·rename_i o ho
  obtain⟨e,he,rfl⟩:=List.mem_map.1 h;obtain⟨h1,h2⟩:=List.mem_filter.1 he;exact c0X ho (Array.mem_toList_iff.1 h1) h2 rfl
 ·cases h
def Closed (ops:Array Oper) (listed:Array Bool):Prop:=∀ j k,listed.getD j false=true→waits ops j k=true→listed.getD k false=true
theorem W9 {ops:Array Oper} {listed:Array Bool} {j k:Nat} (hj:j∈Region.ready .any ops listed) (hk:waits ops j k=true):listed.getD k false=true:=by
 obtain⟨_,o,ho,hall⟩:=mem_ready.1 hj;obtain⟨o',ho',e,he,hb,hon⟩:=a7g hk
 have:o'=o:=Option.some.inj (ho'.symm.trans ho)
 subst this;exact hon ▸ hall e he hb
theorem a1F {ops:Array Oper} {listed:Array Bool} (hc:Closed ops listed) : ∀ (k:Nat) (S:List Nat),(∀ s∈S,listed.getD s false=true) → ∀ s∈UW ops k S,listed.getD s false=true
 | 0,S,h=>h
 | k+1,S,h=>by
   refine a1F hc k _ ?_
   split
   ·rename_i hk
    have hk':k∈S:=by simpa using hk
    intro s hs;rcases List.mem_append.1 hs with h1 | h1
    ·exact hc k s (h k hk') (a1B h1)
    ·exact h s h1
   ·exact h
theorem a5V {ops:Array Oper} {listed:Array Bool} (hc:Closed ops listed) (j i:Nat) (hj : ∀ k,waits ops j k=true→listed.getD k false=true) (h:Bv ops j i=true):listed.getD i false=true :=
 a1F hc _ _ (fun s hs=>hj s (a1B hs)) i (by simpa[Bv]using h)
theorem Closed.az {ops:Array Oper} {listed:Array Bool} (hc:Closed ops listed) {i:Nat} (hi:i∈Region.ready .any ops listed):Closed ops (listed.setIfInBounds i true):=by
 intro j k hj hk;by_cases hij:i=j
 ·subst hij;exact getD_set_true (W9 hi hk)
 ·rw[getD_set_ne false hij]at hj;exact getD_set_true (hc j k hj hk)
def a3N (ops:Array Oper) (fl hd al tl:List Nat):Bool :=
 Region.noSelect ops&&takeB ops fl (Array.replicate ops.size false)&&(fl++hd++(al++tl)).all (· < ops.size)&&decide ((fl++hd++(al++tl)).length=ops.size)&&decide ((fl++hd++(al++tl)).Nodup) &&
  (List.range ops.size).all (fun i=>(fl++hd++(al++tl)).contains i)&&O0 ops fl (hd++(al++tl))&&Ql ops hd&&sinkB ops (al++tl).head?.toList hd&&chainB ops (al++tl) &&
  (fl.all fun i=>(tl.all fun j=>Bv ops j i)&&match ops[i]? with | some o=>Gx o | none=>false)
theorem Xk : ∀ (l:List Nat) (listed:Array Bool) (i:Nat) (d:Bool),(∀ j∈l,j<listed.size)→(jO listed l).getD i d=if i∈l then true else listed.getD i d
 | [],_,_,_,_=>by simp[jO]
 | x::l,listed,i,d,h=>by
   have ih:=Xk l (listed.setIfInBounds x true) i d (fun j hj=>by simpa using h j (by simp[hj]));have e:jO listed (x::l)=jO (listed.setIfInBounds x true) l:=rfl;rw[e,ih];by_cases h1:i∈l
   ·simp[h1]
   ·rw[if_neg h1]
    by_cases h2:i=x
    ·subst h2;simp[h i (by simp)]
    ·rw[getD_set_ne d (Ne.symm h2),if_neg (by simp[h1,h2])]
theorem HT.off {ops:Array Oper} {fl hd al tl:List Nat} (h:a3N ops fl hd al tl=true):Region.noSelect ops=true∧takeB ops fl (Array.replicate ops.size false)=true∧(fl++hd++(al++tl)).length=ops.size∧HT ops (jO (Array.replicate ops.size false) fl) hd (al++tl)∧(∀ i∈fl,i<ops.size)∧(∀ i∈hd,i ∉ tl)∧(∀ i∈fl,∀ j∈tl,Bv ops j i=true)∧(∀ i∈fl,∀ o,ops[i]?=some o→Gx o=true):=by
 simp only[a3N,Bool.and_eq_true,decide_eq_true_eq]at h;obtain⟨⟨⟨⟨⟨⟨⟨⟨⟨⟨h0,h9⟩,h1⟩,h2⟩,h3⟩,h8⟩,h4⟩,h5⟩,h6⟩,h7⟩,h11⟩:=h;have h1' : ∀ i∈fl++hd++(al++tl),i<ops.size:=fun i hi=>by simpa using List.all_eq_true.1 h1 i hi
 have hfl : ∀ j∈fl,j<(Array.replicate ops.size false).size:=fun j hj=>by simpa using h1' j (by simp[hj])
 rw[List.append_assoc,List.nodup_append]at h3;obtain⟨n1,n2,n3⟩:=h3;refine⟨h0,h9,h2,⟨fun i=>?_,fun i hi=>h1' i (by rw[List.append_assoc];exact List.mem_append_right _ hi),n2,fun pre i post e k hk=>?_,a5J hd h5,a6u hd h6,a1f (al++tl) h7⟩,fun i hi=>h1' i (by simp[hi]),fun i hi ht=>?_,fun i hi j hj=>?_,fun i hi o ho=>?_⟩
 ·rw[Xk fl _ i true hfl]
  constructor
  ·intro hi
   by_cases hf:i∈fl
   ·simp[hf]at hi
   ·rw[if_neg hf]at hi
    have hlt:i<ops.size:=by
     rcases Nat.lt_or_ge i ops.size with h | h
     ·exact h
     ·rw[Array.getD_eq_getD_getElem?,Array.getElem?_eq_none (show(Array.replicate ops.size false).size≤i by simpa using h)]at hi
      cases hi
    have:=List.all_eq_true.1 h8 i (List.mem_range.2 hlt)
    have h10:i∈fl++(hd++(al++tl)):=by simpa using this
    exact(List.mem_append.1 h10).resolve_left hf
  ·intro hi
   have hf:i ∉ fl:=fun hf=>n3 i hf i hi rfl;rw[if_neg hf]
   have:=h1' i (by rw[List.append_assoc];exact List.mem_append_right _ hi)
   simp[this]
 ·rcases a1M _ _ h4 pre i post e k hk with h | h
  ·exact .inr h
  ·left;rw[Xk fl _ k false hfl,if_pos h]
 ·rw[List.nodup_append]at n2
  exact n2.2.2 i hi i (List.mem_append_right _ ht) rfl
 ·have:=List.all_eq_true.1 h11 i hi
  simp only[Bool.and_eq_true]at this;exact List.all_eq_true.1 this.1 j hj
 ·have:=List.all_eq_true.1 h11 i hi
  simp only[Bool.and_eq_true,ho]at this;exact this.2
def nth (l:List Oper) (i:Nat):Oper:=(l[i]?).getD default
def pick (l:List Oper) (is:List Nat):List Oper:=is.map (nth l)
theorem ax (l:List Oper):pick l []=[]:=rfl
theorem au (l:List Oper) (i:Nat) (is:List Nat):pick l (i::is)=nth l i::pick l is:=rfl
theorem ak (o:Oper) (l:List Oper):nth (o::l) 0=o:=rfl
theorem aj (o:Oper) (l:List Oper) (n:Nat):nth (o::l) (n+1)=nth l n:=rfl
theorem Dp {l:List Oper} (m:List Nat) (hm : ∀ i∈m,i<l.length):(pick l m).length=m.length∧∀ (k:Nat),(pick l m)[k]?=(m[k]?).bind (fun(i:Nat)=>l.toArray[i]?):=by
 refine⟨by simp[pick],fun k=>?_⟩;unfold pick;rw[List.getElem?_map]
 cases hk:m[k]? with
 | none=>rfl
 | some i =>
   have hi:=hm i (List.mem_of_getElem? hk);simp[nth,hi]
theorem UL (ops:Array Oper) (n:Nat):Closed ops (Array.replicate n false):=by
 intro j k hj;rcases Nat.lt_or_ge j n with h | h
 ·simp[h]at hj
 ·rw[Array.getD_eq_getD_getElem?,Array.getElem?_eq_none (by simpa using h)]at hj;cases hj
theorem b3P {w w1 w':World} {row:Option Nat} (hg:w1.grownBy w' row) {b o:Nat} {v:Value} (h:w.cell? ⟨b,o,none⟩=some v) (hk:Keep w w1) (hf:w.frozen? ⟨b,o,none⟩=false) (hne:row≠some b):w'.frozen? ⟨b,o,none⟩=false :=
 (hg.frozen_far _ (Nat.lt_of_lt_of_le (cell_lt h) hk.size) (Ne.symm hne)).trans (fU hk (cell_lt h) hf)
end Go.Proofs.YtiagcenlnekdeaaGreatDoor
