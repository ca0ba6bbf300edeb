/- Texts merged by pack.py: Base, Rgn, Seq, Mov, ClkP, ClkA, ClkB, ClkC, ClkD. -/
import Derived.WalkKit
import Derived.WalkSpells
import Derived.WalkLawsBesides
import Derived.BigQuiet
import Derived.Deep.AppendLies
import Derived.Maps.AppendAt
import Derived.Laws.CopyOwn
import Derived.Lib.Hide
import Derived.Deep.QuietTactic
import Derived.OrdersHeld
import Derived.Test.YtmbbknjddebhoaaGreatDoorRows
import Derived.Deep.RegionHeld3
import Derived.Deep.DrawnRows
import Derived.Deep.DeepCutAuto
import Derived.Deep.RegionLaw
import Derived.Lib.AppendZerosOnto
import Derived.Laws.Externs
import Derived.Lib.Overlaps
/- Words for memory that every walk of this seat uses: a slice that reads as a list of cells, a step from world to world that leaves what was there, appends onto a row of the call's own. -/
set_option linter.unusedSimpArgs false
set_option linter.unusedVariables false
namespace Go.Proofs.YtmbbknjddebhoaaGreatDoor
open Go.RowKit
theorem add_lit0 (b off j : Nat) : (⟨b,off,none⟩ : Addr).add j = ⟨b,off + j,none⟩:=by
 unfold Addr.add;split <;> simp_all
def Rd (w : World) (A : Option Addr) (xs : List Value) : Prop :=
 xs = [] ∨ ∃ b off,A = some ⟨b,off,none⟩∧∀ j (h : j < xs.length),w.cell? ⟨b,off + j,none⟩ = some xs[j]
theorem cell_lt {w : World} {b o : Nat} {v : Value} (h : w.cell? ⟨b,o,none⟩ = some v) : b < w.heap.size:=World.block_lt_of_cell? w _ h
abbrev Keep (w w' : World) : Prop:=Below w.heap.size w w'
section
variable {w w' : World} {A : Option Addr} {xs ys : List Value}
theorem Rd.nil (w : World) (A : Option Addr) : Rd w A []:=.inl rfl
theorem Rd.at (h : Rd w A xs) {k : Nat} (hk : k < xs.length) : ∃ b off,A = some ⟨b,off,none⟩∧b < w.heap.size∧∀ j (h : j < xs.length),w.cell? ⟨b,off + j,none⟩ = some xs[j]:=by
 rcases h with rfl | ⟨b,off,rfl,hc⟩
 ·simp at hk
 ·exact ⟨b,off,rfl,cell_lt (hc k hk),hc⟩
theorem Rd.mono (h : Rd w A xs) (hk : ∀ b o v,w.cell? ⟨b,o,none⟩ = some v → w'.cell? ⟨b,o,none⟩ = some v) : Rd w' A xs:=by
 rcases h with rfl | ⟨b,off,rfl,hc⟩
 ·exact .inl rfl
 ·exact .inr ⟨b,off,rfl,fun j hj => hk _ _ _ (hc j hj)⟩
theorem Rd.keep (h : Rd w A xs) (hb : Keep w w') : Rd w' A xs :=
 h.mono fun b o v hv => by rw [hb.cell (p:=⟨b,o,none⟩) (cell_lt hv)];exact hv
theorem keep_grown {w wr w1 : World} {base : Nat} {e : TypeId} {size : Nat} {v : Value} {n : Nat} {xs : List Value} (hk : Below base w wr) (hs : base ≤ wr.heap.size) (hg : wr.grownBy w1 v.ownBlock)
  (hown : wr.ownsRow base e size v n xs) : Below base w w1:=hk.grown hg hs fun k hk => (hown.lt k hk).1
theorem keep_cell {w w' : World} (hk : Keep w w') {b o : Nat} {v : Value} (h : w.cell? ⟨b,o,none⟩ = some v) : w'.cell? ⟨b,o,none⟩ = some v :=
 (hk.cell (p:=⟨b,o,none⟩) (cell_lt h)).trans h
theorem keep_frozen {w w' : World} (hk : Keep w w') {b o : Nat} (hb : b < w.heap.size) (h : w.frozen? ⟨b,o,none⟩ = false) : w'.frozen? ⟨b,o,none⟩ = false :=
 (hk.frozen (p:=⟨b,o,none⟩) hb).trans h
theorem keep_trans {a b c : World} (h : Keep a b) (k : Keep b c) : Keep a c:=h.trans (k.mono h.size)
theorem own_keep {w w' : World} {base : Nat} {e : TypeId} {size : Nat} {v : Value} {n : Nat} {xs : List Value} (h : w.ownsRow base e size v n xs) (hk : Keep w w') : w'.ownsRow base e size v n xs :=
 h.kept ⟨hk.os,hk.tape,hk.output,hk.size,fun k hl _ => hk.block k hl⟩ (row:=none) (by cases hv : v.ownBlock <;> simp)
theorem grown_cell {w w' : World} {row : Option Nat} (hg : w.grownBy w' row) {b o : Nat} {v : Value} (h : w.cell? ⟨b,o,none⟩ = some v) (hne : row ≠ some b) : w'.cell? ⟨b,o,none⟩ = some v :=
 (hg.cell_far _ (cell_lt h) (Ne.symm hne)).trans h
theorem own_ne {w : World} {base : Nat} {e : TypeId} {size : Nat} {v : Value} {n : Nat} {xs : List Value} (h : w.ownsRow base e size v n xs) {b : Nat} (hb : w.heap.size ≤ b) : v.ownBlock ≠ some b :=
 fun e => by have:=(h.lt b e).2;omega
theorem own_eq {w : World} {base : Nat} {e : TypeId} {size : Nat} {v : Value} {n n' : Nat} {xs xs' : List Value} (h : w.ownsRow base e size v n xs) (hn : n = n') (hx : xs = xs') : w.ownsRow base e size v n' xs':=hn ▸ hx ▸ h
theorem own_form {w : World} {base : Nat} {e : TypeId} {size : Nat} {v : Value} {n : Nat} {xs : List Value} (h : w.ownsRow base e size v n xs) :
  ∃ A c,v = .slice A n c∧n ≤ c∧c ≤ maxLen∧Rd w A xs:=by
 rcases h.2 with ⟨rfl,rfl⟩ | ⟨g,cap,cur,rfl,hb,hg,h1,h2,h3,h4⟩
 ·exact ⟨none,0,rfl,Nat.le_refl _,Nat.zero_le _,.inl (List.eq_nil_of_length_eq_zero (by simpa using h.1))⟩
 ·refine ⟨_,cap,rfl,h1,h2,.inr ⟨g,0,rfl,fun j hj => ?_⟩⟩
  have:=h.cells (g:=g) rfl j _ (List.getElem?_eq_getElem hj)
  rwa [add_lit0] at this
theorem Rd.drew (h : Rd w A xs) : Rd w.drew A xs:=h
theorem Rd.alloc (h : Rd w A xs) (o : Obj) : Rd (w.alloc o) A xs:=h.keep ((Below.refl _ _).alloc (Nat.le_refl _) o)
end
theorem ret_int {k : IntKind} {a b : Int} (h : a = b) : Ending.returned (.int k a) = .returned (.int k b):=by rw [h]
theorem ret_bool {a b : Bool} (h : a = b) : Ending.returned (.bool a) = .returned (.bool b):=by rw [h]
theorem byte_i64 (x : UInt8) : IntKind.i64.wrap x.toNat = x.toNat:=IntWalk.i64_in _ (by have:=x.toNat_lt;omega)
theorem byte_w64 (x : UInt8) : wrap64 x.toNat = x.toNat:=IntWalk.wrap64_in _ (by have:=x.toNat_lt;omega)
attribute [go_sem] byte_i64 byte_w64
abbrev u8v (x : UInt8) : Value:=.int .u8 x.toNat
abbrev u32v (x : UInt32) : Value:=.int .u32 x.toNat
abbrev iv (n : Int) : Value:=.int .i64 n
theorem flatMap_len {α β : Type} (f : α → List β) (size : Nat) (hf : ∀ a,(f a).length = size) (l : List α) : (l.flatMap f).length = l.length * size:=by
 induction l with
 | nil => simp
 | cons a l ih => simp [hf,ih,Nat.add_mul];omega
theorem flatMap_get {α β : Type} (f : α → List β) (size : Nat) (hf : ∀ a,(f a).length = size) (l : List α) (i j : Nat) (hi : i < l.length) (hj : j < size) :
  (l.flatMap f)[i * size + j]? = (f l[i])[j]?:=by
 induction l generalizing i with
 | nil => simp at hi
 | cons a l ih =>
   cases i with
   | zero => simp [List.getElem?_append_left (show j < (f a).length by rw [hf];exact hj)]
   | succ i =>
     have h:=ih i (by simpa using hi)
     simp only [List.flatMap_cons,List.getElem_cons_succ]
     rw [List.getElem?_append_right (by rw [hf,Nat.succ_mul];omega),hf,show (i + 1) * size + j - size = i * size + j from by rw [Nat.succ_mul];omega]
     exact h
theorem flatMap_len' {α β : Type} (f : α → List β) (size : Nat) (l : List α) (hf : ∀ a ∈ l,(f a).length = size) : (l.flatMap f).length = l.length * size:=by
 induction l with
 | nil => simp
 | cons a l ih =>
   have:=ih fun b hb => hf b (by simp [hb])
   simp [hf a (by simp),Nat.add_mul];simp at this;omega
theorem flatMap_get' {α β : Type} (f : α → List β) (size : Nat) (l : List α) (hf : ∀ a ∈ l,(f a).length = size) (i j : Nat) (hi : i < l.length) (hj : j < size) :
  (l.flatMap f)[i * size + j]? = (f l[i])[j]?:=by
 induction l generalizing i with
 | nil => simp at hi
 | cons a l ih =>
   have ha:=hf a (by simp)
   cases i with
   | zero => simp [List.getElem?_append_left (show j < (f a).length by rw [ha];exact hj)]
   | succ i =>
     have h:=ih (fun b hb => hf b (by simp [hb])) i (by simpa using hi)
     simp only [List.flatMap_cons,List.getElem_cons_succ]
     rw [List.getElem?_append_right (by rw [ha,Nat.succ_mul];omega),ha,show (i + 1) * size + j - size = i * size + j from by rw [Nat.succ_mul];omega]
     exact h
theorem add_add' (a : Addr) (i j : Nat) : (a.add i).add j = a.add (i + j):=by
 unfold Addr.add
 by_cases hi : i = 0 <;> by_cases hj : j = 0 <;> simp [hi,hj,Nat.add_assoc]
theorem Rd.field {α : Type} {w : World} {b off size : Nat} {f : α → List Value} (hf : ∀ a,(f a).length = size) {l : List α}
  (h : ∀ j (h : j < (l.flatMap f).length),w.cell? ⟨b,off + j,none⟩ = some (l.flatMap f)[j]) (i j : Nat) (hi : i < l.length) (hj : j < size) :
  w.cell? ⟨b,off + i * size + j,none⟩ = (f l[i])[j]?:=by
 have hl:=flatMap_len f size hf l
 have hlt : i * size + j < (l.flatMap f).length:=by
  rw [hl]
  calc i * size + j < i * size + size:=by omega
   _ = (i + 1) * size:=by rw [Nat.succ_mul]
   _ ≤ l.length * size:=Nat.mul_le_mul_right _ hi
 have:=h (i * size + j) hlt
 rw [Nat.add_assoc,this,← flatMap_get f size hf l i j hi hj,List.getElem?_eq_getElem hlt]
structure ElT (P : Program) (t e : TypeId) (z : Value) (size bytes : Nat) : Prop where
 und : P.underlying t = some (.slice e)
 info : ∃ i,P.info? e = some i∧i.zero = some z∧i.size = size∧i.bytes = bytes
 zs : z.cells.size = size
 pos : 0 < size
theorem ElT.mk' {P : Program} {t e : TypeId} {z : Value} {size bytes : Nat} (h1 : P.underlying t = some (.slice e)) (h2 : (P.info? e).map (fun i => (i.zero,i.size,i.bytes)) = some (some z,size,bytes))
  (h3 : z.cells.size = size) (h4 : 0 < size) : ElT P t e z size bytes:=by
 obtain ⟨i,hi,a,b,c⟩:=info_parts h2
 exact ⟨h1,⟨i,hi,a,b,c⟩,h3,h4⟩
section
variable {P : Program} {t e : TypeId} {z : Value} {size bytes : Nat}
theorem Rd.run_append (T : ElT P t e z size bytes) (w : World) (base : Nat) (ty : TypeId) (v : Value) (n : Nat) (xs : List Value) (hown : w.ownsRow base e size v n xs)
  (A : Option Addr) (m c : Nat) (news : List Value) (hl : news.length = m * size) (hr : Rd w A news) (h1 : ∀ u ∈ news,u.oneCell' = true)
  (hb : (n + m) * bytes ≤ 140737488355328) (h63 : n + m ≤ maxLen) (hbase : base ≤ w.heap.size) :
  ∃ v' w',(Builtin.append_ #[t,t] ty #[v,.slice A m c]).run P w = .ok v' w'∧w'.ownsRow base e size v' (n + m) (xs ++ news)∧w.grownBy w' v.ownBlock ∧
    (v'.ownBlock = v.ownBlock ∨ v'.ownBlock = some w.heap.size):=by
 obtain ⟨i,hi,hz,hsz,hby⟩:=T.info
 by_cases hm : m = 0
 ·subst hm
  obtain rfl : news = []:=List.eq_nil_of_length_eq_zero (by simpa using hl)
  refine ⟨v,w,?_,by simpa using hown,World.grownBy.refl w _,.inl rfl⟩
  rcases hown.2 with ⟨rfl,rfl⟩ | ⟨g,cap,cur,rfl,_,_,hnc,_⟩ <;> cases A <;>
   simp [Builtin.append_,run_underlying T.und,sizeOf,typeInfo,Builtin.lenOf,Builtin.firstCells,loadCells,loadCellsFrom,storeCells, *]
 ·have hpos : 0 < m * size:=Nat.mul_pos (by omega) T.pos
  rcases hr with rfl | ⟨b,off,rfl,hc⟩
  ·simp at hl;omega
  ·obtain ⟨v',w',hrun,h2,h3,_,h5⟩:=run_append_own_at (P:=P) w base t ty e i z size bytes T.und hi hz hsz hby T.zs T.pos v n xs hown ⟨b,off,none⟩ m c news hl
    (fun j u hu => by
     obtain ⟨hj,rfl⟩:=List.getElem?_eq_some_iff.1 hu
     rw [add_lit0];exact hc j hj) h1 h63 hb hbase
   exact ⟨v',w',hrun,h2,h3,h5⟩
theorem wp_app (T : ElT P t e z size bytes) {w : World} {o : Oper} {a : Act} {K : Act → World → Prop} {Q : Exit → Act → World → Prop} (s x : Operand)
  (ho : o.op = .call { callee:=.builtin .append,args:=#[s,x],argTypes:=#[t,t] }) (base : Nat)
  (v : Value) (n : Nat) (xs : List Value) (hs : a.eval s = v) (hown : w.ownsRow base e size v n xs)
  (A : Option Addr) (m c : Nat) (news : List Value) (hx : a.eval x = .slice A m c) (hl : news.length = m * size) (hr : Rd w A news) (h1 : ∀ u ∈ news,u.oneCell' = true)
  (hb : (n + m) * bytes ≤ 140737488355328) (h63 : n + m ≤ maxLen) (hbase : base ≤ w.heap.size)
  (h : ∀ v' w',w'.ownsRow base e size v' (n + m) (xs ++ news) → w.grownBy w' v.ownBlock → (v'.ownBlock = v.ownBlock ∨ v'.ownBlock = some w.heap.size) → K (a.put o.dst v') w') : o.wp P a w K Q:=by
 obtain ⟨v',w',hrun,h2,h3,h4⟩:=Rd.run_append T w base o.type v n xs hown A m c news hl hr h1 hb h63 hbase
 unfold Oper.wp execOp
 simp only [ho,resolve,invoke,builtin,Sem.run_bind,Sem.run_pure,Result.andThen_ok,List.map_toArray,List.map_cons,List.map_nil,hs,hx,hrun]
 exact h v' w' h2 h3 h4
theorem wpList_app (T : ElT P t e z size bytes) {w : World} {ops : Array Oper} {rest : List Oper} {o : Oper} {a : Act} {Q : Exit → Act → World → Prop} (hgd : o.guard = none) (s x : Operand)
  (ho : o.op = .call { callee:=.builtin .append,args:=#[s,x],argTypes:=#[t,t] }) (base : Nat)
  (v : Value) (n : Nat) (xs : List Value) (hs : a.eval s = v) (hown : w.ownsRow base e size v n xs)
  (A : Option Addr) (m c : Nat) (news : List Value) (hx : a.eval x = .slice A m c) (hl : news.length = m * size) (hr : Rd w A news) (h1 : ∀ u ∈ news,u.oneCell' = true)
  (hb : (n + m) * bytes ≤ 140737488355328) (h63 : n + m ≤ maxLen) (hbase : base ≤ w.heap.size)
  (h : ∀ v' w',w'.ownsRow base e size v' (n + m) (xs ++ news) → w.grownBy w' v.ownBlock → (v'.ownBlock = v.ownBlock ∨ v'.ownBlock = some w.heap.size) → wpList P ops Q rest (a.put o.dst v') w') : wpList P ops Q (o :: rest) a w :=
 wpList_plain hgd fun _ hK => wp_app T s x ho base v n xs hs hown A m c news hx hl hr h1 hb h63 hbase fun v' w' h2 h3 h4 => hK _ _ (h v' w' h2 h3 h4)
end
theorem Rd.new (w : World) (cs : List Value) (t : TypeId) : Rd (w.alloc (.cells cs.toArray t)) (some ⟨w.heap.size,0,none⟩) cs:=by
 refine .inr ⟨_,_,rfl,fun j hj => ?_⟩
 rw [cell_of_row _ _ _ _ _ (0,0) (heap_alloc_new w _)]
 simp
section
variable {P : Program} {t e : TypeId} {z : Value} {bytes : Nat}
theorem wp_cpy (T : ElT P t e z 1 bytes) {w : World} {o : Oper} {a : Act} {K : Act → World → Prop} {Q : Exit → Act → World → Prop} (d x : Operand)
  (ho : o.op = .call { callee:=.builtin .copy,args:=#[d,x],argTypes:=#[t,t] }) (g off dLen dCap : Nat) (hd : a.eval d = .slice (some ⟨g,off,none⟩) dLen dCap)
  (A : Option Addr) (n c : Nat) (xs : List Value) (hx : a.eval x = .slice A n c) (hn : xs.length = n) (hr : Rd w A xs) (h1 : ∀ u ∈ xs,u.oneCell' = true)
  (cur : List Value) (t' : TypeId) (hg : w.heap[g]? = some (.cells cur.toArray t' (0,0))) (hfit : off + min n dLen ≤ cur.length)
  (h : ∀ w',Hid (w'.heap[g]? = some (.cells (splice cur off (xs.take dLen)).toArray t' (0,0))) → w.grownBy w' (some g) → K (a.put o.dst (.int .i64 (min n dLen : Nat))) w') : o.wp P a w K Q:=by
 have hsz : (P.info? e).map (·.size) = some 1:=by obtain ⟨i,hi,_,h2,_⟩:=T.info;simp [hi,h2]
 have hl : (xs.take dLen).length = min n dLen:=by simp [hn,Nat.min_comm]
 by_cases h0 : min n dLen = 0
 ·have hrun:=run_copy_none (P:=P) w t t o.type e (some ⟨g,off,none⟩) A dLen dCap n c T.und hsz h0
  unfold Oper.wp
  simp [execOp,ho,resolve,invoke,builtin,hd,hx,hrun,Result.andThen]
  have hk:=h w (show _ = _ by
   have : xs.take dLen = []:=List.eq_nil_of_length_eq_zero (by omega)
   simpa [this,splice] using hg) (World.grownBy.refl w _)
  rw [h0] at hk
  exact hk
 ·rcases hr with rfl | ⟨b,o2,rfl,hc⟩
  ·simp at hn;omega
  ·have hrun:=run_copy_row (P:=P) w t t o.type e g off dLen dCap ⟨b,o2,none⟩ n c cur.toArray t' (xs.take dLen) T.und hsz hg hl (fun j v hv => by
    obtain ⟨hj,rfl⟩:=List.getElem?_eq_some_iff.1 hv
    rw [add_lit0,hc j (by simp at hj;omega)];simp) (by rw [hl];simpa using hfit) (fun v hv => h1 v (List.mem_of_mem_take hv))
   unfold Oper.wp
   simp only [execOp,ho,resolve,invoke,builtin,Sem.run_bind,Sem.run_pure,Result.andThen_ok,List.map_toArray,List.map_cons,List.map_nil,hd,hx,hrun,Oper.upon]
   rw [hl]
   refine h _ ?_ ⟨rfl,rfl,rfl,by simp [World.setRow],fun k _ hne => setRow_other w g k _ (fun e => hne (by rw [e]))⟩
   have hs : splice cur off (xs.take dLen) = cur.take off ++ xs.take dLen ++ cur.drop (off + min n dLen):=by rw [splice,hl,List.append_assoc]
   rw [hs]
   exact setRow_heap w g cur.toArray _ t' (0,0) hg
theorem wpList_cpy (T : ElT P t e z 1 bytes) {w : World} {ops : Array Oper} {rest : List Oper} {o : Oper} {a : Act} {Q : Exit → Act → World → Prop} (hgd : o.guard = none) (d x : Operand)
  (ho : o.op = .call { callee:=.builtin .copy,args:=#[d,x],argTypes:=#[t,t] }) (g off dLen dCap : Nat) (hd : a.eval d = .slice (some ⟨g,off,none⟩) dLen dCap)
  (A : Option Addr) (n c : Nat) (xs : List Value) (hx : a.eval x = .slice A n c) (hn : xs.length = n) (hr : Rd w A xs) (h1 : ∀ u ∈ xs,u.oneCell' = true)
  (cur : List Value) (t' : TypeId) (hg : w.heap[g]? = some (.cells cur.toArray t' (0,0))) (hfit : off + min n dLen ≤ cur.length)
  (h : ∀ w',Hid (w'.heap[g]? = some (.cells (splice cur off (xs.take dLen)).toArray t' (0,0))) → w.grownBy w' (some g) → wpList P ops Q rest (a.put o.dst (.int .i64 (min n dLen : Nat))) w') : wpList P ops Q (o :: rest) a w :=
 wpList_plain hgd fun _ hK => wp_cpy T d x ho g off dLen dCap hd A n c xs hx hn hr h1 cur t' hg hfit fun w' h2 h3 => hK _ _ (h w' h2 h3)
end
theorem own_fill {w : World} {base : Nat} {e : TypeId} {size g n c : Nat} {cur xs : List Value} (hg : w.heap[g]? = some (.cells (splice cur 0 xs).toArray e (0,0))) (hb : base ≤ g) (hx : xs.length = n * size) (hc : cur.length = c * size)
  (hn : n ≤ c) (hm : c ≤ maxLen) : w.ownsRow base e size (.slice (some ⟨g,0,none⟩) n c) n xs:=by
 have hle : n * size ≤ c * size:=Nat.mul_le_mul_right _ hn
 refine ⟨hx,.inr ⟨g,c,_,rfl,hb,hg,hn,hm,by simp [length_splice cur 0 xs (by omega),hc],?_⟩⟩
 simp [splice,← hx]
theorem Rd.drop {w : World} {A : Option Addr} {xs : List Value} (h : Rd w A xs) {k cap : Nat} (hk : k ≤ xs.length) (hc : xs.length ≤ cap) : Rd w (if cap = k then A else A.map (·.add (k * 1))) (xs.drop k):=by
 by_cases h0 : k = xs.length
 ·subst h0;exact .inl (by simp)
 ·rcases h with rfl | ⟨b,off,rfl,hcell⟩
  ·simp at hk h0;omega
  ·rw [if_neg (by omega)]
   refine .inr ⟨b,off + k,by simp [add_lit0],fun j hj => ?_⟩
   simp at hj
   rw [Nat.add_assoc,hcell (k + j) (by omega)];simp
theorem Rd.dropN {w : World} {A : Option Addr} {xs : List Value} (h : Rd w A xs) {k : Nat} (hk : k ≤ xs.length) : Rd w (A.map (·.add k)) (xs.drop k):=by
 have h2:=h.drop (k:=k) (cap:=xs.length + k + 1) hk (by omega)
 rw [if_neg (by omega),Nat.mul_one] at h2
 exact h2
theorem Rd.take {w : World} {A : Option Addr} {xs : List Value} (h : Rd w A xs) (k : Nat) : Rd w A (xs.take k):=by
 rcases h with rfl | ⟨b,off,rfl,hcell⟩
 ·exact .inl (by simp)
 ·exact .inr ⟨b,off,rfl,fun j hj => by simp at hj;rw [hcell j (by omega)];simp⟩
theorem own_rd {w : World} {base : Nat} {e : TypeId} {size : Nat} {A : Option Addr} {n m c : Nat} {xs : List Value} (h : w.ownsRow base e size (.slice A m c) n xs) : Rd w A xs:=by
 obtain ⟨A',c',h1,_,_,h2⟩:=own_form h
 injection h1 with h1
 rw [h1];exact h2
def FreshA (base : Nat) (A : Option Addr) (n : Nat) : Prop:=n = 0 ∨ ∃ b off,A = some ⟨b,off,none⟩∧base ≤ b
theorem own_fresh {w : World} {base : Nat} {e : TypeId} {size : Nat} {A : Option Addr} {n m c : Nat} {xs : List Value} (h : w.ownsRow base e size (.slice A m c) n xs) : FreshA base A n:=by
 rcases h.2 with ⟨_,h0⟩ | ⟨g,cap,cur,hv,hb,_⟩
 ·exact .inl h0
 ·injection hv with hA
  exact .inr ⟨g,0,hA,hb⟩
theorem FreshA.mono {b b' : Nat} {A : Option Addr} {n : Nat} (h : FreshA b A n) (hb : b' ≤ b) : FreshA b' A n:=h.imp id fun ⟨x,o,h1,h2⟩ => ⟨x,o,h1,by omega⟩
def RdX (row : Option Nat) (w : World) (A : Option Addr) (xs : List Value) : Prop :=
 xs = [] ∨ ∃ b off,A = some ⟨b,off,none⟩∧row ≠ some b∧∀ j (h : j < xs.length),w.cell? ⟨b,off + j,none⟩ = some xs[j]
section
variable {w w' : World} {row row' : Option Nat} {A : Option Addr} {xs : List Value}
theorem RdX.rd (h : RdX row w A xs) : Rd w A xs:=h.imp id fun ⟨b,off,h1,_,h3⟩ => ⟨b,off,h1,h3⟩
theorem RdX.keep (h : RdX row w A xs) (hk : Keep w w') : RdX row w' A xs :=
 h.imp id fun ⟨b,off,h1,h2,h3⟩ => ⟨b,off,h1,h2,fun j hj => keep_cell hk (h3 j hj)⟩
theorem RdX.grown (h : RdX row w A xs) (hg : w.grownBy w' row) (hr : row' = row ∨ row' = some w.heap.size) : RdX row' w' A xs:=by
 rcases h with rfl | ⟨b,off,rfl,h2,h3⟩
 ·exact .inl rfl
 ·by_cases h0 : xs = []
  ·exact .inl h0
  ·have hp : 0 < xs.length:=List.length_pos_iff.2 h0
   have hb:=cell_lt (h3 0 hp)
   refine .inr ⟨b,off,rfl,?_,fun j hj => grown_cell hg (h3 j hj) h2⟩
   rcases hr with rfl | rfl
   ·exact h2
   ·intro e;injection e with e;omega
theorem RdX.setCell (h : RdX row w A xs) {p : Addr} (u : Value) (hp : row = some p.block) : RdX row (w.setCell p u) A xs :=
 h.imp id fun ⟨b,off,h1,h2,h3⟩ => ⟨b,off,h1,h2,fun j hj => (World.cell?_setCell_other w p _ u (fun e => h2 (by rw [hp,e]))).trans (h3 j hj)⟩
end
def Blk (w : World) (g : Nat) (t : TypeId) (cs : List Value) : Prop:=w.heap[g]? = some (.cells cs.toArray t (0,0))
section
variable {w w' : World} {g : Nat} {t : TypeId} {cs : List Value}
theorem Blk.lt (h : Blk w g t cs) : g < w.heap.size:=(Array.getElem?_eq_some_iff.1 h).1
theorem Blk.cell (h : Blk w g t cs) (i : Nat) : w.cell? ⟨g,i,none⟩ = cs[i]?:=by rw [cell_of_row w g i _ t (0,0) h];simp
theorem Blk.frozen (h : Blk w g t cs) (i : Nat) : w.frozen? ⟨g,i,none⟩ = false:=by unfold Blk at h;simp [World.frozen?,h]
theorem Blk.new (w : World) (t : TypeId) (cs : List Value) : Blk (w.alloc (.cells cs.toArray t)) w.heap.size t cs:=heap_alloc_new w _
theorem Blk.drew (h : Blk w g t cs) : Blk w.drew g t cs:=h
theorem Blk.keep (h : Blk w g t cs) (hk : Keep w w') : Blk w' g t cs:=(hk.block g h.lt).trans h
theorem Blk.alloc (h : Blk w g t cs) (o : Obj) : Blk (w.alloc o) g t cs:=(Below.heap_alloc w o g h.lt).trans h
theorem Blk.grown {row : Option Nat} (h : Blk w g t cs) (hg : w.grownBy w' row) (hne : row ≠ some g) : Blk w' g t cs:=(hg.block g h.lt (Ne.symm hne)).trans h
theorem Blk.far (h : Blk w g t cs) {p : Addr} (hp : g ≠ p.block) (u : Value) : Blk (w.setCell p u) g t cs:=(Below.heap_setCell w p u g hp).trans h
theorem Blk.set_ (h : Blk w g t cs) (i : Nat) (u : Value) : Blk (w.setCell ⟨g,i,none⟩ u) g t (cs.set i u):=by
 unfold Blk at h ⊢
 simp [World.setCell,Array.getElem?_modify,h]
theorem Blk.rd (h : Blk w g t cs) : Rd w (some ⟨g,0,none⟩) cs:=.inr ⟨g,0,rfl,fun j hj => by rw [h.cell];simp [hj]⟩
end
theorem ElT.make {P : Program} {t e : TypeId} {z : Value} {size bytes : Nat} (T : ElT P t e z size bytes) (n c : Nat) (hnc : n ≤ c) (hb : bytes * c ≤ 281474976710656) (h63 : c ≤ 9223372036854775807) (w : World) :
  (Instr.makeSlice t (.int .i64 (n : Int)) (.int .i64 (c : Int))).run P w = .ok (.slice (some ⟨w.heap.size,0,none⟩) n c) (w.alloc (.cells (madeCells z.cells (c * size)) e)):=by
 obtain ⟨i,hi,hz,h1,h2⟩:=T.info
 have hb' : (i.bytes : Int) * (c : Int) ≤ 281474976710656:=by
  have h : ((i.bytes * c : Nat) : Int) ≤ 281474976710656:=by rw [h2];omega
  rwa [Int.natCast_mul] at h
 have hr:=run_make (P:=P) w t e i z T.und hi hz .i64 .i64 n c (by omega) (by omega) hb' (by omega)
 simp only [Int.toNat_natCast] at hr
 rw [hr,h1]
theorem own_base {w : World} {b b' : Nat} {e : TypeId} {size : Nat} {v : Value} {n : Nat} {xs : List Value} (h : w.ownsRow b e size v n xs) (hb : b' ≤ b) : w.ownsRow b' e size v n xs :=
 ⟨h.1,h.2.imp id fun ⟨g,cap,cur,h1,h2,rest⟩ => ⟨g,cap,cur,h1,Nat.le_trans hb h2,rest⟩⟩
theorem own_zero (w : World) (e : TypeId) (size : Nat) : (w.alloc (.cells #[] e)).ownsRow w.heap.size e size (.slice (some ⟨w.heap.size,0,none⟩) 0 0) 0 [] :=
 World.ownsRow_made w #[] 0 (Nat.le_refl _) (Nat.zero_le _) (by simp)
theorem Rd.sub {w : World} {b off : Nat} {xs : List Value} (h : Rd w (some ⟨b,off,none⟩) xs) (k m : Nat) (hk : k + m ≤ xs.length) : Rd w (some ⟨b,off + k,none⟩) ((xs.drop k).take m):=by
 have h1:=(h.dropN (k:=k) (by omega)).take m
 rwa [Option.map_some,add_lit0] at h1
theorem Rd.far {w : World} {g off : Nat} {xs : List Value} (h : Rd w (some ⟨g,off,none⟩) xs) {p : Addr} (hp : p.block ≠ g) (u : Value) : Rd (w.setCell p u) (some ⟨g,off,none⟩) xs:=by
 rcases h with h | ⟨b,o,e,hc⟩
 ·exact .inl h
 ·injection e with e;injection e with e1 e2;subst e1 e2
  exact .inr ⟨g,off,rfl,fun j hj => (World.cell?_setCell_other w p _ u (fun e => hp (by rw [e]))).trans (hc j hj)⟩
def MidF (F : World → Prop) (w w' W : World) : Prop:=F W∧∀ k,w.heap.size ≤ k → k < w'.heap.size → W.heap[k]? = w'.heap[k]?
def Mid (w0 w w' W : World) : Prop:=MidF (fun W => Keep w0 W) w w' W
theorem Mid.of_keep {w0 w w' W : World} (h0 : Keep w0 w') (h : Keep w' W) : Mid w0 w w' W:=⟨keep_trans h0 h,fun k _ h2 => h.block k h2⟩
def str (l : List UInt8) : ByteArray:=⟨l.toArray⟩
theorem str_toList (l : List UInt8) : (str l).toList = l:=by
 rw [ByteArray.toList_eq];rfl
attribute [go_sem] str_toList
end Go.Proofs.YtmbbknjddebhoaaGreatDoor
/- A region that draws its order, whose operations read and whose callees leave what was there (they may make memory that the value does not show): one walk in the order of the text, guards and all. -/
set_option linter.unusedSimpArgs false
set_option linter.unusedVariables false
namespace Go.Proofs.YtmbbknjddebhoaaGreatDoor
open Go.RowKit
open Classical in
noncomputable def aft (w x : World) : World:=if Keep w x then x else w
theorem aft_keep (w x : World) : Keep w (aft w x):=by
 unfold aft;split
 ·assumption
 ·exact Below.refl _ _
theorem aft_of {w w' : World} (h : Keep w w') : w' = aft w w':=by unfold aft;rw [if_pos h]
theorem aft_cell {w : World} {b o : Nat} {v : Value} (h : w.cell? ⟨b,o,none⟩ = some v) : ∀ x,(aft w x).cell? ⟨b,o,none⟩ = some v:=fun x => keep_cell (aft_keep w x) h
theorem quiet_aft_same {P : Program} {f : FuncId} {args : Array Value} {w x : World} {v : Value} (h : Calls P f args (aft w x) fun e w' => e = .returned v∧aft w x = w') :
  Calls P f args (aft w x) fun e w'' => e = .returned v∧∃ y,w'' = aft w y :=
 h.mono fun _ w' ⟨he,hk⟩ => ⟨he,x,hk.symm⟩
theorem wp_region_aft {P : Program} {id : Nat} {Q : Exit → Act → World → Prop} {a : Act} {w : World} {l : List Oper} (hm : P.follows .mixedOrders = true) (hB : Region.lexB .any l.toArray = true) (w0 : World) (hw : Keep w0 w)
  (h : wpQuiet P l.toArray (fun w' => ∃ x,w' = aft w0 x) (fun a' => ∀ w',(∃ x,w' = aft w0 x) → Q .normal a' w') l a) : (Code.region id l.toArray true).wp P Q a w :=
 wp_region_quiet (C:=fun w' => ∃ x,w' = aft w0 x) hm hB ⟨_,aft_of (hw.drew)⟩ (by simpa using h)
end Go.Proofs.YtmbbknjddebhoaaGreatDoor
/- A region that draws its order: some operations first, that answer the same in every world of a class, in any order that their edges allow; behind them the others, in one forced order. One walk serves every order. -/
set_option linter.unusedSimpArgs false
set_option linter.unusedVariables false
namespace Go.Proofs.YtmbbknjddebhoaaGreatDoor
open Go.RowKit
def waits (ops : Array Oper) (j i : Nat) : Bool :=
 match ops[j]? with
 | some o => o.after.any fun e => Region.binds .any e && e.on == i
 | none => false
theorem waits_spec {ops : Array Oper} {j i : Nat} (h : waits ops j i = true) : ∃ o,ops[j]? = some o∧∃ e ∈ o.after,Region.binds .any e = true∧e.on = i:=by
 unfold waits at h
 split at h
 ·rename_i o ho
  obtain ⟨e,he,hb⟩:=Array.any_eq_true'.1 h
  simp only [Bool.and_eq_true,beq_iff_eq] at hb
  exact ⟨o,ho,e,he,hb.1,hb.2⟩
 ·cases h
theorem waits_mk {ops : Array Oper} {j i : Nat} {o : Oper} (ho : ops[j]? = some o) {e : Edge} (he : e ∈ o.after) (hb : Region.binds .any e = true) (hi : e.on = i) : waits ops j i = true:=by
 unfold waits
 rw [ho]
 exact Array.any_eq_true'.2 ⟨e,he,by simp [hb,hi]⟩
def partB (ops : Array Oper) (i j : Nat) : Bool :=
 match ops[i]?,ops[j]? with
 | some x,some y => x.apart ops y
 | _,_ => false
structure HT (ops : Array Oper) (listed : Array Bool) (hd tl : List Nat) : Prop where
 un : ∀ i,listed.getD i true = false ↔ i ∈ hd ++ tl
 inb : ∀ i ∈ hd ++ tl,i < ops.size
 nd : (hd ++ tl).Nodup
 edge : ∀ pre i post,hd ++ tl = pre ++ i :: post → ∀ k,waits ops i k = true → listed.getD k false = true ∨ k ∈ pre
 part : ∀ pre i post j,hd = pre ++ i :: post → j ∈ post → waits ops j i = true ∨ partB ops i j = true
 sink : ∀ pre i post,hd = pre ++ i :: post → ∃ j ∈ post ++ tl.head?.toList,waits ops j i = true
 chain : ∀ pre t t' post,tl = pre ++ t :: t' :: post → waits ops t' t = true
section
variable {P : Program} {ops : Array Oper} {listed : Array Bool} {hd tl : List Nat} {C : World → Prop} {Q : Exit → Act → World → Prop}
theorem getD_tf {l : Array Bool} {i : Nat} (h : l.getD i true = false) : l.getD i false = false:=by
 rcases Nat.lt_or_ge i l.size with h' | h'
 ·simp [h'] at h ⊢;exact h
 ·simp [Array.getElem?_eq_none h'] at h
end
def edgeB (ops : Array Oper) : List Nat → List Nat → Bool
 | _,[] => true
 | pre,i :: post => (match ops[i]? with | some o => o.after.all fun e => !Region.binds .any e || pre.contains e.on | none => false) && edgeB ops (i :: pre) post
def partsB (ops : Array Oper) : List Nat → Bool
 | [] => true
 | i :: post => (post.all fun j => waits ops j i || partB ops i j) && partsB ops post
def sinkB (ops : Array Oper) (t : List Nat) : List Nat → Bool
 | [] => true
 | i :: post => ((post ++ t).any fun j => waits ops j i) && sinkB ops t post
def chainB (ops : Array Oper) : List Nat → Bool
 | [] => true
 | [_] => true
 | t :: t' :: post => waits ops t' t && chainB ops (t' :: post)
theorem edgeB_spec {ops : Array Oper} : ∀ (l pre0 : List Nat),edgeB ops pre0 l = true → ∀ pre i post,l = pre ++ i :: post → ∀ k,waits ops i k = true → k ∈ pre ∨ k ∈ pre0
 | [],_,_,pre,i,post,e,_,_ => by simp at e
 | x :: l,pre0,h,pre,i,post,e,k,hk => by
   simp only [edgeB,Bool.and_eq_true] at h
   cases pre with
   | nil =>
     simp at e
     obtain ⟨rfl,rfl⟩:=e
     obtain ⟨o,ho,ed,hed,hb,hon⟩:=waits_spec hk
     have h1:=h.1
     rw [ho] at h1
     have:=Array.all_eq_true_iff_forall_mem.1 h1 ed hed
     simp [hb] at this
     exact .inr (hon ▸ this)
   | cons y pre =>
     simp at e
     obtain ⟨rfl,e⟩:=e
     rcases edgeB_spec l (x :: pre0) h.2 pre i post e k hk with h1 | h1
     ·exact .inl (by simp [h1])
     ·rcases List.mem_cons.1 h1 with rfl | h1
      ·exact .inl (by simp)
      ·exact .inr h1
theorem partsB_spec {ops : Array Oper} : ∀ (l : List Nat),partsB ops l = true → ∀ pre i post j,l = pre ++ i :: post → j ∈ post → waits ops j i = true ∨ partB ops i j = true
 | [],_,pre,i,post,j,e,_ => by simp at e
 | x :: l,h,pre,i,post,j,e,hj => by
   simp only [partsB,Bool.and_eq_true] at h
   cases pre with
   | nil => simp at e;obtain ⟨rfl,rfl⟩:=e;simpa using List.all_eq_true.1 h.1 j hj
   | cons y pre => simp at e;exact partsB_spec l h.2 pre i post j e.2 hj
theorem sinkB_spec {ops : Array Oper} {t : List Nat} : ∀ (l : List Nat),sinkB ops t l = true → ∀ pre i post,l = pre ++ i :: post → ∃ j ∈ post ++ t,waits ops j i = true
 | [],_,pre,i,post,e => by simp at e
 | x :: l,h,pre,i,post,e => by
   simp only [sinkB,Bool.and_eq_true] at h
   cases pre with
   | nil => simp at e;obtain ⟨rfl,rfl⟩:=e;exact List.any_eq_true.1 h.1
   | cons y pre => simp at e;exact sinkB_spec l h.2 pre i post e.2
theorem chainB_spec {ops : Array Oper} : ∀ (l : List Nat),chainB ops l = true → ∀ pre t t' post,l = pre ++ t :: t' :: post → waits ops t' t = true
 | [],_,pre,t,t',post,e => by simp at e
 | [x],_,pre,t,t',post,e => by
   have:=congrArg List.length e;simp at this;omega
 | x :: y :: l,h,pre,t,t',post,e => by
   simp only [chainB,Bool.and_eq_true] at h
   cases pre with
   | nil => simp at e;obtain ⟨rfl,rfl,rfl⟩:=e;exact h.1
   | cons z pre => simp at e;exact chainB_spec (y :: l) h.2 pre t t' post e.2
def takeB (ops : Array Oper) : List Nat → Array Bool → Bool
 | [],_ => true
 | i :: l,listed => (Region.ready .any ops listed).contains i && Region.free .any ops listed i && takeB ops l (listed.setIfInBounds i true)
def setAll (listed : Array Bool) (l : List Nat) : Array Bool:=l.foldl (fun x i => x.setIfInBounds i true) listed
def plainB (o : Oper) : Bool :=
 match o.op with
 | .move _ | .assign _ | .load .. | .fieldAddr .. | .indexAddr .. | .index .. | .binOp .. | .unOp .. | .convert .. | .slice .. | .field .. | .extract .. | .build .. => true
 | .pick .. | .makeInterface .. | .nilCheck .. | .typeAssert .. => true
 | .call { callee:=.builtin .len,.. } | .call { callee:=.builtin .cap,.. } | .call { callee:=.builtin .min,.. } | .call { callee:=.builtin .max,.. } => true
 | _ => false
theorem nilCheck_run {P : Program} {C : World → Prop} {w : World} {v : Value} {o : Oper} {a : Act} {x : Operand} (ho : o.op = .nilCheck x) (h : Oper.quietUpon P C w v ((execOp a.eval o).run P w)) : (execOp a.eval o).run P w = .ok (.value v) w:=by
 unfold execOp at h ⊢
 simp only [ho] at h ⊢
 generalize a.eval x = y at h ⊢
 split at h
 ·simp [runtimePanic,Oper.quietUpon] at h
 ·simp [runtimePanic,Oper.quietUpon] at h
 ·simp [runtimePanic,Oper.quietUpon] at h
 ·split at h
  ·simp [runtimePanic,Oper.quietUpon] at h
  ·rename_i t w0 hq
   simp only [Sem.run_bind] at h ⊢
   cases hx : (program).run P w with
   | halt e w' => rw [hx] at h;simp [Result.andThen,Oper.quietUpon] at h
   | ok p w' =>
     rw [hx] at h
     simp only [Result.andThen_ok] at h ⊢
     cases hy : (nilAhead (p.types.size + Made.depth) t w0 _).run P w' with
     | halt e w'' => rw [hy] at h;simp [Result.andThen,Oper.quietUpon] at h
     | ok b w'' =>
       rw [hy] at h
       simp only [Result.andThen_ok] at h ⊢
       split at h
       ·simp [unsupported,Oper.quietUpon,Result.andThen] at h
       ·rename_i hb
        rw [if_neg hb]
        simp only [Sem.run_pure,Oper.quietUpon] at h ⊢
        rw [h.1,h.2]
  ·simp only [Sem.run_pure,Oper.quietUpon] at h ⊢
   rw [h.2]
 ·simp only [Sem.run_pure,Oper.quietUpon] at h ⊢
  rw [h.2]
theorem plain_run {P : Program} {o : Oper} {a : Act} {C : World → Prop} {w : World} {v : Value} (hp : plainB o = true) (h : o.quietAt P a C w v) : (execOp a.eval o).run P w = .ok (.value v) w:=by
 have fin : ∀ (r : Sem Value),Oper.quietUpon P C w v ((do pure (Next.value (← r)) : Sem Next).run P w) → (do pure (Next.value (← r)) : Sem Next).run P w = .ok (.value v) w:=by
  intro r hr
  rw [Sem.run_bind] at hr ⊢
  cases hx : r.run P w with
  | ok u w' =>
    rw [hx] at hr
    simp only [Result.andThen_ok,Sem.run_pure,Oper.quietUpon] at hr ⊢
    rw [hr.1,hr.2]
  | halt x w' => rw [hx] at hr;simp [Result.andThen,Oper.quietUpon] at hr
 have fin2 : ∀ (r : Sem Bool) (g : Bool → Value),Oper.quietUpon P C w v ((do let b ← r;pure (Next.value (g b)) : Sem Next).run P w) → (do let b ← r;pure (Next.value (g b)) : Sem Next).run P w = .ok (.value v) w:=by
  intro r g hr
  rw [Sem.run_bind] at hr ⊢
  cases hx : r.run P w with
  | ok u w' =>
    rw [hx] at hr
    simp only [Result.andThen_ok,Sem.run_pure,Oper.quietUpon] at hr ⊢
    rw [hr.1,hr.2]
  | halt x w' => rw [hx] at hr;simp [Result.andThen,Oper.quietUpon] at hr
 unfold Oper.quietAt at h
 unfold plainB at hp
 by_cases hnc : ∃ x,o.op = .nilCheck x
 ·obtain ⟨x,hx⟩:=hnc;exact nilCheck_run hx h
 unfold execOp at h ⊢
 split at hp <;> rename_i ho <;> (try cases hp) <;> simp only [ho] at h ⊢ <;> first
  | exact (hnc ⟨_,ho⟩).elim
  | exact fin _ h
  | exact fin2 _ (fun b => if b = true then _ else _) h
  | (simp only [resolve,invoke,builtin,Sem.run_bind,Sem.run_pure,Result.andThen_ok] at h ⊢;simp only [← Sem.run_pure,← Sem.run_bind] at h ⊢;exact fin _ h)
  | (simp only [resolve,invoke,builtin,Sem.run_bind,Sem.run_pure,Result.andThen_ok] at h ⊢
     have h2:=fin _ (by rw [Sem.run_bind];exact h)
     rw [Sem.run_bind] at h2
     exact h2)
  | (simp only [Sem.run_pure,Oper.quietUpon] at h ⊢;rw [h.2])
def depsOf (ops : Array Oper) (k : Nat) : List Nat :=
 match ops[k]? with
 | some o => (o.after.toList.filter fun e => Region.binds .any e).map (·.on)
 | none => []
def downB (ops : Array Oper) : Nat → List Nat → List Nat
 | 0,S => S
 | k + 1,S => downB ops k (if S.contains k then depsOf ops k ++ S else S)
def reachB (ops : Array Oper) (j i : Nat) : Bool:=(downB ops ops.size (depsOf ops j)).contains i
theorem depsOf_waits {ops : Array Oper} {k i : Nat} (h : i ∈ depsOf ops k) : waits ops k i = true:=by
 unfold depsOf at h
 split at h
 ·rename_i o ho
  obtain ⟨e,he,rfl⟩:=List.mem_map.1 h
  obtain ⟨h1,h2⟩:=List.mem_filter.1 he
  exact waits_mk ho (Array.mem_toList_iff.1 h1) h2 rfl
 ·cases h
def Closed (ops : Array Oper) (listed : Array Bool) : Prop:=∀ j k,listed.getD j false = true → waits ops j k = true → listed.getD k false = true
theorem ready_waits {ops : Array Oper} {listed : Array Bool} {j k : Nat} (hj : j ∈ Region.ready .any ops listed) (hk : waits ops j k = true) : listed.getD k false = true:=by
 obtain ⟨_,o,ho,hall⟩:=mem_ready.1 hj
 obtain ⟨o',ho',e,he,hb,hon⟩:=waits_spec hk
 have : o' = o:=Option.some.inj (ho'.symm.trans ho)
 subst this
 exact hon ▸ hall e he hb
theorem down_listed {ops : Array Oper} {listed : Array Bool} (hc : Closed ops listed) : ∀ (k : Nat) (S : List Nat),(∀ s ∈ S,listed.getD s false = true) → ∀ s ∈ downB ops k S,listed.getD s false = true
 | 0,S,h => h
 | k + 1,S,h => by
   refine down_listed hc k _ ?_
   split
   ·rename_i hk
    have hk' : k ∈ S:=by simpa using hk
    intro s hs
    rcases List.mem_append.1 hs with h1 | h1
    ·exact hc k s (h k hk') (depsOf_waits h1)
    ·exact h s h1
   ·exact h
theorem reach_listed {ops : Array Oper} {listed : Array Bool} (hc : Closed ops listed) (j i : Nat) (hj : ∀ k,waits ops j k = true → listed.getD k false = true) (h : reachB ops j i = true) : listed.getD i false = true :=
 down_listed hc _ _ (fun s hs => hj s (depsOf_waits hs)) i (by simpa [reachB] using h)
theorem Closed.set_ {ops : Array Oper} {listed : Array Bool} (hc : Closed ops listed) {i : Nat} (hi : i ∈ Region.ready .any ops listed) : Closed ops (listed.setIfInBounds i true):=by
 intro j k hj hk
 by_cases hij : i = j
 ·subst hij;exact getD_set_true (ready_waits hi hk)
 ·rw [getD_set_ne false hij] at hj;exact getD_set_true (hc j k hj hk)
def htfB (ops : Array Oper) (fl hd al tl : List Nat) : Bool :=
 Region.noSelect ops && takeB ops fl (Array.replicate ops.size false) && (fl ++ hd ++ (al ++ tl)).all (· < ops.size) && decide ((fl ++ hd ++ (al ++ tl)).length = ops.size) && decide ((fl ++ hd ++ (al ++ tl)).Nodup) &&
  (List.range ops.size).all (fun i => (fl ++ hd ++ (al ++ tl)).contains i) && edgeB ops fl (hd ++ (al ++ tl)) && partsB ops hd && sinkB ops (al ++ tl).head?.toList hd && chainB ops (al ++ tl) &&
  (fl.all fun i => (tl.all fun j => reachB ops j i) && match ops[i]? with | some o => plainB o | none => false)
theorem setAll_get : ∀ (l : List Nat) (listed : Array Bool) (i : Nat) (d : Bool),(∀ j ∈ l,j < listed.size) → (setAll listed l).getD i d = if i ∈ l then true else listed.getD i d
 | [],_,_,_,_ => by simp [setAll]
 | x :: l,listed,i,d,h => by
   have ih:=setAll_get l (listed.setIfInBounds x true) i d (fun j hj => by simpa using h j (by simp [hj]))
   have e : setAll listed (x :: l) = setAll (listed.setIfInBounds x true) l:=rfl
   rw [e,ih]
   by_cases h1 : i ∈ l
   ·simp [h1]
   ·rw [if_neg h1]
    by_cases h2 : i = x
    ·subst h2;simp [h i (by simp)]
    ·rw [getD_set_ne d (Ne.symm h2),if_neg (by simp [h1,h2])]
theorem HT.off {ops : Array Oper} {fl hd al tl : List Nat} (h : htfB ops fl hd al tl = true) : Region.noSelect ops = true∧takeB ops fl (Array.replicate ops.size false) = true∧(fl ++ hd ++ (al ++ tl)).length = ops.size∧HT ops (setAll (Array.replicate ops.size false) fl) hd (al ++ tl)∧(∀ i ∈ fl,i < ops.size)∧(∀ i ∈ hd,i ∉ tl)∧(∀ i ∈ fl,∀ j ∈ tl,reachB ops j i = true)∧(∀ i ∈ fl,∀ o,ops[i]? = some o → plainB o = true):=by
 simp only [htfB,Bool.and_eq_true,decide_eq_true_eq] at h
 obtain ⟨⟨⟨⟨⟨⟨⟨⟨⟨⟨h0,h9⟩,h1⟩,h2⟩,h3⟩,h8⟩,h4⟩,h5⟩,h6⟩,h7⟩,h11⟩:=h
 have h1' : ∀ i ∈ fl ++ hd ++ (al ++ tl),i < ops.size:=fun i hi => by simpa using List.all_eq_true.1 h1 i hi
 have hfl : ∀ j ∈ fl,j < (Array.replicate ops.size false).size:=fun j hj => by simpa using h1' j (by simp [hj])
 rw [List.append_assoc,List.nodup_append] at h3
 obtain ⟨n1,n2,n3⟩:=h3
 refine ⟨h0,h9,h2,⟨fun i => ?_,fun i hi => h1' i (by rw [List.append_assoc];exact List.mem_append_right _ hi),n2,fun pre i post e k hk => ?_,partsB_spec hd h5,sinkB_spec hd h6,chainB_spec (al ++ tl) h7⟩,fun i hi => h1' i (by simp [hi]),fun i hi ht => ?_,fun i hi j hj => ?_,fun i hi o ho => ?_⟩
 ·rw [setAll_get fl _ i true hfl]
  constructor
  ·intro hi
   by_cases hf : i ∈ fl
   ·simp [hf] at hi
   ·rw [if_neg hf] at hi
    have hlt : i < ops.size:=by
     rcases Nat.lt_or_ge i ops.size with h | h
     ·exact h
     ·rw [Array.getD_eq_getD_getElem?,Array.getElem?_eq_none (show (Array.replicate ops.size false).size ≤ i by simpa using h)] at hi
      cases hi
    have:=List.all_eq_true.1 h8 i (List.mem_range.2 hlt)
    have h10 : i ∈ fl ++ (hd ++ (al ++ tl)):=by simpa using this
    exact (List.mem_append.1 h10).resolve_left hf
  ·intro hi
   have hf : i ∉ fl:=fun hf => n3 i hf i hi rfl
   rw [if_neg hf]
   have:=h1' i (by rw [List.append_assoc];exact List.mem_append_right _ hi)
   simp [this]
 ·rcases edgeB_spec _ _ h4 pre i post e k hk with h | h
  ·exact .inr h
  ·left;rw [setAll_get fl _ k false hfl,if_pos h]
 ·rw [List.nodup_append] at n2
  exact n2.2.2 i hi i (List.mem_append_right _ ht) rfl
 ·have:=List.all_eq_true.1 h11 i hi
  simp only [Bool.and_eq_true] at this
  exact List.all_eq_true.1 this.1 j hj
 ·have:=List.all_eq_true.1 h11 i hi
  simp only [Bool.and_eq_true,ho] at this
  exact this.2
def nth (l : List Oper) (i : Nat) : Oper:=(l[i]?).getD default
def pick (l : List Oper) (is : List Nat) : List Oper:=is.map (nth l)
theorem pick_nil (l : List Oper) : pick l [] = []:=rfl
theorem pick_cons (l : List Oper) (i : Nat) (is : List Nat) : pick l (i :: is) = nth l i :: pick l is:=rfl
theorem nth_zero (o : Oper) (l : List Oper) : nth (o :: l) 0 = o:=rfl
theorem nth_succ (o : Oper) (l : List Oper) (n : Nat) : nth (o :: l) (n + 1) = nth l n:=rfl
theorem filter_get {l : List Oper} (m : List Nat) (hm : ∀ i ∈ m,i < l.length) : (pick l m).length = m.length∧∀ (k : Nat),(pick l m)[k]? = (m[k]?).bind (fun (i : Nat) => l.toArray[i]?):=by
 refine ⟨by simp [pick],fun k => ?_⟩
 unfold pick
 rw [List.getElem?_map]
 cases hk : m[k]? with
 | none => rfl
 | some i =>
   have hi:=hm i (List.mem_of_getElem? hk)
   simp [nth,hi]
theorem closed_none (ops : Array Oper) (n : Nat) : Closed ops (Array.replicate n false):=by
 intro j k hj
 rcases Nat.lt_or_ge j n with h | h
 ·simp [h] at hj
 ·rw [Array.getD_eq_getD_getElem?,Array.getElem?_eq_none (by simpa using h)] at hj;cases hj
theorem keep_new (w : World) (o : Obj) : Keep w (w.alloc o):=(Below.refl _ _).alloc (Nat.le_refl _) o
theorem grown_frozen {w w1 w' : World} {row : Option Nat} (hg : w1.grownBy w' row) {b o : Nat} {v : Value} (h : w.cell? ⟨b,o,none⟩ = some v) (hk : Keep w w1) (hf : w.frozen? ⟨b,o,none⟩ = false) (hne : row ≠ some b) : w'.frozen? ⟨b,o,none⟩ = false :=
 (hg.frozen_far _ (Nat.lt_of_lt_of_le (cell_lt h) hk.size) (Ne.symm hne)).trans (keep_frozen hk (cell_lt h) hf)
end Go.Proofs.YtmbbknjddebhoaaGreatDoor
/- A region that draws its order, walked as a row of moves: 'taken first' (it answers the same in every later world) or 'forced' (it alone may come up). One walk serves every order. -/
set_option linter.unusedSimpArgs false
set_option linter.unusedVariables false
namespace Go.Proofs.YtmbbknjddebhoaaGreatDoor
open Go.RowKit
section
variable {P : Program} {ops : Array Oper} {Q : Exit → Act → World → Prop} {tl : List Nat}
def wpAnyK (P : Program) (ops : Array Oper) (Q : Exit → Act → World → Prop) (tl : List Nat) : Nat → Array Bool → Act → World → Prop
 | 0,listed,a,w => Region.ready .any ops listed = []∧Q .normal a w
 | n + 1,listed,a,w => (Region.ready .any ops listed = [] → Q .normal a w) ∧
   ∀ i ∈ Region.ready .any ops listed,wpOp P ops Q i (fun a' w' => (i ∉ tl → Keep w w')∧wpAnyK P ops Q tl n (listed.setIfInBounds i true) a' w') a w
theorem wpAny_of_K : ∀ (n : Nat) (listed : Array Bool) (a : Act) (w : World),wpAnyK P ops Q tl n listed a w → wpAny P .any ops Q n listed a w
 | 0,_,_,_,h => h
 | n + 1,_,_,_,h => ⟨h.1,fun i hi => wpOp_mono (fun a' w' h' => wpAny_of_K n _ a' w' h'.2) (h.2 i hi)⟩
theorem wpAnyK_first (hs : Region.noSelect ops = true) {i : Nat} {oi : Oper} {v : Value} (hi : ops[i]? = some oi) (hQ : ∀ c a w,Q (.panic c) (a.put oi.dst v) w → Q (.panic c) a w)
  {S : World → Prop} (hk : ∀ w w',S w → Keep w w' → S w') (hr : (∀ j ∈ tl,reachB ops j i = true) ∨ ∀ w,S w) : ∀ (fuel : Nat) (listed : Array Bool) (a : Act) (w : World),Closed ops listed →
   (∀ j oj,ops[j]? = some oj → j ≠ i → listed.getD j true = false → (∀ e ∈ oj.after,Region.binds .any e = true → e.on ≠ i) → oi.apart ops oj = true) →
   i ∈ Region.ready .any ops listed → YieldsIf P ops S oi v a → S w →
   wpAnyK P ops Q tl fuel (listed.setIfInBounds i true) (a.put oi.dst v) w → wpAnyK P ops Q tl (fuel + 1) listed a w:=by
 intro fuel
 have hsel:=fun j o cs b (h : ops[j]? = some o) => Region.noSelect_spec hs j o cs b h
 induction fuel with
 | zero =>
   intro listed a w _ _ hri hy hS H
   refine ⟨fun h => absurd hri (by rw [h];simp),fun j hj => ?_⟩
   by_cases hji : j = i
   ·subst hji;exact hy.wpOp hi hS ⟨fun _ => Below.refl _ _,H⟩
   ·have:=ready_mono hj hji
    rw [H.1] at this
    cases this
 | succ fuel ih =>
   intro listed a w hc hfree hri hy hS H
   refine ⟨fun h => absurd hri (by rw [h];simp),fun j hj => ?_⟩
   by_cases hji : j = i
   ·subst hji;exact hy.wpOp hi hS ⟨fun _ => Below.refl _ _,H⟩
   ·have h1:=H.2 j (ready_mono hj hji)
    obtain ⟨hjun,oj,hoj,hall⟩:=mem_ready.1 hj
    have hiun:=(mem_ready.1 hri).1
    have hnot : ∀ e ∈ oj.after,Region.binds .any e = true → e.on ≠ i:=fun e he hb heq => by
     have h1:=hall e he hb
     rw [heq,getD_tf hiun] at h1
     cases h1
    have hjt : j ∉ tl ∨ ∀ w,S w:=hr.imp (fun hr hjt => by
     have:=reach_listed hc j i (fun k hk => ready_waits hj hk) (hr j hjt)
     rw [getD_tf hiun] at this
     cases this) id
    have h2:=wpOp_putIf hoj (hfree j oj hoj hji hjun hnot) (fun cs b => hsel i oi cs b hi) (fun cs b => hsel j oj cs b hoj) hQ hy h1
    have hfree' : ∀ k ok,ops[k]? = some ok → k ≠ i → (listed.setIfInBounds j true).getD k true = false →
      (∀ e ∈ ok.after,Region.binds .any e = true → e.on ≠ i) → oi.apart ops ok = true:=fun k ok hk hki hun hno => by
     refine hfree k ok hk hki ?_ hno
     by_cases hjk : j = k
     ·subst hjk;exact hjun
     ·rw [getD_set_ne true hjk] at hun;exact hun
    refine wpOp_mono (fun a' w' h3 => ⟨fun hn => h3.2.1 hn,ih (listed.setIfInBounds j true) a' w' (hc.set_ hj) hfree' (ready_mono hri (Ne.symm hji)) h3.1 (hjt.elim (fun hn => hk _ _ hS (h3.2.1 hn)) (fun h => h _)) ?_⟩) h2
    rw [Array.setIfInBounds_comm _ _ hji]
    exact h3.2.2
def freeB (o : Oper) : Bool :=
 match o.op with
 | .move _ | .assign _ | .extract .. => true
 | _ => false
theorem free_run {P : Program} {o : Oper} {a : Act} {w : World} {v : Value} (hf : freeB o = true) (h : (execOp a.eval o).run P w = .ok (.value v) w) (w' : World) : (execOp a.eval o).run P w' = .ok (.value v) w':=by
 unfold freeB at hf
 unfold execOp at h ⊢
 split at hf <;> rename_i ho <;> (try cases hf) <;> simp only [ho] at h ⊢
 ·simp only [Sem.run_pure] at h ⊢
  injection h with h1
  rw [h1]
 ·simp only [Sem.run_pure] at h ⊢
  injection h with h1
  rw [h1]
 ·rename_i t ix
  unfold Instr.extract at h ⊢
  cases ht : a.eval t with
  | tuple vs =>
    rw [ht] at h
    simp only at h ⊢
    cases hv : vs[ix]? with
    | some u =>
      rw [hv] at h
      simp only [Sem.run_bind,Sem.run_pure,Result.andThen_ok] at h ⊢
      injection h with h1
      rw [h1]
    | none => rw [hv] at h;simp [Sem.run_bind,stuck,Result.andThen] at h
  | _ => rw [ht] at h;simp [Sem.run_bind,stuck,Result.andThen] at h
def takesB (ops : Array Oper) (tl : List Nat) : List Nat → Array Bool → Bool
 | [],_ => true
 | i :: l,listed => (Region.ready .any ops listed).contains i && Region.free .any ops listed i && (match ops[i]? with | some o => plainB o | none => false) && ((match ops[i]? with | some o => freeB o | none => false) || tl.all fun j => reachB ops j i) && takesB ops tl l (listed.setIfInBounds i true)
def forceB (ops : Array Oper) : List Nat → Array Bool → Bool
 | [],_ => true
 | i :: l,listed => decide (Region.ready .any ops listed = [i]) && forceB ops l (listed.setIfInBounds i true)
def wpForce (P : Program) (ops : Array Oper) (Q : Exit → Act → World → Prop) (N : Act → World → Prop) : List Oper → Act → World → Prop
 | [],a,w => N a w
 | o :: l,a,w => if Region.wanted o (yielded ops a.tmps) then (∀ K : Act → World → Prop,(∀ a' w',Keep w w' → wpForce P ops Q N l a' w' → K a' w') → o.wp P a w K Q) else wpForce P ops Q N l (a.put o.dst undef) w
theorem wpAnyK_tail (t0 : List Nat) : ∀ (t : List Nat) (T : List Oper) (listed : Array Bool) (a : Act) (w : World),(∀ i ∈ t,i ∈ t0) → forceB ops t listed = true → Region.ready .any ops (setAll listed t) = [] →
  (∀ (k : Nat),T[k]? = (t[k]?).bind (fun (i : Nat) => ops[i]?)) → wpList P ops Q T a w → wpAnyK P ops Q t0 t.length listed a w
 | [],T,listed,a,w,_,_,he,hT,hw => by
   have : T = []:=by cases T with
    | nil => rfl
    | cons x T => have:=hT 0;simp at this
   subst this
   exact ⟨he,hw⟩
 | t :: l,T,listed,a,w,h0,hB,he,hT,hw => by
   simp only [forceB,Bool.and_eq_true,decide_eq_true_eq] at hB
   refine ⟨fun h0 => (by rw [hB.1] at h0;cases h0),fun i hi => ?_⟩
   rw [hB.1] at hi
   obtain rfl : i = t:=by simpa using hi
   have hlt : i < ops.size:=by
    have hr : i ∈ Region.ready .any ops listed:=by rw [hB.1];simp
    obtain ⟨o,ho,_⟩:=(mem_ready.1 hr).2
    exact (Array.getElem?_eq_some_iff.1 ho).1
   cases T with
   | nil => have:=hT 0;simp [hlt] at this
   | cons o T =>
     have ho : ops[i]? = some o:=by have:=hT 0;simpa using this.symm
     have hw' : wpOp P ops Q i (wpList P ops Q T) a w:=by unfold wpOp;simp only [ho];exact hw
     exact wpOp_mono (fun a' w' h' => ⟨fun hn => absurd (h0 i (by simp)) hn,wpAnyK_tail t0 l T _ a' w' (fun j hj => h0 j (by simp [hj])) hB.2 he (fun k => by have:=hT (k + 1);simpa using this) h'⟩) hw'
theorem wpAnyK_force (g : Nat) {N : Act → World → Prop} : ∀ (l : List Nat) (L : List Oper) (listed : Array Bool) (a : Act) (w : World),Closed ops listed → forceB ops l listed = true →
  (∀ (k : Nat),L[k]? = (l[k]?).bind (fun (i : Nat) => ops[i]?)) → (∀ a w,Closed ops (setAll listed l) → N a w → wpAnyK P ops Q tl g (setAll listed l) a w) → wpForce P ops Q N L a w → wpAnyK P ops Q tl (g + l.length) listed a w
 | [],L,listed,a,w,hc,_,hL,hN,h => by
   have : L = []:=by cases L with
    | nil => rfl
    | cons x T => have:=hL 0;simp at this
   subst this
   exact hN a w hc h
 | t :: l,L,listed,a,w,hc,hB,hL,hN,h => by
   simp only [forceB,Bool.and_eq_true,decide_eq_true_eq] at hB
   refine ⟨fun h0 => (by rw [hB.1] at h0;cases h0),fun i hi => ?_⟩
   have hi':=hi
   rw [hB.1] at hi
   obtain rfl : i = t:=by simpa using hi
   have hlt : i < ops.size:=by
    obtain ⟨o,ho,_⟩:=(mem_ready.1 hi').2
    exact (Array.getElem?_eq_some_iff.1 ho).1
   cases L with
   | nil => have:=hL 0;simp [hlt] at this
   | cons o L =>
     have ho : ops[i]? = some o:=by have:=hL 0;simpa using this.symm
     have go:=fun (a' : Act) (w' : World) (h' : wpForce P ops Q N L a' w') => wpAnyK_force g l L (listed.setIfInBounds i true) a' w' (hc.set_ hi') hB.2 (fun k => by have:=hL (k + 1);simpa using this) hN h'
     unfold wpOp
     simp only [ho]
     unfold wpForce at h
     split at h
     ·rename_i hwt
      rw [if_pos hwt]
      exact .inl (h _ fun a' w' hk h' => ⟨fun _ => hk,go a' w' h'⟩)
     ·rename_i hwt
      rw [if_neg hwt]
      exact ⟨fun _ => Below.refl _ _,go _ _ h⟩
theorem wpAnyK_takes (hs : Region.noSelect ops = true) (hQ : ∀ c a x v w,Q (.panic c) (a.put x v) w → Q (.panic c) a w) (g : Nat) (w w0 : World) (hw : Keep w0 w) : ∀ (l : List Nat) (L : List Oper) (listed : Array Bool) (a : Act),Closed ops listed → takesB ops tl l listed = true →
  (∀ (k : Nat),L[k]? = (l[k]?).bind (fun (i : Nat) => ops[i]?)) → wpQuiet P ops (fun w' => ∃ x,w' = aft w0 x) (fun a' => Closed ops (setAll listed l) → wpAnyK P ops Q tl g (setAll listed l) a' w) L a → wpAnyK P ops Q tl (g + l.length) listed a w
 | [],L,listed,a,hc,_,hL,h => by
   have : L = []:=by cases L with
    | nil => rfl
    | cons x T => have:=hL 0;simp at this
   subst this
   exact h hc
 | i :: l,L,listed,a,hc,hB,hL,h => by
   simp only [takesB,Bool.and_eq_true] at hB
   obtain ⟨⟨⟨⟨hr,hf⟩,hpl⟩,hre⟩,hB⟩:=hB
   have hr' : i ∈ Region.ready .any ops listed:=by simpa using hr
   have hi : i < ops.size:=by
    obtain ⟨o,ho,_⟩:=(mem_ready.1 hr').2
    exact (Array.getElem?_eq_some_iff.1 ho).1
   cases L with
   | nil => have:=hL 0;simp [hi] at this
   | cons o L =>
     have ho : ops[i]? = some o:=by have:=hL 0;simpa using this.symm
     rw [ho] at hpl
     have h1 : qOp P ops (fun w' => ∃ x,w' = aft w0 x) i (wpQuiet P ops (fun w' => ∃ x,w' = aft w0 x) (fun a' => Closed ops (setAll listed (i :: l)) → wpAnyK P ops Q tl g (setAll listed (i :: l)) a' w) L) a:=by unfold qOp;simp only [ho];exact h
     obtain ⟨v,hy,h⟩:=yieldsIn_of_qOp ho h1
     have hy' : YieldsIf P ops (fun w' => Keep w0 w') o v a:=by
      rcases hy with ⟨h2,h3⟩ | h2
      ·exact .inl ⟨h2,fun w hw => plain_run hpl (h3 w ⟨_,aft_of hw⟩)⟩
      ·exact .inr h2
     have:=wpAnyK_takes hs hQ g w w0 hw l L (listed.setIfInBounds i true) (a.put o.dst v) (hc.set_ hr') hB (fun k => by have:=hL (k + 1);simpa using this) h
     rw [ho,Bool.or_eq_true] at hre
     rcases hre with hre | hre
     ·have hy2 : YieldsIf P ops (fun _ => True) o v a:=by
       rcases hy' with ⟨h2,h3⟩ | h2
       ·exact .inl ⟨h2,fun w' _ => free_run hre (h3 w hw) w'⟩
       ·exact .inr h2
      exact wpAnyK_first hs ho (fun c a w => hQ c a _ _ w) (fun _ _ _ _ => trivial) (.inr fun _ => trivial) _ listed a w hc (Region.free_spec ho hf) hr' hy2 trivial this
     ·exact wpAnyK_first hs ho (fun c a w => hQ c a _ _ w) (fun _ _ h1 h2 => keep_trans h1 h2) (.inl fun j hj => List.all_eq_true.1 hre j hj) _ listed a w hc (Region.free_spec ho hf) hr' hy' hw this
def total : List (Bool × List Nat) → Nat
 | [] => 0
 | (_,l) :: r => total r + l.length
theorem quiet_mono' {C : World → Prop} {N N' : Act → Prop} (hN : ∀ a,N a → N' a) : ∀ (F : List Oper) (a : Act),wpQuiet P ops C N F a → wpQuiet P ops C N' F a
 | [],a,h => hN _ h
 | o :: F,a,h => by
   unfold wpQuiet at h ⊢
   split
   ·rename_i hw;rw [if_pos hw] at h;exact Oper.quiet_mono (fun a h => quiet_mono' hN F a h) h
   ·rename_i hw;rw [if_neg hw] at h;exact quiet_mono' hN F _ h
end
section
variable {P : Program} {ops : Array Oper} {Q : Exit → Act → World → Prop} {T l : List Oper} {r : List (Bool × List Oper)} {o : Oper} {a : Act} {w : World} {N : Act → World → Prop}
theorem fc_nil (h : N a w) : wpForce P ops Q N [] a w:=h
theorem fc_step (hw : Region.wanted o (yielded ops a.tmps) = true) (h : ∀ K : Act → World → Prop,(∀ a' w',Keep w w' → wpForce P ops Q N l a' w' → K a' w') → o.wp P a w K Q) : wpForce P ops Q N (o :: l) a w:=by
 unfold wpForce;rw [if_pos hw];exact h
theorem fc_skip (hw : Region.wanted o (yielded ops a.tmps) = false) (h : wpForce P ops Q N l (a.put o.dst undef) w) : wpForce P ops Q N (o :: l) a w:=by
 unfold wpForce;rw [if_neg (by rw [hw];exact Bool.false_ne_true)];exact h
end
inductive Mv where
 | done
 | take (l : List Nat) (r : Mv)
 | force (l : List Nat) (r : Mv)
 | fork (i : Nat) (ri : Mv) (j : Nat) (rj : Mv)
 | fork3 (i : Nat) (ri : Mv) (j : Nat) (rj : Mv) (k : Nat) (rk : Mv)
def Mv.total : Mv → Nat
 | .done => 0
 | .take l r => r.total + l.length
 | .force l r => r.total + l.length
 | .fork _ ri _ _ => ri.total + 1
 | .fork3 _ ri _ _ _ _ => ri.total + 1
def Mv.okB (ops : Array Oper) (tl : List Nat) : Mv → Array Bool → Bool
 | .done,listed => forceB ops tl listed && decide (Region.ready .any ops (setAll listed tl) = [])
 | .take l r,listed => (l.all (· < ops.size)) && takesB ops tl l listed && r.okB ops tl (setAll listed l)
 | .force l r,listed => (l.all (· < ops.size)) && forceB ops l listed && r.okB ops tl (setAll listed l)
 | .fork i ri j rj,listed => decide (i < ops.size) && decide (j < ops.size) && decide (Region.ready .any ops listed = [i,j]) && decide (ri.total = rj.total) && ri.okB ops tl (listed.setIfInBounds i true) && rj.okB ops tl (listed.setIfInBounds j true)
 | .fork3 i ri j rj k rk,listed => decide (i < ops.size) && decide (j < ops.size) && decide (k < ops.size) && decide (Region.ready .any ops listed = [i,j,k]) && decide (ri.total = rj.total) && decide (ri.total = rk.total) && ri.okB ops tl (listed.setIfInBounds i true) && rj.okB ops tl (listed.setIfInBounds j true) && rk.okB ops tl (listed.setIfInBounds k true)
def Mv.wp (P : Program) (l0 : List Oper) (Q : Exit → Act → World → Prop) (T : List Oper) : Mv → Act → World → Prop
 | .done,a,w => wpList P l0.toArray Q T a w
 | .take l r,a,w => ∃ w0,Keep w0 w∧wpQuiet P l0.toArray (fun w' => ∃ x,w' = aft w0 x) (fun a' => r.wp P l0 Q T a' w) (pick l0 l) a
 | .force l r,a,w => wpForce P l0.toArray Q (r.wp P l0 Q T) (pick l0 l) a w
 | .fork i ri j rj,a,w => wpForce P l0.toArray Q (ri.wp P l0 Q T) [nth l0 i] a w∧wpForce P l0.toArray Q (rj.wp P l0 Q T) [nth l0 j] a w
 | .fork3 i ri j rj k rk,a,w => wpForce P l0.toArray Q (ri.wp P l0 Q T) [nth l0 i] a w∧wpForce P l0.toArray Q (rj.wp P l0 Q T) [nth l0 j] a w∧wpForce P l0.toArray Q (rk.wp P l0 Q T) [nth l0 k] a w
section
variable {P : Program} {Q : Exit → Act → World → Prop} {tl : List Nat} {l0 : List Oper}
theorem one_force {ops : Array Oper} {N : Act → World → Prop} {i : Nat} {o : Oper} (ho : ops[i]? = some o) {listed : Array Bool} {a : Act} {w : World} {g : Nat} (hN : ∀ a w,N a w → wpAnyK P ops Q tl g (listed.setIfInBounds i true) a w)
  (h : wpForce P ops Q N [o] a w) : wpOp P ops Q i (fun a' w' => (i ∉ tl → Keep w w')∧wpAnyK P ops Q tl g (listed.setIfInBounds i true) a' w') a w:=by
 unfold wpOp
 simp only [ho]
 unfold wpForce at h
 split at h
 ·rename_i hwt
  rw [if_pos hwt]
  exact .inl (h _ fun a' w' hk h' => ⟨fun _ => hk,hN _ _ h'⟩)
 ·rename_i hwt
  rw [if_neg hwt]
  exact ⟨fun _ => Below.refl _ _,hN _ _ h⟩
theorem Mv.sound (hs : Region.noSelect l0.toArray = true) (hQ : ∀ c a x v w,Q (.panic c) (a.put x v) w → Q (.panic c) a w) (htl : ∀ i ∈ tl,i < l0.length) : ∀ (mv : Mv) (listed : Array Bool) (a : Act) (w : World),Closed l0.toArray listed → mv.okB l0.toArray tl listed = true →
  mv.wp P l0 Q (pick l0 tl) a w → wpAnyK P l0.toArray Q tl (mv.total + tl.length) listed a w
 | .done,listed,a,w,hc,hB,h => by
   simp only [Mv.okB,Bool.and_eq_true,decide_eq_true_eq] at hB
   rw [Mv.total,Nat.zero_add]
   exact wpAnyK_tail tl tl (pick l0 tl) listed a w (fun _ h => h) hB.1 hB.2 (filter_get tl htl).2 h
 | .take l r,listed,a,w,hc,hB,h => by
   simp only [Mv.okB,Bool.and_eq_true] at hB
   obtain ⟨⟨hin,htk⟩,hB⟩:=hB
   obtain ⟨w0,hw0,hq⟩:=h
   have hl : ∀ i ∈ l,i < l0.length:=fun i hi => by simpa using List.all_eq_true.1 hin i hi
   rw [show (Mv.take l r).total + tl.length = (r.total + tl.length) + l.length by show r.total + l.length + tl.length = _;omega]
   exact wpAnyK_takes hs hQ _ w w0 hw0 l (pick l0 l) listed a hc htk (filter_get l hl).2 (quiet_mono' (fun a' h' hc' => Mv.sound hs hQ htl r _ a' w hc' hB h') _ _ hq)
 | .force l r,listed,a,w,hc,hB,h => by
   simp only [Mv.okB,Bool.and_eq_true] at hB
   obtain ⟨⟨hin,hfo⟩,hB⟩:=hB
   have hl : ∀ i ∈ l,i < l0.length:=fun i hi => by simpa using List.all_eq_true.1 hin i hi
   rw [show (Mv.force l r).total + tl.length = (r.total + tl.length) + l.length by show r.total + l.length + tl.length = _;omega]
   exact wpAnyK_force _ l (pick l0 l) listed a w hc hfo (filter_get l hl).2 (fun a' w' hc' h' => Mv.sound hs hQ htl r _ a' w' hc' hB h') h
 | .fork i ri j rj,listed,a,w,hc,hB,h => by
   simp only [Mv.okB,Bool.and_eq_true,decide_eq_true_eq] at hB
   obtain ⟨⟨⟨⟨⟨hi,hj⟩,hr⟩,ht⟩,hBi⟩,hBj⟩:=hB
   obtain ⟨h1,h2⟩:=h
   have hoi : l0.toArray[i]? = some (nth l0 i):=by simp at hi ⊢;simp [nth,hi]
   have hoj : l0.toArray[j]? = some (nth l0 j):=by simp at hj ⊢;simp [nth,hj]
   have hri : i ∈ Region.ready .any l0.toArray listed:=by rw [hr];simp
   have hrj : j ∈ Region.ready .any l0.toArray listed:=by rw [hr];simp
   rw [show (Mv.fork i ri j rj).total + tl.length = (ri.total + tl.length) + 1 by show ri.total + 1 + tl.length = _;omega]
   refine ⟨fun h0 => (by rw [hr] at h0;cases h0),fun k hk => ?_⟩
   rw [hr] at hk
   have hk' : k = i ∨ k = j:=by simpa using hk
   by_cases hki : k = i
   ·subst hki
    exact one_force hoi (fun a' w' h' => Mv.sound hs hQ htl ri _ a' w' (hc.set_ hri) hBi h') h1
   ·obtain rfl : k = j:=hk'.resolve_left hki
    rw [ht]
    exact one_force hoj (fun a' w' h' => Mv.sound hs hQ htl rj _ a' w' (hc.set_ hrj) hBj h') h2
 | .fork3 i ri j rj k rk,listed,a,w,hc,hB,h => by
   simp only [Mv.okB,Bool.and_eq_true,decide_eq_true_eq] at hB
   obtain ⟨⟨⟨⟨⟨⟨⟨⟨hi,hj⟩,hk⟩,hr⟩,ht⟩,ht2⟩,hBi⟩,hBj⟩,hBk⟩:=hB
   obtain ⟨h1,h2,h3⟩:=h
   have hoi : l0.toArray[i]? = some (nth l0 i):=by simp at hi ⊢;simp [nth,hi]
   have hoj : l0.toArray[j]? = some (nth l0 j):=by simp at hj ⊢;simp [nth,hj]
   have hok : l0.toArray[k]? = some (nth l0 k):=by simp at hk ⊢;simp [nth,hk]
   have hri : i ∈ Region.ready .any l0.toArray listed:=by rw [hr];simp
   have hrj : j ∈ Region.ready .any l0.toArray listed:=by rw [hr];simp
   have hrk : k ∈ Region.ready .any l0.toArray listed:=by rw [hr];simp
   rw [show (Mv.fork3 i ri j rj k rk).total + tl.length = (ri.total + tl.length) + 1 by show ri.total + 1 + tl.length = _;omega]
   refine ⟨fun h0 => (by rw [hr] at h0;cases h0),fun m hm => ?_⟩
   rw [hr] at hm
   have hm' : m = i ∨ m = j ∨ m = k:=by simpa using hm
   by_cases hmi : m = i
   ·subst hmi
    exact one_force hoi (fun a' w' h' => Mv.sound hs hQ htl ri _ a' w' (hc.set_ hri) hBi h') h1
   ·by_cases hmj : m = j
    ·subst hmj
     rw [ht]
     exact one_force hoj (fun a' w' h' => Mv.sound hs hQ htl rj _ a' w' (hc.set_ hrj) hBj h') h2
    ·obtain rfl : m = k:=(hm'.resolve_left hmi).resolve_left hmj
     rw [ht2]
     exact one_force hok (fun a' w' h' => Mv.sound hs hQ htl rk _ a' w' (hc.set_ hrk) hBk h') h3
end
def mtB (ops : Array Oper) (mv : Mv) (tl : List Nat) : Bool :=
 Region.noSelect ops && (tl.all (· < ops.size)) && decide (mv.total + tl.length = ops.size) && mv.okB ops tl (Array.replicate ops.size false)
theorem wp_region_tree {P : Program} {id : Nat} {Q : Exit → Act → World → Prop} {a : Act} {w : World} {l : List Oper} (mv : Mv) (tl : List Nat) (hm : P.follows .mixedOrders = true) (hB : mtB l.toArray mv tl = true)
  (h : ∀ w1,Keep w w1 → mv.wp P l (Exit.then (fun a w => Q .normal a w) (fun _ _ _ => False)) (pick l tl) a w1) : (Code.region id l.toArray true).wp P Q a w:=by
 simp only [mtB,Bool.and_eq_true,decide_eq_true_eq] at hB
 obtain ⟨⟨⟨hs,htl⟩,hlen⟩,hB⟩:=hB
 refine wp_mono (Q:=Exit.then (fun a w => Q .normal a w) (fun _ _ _ => False)) (wp_region_any hm ?_) fun e a w h => by
  cases e with
  | normal => exact h
  | _ => exact False.elim h
 have:=Mv.sound (P:=P) (Q:=Exit.then (fun a w => Q .normal a w) (fun _ _ _ => False)) hs (fun _ _ _ _ _ h => h) (fun i hi => by simpa using List.all_eq_true.1 htl i hi) mv _ a { w with drawn:=w.drawn + 1 } (closed_none _ _) hB (h _ ((Below.refl _ _).drew))
 rw [hlen] at this
 exact wpAny_of_K _ _ _ _ this
section
variable {P : Program} {l0 T : List Oper} {Q : Exit → Act → World → Prop} {a : Act} {w : World} {l : List Nat} {r ri rj rk : Mv} {i j k : Nat}
theorem mt_take (w0 : World) (hw : Keep w0 w) (h : wpQuiet P l0.toArray (fun w' => ∃ x,w' = aft w0 x) (fun a' => r.wp P l0 Q T a' w) (pick l0 l) a) : (Mv.take l r).wp P l0 Q T a w:=⟨w0,hw,h⟩
theorem mt_force (h : wpForce P l0.toArray Q (r.wp P l0 Q T) (pick l0 l) a w) : (Mv.force l r).wp P l0 Q T a w:=h
theorem mt_fork (h1 : wpForce P l0.toArray Q (ri.wp P l0 Q T) [nth l0 i] a w) (h2 : wpForce P l0.toArray Q (rj.wp P l0 Q T) [nth l0 j] a w) : (Mv.fork i ri j rj).wp P l0 Q T a w:=⟨h1,h2⟩
theorem mt_end (h : wpList P l0.toArray Q T a w) : Mv.done.wp P l0 Q T a w:=h
end
end Go.Proofs.YtmbbknjddebhoaaGreatDoor
/- Times in order: plain lists of 32-bit words. -/
namespace Go.Proofs.YtmbbknjddebhoaaGreatDoor
abbrev le32 (a b : UInt32) : Prop := a.toNat ≤ b.toNat
def lb (xs : List UInt32) (t : UInt32) : Nat := xs.countP fun x => decide (x.toNat < t.toNat)
def insAt (xs : List UInt32) (t : UInt32) : List UInt32 := xs.take (lb xs t) ++ t :: xs.drop (lb xs t)
def sortL (l : List UInt32) : List UInt32 := l.foldl insAt []
def lasT (l : List UInt32) : List UInt32 := sortL (l.drop (l.length - 11))
def medL (l : List UInt32) : UInt32 := (lasT l).getD ((lasT l).length / 2) 0
theorem lb_le (xs : List UInt32) (t : UInt32) : lb xs t ≤ xs.length := List.countP_le_length
theorem lb_cons_lt {x t : UInt32} (xs : List UInt32) (h : x.toNat < t.toNat) : lb (x :: xs) t = lb xs t + 1 := by unfold lb; rw [List.countP_cons]; simp [h]
theorem lb_zero {t : UInt32} : ∀ {xs : List UInt32}, (∀ x ∈ xs, t.toNat ≤ x.toNat) → lb xs t = 0
  | [], _ => rfl
  | x :: xs, h => by
    have h1 := h x (by simp)
    unfold lb
    rw [List.countP_cons]
    have := lb_zero (xs := xs) fun y hy => h y (by simp [hy])
    unfold lb at this
    rw [this]
    simp; omega
theorem lb_spec {t : UInt32} : ∀ {xs : List UInt32}, xs.Pairwise le32 → (∀ x ∈ xs.take (lb xs t), x.toNat < t.toNat) ∧ (∀ x ∈ xs.drop (lb xs t), t.toNat ≤ x.toNat)
  | [], _ => by simp
  | x :: xs, h => by
    rw [List.pairwise_cons] at h
    by_cases hx : x.toNat < t.toNat
    · rw [lb_cons_lt xs hx]
      obtain ⟨h1, h2⟩ := lb_spec (t := t) h.2
      refine ⟨fun y hy => ?_, fun y hy => h2 y (by simpa using hy)⟩
      rw [List.take_succ_cons, List.mem_cons] at hy
      rcases hy with rfl | hy
      · exact hx
      · exact h1 y hy
    · have h0 : lb (x :: xs) t = 0 := lb_zero fun y hy => by
        rcases List.mem_cons.1 hy with rfl | hy
        · omega
        · have := h.1 y hy; unfold le32 at this; omega
      rw [h0]
      refine ⟨by simp, fun y hy => ?_⟩
      rw [List.drop_zero] at hy
      rcases List.mem_cons.1 hy with rfl | hy
      · omega
      · have := h.1 y hy; unfold le32 at this; omega
theorem lb_get_lt {xs : List UInt32} {t : UInt32} (h : xs.Pairwise le32) {i : Nat} (hi : i < xs.length) (hl : i < lb xs t) : xs[i].toNat < t.toNat :=
  (lb_spec h).1 _ (List.mem_take_iff_getElem.2 ⟨i, by omega, rfl⟩)
theorem lb_get_ge {xs : List UInt32} {t : UInt32} (h : xs.Pairwise le32) {i : Nat} (hi : i < xs.length) (hl : lb xs t ≤ i) : t.toNat ≤ xs[i].toNat := by
  refine (lb_spec h).2 _ ?_
  rw [List.mem_drop_iff_getElem]
  exact ⟨i - lb xs t, by omega, by congr 1; omega⟩
theorem insAt_perm (xs : List UInt32) (t : UInt32) : (insAt xs t).Perm (t :: xs) := by
  unfold insAt
  have := List.perm_middle (a := t) (l₁ := xs.take (lb xs t)) (l₂ := xs.drop (lb xs t))
  rwa [List.take_append_drop] at this
theorem insAt_len (xs : List UInt32) (t : UInt32) : (insAt xs t).length = xs.length + 1 := by have := (insAt_perm xs t).length_eq; simpa using this
theorem insAt_sorted {xs : List UInt32} (t : UInt32) (h : xs.Pairwise le32) : (insAt xs t).Pairwise le32 := by
  obtain ⟨h1, h2⟩ := lb_spec (t := t) h
  unfold insAt
  rw [List.pairwise_append, List.pairwise_cons]
  refine ⟨h.sublist (List.take_sublist _ _), ⟨fun y hy => h2 y hy, h.sublist (List.drop_sublist _ _)⟩, fun a ha b hb => ?_⟩
  have ha1 := h1 a ha
  rcases List.mem_cons.1 hb with rfl | hb
  · show _ ≤ _; omega
  · have hb1 := h2 b hb
    show _ ≤ _; omega
theorem sort_go (l : List UInt32) : ∀ (acc : List UInt32), acc.Pairwise le32 → (l.foldl insAt acc).Pairwise le32 ∧ (l.foldl insAt acc).Perm (l ++ acc) := by
  induction l with
  | nil => intro acc h; exact ⟨h, List.Perm.refl _⟩
  | cons t l ih =>
    intro acc h
    obtain ⟨h1, h2⟩ := ih (insAt acc t) (insAt_sorted t h)
    refine ⟨h1, h2.trans ?_⟩
    exact ((insAt_perm acc t).append_left l).trans List.perm_middle
theorem sortL_sorted (l : List UInt32) : (sortL l).Pairwise le32 := (sort_go l [] List.Pairwise.nil).1
theorem sortL_perm (l : List UInt32) : (sortL l).Perm l := by have := (sort_go l [] List.Pairwise.nil).2; rwa [List.append_nil] at this
theorem sortL_len (l : List UInt32) : (sortL l).length = l.length := (sortL_perm l).length_eq
theorem sortL_snoc (l : List UInt32) (t : UInt32) : sortL (l ++ [t]) = insAt (sortL l) t := by unfold sortL; rw [List.foldl_append]; rfl
theorem sorted_unique {a b : List UInt32} (ha : a.Pairwise le32) (hb : b.Pairwise le32) (h : a.Perm b) : a = b :=
  List.Perm.eq_of_pairwise (le := le32) (fun x y _ _ h1 h2 => UInt32.toNat_inj.1 (by unfold le32 at h1 h2; omega)) ha hb h
theorem lasT_len (l : List UInt32) : (lasT l).length = min l.length 11 := by unfold lasT; rw [sortL_len, List.length_drop]; omega
end Go.Proofs.YtmbbknjddebhoaaGreatDoor
set_option linter.unusedSimpArgs false
set_option linter.unusedVariables false
namespace Go.Proofs.YtmbbknjddebhoaaGreatDoor
open Go.RowKit
attribute [local go_sem ↓] Go.wp_at_zero Go.wp_at_succ
theorem wordT : ElT Tryz.prog 51 22 (.int .u32 0) 1 4:=ElT.mk' Tryz.underlying51 (by kernel_rfl) rfl (by omega)
theorem one_words (l : List UInt32) : ∀ u ∈ l.map u32v,u.oneCell' = true:=by
 intro u hu;obtain ⟨x,_,rfl⟩:=List.mem_map.1 hu;rfl
set_option maxHeartbeats 400000 in
theorem less_any (x y : UInt32) (w : World) : Calls Tryz.prog 95 #[u32v x,u32v y] w fun e w' => e = .returned (.bool (decide (x.toNat < y.toNat)))∧w = w':=by
 go_enter Tryz.func95,Tryz.ntmps95
 go_wp2
 go_ret
 exact ⟨ret_bool (by simp),rfl⟩
def FoundC (n : Nat) (w : World) (e : Ending) (w' : World) : Prop:=∃ f,e = .returned (.tuple #[.int .i64 n,.bool f])∧w = w'
set_option maxRecDepth 100000 in
set_option maxHeartbeats 2000000 in
theorem search_any (A : Option Addr) (xs : List UInt32) (c : Nat) (t : UInt32) (w : World) (hs : xs.Pairwise le32) (hl : xs.length ≤ 100000) (hr : Rd w A (xs.map u32v)) :
  Calls Tryz.prog 77 #[.slice A xs.length c,u32v t] w (FoundC (lb xs t) w):=by
 have hlb:=lb_le xs t
 go_enter Tryz.func77,Tryz.ntmps77
 go_wp2_with fail
 go_loop [7,8] (fun i j => ∃ a b : Nat,i = .int .i64 a∧j = .int .i64 b∧a ≤ lb xs t∧lb xs t ≤ b∧b ≤ xs.length) (fun i j => (intOf j).toNat - (intOf i).toNat)
 case atStart => exact ⟨0,xs.length,rfl,rfl,Nat.zero_le _,hlb,Nat.le_refl _⟩
 case round =>
  obtain ⟨a,b,rfl,rfl,ha,hb,hbl⟩:=hrel
  by_cases hlt : a < b
  ·have hm : (a + b) / 2 < xs.length:=by omega
   obtain ⟨g,o,rfl,hg,F⟩:=hr.at (k:=(a + b) / 2) (by simpa using hm)
   have hc:=F ((a + b) / 2) (by simpa using hm)
   simp only [List.getElem_map] at hc
   have h1:=fun h => lb_get_lt (t:=t) hs hm h
   have h2:=fun h => lb_get_ge (t:=t) hs hm h
   generalize xs[(a + b) / 2] = y at hc h1 h2
   have H1:=Lib.hid h1;have H2:=Lib.hid h2
   clear F h1 h2
   by_cases hy : y.toNat < t.toNat
   ·have hlb2 : (a + b) / 2 < lb xs t:=by
     rcases Nat.lt_or_ge ((a + b) / 2) (lb xs t) with h | h
     ·exact h
     ·have:=H2.out h;omega
    go_wp2_with (go_at_call 95;refine (less_any y t _).mono ?_;rw [decide_eq_true hy];rintro e w' ⟨rfl,rfl⟩)
    go_round
    case rel => exact ⟨(a + b) / 2 + 1,b,by go_num,rfl,by omega,hb,hbl⟩
    case measure => simp [intOf];omega
   ·have hlb2 : lb xs t ≤ (a + b) / 2:=by
     rcases Nat.lt_or_ge ((a + b) / 2) (lb xs t) with h | h
     ·have:=H1.out h;omega
     ·exact h
    go_wp2_with (go_at_call 95;refine (less_any y t _).mono ?_;rw [decide_eq_false hy];rintro e w' ⟨rfl,rfl⟩)
    go_round
    case rel => exact ⟨a,(a + b) / 2,rfl,by go_num,ha,hlb2,by omega⟩
    case measure => simp [intOf];omega
  ·obtain rfl : a = lb xs t:=by omega
   obtain rfl : b = lb xs t:=by omega
   generalize hk0 : lb xs t = k at ha hb hbl hlb hlt ⊢
   have Hk:=Lib.hid hk0;clear hk0
   by_cases hk : k < xs.length
   ·obtain ⟨g,o,rfl,hg,F⟩:=hr.at (k:=k) (by simpa using hk)
    have hc:=F k (by simpa using hk)
    simp only [List.getElem_map] at hc
    generalize xs[k] = y at hc
    clear F
    by_cases hy : y = t
    ·subst hy
     go_wp2
     go_ret2
     exact ⟨true,by rw [Hk.out];rfl,rfl⟩
    ·have hy' : ((y.toNat : Int) == (t.toNat : Int)) = false:=by
      have : y.toNat ≠ t.toNat:=fun e => hy (UInt32.toNat_inj.1 e)
      simp;omega
     go_wp2
     go_ret2
     exact ⟨false,by rw [Hk.out];rfl,rfl⟩
   ·obtain rfl : k = xs.length:=by omega
    go_wp2
    go_ret2
    exact ⟨false,by rw [Hk.out];rfl,rfl⟩
theorem splice_getE {α : Type} {b d : List α} {o k : Nat} (hk : k < b.length) (ho : o + d.length ≤ b.length) : (splice b o d)[k]? = if o ≤ k∧k < o + d.length then d[k - o]? else b[k]?:=by
 unfold splice
 by_cases h1 : k < o
 ·rw [if_neg (by omega),List.getElem?_append_left (by simp;omega),List.getElem?_take,if_pos h1]
 ·by_cases h2 : k < o + d.length
  ·rw [if_pos ⟨by omega,h2⟩,List.getElem?_append_right (by simp;omega),List.getElem?_append_left (by simp;omega)]
   congr 1;simp;omega
  ·rw [if_neg (by omega),List.getElem?_append_right (by simp;omega),List.getElem?_append_right (by simp;omega),List.getElem?_drop]
   congr 1;simp;omega
theorem ins_get {α : Type} (L : List α) (i k : Nat) (t : α) (hi : i ≤ L.length) : (L.take i ++ t :: L.drop i)[k]? = if k < i then L[k]? else if k = i then some t else L[k - 1]?:=by
 by_cases h1 : k < i
 ·rw [if_pos h1,List.getElem?_append_left (by simp;omega),List.getElem?_take,if_pos h1]
 ·rw [if_neg h1,List.getElem?_append_right (by simp;omega),List.length_take,Nat.min_eq_left hi]
  by_cases h2 : k = i
  ·rw [if_pos h2,show k - i = 0 by omega];rfl
  ·rw [if_neg h2,show k - i = (k - i - 1) + 1 by omega,List.getElem?_cons_succ,List.getElem?_drop]
   congr 1;omega
theorem ins_place {α : Type} (cur L : List α) (i : Nat) (t : α) (hL : cur.take L.length = L) (hi : i < L.length) (hc : L.length + 1 ≤ cur.length) :
  (splice (splice cur (i + 1) (L.drop i)) i [t]).take (L.length + 1) = L.take i ++ t :: L.drop i:=by
 have hl : (splice cur (i + 1) (L.drop i)).length = cur.length:=by rw [length_splice];simp;omega
 have hg : ∀ k,k < L.length → cur[k]? = L[k]?:=fun k hk => by rw [← hL,List.getElem?_take,if_pos hk]
 apply List.ext_getElem?
 intro k
 rw [ins_get _ _ _ _ (by omega),List.getElem?_take]
 by_cases hk : k < L.length + 1
 ·rw [if_pos hk,splice_getE (by omega) (by rw [hl];simp;omega),splice_getE (by omega) (by simp;omega)]
  by_cases h1 : k < i
  ·rw [if_neg (by simp;omega),if_neg (by simp;omega),if_pos h1,hg k (by omega)]
  ·by_cases h2 : k = i
   ·subst h2;rw [if_pos (by simp),if_neg h1,if_pos rfl,Nat.sub_self];rfl
   ·rw [if_neg (by simp;omega),if_pos (by simp;omega),if_neg h1,if_neg h2,List.getElem?_drop]
    congr 1;omega
 ·rw [if_neg hk,if_neg (by omega),if_neg (by omega),List.getElem?_eq_none (by omega)]
theorem ins_new {α : Type} (cur L : List α) (i : Nat) (t : α) (hL : cur.take i = L.take i) (hi : i < L.length) (hc : L.length + 1 ≤ cur.length) :
  (splice (splice cur i [t]) (i + 1) (L.drop i)).take (L.length + 1) = L.take i ++ t :: L.drop i:=by
 have hl : (splice cur i [t]).length = cur.length:=by rw [length_splice];simp;omega
 have hg : ∀ k,k < i → cur[k]? = L[k]?:=fun k hk => by
  have:=congrArg (fun l => l[k]?) hL
  simp only [List.getElem?_take,if_pos hk] at this
  exact this
 apply List.ext_getElem?
 intro k
 rw [ins_get _ _ _ _ (by omega),List.getElem?_take]
 by_cases hk : k < L.length + 1
 ·rw [if_pos hk,splice_getE (by omega) (by rw [hl];simp;omega),splice_getE (by omega) (by simp;omega)]
  by_cases h1 : k < i
  ·rw [if_neg (by simp;omega),if_neg (by simp;omega),if_pos h1,hg k h1]
  ·by_cases h2 : k = i
   ·subst h2;rw [if_neg (by simp;omega),if_pos (by simp),if_neg h1,if_pos rfl,Nat.sub_self];rfl
   ·rw [if_pos (by simp;omega),if_neg h1,if_neg h2,List.getElem?_drop]
    congr 1;omega
 ·rw [if_neg hk,if_neg (by omega),if_neg (by omega),List.getElem?_eq_none (by omega)]
theorem own_full {w : World} {base : Nat} {e : TypeId} {g n c : Nat} {xs : List Value} (h : w.ownsRow base e 1 (.slice (some ⟨g,0,none⟩) n c) n xs) :
  ∃ cur : List Value,w.heap[g]? = some (.cells cur.toArray e (0,0))∧cur.length = c∧n ≤ c∧c ≤ maxLen∧cur.take n = xs∧base ≤ g:=by
 rcases h.2 with ⟨h0,_⟩ | ⟨g',cap,cur',hv,hb,hg,hnc,hcm,hcs,htake⟩
 ·cases h0
 ·injection hv with h1 _ h3
  injection h1 with h1;injection h1 with h1
  subst h1 h3
  exact ⟨cur'.toList,by simpa using hg,by simpa using hcs,hnc,hcm,by simpa using htake,hb⟩
theorem own_of {w : World} {base : Nat} {e : TypeId} {g n c : Nat} {cur xs : List Value} (hg : w.heap[g]? = some (.cells cur.toArray e (0,0))) (hb : base ≤ g) (hc : cur.length = c) (hn : n ≤ c) (hm : c ≤ maxLen) (ht : cur.take n = xs) : w.ownsRow base e 1 (.slice (some ⟨g,0,none⟩) n c) n xs:=by
 refine ⟨by rw [← ht];simp;omega,.inr ⟨g,c,_,rfl,hb,hg,hn,hm,by simpa using hc,by simpa using ht⟩⟩
theorem wpList_cpy2 {P : Program} {t e : TypeId} {z : Value} {bytes : Nat} (T : ElT P t e z 1 bytes) {w : World} {ops : Array Oper} {rest : List Oper} {o : Oper} {a : Act} {Q : Exit → Act → World → Prop} (hgd : o.guard = none) (d x : Operand)
  (ho : o.op = .call { callee:=.builtin .copy,args:=#[d,x],argTypes:=#[t,t] }) (g off dLen dCap : Nat) (hd : a.eval d = .slice (some ⟨g,off,none⟩) dLen dCap)
  (b o2 n c : Nat) (hx : a.eval x = .slice (some ⟨b,o2,none⟩) n c) (xs : List Value) (hl : xs.length = min n dLen) (hr : Rd w (some ⟨b,o2,none⟩) xs) (h1 : ∀ u ∈ xs,u.oneCell' = true)
  (cur : List Value) (t' : TypeId) (hg : w.heap[g]? = some (.cells cur.toArray t' (0,0))) (hfit : off + xs.length ≤ cur.length)
  (h : ∀ w',Hid (w'.heap[g]? = some (.cells (splice cur off xs).toArray t' (0,0))) → w.grownBy w' (some g) → wpList P ops Q rest (a.put o.dst (.int .i64 (xs.length : Nat))) w') : wpList P ops Q (o :: rest) a w:=by
 refine wpList_plain hgd fun K hK => ?_
 have hsz : (P.info? e).map (·.size) = some 1:=by obtain ⟨i,hi,_,h2,_⟩:=T.info;simp [hi,h2]
 by_cases h0 : xs.length = 0
 ·obtain rfl : xs = []:=List.eq_nil_of_length_eq_zero h0
  have hrun:=run_copy_none (P:=P) w t t o.type e (some ⟨g,off,none⟩) (some ⟨b,o2,none⟩) dLen dCap n c T.und hsz (by have:=hl.symm;simpa using this)
  unfold Oper.wp
  simp [execOp,ho,resolve,invoke,builtin,hd,hx,hrun,Result.andThen]
  have hk:=h w (show _ = _ by simpa [splice] using hg) (World.grownBy.refl w _)
  exact hK _ _ hk
 ·have hrun:=run_copy_row (P:=P) w t t o.type e g off dLen dCap ⟨b,o2,none⟩ n c cur.toArray t' xs T.und hsz hg hl (fun j v hv => by
   obtain ⟨hj,rfl⟩:=List.getElem?_eq_some_iff.1 hv
   rcases hr with h | ⟨b',o',e',hc⟩
   ·rw [h] at h0;simp at h0
   ·injection e' with e';injection e' with e1 e2;subst e1 e2
    rw [add_lit0];exact hc j hj) (by simpa using hfit) h1
  unfold Oper.wp
  simp only [execOp,ho,resolve,invoke,builtin,Sem.run_bind,Sem.run_pure,Result.andThen_ok,List.map_toArray,List.map_cons,List.map_nil,hd,hx,hrun,Oper.upon]
  refine hK _ _ (h _ ?_ ⟨rfl,rfl,rfl,by simp [World.setRow],fun k _ hne => setRow_other w g k _ (fun e => hne (by rw [e]))⟩)
  have hs : splice cur off xs = cur.take off ++ xs ++ cur.drop (off + xs.length):=by rw [splice,List.append_assoc]
  rw [hs]
  exact setRow_heap w g cur.toArray _ t' (0,0) hg
theorem grown_keep {w w' : World} {row : Option Nat} (h : Keep w w') : w.grownBy w' row:=⟨h.os,h.tape,h.output,h.size,fun k hk _ => h.block k hk⟩
theorem grown_trans {a b c : World} {row : Option Nat} (h : a.grownBy b row) (g : b.grownBy c row) : a.grownBy c row :=
 ⟨g.os.trans h.os,g.tape.trans h.tape,g.output.trans h.output,Nat.le_trans h.size g.size,fun k hk hne => (g.block k (Nat.lt_of_lt_of_le hk h.size) hne).trans (h.block k hk hne)⟩
def Ins (base : Nat) (v : Value) (ys : List UInt32) (w : World) (e : Ending) (w' : World) : Prop :=
 ∃ v',e = .returned v'∧w'.ownsRow base 22 1 v' ys.length (ys.map u32v)∧w.grownBy w' v.ownBlock∧(v'.ownBlock = v.ownBlock ∨ v'.ownBlock = some w.heap.size)
theorem ins_len (xs : List UInt32) (i : Nat) (t : UInt32) (hi : i ≤ xs.length) : (xs.take i ++ t :: xs.drop i).length = xs.length + 1:=by simp;omega
set_option maxRecDepth 100000 in
set_option maxHeartbeats 2000000 in
theorem insert_end (base : Nat) (v : Value) (xs : List UInt32) (t : UInt32) (G : Nat) (w : World) (hown : w.ownsRow base 22 1 v xs.length (xs.map u32v)) (hl : xs.length ≤ 100000) (hG : Blk w G 22 [u32v t]) (hb : base ≤ w.heap.size) :
  Calls Tryz.prog 78 #[v,.int .i64 xs.length,.slice (some ⟨G,0,none⟩) 1 1] w (Ins base v (xs.take xs.length ++ t :: xs.drop xs.length) w):=by
 have e0 : xs.take xs.length ++ t :: xs.drop xs.length = xs ++ [t]:=by simp
 rw [e0]
 clear e0
 have Hown:=Lib.hid hown
 obtain ⟨A,c,rfl,hc,hm,hrd⟩:=own_form hown
 have Hrd:=Lib.hid hG.rd
 unfold maxLen at hm
 clear hown hrd hG
 have hcA : A = none → xs.length = 0∧c = 0:=fun h => by
  rcases Hown.out.2 with ⟨h1,_⟩ | ⟨g,cap,cur,h1,_⟩
  ·injection h1 with _ h2 h3;exact ⟨h2,h3⟩
  ·rw [h] at h1;injection h1 with h1;cases h1
 cases A with
 | none =>
   obtain ⟨h1,rfl⟩:=hcA rfl
   obtain rfl : xs = []:=List.eq_nil_of_length_eq_zero h1
   clear hcA h1
   go_enter Tryz.func78,Tryz.ntmps78
   go_wp2_with (at_builtin;refine wpList_app wordT (by rfl) _ _ (by rfl) base _ 0 _ (by rfl) Hown.out _ 1 1 [u32v t] (by rfl) (by rfl) Hrd.out (by simp [Value.oneCell']) (by omega) (by unfold maxLen;omega) hb ?_;intro v2 w2 own2 hg2 hat2;have Own2:=Lib.hid own2;clear own2)
   go_ret
   exact ⟨_,rfl,by simpa using Own2.out,hg2,hat2⟩
 | some a =>
   obtain ⟨g,cap,hga,hgb,hgl⟩ : ∃ g cap,(Value.slice (some a) xs.length c) = .slice (some ⟨g,0,none⟩) xs.length cap∧base ≤ g∧g < w.heap.size:=by
    rcases Hown.out.2 with ⟨h1,_⟩ | ⟨g,cap,cur,h1,h2,h3,_⟩
    ·cases h1
    ·exact ⟨g,cap,h1,h2,(Array.getElem?_eq_some_iff.1 h3).1⟩
   injection hga with hga _ hgc
   injection hga with hga
   subst hga hgc
   clear hcA
   by_cases hcn : c = xs.length
   ·subst hcn
    go_enter Tryz.func78,Tryz.ntmps78
    go_wp2_with (at_builtin;refine wpList_app wordT (by rfl) _ _ (by rfl) base _ xs.length _ (by rfl) Hown.out _ 1 1 [u32v t] (by rfl) (by rfl) Hrd.out (by simp [Value.oneCell']) (by omega) (by unfold maxLen;omega) hb ?_;intro v2 w2 own2 hg2 hat2;have Own2:=Lib.hid own2;clear own2)
    go_ret
    exact ⟨_,rfl,by simpa using Own2.out,hg2,hat2⟩
   ·go_enter Tryz.func78,Tryz.ntmps78
    go_wp2_with (at_builtin;refine wpList_app wordT (by rfl) _ _ (by rfl) base _ xs.length _ (by rfl) Hown.out _ 1 1 [u32v t] (by rfl) (by rfl) Hrd.out (by simp [Value.oneCell']) (by omega) (by unfold maxLen;omega) hb ?_;intro v2 w2 own2 hg2 hat2;have Own2:=Lib.hid own2;clear own2)
    go_ret
    exact ⟨_,rfl,by simpa using Own2.out,hg2,hat2⟩
set_option maxRecDepth 100000 in
set_option maxHeartbeats 2000000 in
theorem insert_place (base g cap : Nat) (xs : List UInt32) (i : Nat) (t : UInt32) (G : Nat) (w : World) (hown : w.ownsRow base 22 1 (.slice (some ⟨g,0,none⟩) xs.length cap) xs.length (xs.map u32v)) (hi : i < xs.length) (hl : xs.length ≤ 100000) (hG : Blk w G 22 [u32v t]) (hGg : G ≠ g) (hb : base ≤ w.heap.size)
  (hroom : xs.length + 1 ≤ cap) :
  Calls Tryz.prog 78 #[.slice (some ⟨g,0,none⟩) xs.length cap,.int .i64 i,.slice (some ⟨G,0,none⟩) 1 1] w (Ins base (.slice (some ⟨g,0,none⟩) xs.length cap) (xs.take i ++ t :: xs.drop i) w):=by
 obtain ⟨cur,hcur,hcl,hnc,hm,hct,hbg⟩:=own_full hown
 have hov : ∀ lb cb,(callFunc 97 #[.slice (some ⟨G,0,none⟩) 1 1,.slice (some ⟨g,i + 1,none⟩) lb cb]).run Tryz.prog w = .ok (.value (.bool false)) w:=fun lb cb => by
  rw [run_callFunc_extern Tryz.func97 (by kernel_rfl) (by kernel_rfl) (by kernel_rfl) (e:=Extern.SlicesOverlaps.overlaps #[51,51] #[4]) (by kernel_rfl),
   Lib.run_overlaps_apart w 51 4 22 Tryz.underlying51 1 (fun w => by kernel_rfl) ⟨G,0,none⟩ ⟨g,i + 1,none⟩ 1 1 lb cb hGg 22 22 1 cap (by unfold Blk at hG;simp [World.shape?,hG]) (by simp [World.shape?,hcur,hcl]) (by omega) (hG.frozen 0) (hG.frozen 1)]
  rfl
 have Hcur:=Lib.hid hcur;have Hct:=Lib.hid hct;have Hcl:=Lib.hid hcl
 have hgl : g < w.heap.size:=(Array.getElem?_eq_some_iff.1 hcur).1
 clear hcur hct hcl hown
 unfold maxLen at hm
 have hz2 : ((i : Int) == (xs.length : Int)) = false:=by simp;omega
 have hz3 : (xs.length : Int) + 1 ≤ (cap : Int):=by omega
 have hi' : (i : Int) < (xs.length : Int):=by omega
 have hc1 : cap ≠ i:=by omega
 have hc2 : cap ≠ i + 1:=by omega
 go_enter Tryz.func78,Tryz.ntmps78
 go_wp2_with (simp only [hov])
 refine wp_region_tree (.take [0,1,2,3,4,5,6,7] .done) [8] (by kernel_rfl) (by kernel_rfl) (fun w1 k1 => ?_)
 refine mt_take w1 (Below.refl _ _) ?_
 simp only [pick_cons,pick_nil,nth_zero,nth_succ]
 repeat (go_big_quiet_step (fail))
 refine wpQuiet_nil (mt_end ?_)
 have hmapd : ((xs.map u32v).drop i).length = xs.length - i:=by simp
 have hrd1 : Rd w1 (some ⟨g,i,none⟩) ((xs.map u32v).drop i):=by
  have hb1 : Blk w1 g 22 cur:=(show Blk w g 22 cur from Hcur.out).keep k1
  have h1:=hb1.rd.sub i (xs.length - i) (by rw [Hcl.out];omega)
  rw [Nat.zero_add] at h1
  have e : (cur.drop i).take (xs.length - i) = (xs.map u32v).drop i:=by rw [← Hct.out,List.drop_take]
  rwa [e] at h1
 have hG1 : Blk w1 G 22 [u32v t]:=hG.keep k1
 have Hmd:=Lib.hid hmapd;have Hrd1:=Lib.hid hrd1;have HG1:=Lib.hid hG1
 have Hcur1 : Hid (w1.heap[g]? = some (.cells cur.toArray 22 (0,0))):=(k1.block g hgl).trans Hcur.out
 clear hmapd hrd1 hG1 hG
 go_wp2_with (first
  | (refine wpList_cpy2 wordT (by rfl) _ _ (by rfl) g (i + 1) _ _ (by rfl) g i _ _ (by rfl) ((xs.map u32v).drop i) (by rw [Hmd.out];omega) Hrd1.out (fun u hu => one_words xs u (List.mem_of_mem_drop hu)) cur 22 Hcur1.out (by rw [Hmd.out,Hcl.out];omega) ?_;intro w2 hcur2 hg2)
  | (refine wpList_cpy2 wordT (by rfl) _ _ (by rfl) g i _ _ (by rfl) G 0 1 1 (by rfl) [u32v t] (by simp;omega) (HG1.out.grown hg2 (fun h => hGg (by injection h with h;exact h.symm))).rd (by simp [Value.oneCell']) _ 22 hcur2.out (by rw [length_splice _ _ _ (by rw [Hmd.out,Hcl.out];omega),Hcl.out];simp;omega) ?_;intro w3 hcur3 hg3))
 go_ret
 refine ⟨_,rfl,?_,grown_trans (grown_trans (grown_keep k1) hg2) hg3,.inl rfl⟩
 rw [ins_len xs i t (by omega)]
 refine own_of hcur3.out hbg ?_ hroom (by unfold maxLen;omega) ?_
 ·rw [length_splice,length_splice,Hcl.out]
  ·rw [Hmd.out,Hcl.out];omega
  ·rw [length_splice _ _ _ (by rw [Hmd.out,Hcl.out];omega),Hcl.out];simp;omega
 ·have h1:=ins_place cur (xs.map u32v) i (u32v t) (by rw [List.length_map];exact Hct.out) (by simpa using hi) (by rw [List.length_map,Hcl.out];exact hroom)
  rw [List.length_map] at h1
  rw [h1,List.map_append,List.map_cons,List.map_take,List.map_drop]
set_option maxRecDepth 100000 in
set_option maxHeartbeats 2000000 in
theorem insert_new (base g cap : Nat) (xs : List UInt32) (i : Nat) (t : UInt32) (G : Nat) (w : World) (hown : w.ownsRow base 22 1 (.slice (some ⟨g,0,none⟩) xs.length cap) xs.length (xs.map u32v)) (hi : i < xs.length) (hl : xs.length ≤ 100000) (hG : Blk w G 22 [u32v t]) (hb : base ≤ w.heap.size)
  (hroom : cap < xs.length + 1) :
  Calls Tryz.prog 78 #[.slice (some ⟨g,0,none⟩) xs.length cap,.int .i64 i,.slice (some ⟨G,0,none⟩) 1 1] w (Ins base (.slice (some ⟨g,0,none⟩) xs.length cap) (xs.take i ++ t :: xs.drop i) w):=by
 obtain ⟨cur,hcur,hcl,hnc,hm,hct,hbg⟩:=own_full hown
 have hgl : g < w.heap.size:=(Array.getElem?_eq_some_iff.1 hcur).1
 have hGl : G < w.heap.size:=hG.lt
 obtain ⟨i0,hi0,hz0,hzs,hzb⟩:=wordT.info
 have hrd : Rd w (some ⟨g,0,none⟩) (xs.map u32v):=own_rd hown
 have hold : (Builtin.firstCells i0.size i (.slice (some ⟨g,0,none⟩) i cap)).run Tryz.prog w.drew = .ok ((xs.map u32v).take i).toArray w.drew:=by
  rw [hzs]
  exact run_firstCells_some w.drew 1 i ⟨g,0,none⟩ i cap ((xs.map u32v).take i) (by simp;omega) (fun j v hj => by
   obtain ⟨hj2,rfl⟩:=List.getElem?_eq_some_iff.1 hj
   rcases hrd.take i with h | ⟨b',o',e',hc⟩
   ·rw [h] at hj2;simp at hj2
   ·injection e' with e';injection e' with e1 e2;subst e1 e2
    rw [add_lit0];exact hc j hj2)
 obtain ⟨Gc,hGc⟩ : ∃ Gc,Gc = grownCap w (xs.length + 1) cap 22:=⟨_,rfl⟩
 obtain ⟨row,hrow⟩ : ∃ row : List Value,row = (((xs.map u32v).take i).toArray ++ Builtin.zeroCells (Value.int .u32 0).cells (xs.length + 1 - i) ++ Builtin.zeroCells (Value.int .u32 0).cells (Gc - (xs.length + 1))).toList:=⟨_,rfl⟩
 have hrz : ∀ ty,(Builtin.append_ #[51,3] ty #[.slice (some ⟨g,0,none⟩) i cap,.int .i64 ((xs.length : Int) + 1 - (i : Int))]).run Tryz.prog w =
   .ok (.slice (some ⟨w.heap.size,0,none⟩) (xs.length + 1) Gc) (w.drew.alloc (.cells row.toArray 22)):=fun ty => by
  have h:=Lib.run_append_grow_zeros w 51 3 ty 22 i0 _ .i64 .i64 Tryz.underlying51 Tryz.underlying3 hi0 hz0 (some ⟨g,0,none⟩) i cap ((xs.map u32v).take i) hold (xs.length + 1 - i) (by omega) (by omega) (by omega) (by omega) (by rw [hzb];omega) (by rw [hzb];exact growslice_fits (by omega) (by omega))
  rw [show i + (xs.length + 1 - i) = xs.length + 1 by omega,← hGc] at h
  rw [show (xs.length : Int) + 1 - (i : Int) = ((xs.length + 1 - i : Nat) : Int) by omega,h,hrow,Array.toArray_toList]
 have hGn : xs.length + 1 ≤ Gc:=by rw [hGc];exact grownCap_ge w _ _ _
 have hG63 : Gc ≤ 9223372036854775807:=by
  have:=grownCap_le_maxLen w (xs.length + 1) cap 22 (by unfold maxLen;omega)
  rw [← hGc] at this
  unfold maxLen at this
  omega
 have hrl : row.length = Gc:=by rw [hrow];simp [Builtin.zeroCells,Value.cells];omega
 have hrt : row.take i = (xs.map u32v).take i:=by
  rw [hrow,Array.toList_append,Array.toList_append,List.append_assoc,List.take_append_of_le_length (by simp;omega)]
  rw [List.toList_toArray,List.take_take,Nat.min_self]
 obtain ⟨w1,hw1⟩ : ∃ w1,w1 = w.drew.alloc (.cells row.toArray 22):=⟨_,rfl⟩
 rw [← hw1] at hrz
 have k1 : Keep w w1:=by rw [hw1];exact ((Below.refl _ _).drew).alloc (Nat.le_refl _) _
 obtain ⟨g1,hg1⟩ : ∃ g1,g1 = w.heap.size:=⟨_,rfl⟩
 have hcur1 : w1.heap[g1]? = some (.cells row.toArray 22 (0,0)):=by rw [hw1,hg1];exact heap_alloc_new w.drew _
 have Hcur1:=Lib.hid hcur1;have Hrl:=Lib.hid hrl;have Hrt:=Lib.hid hrt;have Hg1:=Lib.hid hg1
 rw [← hg1] at hrz
 have hmapd : ((xs.map u32v).drop i).length = xs.length - i:=by simp
 have hrd1 : Rd w1 (some ⟨g,i,none⟩) ((xs.map u32v).drop i):=by
  have h1:=((hrd.keep k1).sub i (xs.length - i) (by simp;omega))
  rw [Nat.zero_add,List.take_of_length_le (by rw [hmapd];omega)] at h1
  exact h1
 have HG1:=Lib.hid (hG.keep k1)
 have Hmd:=Lib.hid hmapd;have Hrd1:=Lib.hid hrd1
 have hgg : g ≠ g1:=by omega
 have hGg : G ≠ g1:=by omega
 clear hmapd hrd1 hG hcur hcl hct hold hrow hGc hw1 hcur1 hrl hrt hg1 hrd hown
 unfold maxLen at hm
 have hz2 : ((i : Int) == (xs.length : Int)) = false:=by simp;omega
 have hz3 : (cap : Int) < (xs.length : Int) + 1:=by omega
 have hi' : (i : Int) < (xs.length : Int):=by omega
 have hc1 : cap ≠ i:=by omega
 have hc2 : Gc ≠ i:=by omega
 have hc3 : Gc ≠ i + 1:=by omega
 go_enter Tryz.func78,Tryz.ntmps78
 go_wp2_with (first
  | (at_builtin;refine Lib.wpList_append_run _ rfl _ _ _ _ rfl _ _ rfl rfl _ _ (hrz _) ?_)
  | (refine wpList_cpy2 wordT (by rfl) _ _ (by rfl) g1 i _ _ (by rfl) G 0 1 1 (by rfl) [u32v t] (by simp;omega) HG1.out.rd (by simp [Value.oneCell']) row 22 Hcur1.out (by rw [Hrl.out];simp;omega) ?_;intro w2 hcur2 hg2))
 simp only [List.length_cons,List.length_nil,Act.put,Array.set!_eq_setIfInBounds,List.setIfInBounds_toArray,List.set_cons_succ,List.set_cons_zero]
 refine wp_region_tree (.take [0,1,2,3,4,5,6,7] .done) [8] (by kernel_rfl) (by kernel_rfl) (fun w3 k3 => ?_)
 refine mt_take w3 (Below.refl _ _) ?_
 simp only [pick_cons,pick_nil,nth_zero,nth_succ]
 repeat (go_big_quiet_step (fail))
 refine wpQuiet_nil (mt_end ?_)
 have hcur3 : Hid (w3.heap[g1]? = some (.cells (splice row i [u32v t]).toArray 22 (0,0))):=(k3.block g1 (Array.getElem?_eq_some_iff.1 hcur2.out).1).trans hcur2.out
 have Hrd3 : Hid (Rd w3 (some ⟨g,i,none⟩) ((xs.map u32v).drop i)):=by
  refine Rd.keep ?_ k3
  rcases Hrd1.out with h | ⟨b',o',e',hc⟩
  ·exact .inl h
  ·injection e' with e';injection e' with e1 e2;subst e1 e2
   exact .inr ⟨_,_,rfl,fun j hj => grown_cell hg2 (hc j hj) (fun e => hgg (by injection e with e;exact e.symm))⟩
 go_wp2_with (refine wpList_cpy2 wordT (by rfl) _ _ (by rfl) g1 (i + 1) _ _ (by rfl) g i _ _ (by rfl) ((xs.map u32v).drop i) (by rw [Hmd.out];omega) Hrd3.out (fun u hu => one_words xs u (List.mem_of_mem_drop hu)) _ 22 hcur3.out (by rw [length_splice _ _ _ (by rw [Hrl.out];simp;omega),Hrl.out,Hmd.out];omega) ?_;intro w4 hcur4 hg4)
 go_ret
 refine ⟨_,rfl,?_,?_,.inr (by rw [Hg1.out];rfl)⟩
 ·rw [ins_len xs i t (by omega)]
  refine own_of hcur4.out (by rw [Hg1.out];exact hb) ?_ hGn (by unfold maxLen;omega) ?_
  ·rw [length_splice,length_splice,Hrl.out]
   ·rw [Hrl.out];simp;omega
   ·rw [length_splice _ _ _ (by rw [Hrl.out];simp;omega),Hrl.out,Hmd.out];omega
  ·have h1:=ins_new row (xs.map u32v) i (u32v t) Hrt.out (by simpa using hi) (by rw [List.length_map,Hrl.out];exact hGn)
   rw [List.length_map] at h1
   rw [h1,List.map_append,List.map_cons,List.map_take,List.map_drop]
 ·have e : ∀ a b : World,a.grownBy b (some g1) → w.heap.size ≤ a.heap.size → Keep w a → Keep w b:=fun a b h hs hk => hk.grown h hs (fun k hk2 => by injection hk2 with hk2;have:=Hg1.out;omega)
  have k2:=e _ _ hg2 k1.size k1
  have k3':=keep_trans k2 k3
  exact grown_keep (e _ _ hg4 k3'.size k3')
theorem insert_any (base : Nat) (v : Value) (xs : List UInt32) (i : Nat) (t : UInt32) (G : Nat) (w : World) (hown : w.ownsRow base 22 1 v xs.length (xs.map u32v)) (hi : i ≤ xs.length) (hl : xs.length ≤ 100000) (hG : Blk w G 22 [u32v t]) (hGv : v.ownBlock ≠ some G) (hb : base ≤ w.heap.size) :
  Calls Tryz.prog 78 #[v,.int .i64 i,.slice (some ⟨G,0,none⟩) 1 1] w (Ins base v (xs.take i ++ t :: xs.drop i) w):=by
 by_cases h : i = xs.length
 ·subst h;exact insert_end base v xs t G w hown hl hG hb
 ·obtain ⟨g,cap,rfl,hgb,hgl⟩:=hown.form (by omega)
  by_cases hr : xs.length + 1 ≤ cap
  ·exact insert_place base g cap xs i t G w hown (by omega) hl hG (fun e => hGv (by rw [e];rfl)) hb hr
  ·exact insert_new base g cap xs i t G w hown (by omega) hl hG hb (by omega)
def Put1 (B : Nat) (ys : List UInt32) (w : World) (e : Ending) (w' : World) : Prop :=
 e = .returned (.tuple #[])∧∃ v',w'.cell? ⟨B,0,none⟩ = some v'∧w'.frozen? ⟨B,0,none⟩ = false∧w'.ownsRow (B + 1) 22 1 v' ys.length (ys.map u32v)∧Below B w w'∧B < w'.heap.size
set_option maxRecDepth 100000 in
set_option maxHeartbeats 2000000 in
theorem put1_any (B : Nat) (v : Value) (xs : List UInt32) (t : UInt32) (w : World) (hB : w.cell? ⟨B,0,none⟩ = some v) (hf : w.frozen? ⟨B,0,none⟩ = false) (hown : w.ownsRow (B + 1) 22 1 v xs.length (xs.map u32v)) (hs : xs.Pairwise le32) (hl : xs.length ≤ 1000) :
  Calls Tryz.prog 76 #[u32v t,.pointer (some ⟨B,0,none⟩)] w (Put1 B (insAt xs t) w):=by
 have hlb:=lb_le xs t
 obtain ⟨A,c,rfl,hc,hm,hrd⟩:=own_form hown
 have hbl:=cell_lt hB
 have hln:=insAt_len xs t
 go_enter Tryz.func76,Tryz.ntmps76
 go_wp2_with fail
 refine (search_any A xs c t w hs (by omega) hrd).mono ?_
 rintro e w1 ⟨f,rfl,rfl⟩
 have Hown:=Lib.hid hown;clear hown hrd
 go_wp2_with fail
 refine (insert_any (B + 1) _ xs (lb xs t) t w.heap.size _ (Hown.out.alloc _) hlb (by omega) (Blk.new w 22 [u32v t]) (own_ne Hown.out (Nat.le_refl _)) (by simp;omega)).mono ?_
 rintro e w2 ⟨v',rfl,hown2,hg2,hat2⟩
 have hne : (Value.slice A xs.length c).ownBlock ≠ some B:=fun h => by have:=(Hown.out.lt B h).1;omega
 have b2:=grown_cell hg2 (keep_cell (keep_new w _) hB) hne
 have f2:=grown_frozen hg2 hB (keep_new w _) hf hne
 have k2 : Below B w w2:=((keep_new w _).mono (by omega)).grown hg2 (by simp;omega) (fun g hg => by have:=(Hown.out.lt g hg).1;omega)
 obtain ⟨A',c',rfl,hc',hm',hrd'⟩:=own_form hown2
 clear hrd'
 have Hown2:=Lib.hid hown2;clear hown2 hg2
 go_wp2
 go_end0
 refine ⟨rfl,.slice A' (lb xs t + (xs.length - lb xs t + 1)) c',by go_simp,by go_simp,?_,k2.setCell (Nat.le_refl _) _,?_⟩
 ·have hj : (xs.take (lb xs t) ++ t :: xs.drop (lb xs t)).length = lb xs t + (xs.length - lb xs t + 1):=by rw [List.length_append,List.length_take,List.length_cons,List.length_drop,Nat.min_eq_left hlb]
  rw [← hj]
  exact ownsRow_setCell_below Hown2.out (a:=⟨B,0,none⟩) (Nat.lt_succ_self B) _
 ·have:=cell_lt b2;simpa using this
def Lasted (B : Nat) (ys : List UInt32) (w : World) (e : Ending) (w' : World) : Prop :=
 ∃ v,e = .returned v∧w'.ownsRow B 22 1 v ys.length (ys.map u32v)∧Keep w w'
theorem fold_take (xs : List UInt32) (k : Nat) (h : k < xs.length) : sortL (xs.take (k + 1)) = insAt (sortL (xs.take k)) xs[k]:=by
 rw [List.take_succ_eq_append_getElem h,sortL_snoc]
set_option maxRecDepth 100000 in
set_option maxHeartbeats 2000000 in
theorem last_any (A : Option Addr) (l : List UInt32) (c : Nat) (w : World) (hc : l.length ≤ c) (hm : c ≤ maxLen) (hr : Rd w A (l.map u32v)) :
  Calls Tryz.prog 59 #[.slice A l.length c] w (Lasted (w.heap.size + 1) (lasT l) w):=by
 unfold maxLen at hm
 have hmf : ∀ (fn : Fn) (first cap : Array Value) (w : World),(Instr.makeFunc fn first cap).run Tryz.prog w = .ok (.func fn first cap) w:=fun _ _ _ _ => rfl
 have hd : (l.drop (l.length - 11)).length ≤ 11:=by simp;omega
 go_enter Tryz.func59,Tryz.ntmps59
 go_upto_region 3 with fail
 obtain ⟨d,hdd⟩ : ∃ d,d = l.drop (l.length - 11):=⟨_,rfl⟩
 have hdl : d.length = l.length - (l.length - 11):=by rw [hdd];simp
 have Hd:=Lib.hid hdd;have Hdl:=Lib.hid hdl
 have hd11 : d.length ≤ 11:=by omega
 have Hr:=Lib.hid hr
 clear hdd hd hdl hr
 have hnb : (w.alloc (.cells #[.slice none 0 0] 51)).cell? ⟨w.heap.size,0,none⟩ = some (.slice none 0 0):=by go_simp
 have hnf : (w.alloc (.cells #[.slice none 0 0] 51)).frozen? ⟨w.heap.size,0,none⟩ = false:=by go_simp
 go_cut [13,14,15] (fun s n i wx => ∃ A2 c2,s = .slice A2 d.length c2∧n = .int .i64 d.length∧i = .int .i64 0∧Rd w A2 (d.map u32v)∧wx = w.alloc (.cells #[.slice none 0 0] 51))
 case first =>
  by_cases h11 : 11 ≤ l.length
  ·obtain ⟨b,off,rfl,hb,F⟩:=Hr.out.at (k:=0) (by simp;omega)
   clear F
   go_wp2
   go_meet
   refine ⟨_,_,by rw [Hdl.out],by rw [Hdl.out],rfl,?_,rfl⟩
   rw [Hd.out,List.map_drop]
   have h:=Hr.out.dropN (k:=l.length - 11) (by simp)
   rwa [Option.map_some,add_lit0] at h
  ·have hdl0 : d = l:=by rw [Hd.out,show l.length - 11 = 0 by omega,List.drop_zero]
   subst hdl0
   by_cases h0 : d.length = 0
   ·obtain rfl:=List.eq_nil_of_length_eq_zero h0
    go_wp2_with fail
    all_goals go_meet
    all_goals exact ⟨A,c,rfl,rfl,rfl,Rd.nil _ _,rfl⟩
   ·obtain ⟨b,off,rfl,hb,F⟩:=Hr.out.at (k:=0) (by simp;omega)
    clear F
    go_wp2
    go_meet
    exact ⟨some ⟨b,off,none⟩,c,rfl,rfl,rfl,Hr.out,rfl⟩
 case rest =>
  obtain ⟨A2,c2,rfl,rfl,rfl,hr2,rfl⟩:=hcut
  go_wp2
  go_loopw [15] (fun i wr => ∃ (k : Nat) (v : Value),k ≤ d.length∧i = .int .i64 k∧wr.cell? ⟨w.heap.size,0,none⟩ = some v∧wr.frozen? ⟨w.heap.size,0,none⟩ = false∧wr.ownsRow (w.heap.size + 1) 22 1 v k ((sortL (d.take k)).map u32v)∧Keep w wr) (fun i _ => d.length - (intOf i).toNat)
  case atStart => exact ⟨0,.slice none 0 0,Nat.zero_le _,rfl,hnb,hnf,World.ownsRow_nil _ _ _ _,keep_new _ _⟩
  case round =>
   obtain ⟨k,v,hk,rfl,e1,f1,hown,hkeep⟩:=hrel
   have hz:=hkeep.size
   have hlen : (sortL (d.take k)).length = k:=by rw [sortL_len,List.length_take];omega
   by_cases hlt : k < d.length
   ·obtain ⟨b,off,rfl,hb,F⟩:=hr2.at (k:=k) (by simpa using hlt)
    have hx:=keep_cell hkeep (F k (by simpa using hlt))
    have hts:=fold_take d k hlt
    simp only [List.getElem_map] at hx
    generalize d[k] = x at hx hts
    have hp:=put1_any w.heap.size v (sortL (d.take k)) x wr e1 f1 (by rw [hlen];exact hown) (sortL_sorted _) (by omega)
    rw [← hts] at hp
    have Hts:=Lib.hid hts;have Hr2:=Lib.hid hr2
    clear F hts hr2 hnb hnf
    go_wp2_with (go_at_call 76;refine hp.mono ?_;rintro e w2 ⟨rfl,v2,e2,f2,hown2,hbel2,hsz2⟩)
    go_roundw
    case rel =>
     exact ⟨k + 1,v2,by omega,by go_num,e2,f2,by have h3:=sortL_len (d.take (k + 1));rw [List.length_take,Nat.min_eq_left (by omega)] at h3;rw [h3] at hown2;exact hown2,Below.trans hkeep hbel2⟩
    case measure => simp [intOf];omega
   ·have hk' : k = d.length:=by omega
    subst hk'
    rw [List.take_length] at hown
    go_wp2
    go_ret
    refine ⟨v,rfl,?_,hkeep⟩
    unfold lasT
    rw [← Hd.out,sortL_len]
    exact hown
end Go.Proofs.YtmbbknjddebhoaaGreatDoor
