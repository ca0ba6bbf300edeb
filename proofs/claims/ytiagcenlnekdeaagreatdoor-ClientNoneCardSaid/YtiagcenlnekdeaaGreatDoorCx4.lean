/- Texts merged by pack.py: ShP. -/
import Derived.Test.YtiagcenlnekdeaaGreatDoorRows
import Derived.Test.YtiagcenlnekdeaaGreatDoorCx2
import Derived.Test.YtiagcenlnekdeaaGreatDoorCx3
import Derived.Deep.RegionHeld3
import Derived.Deep.DrawnRows
import Derived.Deep.DeepCutAuto
import Derived.Deep.RegionLaw
import Derived.Deep.MidRow
import Derived.Deep.WholeRow
set_option maxRecDepth 1000000
set_option maxHeartbeats 16000000
set_option linter.unusedSimpArgs false
set_option linter.unusedVariables false
open Go.Proofs.Tryz
namespace Go.Proofs.YtiagcenlnekdeaaGreatDoor
open Go.RowKit
attribute [local go_sem ↓] Go.wp_at_zero Go.wp_at_succ
section
variable {P:Program} {w:World} {ops:Array Oper} {rest:List Oper} {a:Act} {Q:Exit→Act→World→Prop} {x y:Operand} {dst:Option Tmp} {ty ty' t:TypeId} {pos:String} {eG:Array Edge}
theorem uq (n:Nat) (e:TypeId):(TypeDesc.array n e).isRow=true:=rfl
theorem b61 (g:Nat) (cs:List Value) (hx:a.eval x = .pointer (some ⟨g,0,none⟩)) (hb:ae w g t cs) (d:TypeDesc) (hu:P.underlying ty=some d) (hd:d.isRow=true) (hi:(P.info? ty).map (·.size)=some cs.length)
  (h:wpList P ops Q rest (a.put dst (.agg cs.toArray)) w):wpList P ops Q ({ dst:=dst,op:=.load ty x,type:=ty',pos:=pos,after:=eG,guard:=none}::rest) a w :=
 wpList_load_mid rfl ty x rfl g 0 hx cs d (fun j v hv=>by rw[Nat.zero_add,hb.cell];exact hv) hu hd hi h
theorem bY (g:Nat) (cs:Array Value) (hx:a.eval x = .pointer (some ⟨g,0,none⟩)) (hb:ae w g t cs.toList) (d:TypeDesc) (hu:P.underlying ty=some d) (hd:d.isRow=true) (hi:(P.info? ty).map (·.size)=some cs.size)
  (h:wpList P ops Q rest (a.put dst (.agg cs)) w):wpList P ops Q ({ dst:=dst,op:=.load ty x,type:=ty',pos:=pos,after:=eG,guard:=none}::rest) a w :=
 b61 g cs.toList hx hb d hu hd (by simpa using hi) h
end
def w32 (n:Int):UInt32:=UInt32.ofNat n.toNat
theorem BB {n:Int} (h0:0≤n) (h1:n≤4294967295):n=((w32 n).toNat:Int):=by
 unfold w32;rw[UInt32.toNat_ofNat'];omega
theorem G6 (x:UInt32):(x.toNat:Int)≤4294967295:=by have:=x.toNat_lt;omega
theorem a5q (l:List UInt32) : ∀ u∈l.map ag,u.oneCell'=true:=by
 intro u hu;obtain⟨x,_,rfl⟩:=List.mem_map.1 hu;rfl
theorem Xl (l:List UInt32) (k:Nat) (E:Int) (h0:0≤E) (h1:E≤4294967295):(l.set k (w32 E)).map ag=(l.map ag).set k (.int .u32 E):=by
 rw[List.map_set];unfold ag;rw[←BB h0 h1]
theorem qJ {α:Type} {l:List α} {k:Nat} {d y:α} (h:l[k]?=some y):l.getD k d=y:=by simp[h]
theorem bn {P:Program} {w:World} {g:Nat} {t:TypeId} {old:List Value} (cs:List Value) (hb:ae w g t old) (ho:old.length=cs.length) (h1 : ∀ v∈cs,v.oneCell'=true) :
  ∃ w',(storeCells ⟨g,0,none⟩ cs 0).run P w = .ok () w'∧ae w' g t cs∧w.grownBy w' (some g):=by
 refine⟨_,run_storeCells_from g t cs 0 old.toArray w hb (by simp[ho]) h1,?_,rfl,rfl,rfl,by simp[World.setRow],fun k _ hne=>setRow_other w g k _ (fun e=>hne (by rw[e]))⟩
 have:=setRow_heap w g old.toArray cs.toArray t (0,0) hb
 simpa[ae]using this
theorem jo {w:World} {g:Nat} {t:TypeId} {old:List Value} (cs:List Value) (hb:ae w g t old) (ho:old.length=cs.length) (h1 : ∀ v∈cs,v.oneCell'=true) :
  ∃ w',(storeCells ⟨g,0,none⟩ cs 0).run prog w = .ok () w'∧Hid (ae w' g t cs)∧Hid (w.grownBy w' (some g)):=bn cs hb ho h1
theorem vY:dL prog 32 5 (.int .u8 0) 1 1:=dL.mk' underlying32 (by kernel_rfl) rfl (by omega)
theorem jL (l:List UInt8) : ∀ u∈l.map ah,u.oneCell'=true:=by
 intro u hu;obtain⟨x,_,rfl⟩:=List.mem_map.1 hu;rfl
def zb (n:Nat):Array Value:=madeCells #[.int .u8 0] (n*1)
theorem c1t (n:Nat):(zb n).toList=(List.replicate n (0:UInt8)).map ah:=by
 apply List.ext_getElem
 ·simp[zb,madeCells]
 ·intro i h1 h2
  simp[zb,madeCells,Nat.mod_one]
theorem c1s (w:World) (n:Nat):ae (w.alloc (.cells (zb n) 5)) w.heap.size 5 ((List.replicate n (0:UInt8)).map ah):=by
 rw[←c1t];exact ae.new w _ (zb n).toList
theorem b69 (k c:Nat) (hk:k≤c) (hc:c≤1000000) (W:World):(Instr.makeSlice 32 (.int .i64 (k:Int)) (.int .i64 (c:Int))).run prog W = .ok (.slice (some ⟨W.heap.size,0,none⟩) k c) (W.alloc (.cells (zb c) 5)):=by
 rw[vY.make k c hk (by omega) (by omega) W];rfl
theorem Ll (k c:Nat) (i j:Int) (hi:i=k) (hj:j=c) (hk:k≤c) (hc:c≤1000000) (W:World) : ∃ W',(Instr.makeSlice 32 (.int .i64 i) (.int .i64 j)).run prog W = .ok (.slice (some ⟨W.heap.size,0,none⟩) k c) W' ∧
  ae W' W.heap.size 5 ((List.replicate c (0:UInt8)).map ah)∧Keep W W'∧W'.heap.size=W.heap.size+1:=by
 subst hi hj;exact⟨_,b69 k c hk hc W,c1s W c,aB _ _,by simp⟩
def w8 (n:Int):UInt8:=UInt8.ofNat n.toNat
theorem rW {n:Int} (h0:0≤n) (h1:n≤255):n=((w8 n).toNat:Int):=by
 unfold w8;rw[UInt8.toNat_ofNat'];omega
theorem GG (l:List UInt8) (k:Nat) (E:Int) (h0:0≤E) (h1:E≤255):(l.set k (w8 E)).map ah=(l.map ah).set k (.int .u8 E):=by
 rw[List.map_set];unfold ah;rw[←rW h0 h1]
theorem a5C {w:World} {base g c:Nat} {e:TypeId} (h:ae w g e ((List.replicate c (0:UInt8)).map ah)) (hb:base≤g) (hc:c≤maxLen):w.ownsRow base e 1 (.slice (some ⟨g,0,none⟩) 0 c) 0 []:=by
 have h2:w.heap[g]?=some (.cells (splice ((List.replicate c (0:UInt8)).map ah) 0 []).toArray e (0,0)):=by
  rw[show splice ((List.replicate c (0:UInt8)).map ah) 0 []=(List.replicate c (0:UInt8)).map ah by simp[splice]];exact h
 exact LQ h2 hb rfl (by simp) (Nat.zero_le _) hc
theorem Rd.b24 {w:World} {A:Option Addr} {xs:List Value} (h:Rd w A xs) (k c:Nat) (hk:k≤xs.length) (hc:xs.length≤c) :
  Rd w (if c=k then A else A.map (fun x=>(⟨x.block,x.off+k,none⟩:Addr))) (xs.drop k):=by
 split
 ·exact .inl (List.drop_eq_nil_of_le (by omega))
 ·rcases h with rfl | ⟨b,off,rfl,hcell⟩
  ·exact .inl (by simp)
  ·refine .inr ⟨b,off+k,rfl,fun j hj=>?_⟩
   simp at hj;rw[Nat.add_assoc,hcell (k+j) (by omega)];simp
abbrev zl (h:List UInt8):Value:=.agg (h.map ah).toArray
theorem a7n (w:World) (n:Nat) (t:TypeId) (hn:n=w.heap.size):ae (w.alloc (.cells #[.int .u8 0,.int .u8 0,.int .u8 0,.int .u8 0,.int .u8 0,.int .u8 0,.int .u8 0,.int .u8 0,.int .u8 0,.int .u8 0,.int .u8 0,.int .u8 0,.int .u8 0,.int .u8 0,.int .u8 0,.int .u8 0,.int .u8 0,.int .u8 0,.int .u8 0,.int .u8 0,.int .u8 0,.int .u8 0,.int .u8 0,.int .u8 0,.int .u8 0,.int .u8 0,.int .u8 0,.int .u8 0,.int .u8 0,.int .u8 0,.int .u8 0,.int .u8 0] t)) n t ((List.replicate 32 (0:UInt8)).map ah):=hn ▸ ae.new w t ((List.replicate 32 (0:UInt8)).map ah)
noncomputable def uT:Array Value:=match(prog.info? 27).bind (·.zero)with | some (.agg c)=>c | _ => #[]
theorem xy:uT.size=32:=by kernel_rfl
theorem Hf (w:World):(zeroValue 27).run prog w = .ok (.agg uT) w:=by kernel_rfl
theorem BF:uT.toList=(List.replicate 32 (0:UInt8)).map ah:=by kernel_rfl
theorem kG:prog.underlying 27=some (.array 32 5):=by kernel_rfl
structure aX (h:List UInt8) (cs:Array Value):Prop where
 l:cs.toList=h.map ah
 z:cs.size=32
 i:(prog.info? 27).map (·.size)=some cs.size
 n : ¬ cs = #[]
 o : ∀ v∈cs.toList,v.oneCell'=true
 e:(h.map ah).toArray=cs
theorem aX.of {h:List UInt8} (hl:h.length=32):aX h (h.map ah).toArray:=by
 have hz:(h.map ah).toArray.size=32:=by simp[hl]
 refine⟨rfl,hz,by rw[hz];kernel_rfl,fun e=>by rw[e]at hz;simp at hz,?_,rfl⟩;exact jL h
end Go.Proofs.YtiagcenlnekdeaaGreatDoor
