/- Texts merged by pack.py: Arg, OpB, OpZ. -/
import Derived.Test.YtmbbknjddebhoaaGreatDoorCx2
import Derived.ProofKit
import Derived.Deep.Slices
import Derived.Deep.Fields
import Derived.Test.YtmbbknjddebhoaaGreatDoorCx4
import Derived.WalkKit
import Derived.OpenShut
import Derived.Test.YtmbbknjddebhoaaGreatDoorCx7
import Derived.Test.YtmbbknjddebhoaaGreatDoorCards
import Derived.Test.YtmbbknjddebhoaaGreatDoorTie
import Derived.Deep.DeepHandedRow
import Derived.Lib.LaidTab
/- Arguments opened to lists, and the last step of a law: it answers true and leaves what was there. -/
set_option linter.unusedSimpArgs false
set_option linter.unusedVariables false
namespace Go.Proofs.YtmbbknjddebhoaaGreatDoor
open Go.RowKit Go.ChangeShapes Go.WideShapes Go.Deep
theorem addr_plain {w : World} {a : Addr} {v : Value} (h : w.cell? a = some v) : a = ⟨a.block,a.off,none⟩:=by
 obtain ⟨b,o,s⟩:=a
 cases s with
 | none => rfl
 | some x => unfold World.cell? at h;split at h <;> simp at h
theorem Rd.of_add {w : World} {a : Addr} {xs : List Value} (h : ∀ j (hj : j < xs.length),w.cell? (a.add j) = some xs[j]) : Rd w (some a) xs:=by
 by_cases h0 : xs = []
 ·exact .inl h0
 ·have hp : 0 < xs.length:=List.length_pos_iff.2 h0
  have h1:=h 0 hp
  have e : a.add 0 = a:=by unfold Addr.add;simp
  rw [e] at h1
  have ha:=addr_plain h1
  refine .inr ⟨a.block,a.off,by rw [← ha],fun j hj => ?_⟩
  have:=h j hj
  rw [ha,add_lit0] at this
  exact this
theorem list_choose {α β : Type} {f : α → β} {p : α → Prop} : ∀ (l : List β),(∀ x ∈ l,∃ a,x = f a∧p a) → ∃ ys : List α,l = ys.map f∧∀ a ∈ ys,p a
 | [],_ => ⟨[],rfl,by simp⟩
 | x :: l,h => by
   obtain ⟨a,rfl,ha⟩:=h x (by simp)
   obtain ⟨ys,rfl,hys⟩:=list_choose l fun y hy => h y (by simp [hy])
   exact ⟨a :: ys,rfl,by simpa using ⟨ha,hys⟩⟩
section
variable {H : Type} {enc : TypeId × Value → H} {P : Program} {w : World} {spare : Nat → Bool} {held : Bool}
theorem slice_open {t e : TypeId} {size fuel : Nat} {cs : List Value} {x : DataW H × List MemPlace} (ht : P.underlying t = some (.slice e)) (hc : P.cellsOf e = size) (hz : 0 < size)
  (h : DataW.trod enc P w 0 spare held fuel t cs = some x) :
  ∃ (A : Option Addr) (n c : Nat) (Cs : List (List Value)),cs = [.slice A n c]∧n ≤ c∧c ≤ maxLen∧Cs.length = n∧Rd w A Cs.flatten ∧
    ∀ y ∈ Cs,y.length = size∧∃ m z,DataW.trod enc P w 0 spare held m e y = some z:=by
 rcases open_slice ht h with ⟨rfl,_⟩ | ⟨a,len,cap,m,n,D,Pl,rfl,_,hl,hm,hmm,_,hi⟩
 ·exact ⟨none,0,0,[],rfl,Nat.le_refl _,Nat.zero_le _,rfl,.inl rfl,by simp⟩
 ·have hlm : len ≤ m:=by rw [hmm];split <;> omega
  rw [hc] at hi
  obtain ⟨V,hV⟩:=choose_lt (p:=fun i (cs' : List Value) => w.cells? 0 (a.add (i * size)) size = some cs'∧DataW.trod enc P w 0 spare held n e cs' = some (D i,Pl i)) (n:=len) fun i hi' => hi i (by omega)
  have hlen : ∀ y ∈ (List.range len).map V,y.length = size:=by
   intro y hy
   obtain ⟨i,hi',rfl⟩:=List.mem_map.1 hy
   exact (World.cells?_some (hV i (List.mem_range.1 hi')).1).2.1
  refine ⟨some a,len,cap,(List.range len).map V,rfl,hl,hm,by simp,Rd.of_add fun j hj => ?_,fun y hy => ⟨hlen y hy,?_⟩⟩
  ·have hfl : ((List.range len).map V).flatten.length = len * size:=by
    rw [← List.flatMap_id,flatMap_len' id size _ hlen];simp
   have hj' : j < len * size:=by rw [← hfl];exact hj
   have hq : j / size < len:=by rwa [Nat.div_lt_iff_lt_mul hz]
   have hr : j % size < size:=Nat.mod_lt _ hz
   have hcell:=(World.cells?_some (hV (j / size) hq).1).2.2 (j % size) hr
   have hjj : j = j / size * size + j % size:=by rw [Nat.mul_comm];exact (Nat.div_add_mod j size).symm
   have hadd : (a.add (j / size * size)).add (j % size) = a.add j:=by
    rw [add_add',← hjj]
   rw [hadd] at hcell
   rw [hcell,← List.getElem?_eq_getElem hj,← List.flatMap_id]
   conv => rhs;rw [hjj]
   rw [flatMap_get' id size _ hlen (j / size) (j % size) (by simpa using hq) hr]
   simp
  ·obtain ⟨i,hi',rfl⟩:=List.mem_map.1 hy
   exact ⟨n,_,(hV i (List.mem_range.1 hi')).2⟩
theorem fields_open {t : TypeId} {fs : Array Field} {fuel : Nat} {cs : List Value} {x : DataW H × List MemPlace} (ht : P.underlying t = some (.struct fs)) (hone : oneCellFields P fs = true)
  (h : DataW.trod enc P w 0 spare held fuel t cs = some x) (hl : cs.length = fs.size) :
  ∀ (j : Nat) (f : Field),fs[j]? = some f → ∃ v m y,cs[j]? = some v∧DataW.trod enc P w 0 spare held m f.type [v] = some y:=by
 obtain ⟨ys,n,_,_,_,hyl,hf⟩:=DataW.trod_struct ht h
 intro j f hj
 obtain ⟨ho,hk⟩:=hone_of hone j f hj
 have hjl : j < fs.size:=(Array.getElem?_eq_some_iff.1 hj).1
 have h1:=hf j f hj
 rw [ho,hk] at h1
 have hone' : (cs.drop j).take 1 = [cs[j]'(by omega)]:=by
  rw [List.drop_eq_getElem_cons (by omega)];rfl
 rw [hone'] at h1
 have hys : ys[j]? = some (ys[j]'(by omega)):=List.getElem?_eq_getElem (by omega)
 exact ⟨_,n,_,List.getElem?_eq_getElem (by omega),h1.trans hys⟩
end
section
variable {H : Type} {enc : TypeId × Value → H} {P : Program}
theorem trodAll_below (hl : laidOutB P = true) {W W' : World} (hb : Below W.heap.size W W') : ∀ (ts : List TypeId) (vs : List Value) (ds : List (DataW H)) (ps : List MemPlace),
  (∀ t ∈ ts,P.readableRec t = true∧t < P.types.size) → (∀ x ∈ ps,x.block < W.heap.size) → DataW.TrodAll enc P W 0 (fun _ => true) true ts vs ds ps →
  DataW.TrodAll enc P W' 0 (fun b => decide (b < W.heap.size)) true ts vs ds ps
 | [],[],[],ps,_,_,h => h
 | t :: ts,v :: vs,d :: ds,ps,hr,hlt,h => by
   obtain ⟨p,q,h1,h2,rfl⟩:=h
   exact ⟨p,q,Below.trod hl (hr t (by simp)).1 (hr t (by simp)).2 h1 hb fun x hx => hlt x (by simp [hx]),
    trodAll_below hl hb ts vs ds q (fun t ht => hr t (by simp [ht])) (fun x hx => hlt x (by simp [hx])) h2,rfl⟩
 | [],_ :: _,_,_,_,_,h => by cases h
 | [],[],_ :: _,_,_,_,h => by cases h
 | _ :: _,[],_,_,_,_,h => by cases h
 | _ :: _,_ :: _,[],_,_,_,h => by cases h
theorem law_post {f : Func} {s : ChangeSpec} {apart fresh handsOn : Bool} {W W' : World} {args : Array Value} {ds gs : List (DataW H)} {before : List MemPlace} {tb : TypeId}
  (hW : DataW.Whole enc P f.params.toList s.vars apart W args.toList ds gs before) (hv : s.vars = []) (hl : laidOutB P = true)
  (hrB : (f.params.toList.all fun t => P.readableRec t && decide (t < P.types.size)) = true) (hres : f.resultTypes = #[tb]) (htb : P.underlying tb = some .bool)
  (hs : s.fn H ds = { results:=[.lit (.bool true)],args:=ds }) (hb : Below W.heap.size W W') :
  s.post enc P f apart fresh handsOn false W args (.bool true) W':=by
 have hr : ∀ t ∈ f.params.toList,P.readableRec t = true∧t < P.types.size:=fun t ht => by
  have:=List.all_eq_true.1 hrB t ht
  simpa using this
 have hW':=hW
 obtain ⟨p,q,hA,hV,rfl,hfz,hnd⟩:=hW
 rw [hv] at hV
 obtain ⟨rfl,rfl⟩:=trodVars_none hV
 simp only [List.append_nil] at hW'
 have hlt : ∀ x ∈ p,x.block < W.heap.size:=fun x hx => hW'.lt x (by simpa using hx)
 refine ⟨ds,[],p,[],p,[],by simpa using hW',?_,?_,?_,hb.frame _,fun h => by cases h⟩
 ·rw [List.append_nil,hs,hres]
  exact trodAll_mk1 (shut_bool htb true)
 ·rw [List.append_nil,hs]
  exact trodAll_below hl hb _ _ _ _ hr hlt hA
 ·rw [List.append_nil,hs,hv]
  exact rfl
end
end Go.Proofs.YtmbbknjddebhoaaGreatDoor
/- Numbers, hashes and headers that came in, opened. -/
set_option linter.unusedSimpArgs false
set_option linter.unusedVariables false
namespace Go.Proofs.YtmbbknjddebhoaaGreatDoor
open Go.RowKit Go.ChangeShapes Go.WideShapes Go.ChangeAt Go.Deep
theorem cellsByte : Tryz.prog.cellsOf 5 = 1:=by kernel_rfl
theorem word_ofJ {x : Int} (h : 0 ≤ x∧x ≤ 4294967295) : ∃ t : UInt32,x = (t.toNat : Int):=⟨w32 x,w32_of h.1 h.2⟩
theorem byte_ofJ {x : Int} (h : 0 ≤ x∧x ≤ 255) : ∃ t : UInt8,x = (t.toNat : Int):=⟨w8 x,w8_of h.1 h.2⟩
theorem word_openJ {H : Type} {enc : TypeId × Value → H} {w : World} {spare : Nat → Bool} {held : Bool} {fuel : Nat} {cs : List Value} {x : DataW H × List MemPlace}
  (h : DataW.trod enc Tryz.prog w 0 spare held fuel 22 cs = some x) : ∃ t : UInt32,cs = [u32v t]:=by
 obtain ⟨k,ek,_,wk⟩:=DataW.trod_int Tryz.underlying22 h
 obtain ⟨t,rfl⟩:=word_ofJ (x:=k) (by simpa [Lit.wf,IntKind.min,IntKind.max,IntKind.signed,IntKind.bits] using wk)
 exact ⟨t,ek⟩
theorem cellsHeaderJ : Tryz.prog.cellsOf 30 = 68:=by kernel_rfl
theorem cellsHashJ : Tryz.prog.cellsOf 28 = 32:=by kernel_rfl
theorem cellsWordJ : Tryz.prog.cellsOf 22 = 1:=by kernel_rfl
theorem underHashJ : Tryz.prog.underlying 28 = some (.array 32 5):=by kernel_rfl
theorem hash_openJ {H : Type} {enc : TypeId × Value → H} {w : World} {spare : Nat → Bool} {held : Bool} {fuel : Nat} {cs : List Value} {x : DataW H × List MemPlace}
  (h : DataW.trod enc Tryz.prog w 0 spare held fuel 28 cs = some x) : ∃ l : List UInt8,cs = l.map u8v∧l.length = 32:=by
 obtain ⟨xs,m,_,_,h1,h2,h3⟩:=DataW.trod_array underHashJ h
 rw [cellsHashJ] at h1
 obtain ⟨l,rfl,_⟩:=list_choose (f:=u8v) (p:=fun _ => True) cs fun u hu => by
  obtain ⟨i,hi,rfl⟩:=List.mem_iff_getElem.1 hu
  have h4:=h3 i (by omega)
  rw [cellsByte,Nat.mul_one,List.getElem?_eq_getElem (by omega)] at h4
  obtain ⟨k,ek,_,wk⟩:=DataW.trod_int Tryz.underlying5 h4
  obtain ⟨t,rfl⟩:=byte_ofJ (x:=k) (by simpa [Lit.wf,IntKind.min,IntKind.max,IntKind.signed,IntKind.bits] using wk)
  rw [List.drop_eq_getElem_cons hi,List.take_succ_cons,List.take_zero] at ek
  exact ⟨t,(List.cons.inj ek).1,trivial⟩
 exact ⟨l,rfl,by simpa using h1⟩
theorem header_openJ {H : Type} {enc : TypeId × Value → H} {w : World} {spare : Nat → Bool} {held : Bool} {fuel : Nat} {cs : List Value} {x : DataW H × List MemPlace}
  (h : DataW.trod enc Tryz.prog w 0 spare held fuel 30 cs = some x) : ∃ r : Hd,cs = r.cells∧r.ok:=by
 obtain ⟨xs,n,_,_,hl,hx,F⟩:=DataW.trod_struct Tryz.underlying30 h
 rw [cellsHeaderJ] at hl
 have hx' : xs.length = 6:=hx
 have g : ∀ (i : Nat) (hi : i < 6),xs[i]? = some (xs[i]'(by omega)):=fun i hi => List.getElem?_eq_getElem (by omega)
 have f0 : DataW.trod enc Tryz.prog w 0 spare held n 22 ((cs.drop 0).take (Tryz.prog.cellsOf 22)) = some _:=(F 0 _ rfl).trans (g 0 (by omega))
 have f1 : DataW.trod enc Tryz.prog w 0 spare held n 28 ((cs.drop 1).take (Tryz.prog.cellsOf 28)) = some _:=(F 1 _ rfl).trans (g 1 (by omega))
 have f2 : DataW.trod enc Tryz.prog w 0 spare held n 28 ((cs.drop 33).take (Tryz.prog.cellsOf 28)) = some _:=(F 2 _ rfl).trans (g 2 (by omega))
 have f3 : DataW.trod enc Tryz.prog w 0 spare held n 22 ((cs.drop 65).take (Tryz.prog.cellsOf 22)) = some _:=(F 3 _ rfl).trans (g 3 (by omega))
 have f4 : DataW.trod enc Tryz.prog w 0 spare held n 22 ((cs.drop 66).take (Tryz.prog.cellsOf 22)) = some _:=(F 4 _ rfl).trans (g 4 (by omega))
 have f5 : DataW.trod enc Tryz.prog w 0 spare held n 22 ((cs.drop 67).take (Tryz.prog.cellsOf 22)) = some _:=(F 5 _ rfl).trans (g 5 (by omega))
 simp only [cellsWordJ,cellsHashJ] at f0 f1 f2 f3 f4 f5
 obtain ⟨a,ea⟩:=word_openJ f0
 obtain ⟨p,ep,hp⟩:=hash_openJ f1
 obtain ⟨q,eq,hq⟩:=hash_openJ f2
 obtain ⟨t,et⟩:=word_openJ f3
 obtain ⟨b,eb⟩:=word_openJ f4
 obtain ⟨c,ec⟩:=word_openJ f5
 have key : ∀ (l : List Value) (i k : Nat),l.drop i = (l.drop i).take k ++ l.drop (i + k):=fun l i k => by
  have h1:=(List.take_append_drop k (l.drop i)).symm
  rwa [List.drop_drop] at h1
 refine ⟨⟨a,p,q,t,b,c⟩,?_,hp,hq⟩
 have e : cs = cs.drop 0:=rfl
 rw [e,key cs 0 1,ea,key cs (0 + 1) 32,ep,key cs (0 + 1 + 32) 32,eq,key cs (0 + 1 + 32 + 32) 1,et,key cs (0 + 1 + 32 + 32 + 1) 1,eb,key cs (0 + 1 + 32 + 32 + 1 + 1) 1,ec,List.drop_eq_nil_of_le (by omega)]
 simp [Hd.cells]
theorem heads_openJ {H : Type} {enc : TypeId × Value → H} {w : World} {spare : Nat → Bool} {held : Bool} {fuel : Nat} {cs : List Value} {x : DataW H × List MemPlace}
  (h : DataW.trod enc Tryz.prog w 0 spare held fuel 26 cs = some x) :
  ∃ (A : Option Addr) (l : List Hd) (c : Nat),cs = [.slice A l.length c]∧l.length ≤ c∧c ≤ maxLen∧Rd w A (l.flatMap Hd.cells)∧∀ y ∈ l,y.ok:=by
 obtain ⟨A,n,c,Cs,rfl,h1,h2,rfl,h3,h4⟩:=slice_open Tryz.underlying26 cellsHeaderJ (by omega) h
 obtain ⟨l,rfl,hok⟩:=list_choose (f:=Hd.cells) (p:=Hd.ok) Cs fun y hy => by
  obtain ⟨_,m,z,hz⟩:=h4 y hy
  exact header_openJ hz
 refine ⟨A,l,c,by simp,by simpa using h1,h2,?_,hok⟩
 rwa [← List.flatMap_def] at h3
theorem hda_of {r : Hd} {cs : Array Value} (ho : r.ok) (h : cs.toList = r.cells) : HdA r cs:=by
 have e : cs = r.cells.toArray:=by rw [← h]
 rw [e];exact HdA.of ho
end Go.Proofs.YtmbbknjddebhoaaGreatDoor
/- Headers, sums and rules that came in, opened; what the laid tables give (JrnZ without the disk). -/
set_option linter.unusedSimpArgs false
set_option linter.unusedVariables false
namespace Go.Proofs.YtmbbknjddebhoaaGreatDoor
open Go.RowKit Go.ChangeShapes Go.WideShapes Go.ChangeAt Go.Deep
theorem gK : Tryz.prog.globalNamed "florin/sha2.constants" = some 3 := by kernel_rfl
theorem gH : Tryz.prog.globalNamed "florin/sha2.initials" = some 0 := by kernel_rfl
theorem gKT : (Tryz.prog.globals[3]?).map (·.type) = some 152:=by kernel_rfl
theorem gHT : (Tryz.prog.globals[0]?).map (·.type) = some 104:=by kernel_rfl
theorem cellsK : Tryz.prog.cellsOf 152 = 64:=by kernel_rfl
theorem cells8 : Tryz.prog.cellsOf 104 = 8:=by kernel_rfl
theorem tab_cell {W : World} {name : String} {l : List UInt32} {g : Nat} (h : Lib.TabIs Tryz.prog W name .u32 (l.map fun y => (y.toNat : Int))) (hg : Tryz.prog.globalNamed name = some g) (i : Nat) (y : UInt32) (hy : l[i]? = some y) :
  W.cell? ⟨g,i,none⟩ = some (u32v y):=by
 have hi : i < l.length:=(List.getElem?_eq_some_iff.1 hy).1
 have h1:=h.cell hg i (by rw [List.length_map];exact hi)
 rw [h1,List.getD_eq_getElem?_getD,List.getElem?_map,hy]
 rfl
theorem tab_tail {x : String × DataW Unit} {rest : List (String × DataW Unit)} {W : World} (h : laidMet Tryz.prog (x :: rest) W) : ∃ ps,DataW.LaidVars Tryz.prog W rest ps:=by
 obtain ⟨ps,⟨_,_,_,_,_,q,_,_,_,_,hq,_⟩,_⟩:=h
 exact ⟨q,hq⟩
theorem laid_eqK {H : Type} : (Rows.laid_florin_sha2_constants : DataW H) = Lib.tabData .u32 (kTab.map fun y => (y.toNat : Int)):=by kernel_rfl
theorem laid_eqH {H : Type} : (Rows.laid_florin_sha2_initials : DataW H) = Lib.tabData .u32 (hTab.map fun y => (y.toNat : Int)):=by kernel_rfl
theorem sha_ok {W : World} (h : laidMet Tryz.prog [("florin/sha2.constants", Rows.laid_florin_sha2_constants), ("florin/sha2.initials", Rows.laid_florin_sha2_initials)] W) : ShaOk W := by
 rw [laid_eqK,laid_eqH] at h
 have hK:=Lib.tabIs_of_head gK gKT Tryz.underlying152 Tryz.underlying22 cellsWordJ cellsK h
 have hH : Lib.TabIs Tryz.prog W "florin/sha2.initials" .u32 (hTab.map fun y => (y.toNat : Int)) := by
  obtain ⟨qs,g',t',cs,fuel,p,q,hg',ht',hvar,hd,_,_⟩:=tab_tail h
  obtain rfl:=Option.some.inj (gH.symm.trans hg')
  obtain rfl:=Option.some.inj (gHT.symm.trans ht')
  unfold Lib.TabIs
  rw [hvar,← Lib.cells_of_tab Tryz.underlying104 Tryz.underlying22 cellsWordJ cells8 hd]
 exact ⟨fun i y hy => tab_cell hK gK i y hy,fun i y hy => tab_cell hH gH i y hy⟩
def layTab (g : Nat) (cs : Array Value) (h : Array Obj) : Array Obj:=h.modify g fun
 | .cells _ t frozen => .cells cs t frozen
 | o => o
noncomputable def laidWorld (os : Os) : World :=
 { World.holding Tryz.prog os ⟨#[],#[],[]⟩ with heap:=layTab 0 (hTab.map u32v).toArray (layTab 3 (kTab.map u32v).toArray (World.holding Tryz.prog os ⟨#[],#[],[]⟩).heap) }
theorem cellsCheckJ : Tryz.prog.cellsOf 46 = 33:=by kernel_rfl
theorem cellsIntJ : Tryz.prog.cellsOf 3 = 1:=by kernel_rfl
theorem check_openJ {H : Type} {enc : TypeId × Value → H} {w : World} {spare : Nat → Bool} {held : Bool} {fuel : Nat} {cs : List Value} {x : DataW H × List MemPlace}
  (h : DataW.trod enc Tryz.prog w 0 spare held fuel 46 cs = some x) : ∃ r : Int × List UInt8,cs = chkC r∧r.2.length = 32:=by
 obtain ⟨xs,n,_,_,hl,hx,F⟩:=DataW.trod_struct Tryz.underlying46 h
 rw [cellsCheckJ] at hl
 have hx' : xs.length = 2:=hx
 have g : ∀ (i : Nat) (hi : i < 2),xs[i]? = some (xs[i]'(by omega)):=fun i hi => List.getElem?_eq_getElem (by omega)
 have f0 : DataW.trod enc Tryz.prog w 0 spare held n 3 ((cs.drop 0).take (Tryz.prog.cellsOf 3)) = some _:=(F 0 _ rfl).trans (g 0 (by omega))
 have f1 : DataW.trod enc Tryz.prog w 0 spare held n 28 ((cs.drop 1).take (Tryz.prog.cellsOf 28)) = some _:=(F 1 _ rfl).trans (g 1 (by omega))
 simp only [cellsIntJ,cellsHashJ] at f0 f1
 obtain ⟨k,ek,_,_⟩:=DataW.trod_int Tryz.underlying3 f0
 obtain ⟨p,ep,hp⟩:=hash_openJ f1
 have key : ∀ (l : List Value) (i k : Nat),l.drop i = (l.drop i).take k ++ l.drop (i + k):=fun l i k => by
  have h1:=(List.take_append_drop k (l.drop i)).symm
  rwa [List.drop_drop] at h1
 refine ⟨⟨k,p⟩,?_,hp⟩
 have e : cs = cs.drop 0:=rfl
 rw [e,key cs 0 1,ek,key cs (0 + 1) 32,ep,List.drop_eq_nil_of_le (by omega)]
 simp [chkC]
theorem checks_openJ {H : Type} {enc : TypeId × Value → H} {w : World} {spare : Nat → Bool} {held : Bool} {fuel : Nat} {cs : List Value} {x : DataW H × List MemPlace}
  (h : DataW.trod enc Tryz.prog w 0 spare held fuel 23 cs = some x) :
  ∃ (A : Option Addr) (l : List (Int × List UInt8)) (c : Nat),cs = [.slice A l.length c]∧Rd w A (l.flatMap chkC)∧∀ y ∈ l,y.2.length = 32:=by
 obtain ⟨A,n,c,Cs,rfl,h1,h2,rfl,h3,h4⟩:=slice_open Tryz.underlying23 cellsCheckJ (by omega) h
 obtain ⟨l,rfl,hok⟩:=list_choose (f:=chkC) (p:=fun r => r.2.length = 32) Cs fun y hy => by
  obtain ⟨_,m,z,hz⟩:=h4 y hy
  exact check_openJ hz
 refine ⟨A,l,c,by simp,?_,hok⟩
 rwa [← List.flatMap_def] at h3
theorem params_openJ {H : Type} {enc : TypeId × Value → H} {w : World} {spare : Nat → Bool} {held : Bool} {fuel : Nat} {cs : List Value} {x : DataW H × List MemPlace}
  (h : DataW.trod enc Tryz.prog w 0 spare held fuel 25 cs = some x) (hl : cs.length = 7) :
  ∃ (p : Par) (A : Option Addr) (c : Nat),Value.agg cs.toArray = parV p A c∧Rd w A (p.chks.flatMap chkC)∧∀ y ∈ p.chks,y.2.length = 32:=by
 have F:=fields_open Tryz.underlying25 (by kernel_rfl) h hl
 match cs,hl with
 | [c0,c1,c2,c3,c4,c5,c6],_ =>
   obtain ⟨v0,m0,y0,e0,t0⟩:=F 0 _ rfl
   obtain ⟨v1,m1,y1,e1,t1⟩:=F 1 _ rfl
   obtain ⟨v2,m2,y2,e2,t2⟩:=F 2 _ rfl
   obtain ⟨v3,m3,y3,e3,t3⟩:=F 3 _ rfl
   obtain ⟨v4,m4,y4,e4,t4⟩:=F 4 _ rfl
   obtain ⟨v5,m5,y5,e5,t5⟩:=F 5 _ rfl
   obtain ⟨v6,m6,y6,e6,t6⟩:=F 6 _ rfl
   simp only [List.getElem?_cons_zero,List.getElem?_cons_succ,Option.some.injEq] at e0 e1 e2 e3 e4 e5 e6
   subst e0 e1 e2 e3 e4 e5 e6
   obtain ⟨a,ea⟩:=word_openJ t0
   obtain ⟨k1,ek1,_,_⟩:=DataW.trod_int Tryz.underlying3 t1
   obtain ⟨k2,ek2,_,_⟩:=DataW.trod_int Tryz.underlying3 t2
   obtain ⟨k3,ek3,_,_⟩:=DataW.trod_int Tryz.underlying3 t3
   obtain ⟨k4,ek4,_,_⟩:=DataW.trod_int Tryz.underlying3 t4
   obtain ⟨k5,ek5,_,_⟩:=DataW.trod_int Tryz.underlying3 t5
   obtain ⟨A,l,c,ed,hr,ho⟩:=checks_openJ t6
   simp only [List.cons.injEq,and_true] at ea ek1 ek2 ek3 ek4 ek5 ed
   subst ea ek1 ek2 ek3 ek4 ek5 ed
   exact ⟨⟨a,k1,k2,k3,k4,k5,l⟩,A,c,rfl,hr,ho⟩
end Go.Proofs.YtmbbknjddebhoaaGreatDoor
