/- Texts merged by pack.py: Cla, Clb, Tc, Wb. -/
import Derived.Test.YtiagcenlnekdeaaGreatDoorCx24
import Derived.Test.YtiagcenlnekdeaaGreatDoorCx7
import Derived.Test.YtiagcenlnekdeaaGreatDoorCx10
import Derived.Test.YtiagcenlnekdeaaGreatDoorCx6
import Derived.Test.YtiagcenlnekdeaaGreatDoorCx22
import Derived.Shelf.Spec.BitsCarry
set_option maxRecDepth 1000000
set_option maxHeartbeats 16000000
open Go.Proofs.Tryz
open Go.Lib (hid)
set_option linter.unusedSimpArgs false
set_option linter.unusedVariables false
namespace Go.Proofs.YtiagcenlnekdeaaGreatDoor
open Go.RowKit
attribute [local go_sem ↓] Go.wp_at_zero Go.wp_at_succ
noncomputable def nG (t:TypeId):Array Value:=match(prog.info? t).bind (·.zero)with | some (.agg c)=>c | _ => #[]
noncomputable def mX (e:Int) (s l:Value):List Value:=iv e::s::l::(nG 72).toList.drop 3
theorem b2J:(prog.info? 72).map (·.size)=some 101:=by kernel_rfl
theorem b2K (e:Int) (s l:Value):(mX e s l).length=101:=by
 have h:((nG 72).toList.drop 3).length=98:=by kernel_rfl
 simp[mX,h]
theorem b2L : ∀ v∈(nG 72).toList.drop 3,v.oneCell'=true:=by
 have h:((nG 72).toList.drop 3).all (fun v=>v.oneCell')=true:=by kernel_rfl
 exact fun v hv=>List.all_eq_true.1 h v hv
theorem OV (e:Int) (A B:Option Addr) (n c m d:Nat):Bx 72 101 (mX e (.slice A n c) (.slice B m d)) (mX e (.slice A n c) (.slice B m d)).toArray :=
 Bx.of b2J (b2K ..) (by omega) (fun v hv=>by
  unfold mX at hv;simp only[List.mem_cons]at hv;rcases hv with rfl | rfl | rfl | hv
  ·rfl
  ·rfl
  ·rfl
  ·exact b2L v hv)
theorem b2M (w:World):(zeroValue 72).run prog w = .ok (.agg (mX 0 (.slice none 0 0) (.slice none 0 0)).toArray) w:=by kernel_rfl
theorem b2G (e:Int) (A B:Option Addr) (n c m d:Nat):prog.built 72 [(0,iv e),(1,.slice A n c),(2,.slice B m d)]=some (mX e (.slice A n c) (.slice B m d)).toArray:=by kernel_rfl
theorem b2I (e:Int):prog.built 72 [(0,iv e)]=some (mX e (.slice none 0 0) (.slice none 0 0)).toArray:=by kernel_rfl
theorem b2H:prog.built 72 []=some (mX 0 (.slice none 0 0) (.slice none 0 0)).toArray:=by kernel_rfl
theorem Dj : ∃ zs:Array Value,(∀ w,(zeroValue 72).run prog w = .ok (.agg zs) w)∧Bx 72 101 (mX 0 (.slice none 0 0) (.slice none 0 0)) zs:=⟨_,b2M,OV ..⟩
def zZ (w:World) (v:Value):Prop:=v = .pointer none ∨ ∃ X:Nat,v=pT X∧w.cell? ⟨X,79,none⟩=some (.pointer none)
theorem zZ.keep {w w':World} {v:Value} (h:zZ w v) (k:Keep w w'):zZ w' v:=by
 rcases h with h | ⟨X,h1,h2⟩
 ·exact .inl h
 ·exact .inr ⟨X,h1,aC k h2⟩
theorem Dk (v:Value) (w:World) (h:zZ w v):Calls prog 26 #[v] w fun e w'=>e = .returned (.bool true)∧Keep w w':=by
 rcases h with rfl | ⟨X,rfl,hc⟩
 ·go_enter func26,ntmps26
  go_wp2
  exact bodyPost_ret (v:=.bool true) (by simp[results,results26]) rfl ⟨rfl,Below.refl _ _⟩
 ·go_enter func26,ntmps26
  go_wp2
  exact bodyPost_ret (v:=.bool true) (by simp[results,results26]) rfl ⟨rfl,Below.refl _ _⟩
theorem OW (X T:Nat) (w:World) (h:w.cell? ⟨X,79,none⟩=some (pT T)):Calls prog 26 #[pT X] w fun e w'=>e = .returned (.bool false)∧Keep w w':=by
 go_enter func26,ntmps26
 go_wp2
 exact bodyPost_ret (v:=.bool false) (by simp[results,results26]) rfl ⟨rfl,Below.refl _ _⟩
abbrev ns0:Value:=.slice none 0 0
abbrev qV (k p n:Int) (A:Option Addr) (m c:Nat):Value:=.agg #[iv k,iv p,iv n,.slice A m c]
def a7N (w:World) (e:Ending) (w':World):Prop:=∃ vs,e = .returned (.tuple #[.agg vs,.bool false])∧iY nd0 vs∧Keep w w'
theorem XM : ∃ zs:Array Value,(∀ w,(zeroValue 52).run prog w = .ok (.agg zs) w)∧bZ rQ zs∧prog.built 52 []=some zs :=
 ⟨QQ,a7C,by
  have h:=bZ.of rQ
  rwa[←a7B,Array.toArray_toList]at h,by kernel_rfl⟩
section
variable (v:Value) (w:World) (h:zZ w v)
include h
theorem b26:Calls prog 13 #[v] w fun e w'=>e = .returned (iv 0)∧Keep w w':=by
 have D:Hid (∀ y,Keep w y→Calls prog 26 #[v] y fun e w'=>e = .returned (.bool true)∧Keep y w'):=hid fun y k=>Dk v y (h.keep k);clear h;go_enter func13,ntmps13
 go_wp2_with fail
 refine(D.out _ (Below.refl _ _)).mono ?_;rintro e w1 ⟨rfl,k1⟩;go_wp2
 exact bodyPost_ret (v:=iv 0) (by simp[results,results13]) rfl ⟨rfl,k1⟩
theorem b4D:Calls prog 12 #[v] w fun e w'=>e = .returned (ns0)∧Keep w w':=by
 have D:Hid (∀ y,Keep w y→Calls prog 26 #[v] y fun e w'=>e = .returned (.bool true)∧Keep y w'):=hid fun y k=>Dk v y (h.keep k);clear h;go_enter func12,ntmps12
 go_wp2_with fail
 refine(D.out _ (Below.refl _ _)).mono ?_;rintro e w1 ⟨rfl,k1⟩;go_wp2
 exact bodyPost_ret (v:=ns0) (by simp[results,results12]) rfl ⟨rfl,k1⟩
theorem b2X:Calls prog 14 #[v] w fun e w' => ∃ vs,e = .returned (.agg vs)∧vs.toList=[ns0,ns0]∧Keep w w':=by
 have D:Hid (∀ y,Keep w y→Calls prog 26 #[v] y fun e w'=>e = .returned (.bool true)∧Keep y w'):=hid fun y k=>Dk v y (h.keep k);clear h;obtain⟨vs,HV,hvb⟩ : ∃ vs,Hid (Bx 43 2 [ns0,ns0] vs)∧prog.built 43 []=some vs:=⟨_,hid (Bx.of (by kernel_rfl) rfl (by omega) (by intro u hu;simp only[List.mem_cons,List.not_mem_nil,or_false]at hu;rcases hu with rfl | rfl <;> rfl)),by kernel_rfl⟩
 have hvn:=HV.out.n;have fF:=HV.out.z;have jk:=HV.out.i
 go_enter func14,ntmps14
 go_upto_region 1 with fail
 obtain⟨w1,hw1,HB1,ai,-⟩:=mW w 43 [ns0,ns0];rw[←hw1];clear hw1;go_wp2_with fail
 refine(D.out _ ai.out).mono ?_;rintro e w2 ⟨rfl,k2⟩;obtain⟨w3,hst,hb,hg⟩:=bn (P:=prog) vs.toList (HB1.out.keep k2) (by simp[fF]) HV.out.o;have aA:Hid (Keep w w3):=hid (aK (af ai.out k2) hg (by omega));have HB3:=hid hb;clear hb hg k2 HB1 ai D;go_wp2_with ((with_reducible refine kT [] vs (Eq.trans ?_ rfl) hvb ?_);rfl)
 exact bodyPost_ret (v:=.agg vs) (gJ results14 HB3.out underlying43 jk rfl rfl) rfl ⟨vs,rfl,HV.out.l,aA.out⟩
theorem c0Y:Calls prog 15 #[v] w fun e w' => ∃ vs,e = .returned (.agg vs)∧vs.toList=[ns0,ns0,ns0]∧Keep w w':=by
 have D:Hid (∀ y,Keep w y→Calls prog 26 #[v] y fun e w'=>e = .returned (.bool true)∧Keep y w'):=hid fun y k=>Dk v y (h.keep k);clear h;obtain⟨vs,HV,hvb⟩ : ∃ vs,Hid (Bx 61 3 [ns0,ns0,ns0] vs)∧prog.built 61 []=some vs:=⟨_,hid (Bx.of (by kernel_rfl) rfl (by omega) (by intro u hu;simp only[List.mem_cons,List.not_mem_nil,or_false]at hu;rcases hu with rfl | rfl | rfl <;> rfl)),by kernel_rfl⟩
 have hvn:=HV.out.n;have fF:=HV.out.z;have jk:=HV.out.i
 go_enter func15,ntmps15
 go_upto_region 1 with fail
 obtain⟨w1,hw1,HB1,ai,-⟩:=mW w 61 [ns0,ns0,ns0];rw[←hw1];clear hw1;go_wp2_with fail
 refine(D.out _ ai.out).mono ?_;rintro e w2 ⟨rfl,k2⟩;obtain⟨w3,hst,hb,hg⟩:=bn (P:=prog) vs.toList (HB1.out.keep k2) (by simp[fF]) HV.out.o;have aA:Hid (Keep w w3):=hid (aK (af ai.out k2) hg (by omega));have HB3:=hid hb;clear hb hg k2 HB1 ai D;go_wp2_with ((with_reducible refine kT [] vs (Eq.trans ?_ rfl) hvb ?_);rfl)
 exact bodyPost_ret (v:=.agg vs) (gJ results15 HB3.out underlying61 jk rfl rfl) rfl ⟨vs,rfl,HV.out.l,aA.out⟩
theorem c0l:Calls prog 10 #[v] w fun e w'=>a7N w e w':=by
 have D:Hid (∀ y,Keep w y→Calls prog 26 #[v] y fun e w'=>e = .returned (.bool true)∧Keep y w'):=hid fun y k=>Dk v y (h.keep k);clear h;obtain⟨zs,hz1,hz2,hzn,jb,nZ⟩:=yC;have aU:iY nd0 zs:=⟨jb.out,hz1,by rw[hz1];exact WB,hzn,by rw[jb.out];exact Nd.one _⟩
 have HZ:=hid aU;have hzn:=aU.n;have hzz:=aU.z
 clear aU;obtain⟨vs,hvA,hvb⟩ : ∃ vs,iY nd0 vs∧prog.built 81 []=some vs:=⟨_,HZ.out,nZ.out⟩
 have HV:=hid hvA;have hvn:=hvA.n;have fF:=hvA.z;have jk:=hvA.i
 clear hvA;go_enter func10,ntmps10
 go_upto_region 1 with fail
 obtain⟨w0,hw0⟩ : ∃ y,y=w:=⟨_,rfl⟩
 have qw:Hid (Keep w w0):=by rw[hw0];exact hid (Below.refl _ _)
 have hsz:w0.heap.size=w.heap.size:=by rw[hw0]
 obtain⟨w1,hw1⟩ : ∃ w1,w1=w0.alloc (.cells zs 81):=⟨_,rfl⟩
 rw[←hsz];rw[←hw0];clear hw0 hsz;have HB1:Hid (ae w1 w0.heap.size 81 zs.toList):=by rw[hw1];exact hid (ae.new w0 _ zs.toList)
 have ai:Hid (Keep w w1):=by rw[hw1];exact hid (af qw.out (aB _ _))
 rw[←hw1];clear hw1;go_wp2_with fail
 refine(D.out _ ai.out).mono ?_;rintro e w2 ⟨rfl,k2⟩;obtain⟨w3,hst,hb,hg⟩:=bn (P:=prog) vs.toList (HB1.out.keep k2) (by rw[Array.length_toList,Array.length_toList,hzz,fF]) HV.out.o;have aA:Hid (Keep w w3):=hid ((af ai.out k2).grown hg (af ai.out k2).size (fun q hq=>by injection hq with hq;have:=qw.out.size;omega));have HB3:=hid hb;clear hb hg k2 HB1 ai D;go_wp2_with ((with_reducible refine kT [] vs (Eq.trans ?_ rfl) hvb ?_);rfl)
 exact bodyPost_ret (v:=.tuple #[.agg vs,.bool false]) (lq results10 HB3.out underlying81 jk rfl rfl) rfl ⟨vs,rfl,HV.out,aA.out⟩
theorem b9N (k p n:Int) (A:Option Addr) (m c:Nat):Calls prog 8 #[v,qV k p n A m c] w fun e w' => ∃ vs,e = .returned (.agg vs)∧Bx 72 101 (mX 15 ns0 ns0) vs∧Keep w w':=by
 have D:Hid (∀ y,Keep w y→Calls prog 26 #[v] y fun e w'=>e = .returned (.bool true)∧Keep y w'):=hid fun y k=>Dk v y (h.keep k);clear h;obtain⟨zs,hz0,aU⟩:=Dj;have HZ:=hid aU;have hzn:=aU.n;have hzz:=aU.z
 clear aU;obtain⟨vs,hvA,hvb⟩ : ∃ vs,Bx 72 101 (mX 15 ns0 ns0) vs∧prog.built 72 [(0,iv 15)]=some vs:=⟨_,OV ..,b2I 15⟩
 have HV:=hid hvA;have hvn:=hvA.n;have fF:=hvA.z;have jk:=hvA.i
 clear hvA;go_enter func8,ntmps8
 go_upto_region 1 with fail
 obtain⟨w0,hw0⟩ : ∃ y,y=w.alloc (.cells #[iv k,iv p,iv n,.slice A m c] 74):=⟨_,rfl⟩
 have qw:Hid (Keep w w0):=by rw[hw0];exact hid (aB _ _)
 have hsz:w0.heap.size=w.heap.size+1:=by rw[hw0];simp
 obtain⟨w1,hw1⟩ : ∃ w1,w1=w0.alloc (.cells zs 72):=⟨_,rfl⟩
 rw[←hw0,←hsz];clear hw0 hsz;have HB1:Hid (ae w1 w0.heap.size 72 zs.toList):=by rw[hw1];exact hid (ae.new w0 _ zs.toList)
 have ai:Hid (Keep w w1):=by rw[hw1];exact hid (af qw.out (aB _ _))
 rw[←hw1];clear hw1;go_wp2_with fail
 refine(D.out _ ai.out).mono ?_;rintro e w2 ⟨rfl,k2⟩;obtain⟨w3,hst,hb,hg⟩:=bn (P:=prog) vs.toList (HB1.out.keep k2) (by rw[Array.length_toList,Array.length_toList,hzz,fF]) HV.out.o;have aA:Hid (Keep w w3):=hid ((af ai.out k2).grown hg (af ai.out k2).size (fun q hq=>by injection hq with hq;have:=qw.out.size;omega));have HB3:=hid hb;clear hb hg k2 HB1 ai D;go_wp2_with ((with_reducible refine kT [(0,iv 15)] vs (Eq.trans ?_ rfl) hvb ?_);rfl)
 exact bodyPost_ret (v:=.agg vs) (gJ results8 HB3.out underlying72 jk rfl rfl) rfl ⟨vs,rfl,HV.out,aA.out⟩
theorem b8f (i:Int):Calls prog 11 #[v,iv i] w fun e w' => ∃ vs,e = .returned (.tuple #[.agg vs,.bool false])∧bZ rQ vs∧Keep w w':=by
 have D:Hid (∀ y,Keep w y→Calls prog 26 #[v] y fun e w'=>e = .returned (.bool true)∧Keep y w'):=hid fun y k=>Dk v y (h.keep k);clear h;obtain⟨zs,hz0,aU,hzb⟩:=XM;have HZ:=hid aU;have hzn:=aU.n;have hzz:=aU.z
 clear aU;obtain⟨vs,hvA,hvb⟩ : ∃ vs,bZ rQ vs∧prog.built 52 []=some vs:=⟨_,HZ.out,hzb⟩
 have HV:=hid hvA;have hvn:=hvA.n;have fF:=hvA.z;have jk:=hvA.i
 clear hvA;go_enter func11,ntmps11
 go_upto_region 1 with fail
 obtain⟨w0,hw0⟩ : ∃ y,y=w:=⟨_,rfl⟩
 have qw:Hid (Keep w w0):=by rw[hw0];exact hid (Below.refl _ _)
 have hsz:w0.heap.size=w.heap.size:=by rw[hw0]
 obtain⟨w1,hw1⟩ : ∃ w1,w1=w0.alloc (.cells zs 52):=⟨_,rfl⟩
 rw[←hsz];rw[←hw0];clear hw0 hsz;have HB1:Hid (ae w1 w0.heap.size 52 zs.toList):=by rw[hw1];exact hid (ae.new w0 _ zs.toList)
 have ai:Hid (Keep w w1):=by rw[hw1];exact hid (af qw.out (aB _ _))
 rw[←hw1];clear hw1;go_wp2_with fail
 refine(D.out _ ai.out).mono ?_;rintro e w2 ⟨rfl,k2⟩;obtain⟨w3,hst,hb,hg⟩:=bn (P:=prog) vs.toList (HB1.out.keep k2) (by rw[Array.length_toList,Array.length_toList,hzz,fF]) HV.out.o;have aA:Hid (Keep w w3):=hid ((af ai.out k2).grown hg (af ai.out k2).size (fun q hq=>by injection hq with hq;have:=qw.out.size;omega));have HB3:=hid hb;clear hb hg k2 HB1 ai D;go_wp2_with ((with_reducible refine kT [] vs (Eq.trans ?_ rfl) hvb ?_);rfl)
 exact bodyPost_ret (v:=.tuple #[.agg vs,.bool false]) (lq results11 HB3.out underlying52 jk rfl rfl) rfl ⟨vs,rfl,HV.out,aA.out⟩
end
theorem Ed {n:Nd} (h:n.ok) (j:Nat):n.cells[100+j]?=(Value.int .i64 n.par::Value.int .i64 n.hgt::uL n.work)[j]?:=by
 have e:n.cells=(n.id.map ah++n.head.cells)++(Value.int .i64 n.par::Value.int .i64 n.hgt::uL n.work):=by simp[Nd.cells]
 have hl:(n.id.map ah++n.head.cells).length=100:=by simp[h.1,Hd.len h.2.1]
 rw[e,List.getElem?_append_right (by omega),hl,Nat.add_sub_cancel_left]
theorem b7n {n:Nd} (h:n.ok):n.cells[100]?=some (.int .i64 n.par):=Ed h 0
theorem Ls {n:Nd} (h:n.ok):n.cells[101]?=some (.int .i64 n.hgt):=Ed h 1
theorem V3:dL prog 68 3 (.int .i64 0) 1 8:=dL.mk' underlying68 (by kernel_rfl) rfl (by omega)
def MS (n:Nat):Array Value:=madeCells #[.int .i64 0] (n*1)
theorem c1I (n:Nat):(MS n).toList=List.replicate n (.int .i64 0):=by
 apply List.ext_getElem
 ·simp[MS,madeCells]
 ·intro i h1 h2
  simp[MS,madeCells,Nat.mod_one]
theorem b7f (k:Nat) (hk:k≤2000000) (W:World) : ∃ W',(∀ i:Int,i=k→(Instr.makeSlice 68 (.int .i64 i) (.int .i64 i)).run prog W = .ok (.slice (some ⟨W.heap.size,0,none⟩) k k) W') ∧
  ae W' W.heap.size 3 (List.replicate k (.int .i64 0))∧Keep W W'∧W'.heap.size=W.heap.size+1:=by
 refine⟨W.alloc (.cells (MS k) 3),fun i hi=>?_,?_,aB _ _,by simp⟩
 ·subst hi;rw[V3.make k k (Nat.le_refl _) (by omega) (by omega) W];rfl
 ·rw[←c1I];exact ae.new W _ (MS k).toList
def uH (l:List Nat):List Value:=l.map fun(k:Nat) => .int .i64 (k:Int)
theorem Gv (l:List Nat):(uH l).length=l.length:=by simp[uH]
def uV (l:List Nat) (k:Nat):List Value:=List.replicate k (.int .i64 0)++uH (l.drop k)
theorem c1R (l:List Nat) {k:Nat} (h:k≤l.length):(uV l k).length=l.length:=by simp[uV,Gv];omega
theorem c1S (l:List Nat) {k x:Nat} (h:l[k]?=some x):(uV l (k+1)).set k (.int .i64 (x:Int))=uV l k:=by
 have hk:=(List.getElem?_eq_some_iff.1 h).1;have hx:=(List.getElem?_eq_some_iff.1 h).2;unfold uV;rw[List.replicate_succ',List.append_assoc,List.set_append_right _ _ (by simp),List.length_replicate,Nat.sub_self,List.drop_eq_getElem_cons hk,hx];simp[uH]
theorem c1T (l:List Nat):uV l l.length=List.replicate l.length (.int .i64 0):=by simp[uV,uH]
theorem c1V (l:List Nat):uV l 0=uH l:=by simp[uV]
def jW (ns:List Nd) (i:Int):List Nat:=if 0≤i∧i.toNat<ns.length then qh ns i.toNat else[]
theorem Gs {ns:List Nd} (hk : ∀ n∈ns,n.ok) (i:Int):((fD ns i).getD nd0).ok:=by
 unfold fD
 split
 ·cases h:ns[i.toNat]? with
  | none=>exact a4Y
  | some n=>exact hk n (List.mem_of_getElem? h)
 ·exact a4Y
theorem b78 {w:World} {A:Option Addr} {ns:List Nd} (hr:Rd w A (ns.flatMap Nd.cells)) (hk : ∀ n∈ns,n.ok) {k:Nat} (h:k<ns.length) :
  ∃ b off,A=some ⟨b,off,none⟩∧b<w.heap.size∧w.cell? ⟨b,off+k*106+100,none⟩=some (.int .i64 (qR ns k))∧w.cell? ⟨b,off+k*106+101,none⟩=some (.int .i64 (lM ns k:Int)):=by
 obtain⟨b,off,h1,hb,h2⟩:=P7 hr hk h;have ok:=hk _ (List.getElem_mem h);have e:=List.getElem?_eq_getElem h;refine⟨b,off,h1,hb,?_,?_⟩
 ·rw[a5H e];exact h2 100 _ (b7n ok)
 ·rw[Bd e];exact h2 101 _ (Ls ok)
def Ox (B:Nat) (ys:List Nat) (w:World) (e:Ending) (w':World):Prop:=∃ v,e = .returned v∧w'.ownsRow B 3 1 v ys.length (uH ys)∧Keep w w'
theorem b6S (T:Nat) (ns:List Nd) (i:Int) (w:World) (h:vV w T ns) (dV:Tr ns) (hl:ns.length≤1048576) (hi : -9223372036854775808≤i∧i≤9223372036854775807) :
  Calls prog 126 #[pT T,iv i] w (Ox w.heap.size (jW ns i) w):=by
 have N1:Hid (∀ y,Keep w y→Calls prog 28 #[pT T,iv i] y fun e w' => ∃ ds,e = .returned (.tuple #[.agg ds,.bool (fD ns i).isSome])∧iY ((fD ns i).getD nd0) ds∧Keep y w'):=hid fun y hy=>LD T ns i y (h.keep hy) dV.ok hl hi;obtain⟨most,A,c,M,hb,hr,-,-,-⟩:=h;have Uf:Hid (∀ k,k<ns.length → ∃ b off,A=some ⟨b,off,none⟩∧b<w.heap.size∧w.cell? ⟨b,off+k*106+100,none⟩=some (.int .i64 (qR ns k))∧w.cell? ⟨b,off+k*106+101,none⟩=some (.int .i64 (lM ns k:Int))):=hid fun k hk=>b78 hr dV.ok hk;have qx:=hid (Gs dV.ok i)
 have IJ:Hid (fD ns i=none→jW ns i=[]):=hid fun e=>by
  unfold fD at e;unfold jW;rw[if_neg];rintro ⟨a,b⟩;rw[if_pos a,List.getElem?_eq_none_iff]at e;omega
 have IK:Hid (∀ x,fD ns i=some x → ∃ k:Nat,i=k∧k<ns.length∧jW ns i=qh ns k∧lM ns k=x.hgt):=hid fun x e=>by
  unfold fD at e;by_cases h0:0≤i
  ·rw[if_pos h0]at e
   have hlt:=(List.getElem?_eq_some_iff.1 e).1;exact⟨i.toNat,by omega,hlt,by unfold jW;rw[if_pos ⟨h0,hlt⟩],Bd e⟩
  ·rw[if_neg h0]at e;cases e
 have HB:=hid hb;have HK:Hid (Keep w w):=hid (Below.refl _ _);have c2Z:T<w.heap.size:=hb.lt;clear hb hr;obtain⟨zs,hz1,hz2,hz3,-,-⟩:=yC;obtain⟨O,hO⟩ : ∃ O,fD ns i=O:=⟨_,rfl⟩
 rw[hO]at N1 qx IJ IK;clear hO;obtain⟨LO,hLO⟩ : ∃ LO,jW ns i=LO:=⟨_,rfl⟩
 rw[hLO]at IJ IK ⊢;clear hLO;generalize hn:ns.length=n at *;unfold Ox;go_enter func126,ntmps126
 go_wp2_with fail
 refine(N1.out _ HK.out).mono ?_;clear N1;rintro e w1 ⟨ds,rfl,hds,k1⟩;have HB1:=hid (HB.out.keep k1);have ai:=hid (af HK.out k1);clear k1 HB HK;have Kt:=hds.z;have a3b:=hds.n;have Kr:=hds.i
 have b5E:=fK w1 81 Kr (hz1.trans Kt.symm) hds.o;have dZ:=hid hds;clear hds;go_upto_region 2 with fail
 obtain⟨w2,hw2,Y6,-,-⟩:=di w1 81 ds;have HB2:Hid (ae w2 T 142 [.int .i64 most,.slice A n c,.map (some M)]):=by rw[hw2];exact hid (HB1.out.alloc _)
 have ay:Hid (Keep w w2):=by rw[hw2];exact hid (af ai.out (aB _ _))
 rw[←hw2];have b4U:w.heap.size≤w1.heap.size:=ai.out.size;have c3B:=HB1.out.lt;clear hw2 HB1 ai;generalize w1.heap.size=gn at *;clear b5E;have hgn:w.heap.size≤gn:=b4U
 cases O with
 | none =>
   have hL:=IJ.out rfl;subst hL;clear IJ IK Uf qx dZ;go_wp2
   exact bodyPost_ret (v:=.slice none 0 0) (by simp[results,results126]) rfl ⟨_,rfl,World.ownsRow_nil _ _ _ _,ay.out⟩
 | some x =>
 obtain⟨k,rfl,hkn,rfl,hkx⟩:=IK.out x rfl;have hle:=dV.le k (by omega);have OT:w2.cell? ⟨gn,101,none⟩=some (.int .i64 (x.hgt:Int)):=(Y6.out.cell 101).trans (by rw[dZ.out.l];exact Ls qx.out);rw[←hkx]at OT;obtain⟨hh,VF⟩ : ∃ hh,lM ns k=hh:=⟨_,rfl⟩
 rw[VF]at OT hle;have hw1:IntKind.i64.wrap ((hh:Int)+1)=(hh:Int)+1:=IntWalk.i64_in _ (by omega);obtain⟨wm,hmk,hbm,km,hsz⟩:=b7f (hh+1) (by omega) w2;have DT:=hmk ((hh:Int)+1) (by omega);have EG:=hid hbm;have Zg:=hid (af ay.out km);have YU:=hid (HB2.out.keep km);have b1S:wm.cell? ⟨gn,101,none⟩=some (.int .i64 (hh:Int)):=aC km OT;have hgm:w.heap.size≤w2.heap.size:=ay.out.size;have c2Y:T<w2.heap.size:=HB2.out.lt;have c2X:T≠w2.heap.size:=by omega
 have hll:(qh ns k).length=hh+1:=by rw[a4F,VF]
 clear IJ IK hbm hmk km hsz qx dZ;go_wp2_with fail
 clear OT b1S DT Y6 HB2 ay;generalize w2.heap.size=FY at *
 go_loopw [1,8] (fun b6c kv wr => ∃ j:Nat,j≤hh+1∧kv = .int .i64 ((j:Int) - 1)∧(j=0 ∨ ∃ q:Nat,b6c = .int .i64 (q:Int)∧q=uQ ns k (hh+1 - j))∧Hid (ae wr FY 3 (uV (qh ns k) j))∧Hid (ae wr T 142 [.int .i64 most,.slice A n c,.map (some M)])∧Hid (Keep w wr)) (fun _ kv _=>(intOf kv+1).toNat)
 case atStart=>exact⟨hh+1,Nat.le_refl _,by go_num,Or.inr ⟨k,rfl,by rw[Nat.sub_self];rfl⟩,by rw[←hll,c1T,hll];exact EG,YU,Zg⟩
 case round =>
  obtain⟨j,hj,rfl,hq,HP,HT,bg⟩:=hrel;by_cases h0:j=0
  ·subst h0
   have d0 : ¬ (0:Int)≤((0:Nat):Int) - 1:=by omega
   have hP:=HP.out;rw[c1V]at hP
   have hown:wr.ownsRow w.heap.size 3 1 (.slice (some ⟨FY,0,none⟩) (hh+1) (hh+1)) (qh ns k).length (uH (qh ns k)):=by
    rw[hll];refine⟨by rw[Gv,hll];omega,.inr ⟨FY,hh+1,(uH (qh ns k)).toArray,rfl,hgm,hP,Nat.le_refl _,by unfold maxLen;omega,by rw[List.size_toArray,Gv,hll];omega,?_⟩⟩;rw[List.take_of_length_le (by rw[Gv,hll];omega)]
   have HOWN:=hid hown;clear hll hown hP HP Uf hq EG YU Zg;go_wp2
   exact bodyPost_ret (v:=.slice (some ⟨FY,0,none⟩) (hh+1) (hh+1)) (by simp[results,results126]) rfl ⟨_,rfl,HOWN.out,bg.out⟩
  ·obtain⟨j,rfl⟩ : ∃ j',j=j'+1:=⟨j - 1,by omega⟩
   obtain⟨q,hqe,PI⟩:=hq.resolve_left h0;subst hqe;have hup:=dV.Xw (by omega:k<ns.length) (hh+1 - (j+1)) (by omega);rw[←PI]at hup;obtain⟨b,off,rfl,hbw,hp,-⟩:=Uf.out q (by omega);have hcell:=HP.out.cell j;have b5l:=c1R (qh ns k) (k:=j+1) (by omega);have b43 : ∃ v,(uV (qh ns k) (j+1))[j]?=some v:=⟨_,List.getElem?_eq_getElem (by omega)⟩
   obtain⟨v0,hv0⟩:=b43;rw[hv0]at hcell;have hfr:=HP.out.frozen j
   have hlat:(qh ns k)[j]?=some q:=by
    rw[b6T (by omega),VF,PI]
    congr 2;omega
   have ZE:=hid PI;clear PI;have d0:(0:Int)≤((j+1:Nat):Int) - 1:=by omega
   have d1:((j+1:Nat):Int) - 1=(j:Int):=by omega
   have d2:(j:Int)<(hh:Int)+1:=by omega
   have d3:(q:Int)<n:=by omega
   obtain⟨w3,hw3⟩ : ∃ w3,w3=wr.setCell ⟨FY,j,none⟩ (.int .i64 (q:Int)):=⟨_,rfl⟩
   have fZ:Hid (ae w3 FY 3 (uV (qh ns k) j)):=by
    rw[hw3];have h1:=HP.out.az j (.int .i64 (q:Int));rw[c1S _ hlat]at h1;exact h1
   have HT3:Hid (ae w3 T 142 [.int .i64 most,.slice (some ⟨b,off,none⟩) n c,.map (some M)]):=by rw[hw3];exact HT.out.far (by simp;omega) _
   have aA:Hid (Keep w w3):=by rw[hw3];exact Below.setCell bg.out (by simp;omega) _
   go_upto_region 9 with fail
   rw[←hw3];clear hw3 hcell hfr HP HT bg;have hp3:=aC aA.out hp;have ct:=HT3.out.cell 1;simp only[List.getElem?_cons_succ,List.getElem?_cons_zero]at ct
   have hnext:j=0 ∨ ∃ q':Nat,(Value.int .i64 (qR ns q)) = .int .i64 (q':Int)∧q'=uQ ns k (hh+1 - j):=by
    by_cases hj0:j=0
    ·exact .inl hj0
    ·refine .inr ⟨(qR ns q).toNat,?_,?_⟩
     ·have:=(dV.par ((dV.pos (by omega)).1 (by omega)) (by omega:q<ns.length)).2.1
      rw[←this]
     ·rw[ZE.out,show hh+1 - j=(hh+1 - (j+1))+1 by omega];rfl
   have lI:=hid hnext;clear hnext ZE hlat b5l hv0 hup;generalize qR ns q=c4p at *;go_wp2
   go_roundw
   case rel=>exact⟨j,by omega,by go_num,lI.out,fZ,HT3,aA⟩
   case measure=>simp[intOf] <;> omega
theorem bits_Add64 (x y c:Nat) (hc:c≤1) (w:World) :
  (callFunc 99 #[.int .u64 x,.int .u64 y,.int .u64 c]).run prog w =
   .ok (.value (.tuple #[.int .u64 (((x+y+c)%18446744073709551616:Nat):Int),.int .u64 (((x+y+c)/18446744073709551616:Nat):Int)])) w:=by
 rw[run_callFunc_extern func99 (by kernel_rfl) (by kernel_rfl) (by kernel_rfl) (e:=add64Entry) (by kernel_rfl),run_add64 x y c (by omega) (by omega) (by omega) (by omega)];simp only[Result.andThen]
 congr 5 <;> omega
theorem bits_Sub64 (x y b:Nat) (hb:b≤1) (w:World) :
  (callFunc 184 #[.int .u64 x,.int .u64 y,.int .u64 b]).run prog w =
   .ok (.value (.tuple #[.int .u64 (((x+18446744073709551616 - y - b)%18446744073709551616:Nat):Int),.int .u64 ((if x<y+b then 1 else 0:Nat):Int)])) w:=by
 rw[run_callFunc_extern func184 (by kernel_rfl) (by kernel_rfl) (by kernel_rfl) (e:=sub64Entry) (by kernel_rfl),run_sub64 x y b hb];rfl
theorem OG (N M:Nat) (w:World) (hN:N<2^256) (hM:M<2^256) :
  Calls prog 70 #[aO N,aO M] w fun e w'=>e = .returned (.tuple #[aO (iU N M),.bool (decide (2^256≤N+M))])∧Keep w w':=by
 obtain⟨S,hS⟩ : ∃ S,iU N M=S:=⟨_,rfl⟩
 have HR:Hid (∀ k,k<4 → ∃ x y,lZ N M k≤1∧(∀ w,(callFunc 99 #[n64 (limb N k),n64 (limb M k),n64 (lZ N M k)]).run prog w = .ok (.value (.tuple #[n64 x,n64 y])) w)∧x=limb S k∧y=lZ N M (k+1)):=hid fun k hk=>by
  obtain⟨a,b⟩:=a6G N M k hk;refine⟨_,_,Us N M k,fun w=>bits_Add64 _ _ _ (Us N M k) w,by rw[←hS];exact a,b⟩
 have HF:Hid (lZ N M 4=if 2^256≤N+M then 1 else 0):=hid (b07 hN hM);have H0:Hid (lZ N M 0=0):=hid (b09 N M);rw[hS];clear hS;obtain⟨fb,hfb⟩ : ∃ b,decide (2^256≤N+M)=b:=⟨_,rfl⟩
 rw[hfb];have BN:=hid hfb;clear hfb hN hM;generalize lZ N M=cy at *;go_enter func70,ntmps70
 go_upto_region 3 with fail
 obtain⟨w1,hw1⟩ : ∃ w1,w1=(((w.alloc (.cells #[n64 (limb N 0),n64 (limb N 1),n64 (limb N 2),n64 (limb N 3)] 79)).alloc (.cells #[n64 (limb M 0),n64 (limb M 1),n64 (limb M 2),n64 (limb M 3)] 79)).alloc (.cells #[.int .u64 0,.int .u64 0,.int .u64 0,.int .u64 0] 79)).alloc (.cells #[.int .u64 0,.int .u64 0,.int .u64 0,.int .u64 0] 79):=⟨_,rfl⟩
 have HA1:Hid (ae w1 w.heap.size 79 (uL N)):=by rw[hw1];exact(((ae.new w 79 (uL N)).alloc _).alloc _).alloc _
 have HB1:Hid (ae w1 (w.heap.size+1) 79 (uL M)):=by
  rw[hw1];have h2:=ae.new (w.alloc (.cells #[n64 (limb N 0),n64 (limb N 1),n64 (limb N 2),n64 (limb N 3)] 79)) 79 (uL M);rw[World.size_alloc]at h2;exact(h2.alloc _).alloc _
 have HR1:Hid (ae w1 (w.heap.size+1+1) 79 [.int .u64 0,.int .u64 0,.int .u64 0,.int .u64 0]):=by
  rw[hw1];have h2:=ae.new ((w.alloc (.cells #[n64 (limb N 0),n64 (limb N 1),n64 (limb N 2),n64 (limb N 3)] 79)).alloc (.cells #[n64 (limb M 0),n64 (limb M 1),n64 (limb M 2),n64 (limb M 3)] 79)) 79 [.int .u64 0,.int .u64 0,.int .u64 0,.int .u64 0];rw[World.size_alloc,World.size_alloc]at h2;exact h2.alloc _
 have kz:Hid (ae w1 (w.heap.size+1+1+1) 79 (kU S 0)):=by
  rw[hw1,P5 S 0 (fun j hj=>by omega)];have h2:=ae.new (((w.alloc (.cells #[n64 (limb N 0),n64 (limb N 1),n64 (limb N 2),n64 (limb N 3)] 79)).alloc (.cells #[n64 (limb M 0),n64 (limb M 1),n64 (limb M 2),n64 (limb M 3)] 79)).alloc (.cells #[.int .u64 0,.int .u64 0,.int .u64 0,.int .u64 0] 79)) 79 [.int .u64 0,.int .u64 0,.int .u64 0,.int .u64 0];rw[World.size_alloc,World.size_alloc,World.size_alloc]at h2;exact h2
 have ai:Hid (Keep w w1):=by rw[hw1];exact af (af (af (aB _ _) (aB _ _)) (aB _ _)) (aB _ _)
 rw[←hw1];clear hw1;go_wp2_with fail
 go_loopw [7,9] (fun c i wr => ∃ j:Nat,j≤4∧i = .int .i64 (j:Int)∧c=n64 (cy j)∧Hid (ae wr (w.heap.size+1+1+1) 79 (kU S j))∧Hid (ae wr w.heap.size 79 (uL N))∧Hid (ae wr (w.heap.size+1) 79 (uL M))∧Hid (ae wr (w.heap.size+1+1) 79 [.int .u64 0,.int .u64 0,.int .u64 0,.int .u64 0])∧Hid (Keep w wr)) (fun _ i _=>(4 - intOf i).toNat)
 case atStart=>exact⟨0,by omega,rfl,by rw[H0.out];rfl,kz,HA1,HB1,HR1,ai⟩
 case round =>
  obtain⟨j,hj,rfl,rfl,HO,HA,HB,HR0,HK⟩:=hrel;by_cases hlt:j<4
  ·obtain⟨x,y,hc1,hrun,hx,hy⟩:=HR.out j hlt
   have RUN:=hid hrun;have i1:(j:Int)<4:=by omega
   clear hrun HR HF BN H0;go_upto_region 6 with fail
   refine bu (.take [0,1,2,3,4,5,6,7] (.force [8] (.take [9,10,11,12] .done))) [13,14] (by kernel_rfl) (by kernel_rfl) (fun w9 k9=>?_);have fJ:=hid (HO.out.keep k9);have rY:=hid (HA.out.keep k9);have eY:=hid (HB.out.keep k9);have iy:=hid (HR0.out.keep k9);have bP:=hid (af HK.out k9)
   clear k9 HO HA HB HR0 HK;have a0:=aF (show w9.cell? ⟨w.heap.size,j,none⟩=some (n64 (limb N j)) by rw[rY.out.cell,oG N j hlt]);have b0:=aF (show w9.cell? ⟨w.heap.size+1,j,none⟩=some (n64 (limb M j)) by rw[eY.out.cell,oG M j hlt]);refine aN w9 (Below.refl _ _) ?_;simp only[au,ax,ak,aj];repeat(go_big_quiet_step (fail))
   refine wpQuiet_nil (bI ?_);simp only[au,ax,ak,aj];refine aI rfl (fun K hK=>?_);have A1:=RUN.out w9;go_simp
   try simp only[A1]
   refine hK _ _ (Below.refl _ _) ?_;clear hK K a0 b0 A1 RUN;refine aS (aN w9 (Below.refl _ _) ?_);simp only[au,ax,ak,aj];repeat(go_big_quiet_step (fail))
   refine wpQuiet_nil (aT ?_);have o0:w9.cell? ⟨w.heap.size+1+1+1,j,none⟩=some (n64 0):=by rw[fJ.out.cell,PZ S j hlt]
   have of:w9.frozen? ⟨w.heap.size+1+1+1,j,none⟩=false:=fJ.out.frozen _;go_wp2
   go_roundw
   case rel =>
    refine⟨j+1,by omega,by go_num,rfl,hid ?_,hid (rY.out.far (by simp <;> omega) _),hid (eY.out.far (by simp <;> omega) _),hid (iy.out.far (by simp) _),hid (Below.setCell bP.out (by simp <;> omega) _)⟩;have h1:=fJ.out.az j (n64 (limb S j));rw[Gn S j hlt]at h1;exact h1
   case measure=>simp[intOf];omega
  ·obtain rfl:j=4:=by omega
   have hO:=HO.out;have hR:=HR0.out
   rw[Wi]at hO;have o0:=hO.cell 0;have o1:=hO.cell 1;have o2:=hO.cell 2;have o3:=hO.cell 3
   have r0:=hR.cell 0;have r1:=hR.cell 1;have r2:=hR.cell 2;have r3:=hR.cell 3
   have f0:=hR.frozen 0;have f1:=hR.frozen 1;have f2:=hR.frozen 2;have f3:=hR.frozen 3
   simp only[uL,List.getElem?_cons_zero,List.getElem?_cons_succ]at o0 o1 o2 o3 r0 r1 r2 r3;have hb8:=(((HR0.out.az 0 (n64 (limb S 0))).az 1 (n64 (limb S 1))).az 2 (n64 (limb S 2))).az 3 (n64 (limb S 3))
   have bK:Hid (Keep w ((((wr.setCell ⟨w.heap.size+1+1,0,none⟩ (n64 (limb S 0))).setCell ⟨w.heap.size+1+1,1,none⟩ (n64 (limb S 1))).setCell ⟨w.heap.size+1+1,2,none⟩ (n64 (limb S 2))).setCell ⟨w.heap.size+1+1,3,none⟩ (n64 (limb S 3)))):=by
    refine hid ?_;iterate 4 (refine Below.setCell ?_ (by simp <;> omega) _)
    exact HK.out
   have aY:=hid hb8
   have c4:((cy 4:Int)!=0)=fb:=by
    rw[HF.out,←BN.out]
    split <;> simp_all
   clear hb8 hO hR HO HA HB HR0 HK kz HA1 HB1 HR1 ai HR HF BN H0;generalize cy 4=b1T at *;go_wp2
   exact bodyPost_ret (v:=.tuple #[aO S,.bool fb]) (uN results70 _ _ (w.heap.size+1+1) _ _ _ _ rfl aY.out underlying79 rfl (by kernel_rfl)) rfl ⟨rfl,bK.out⟩
theorem b9Y (N M:Nat) (w:World) (hN:N<2^256) (hM:M<2^256) :
  Calls prog 149 #[aO N,aO M] w fun e w'=>e = .returned (.tuple #[aO (nU N M),.bool (decide (N<M))])∧Keep w w':=by
 obtain⟨S,hS⟩ : ∃ S,nU N M=S:=⟨_,rfl⟩
 have HR:Hid (∀ k,k<4 → ∃ x y,oD N M k≤1∧(∀ w,(callFunc 184 #[n64 (limb N k),n64 (limb M k),n64 (oD N M k)]).run prog w = .ok (.value (.tuple #[n64 x,n64 y])) w)∧x=limb S k∧y=oD N M (k+1)):=hid fun k hk=>by
  refine⟨_,_,Xm N M k,fun w=>bits_Sub64 _ _ _ (Xm N M k) w,by rw[←hS];exact b2W hN hM k hk,(b90 N M k).symm⟩
 have HF:Hid (oD N M 4=if N<M then 1 else 0):=hid (b9Z hN hM);have H0:Hid (oD N M 0=0):=hid (b91 N M);rw[hS];clear hS;obtain⟨fb,hfb⟩ : ∃ b,decide (N<M)=b:=⟨_,rfl⟩
 rw[hfb];have BN:=hid hfb;clear hfb hN hM;generalize oD N M=cy at *;go_enter func149,ntmps149
 go_upto_region 3 with fail
 obtain⟨w1,hw1⟩ : ∃ w1,w1=(((w.alloc (.cells #[n64 (limb N 0),n64 (limb N 1),n64 (limb N 2),n64 (limb N 3)] 79)).alloc (.cells #[n64 (limb M 0),n64 (limb M 1),n64 (limb M 2),n64 (limb M 3)] 79)).alloc (.cells #[.int .u64 0,.int .u64 0,.int .u64 0,.int .u64 0] 79)).alloc (.cells #[.int .u64 0,.int .u64 0,.int .u64 0,.int .u64 0] 79):=⟨_,rfl⟩
 have HA1:Hid (ae w1 w.heap.size 79 (uL N)):=by rw[hw1];exact(((ae.new w 79 (uL N)).alloc _).alloc _).alloc _
 have HB1:Hid (ae w1 (w.heap.size+1) 79 (uL M)):=by
  rw[hw1];have h2:=ae.new (w.alloc (.cells #[n64 (limb N 0),n64 (limb N 1),n64 (limb N 2),n64 (limb N 3)] 79)) 79 (uL M);rw[World.size_alloc]at h2;exact(h2.alloc _).alloc _
 have HR1:Hid (ae w1 (w.heap.size+1+1) 79 [.int .u64 0,.int .u64 0,.int .u64 0,.int .u64 0]):=by
  rw[hw1];have h2:=ae.new ((w.alloc (.cells #[n64 (limb N 0),n64 (limb N 1),n64 (limb N 2),n64 (limb N 3)] 79)).alloc (.cells #[n64 (limb M 0),n64 (limb M 1),n64 (limb M 2),n64 (limb M 3)] 79)) 79 [.int .u64 0,.int .u64 0,.int .u64 0,.int .u64 0];rw[World.size_alloc,World.size_alloc]at h2;exact h2.alloc _
 have kz:Hid (ae w1 (w.heap.size+1+1+1) 79 (kU S 0)):=by
  rw[hw1,P5 S 0 (fun j hj=>by omega)];have h2:=ae.new (((w.alloc (.cells #[n64 (limb N 0),n64 (limb N 1),n64 (limb N 2),n64 (limb N 3)] 79)).alloc (.cells #[n64 (limb M 0),n64 (limb M 1),n64 (limb M 2),n64 (limb M 3)] 79)).alloc (.cells #[.int .u64 0,.int .u64 0,.int .u64 0,.int .u64 0] 79)) 79 [.int .u64 0,.int .u64 0,.int .u64 0,.int .u64 0];rw[World.size_alloc,World.size_alloc,World.size_alloc]at h2;exact h2
 have ai:Hid (Keep w w1):=by rw[hw1];exact af (af (af (aB _ _) (aB _ _)) (aB _ _)) (aB _ _)
 rw[←hw1];clear hw1;go_wp2_with fail
 go_loopw [7,9] (fun c i wr => ∃ j:Nat,j≤4∧i = .int .i64 (j:Int)∧c=n64 (cy j)∧Hid (ae wr (w.heap.size+1+1+1) 79 (kU S j))∧Hid (ae wr w.heap.size 79 (uL N))∧Hid (ae wr (w.heap.size+1) 79 (uL M))∧Hid (ae wr (w.heap.size+1+1) 79 [.int .u64 0,.int .u64 0,.int .u64 0,.int .u64 0])∧Hid (Keep w wr)) (fun _ i _=>(4 - intOf i).toNat)
 case atStart=>exact⟨0,by omega,rfl,by rw[H0.out];rfl,kz,HA1,HB1,HR1,ai⟩
 case round =>
  obtain⟨j,hj,rfl,rfl,HO,HA,HB,HR0,HK⟩:=hrel;by_cases hlt:j<4
  ·obtain⟨x,y,hc1,hrun,hx,hy⟩:=HR.out j hlt
   have RUN:=hid hrun;have i1:(j:Int)<4:=by omega
   clear hrun HR HF BN H0;go_upto_region 6 with fail
   refine bu (.take [0,1,2,3,4,5,6,7] (.force [8] (.take [9,10,11,12] .done))) [13,14] (by kernel_rfl) (by kernel_rfl) (fun w9 k9=>?_);have fJ:=hid (HO.out.keep k9);have rY:=hid (HA.out.keep k9);have eY:=hid (HB.out.keep k9);have iy:=hid (HR0.out.keep k9);have bP:=hid (af HK.out k9)
   clear k9 HO HA HB HR0 HK;have a0:=aF (show w9.cell? ⟨w.heap.size,j,none⟩=some (n64 (limb N j)) by rw[rY.out.cell,oG N j hlt]);have b0:=aF (show w9.cell? ⟨w.heap.size+1,j,none⟩=some (n64 (limb M j)) by rw[eY.out.cell,oG M j hlt]);refine aN w9 (Below.refl _ _) ?_;simp only[au,ax,ak,aj];repeat(go_big_quiet_step (fail))
   refine wpQuiet_nil (bI ?_);simp only[au,ax,ak,aj];refine aI rfl (fun K hK=>?_);have A1:=RUN.out w9;go_simp
   try simp only[A1]
   refine hK _ _ (Below.refl _ _) ?_;clear hK K a0 b0 A1 RUN;refine aS (aN w9 (Below.refl _ _) ?_);simp only[au,ax,ak,aj];repeat(go_big_quiet_step (fail))
   refine wpQuiet_nil (aT ?_);have o0:w9.cell? ⟨w.heap.size+1+1+1,j,none⟩=some (n64 0):=by rw[fJ.out.cell,PZ S j hlt]
   have of:w9.frozen? ⟨w.heap.size+1+1+1,j,none⟩=false:=fJ.out.frozen _;go_wp2
   go_roundw
   case rel =>
    refine⟨j+1,by omega,by go_num,rfl,hid ?_,hid (rY.out.far (by simp <;> omega) _),hid (eY.out.far (by simp <;> omega) _),hid (iy.out.far (by simp) _),hid (Below.setCell bP.out (by simp <;> omega) _)⟩;have h1:=fJ.out.az j (n64 (limb S j));rw[Gn S j hlt]at h1;exact h1
   case measure=>simp[intOf];omega
  ·obtain rfl:j=4:=by omega
   have hO:=HO.out;have hR:=HR0.out
   rw[Wi]at hO;have o0:=hO.cell 0;have o1:=hO.cell 1;have o2:=hO.cell 2;have o3:=hO.cell 3
   have r0:=hR.cell 0;have r1:=hR.cell 1;have r2:=hR.cell 2;have r3:=hR.cell 3
   have f0:=hR.frozen 0;have f1:=hR.frozen 1;have f2:=hR.frozen 2;have f3:=hR.frozen 3
   simp only[uL,List.getElem?_cons_zero,List.getElem?_cons_succ]at o0 o1 o2 o3 r0 r1 r2 r3;have hb8:=(((HR0.out.az 0 (n64 (limb S 0))).az 1 (n64 (limb S 1))).az 2 (n64 (limb S 2))).az 3 (n64 (limb S 3))
   have bK:Hid (Keep w ((((wr.setCell ⟨w.heap.size+1+1,0,none⟩ (n64 (limb S 0))).setCell ⟨w.heap.size+1+1,1,none⟩ (n64 (limb S 1))).setCell ⟨w.heap.size+1+1,2,none⟩ (n64 (limb S 2))).setCell ⟨w.heap.size+1+1,3,none⟩ (n64 (limb S 3)))):=by
    refine hid ?_;iterate 4 (refine Below.setCell ?_ (by simp <;> omega) _)
    exact HK.out
   have aY:=hid hb8
   have c4:((cy 4:Int)!=0)=fb:=by
    rw[HF.out,←BN.out]
    split <;> simp_all
   clear hb8 hO hR HO HA HB HR0 HK kz HA1 HB1 HR1 ai HR HF BN H0;generalize cy 4=b1T at *;go_wp2
   exact bodyPost_ret (v:=.tuple #[aO S,.bool fb]) (uN results149 _ _ (w.heap.size+1+1) _ _ _ _ rfl aY.out underlying79 rfl (by kernel_rfl)) rfl ⟨rfl,bK.out⟩
theorem QL (n:Nat) (h:n<2^64):bits .xor .u64 IntKind.u64.max (n:Int)=((18446744073709551615 - n:Nat):Int):=by
 have h1:BitVec.ofInt 64 IntKind.u64.max=BitVec.allOnes 64:=by decide
 have h2:(BitVec.ofInt 64 (n:Int)).toNat=n:=by
  rw[BitVec.toNat_ofInt]
  have:(2:Nat)^64=18446744073709551616:=by decide
  omega
 show IntKind.u64.wrap ((BitVec.ofInt 64 IntKind.u64.max ^^^ BitVec.ofInt 64 (n:Int)).toNat:Nat)=_
 rw[h1,BitVec.allOnes_xor,BitVec.toNat_not,h2,IntKind.wrap_u64]
 have:(2:Nat)^64=18446744073709551616:=by decide
 omega
theorem b7A (N:Nat) (w:World) (hN:N<2^256):Calls prog 98 #[aO N] w fun e w'=>e = .returned (aO (ou N))∧Keep w w':=by
 have e0:=P8 hN 0 (by decide);have e1:=P8 hN 1 (by decide);have e2:=P8 hN 2 (by decide);have e3:=P8 hN 3 (by decide)
 have x0:=QL _ (gX N 0);have x1:=QL _ (gX N 1);have x2:=QL _ (gX N 2);have x3:=QL _ (gX N 3)
 rw[←e0]at x0;rw[←e1]at x1;rw[←e2]at x2;rw[←e3]at x3;clear e0 e1 e2 e3 hN;generalize ou N=S at *;have hB:prog.built 79 [(0,n64 (limb S 0)),(1,n64 (limb S 1)),(2,n64 (limb S 2)),(3,n64 (limb S 3))]=some #[n64 (limb S 0),n64 (limb S 1),n64 (limb S 2),n64 (limb S 3)]:=by kernel_rfl
 go_enter func98,ntmps98
 go_wp2
 have hb:ae ((w.alloc (.cells #[n64 (limb N 0),n64 (limb N 1),n64 (limb N 2),n64 (limb N 3)] 79)).alloc (.cells #[n64 (limb S 0),n64 (limb S 1),n64 (limb S 2),n64 (limb S 3)] 79)) (w.heap.size+1) 79 (uL S):=by
  have h2:=ae.new (w.alloc (.cells #[n64 (limb N 0),n64 (limb N 1),n64 (limb N 2),n64 (limb N 3)] 79)) 79 (uL S);rw[World.size_alloc]at h2;exact h2
 exact bodyPost_ret (v:=aO S) (results_cell_row results98 _ _ (w.heap.size+1) _ _ _ _ rfl hb underlying79 rfl (by kernel_rfl)) rfl ⟨rfl,af (aB _ _) (aB _ _)⟩
end Go.Proofs.YtiagcenlnekdeaaGreatDoor
