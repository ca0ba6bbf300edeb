/- Texts merged by pack.py: SnE, Qe, Qf, Pe0, Qg, Mow, Arg, Qj, Eql. -/
import Derived.Test.YtiagcenlnekdeaaGreatDoorCx14
import Derived.Test.YtiagcenlnekdeaaGreatDoorCx10
import Derived.Test.YtiagcenlnekdeaaGreatDoorCx7
import Derived.Test.YtiagcenlnekdeaaGreatDoorCx3
import Derived.Test.YtiagcenlnekdeaaGreatDoorCx2
import Derived.ProofKit
import Derived.Deep.Slices
import Derived.Deep.Fields
import Derived.Deep.CutBlock
set_option maxRecDepth 1000000
set_option maxHeartbeats 16000000
open Go.Proofs.Tryz
open Go.Lib (hid)
set_option linter.unusedSimpArgs false
set_option linter.unusedVariables false
namespace Go.Proofs.YtiagcenlnekdeaaGreatDoor
open Go.RowKit
attribute [local go_sem ↓] Go.wp_at_zero Go.wp_at_succ
structure QW (b:List UInt8) (ps qs:List WP) (base room:Int) (hs:List Hd) (h:Hd) (er:Int) (n:Int) (last:List UInt8):Prop where
 c2J:er=(y7 b base room hs.length (eQ 0 z32 hs) h ps).1
 ok:er=0→n=(hs++[h]).length∧last=eQ 0 z32 (hs++[h])∧Aq b qs base room (hs++[h])∧XT b base hs h ps qs
 no:er≠0→(er=12∨er=14)∧n=hs.length∧last=eQ 0 z32 hs∧qs=ps
 len:last.length=32
section
variable (A:Option Addr) (b:List UInt8) (c:Nat) (PA:Option Addr) (ws:List aG) (pc:Nat) (base room:Int) (hs:List Hd)
theorem b1f (cs:Array Value) (h:Hd) (hd:Array Value) (w:World) (F:World→Prop) (hF : ∀ W,Keep w W→F W) (h0 : ∀ W,F W→dJ W A b c PA ws pc) (hS:bV w) (hb : -9223372036854775808≤base∧base≤9223372036854775807)
  (hi:Aq b (ws.map aG.pl) base room hs) (hls:gV (bW (.slice A b.length c) (.slice PA ws.length pc) base room (hs.length:Nat) (eQ 0 z32 hs)) cs) (hk:h.ok) (hhd:bF h hd) :
  Calls prog 233 #[.agg cs,.agg hd] w fun e w' => ∃ A' c' PA' pc' vs cs' er n last,e = .returned (.tuple #[.agg cs',.int .i64 er])∧QW b (ws.map aG.pl) (vs.map aG.pl) base room hs h er n last ∧
   gV (bW (.slice A' b.length c') (.slice PA' vs.length pc') base room n last) cs'∧(∀ W,lY F w w' W→dJ W A' b c' PA' vs pc')∧Keep w w':=by
 refine(b1g A b c PA ws pc base room hs cs h hd w F hF h0 hS hb hi hls hk hhd).mono ?_;rintro e w' ⟨A',c',PA',pc',vs,cs',er,h1,h2,h3,h4,h5,h6⟩;by_cases hz:er=0
 ·obtain⟨g1,g2,g3⟩:=h5 hz
  exact⟨A',c',PA',pc',vs,cs',er,_,_,h1,⟨h2,fun _=>⟨rfl,rfl,g2,g3⟩,fun n=>absurd hz n,D9 _ _ _ rfl⟩,g1,h3,h4⟩
 ·obtain⟨g1,g2,g3⟩:=h6 hz
  exact⟨A',c',PA',pc',vs,cs',er,_,_,h1,⟨h2,fun n=>absurd n hz,fun _=>⟨g1,rfl,rfl,g3⟩,D9 _ _ _ rfl⟩,g2,h3,h4⟩
theorem b89 (ep:Int) (ss:Array Value) (h:Hd) (hd:Array Value) (w:World) (F:World→Prop) (hF : ∀ W,Keep w W→F W) (h0 : ∀ W,F W→dJ W A b c PA ws pc) (hS:bV w) (hb : -9223372036854775808≤base∧base≤9223372036854775807)
  (hi:Aq b (ws.map aG.pl) base room hs) (hss:oN (uO (.slice A b.length c) (.slice PA ws.length pc) base room (hs.length:Nat) (eQ 0 z32 hs) ep) ss) (hk:h.ok) (hhd:bF h hd) :
  Calls prog 217 #[.agg ss,.agg hd] w fun e w' => ∃ A' c' PA' pc' vs ss' er n last,e = .returned (.tuple #[.agg ss',.int .i64 er])∧QW b (ws.map aG.pl) (vs.map aG.pl) base room hs h er n last ∧
   oN (uO (.slice A' b.length c') (.slice PA' vs.length pc') base room n last ep) ss'∧(∀ W,lY F w w' W→dJ W A' b c' PA' vs pc')∧Keep w w':=by
 obtain⟨ls,hls⟩ : ∃ ls:Array Value,ls.toList=bW (.slice A b.length c) (.slice PA ws.length pc) base room (hs.length:Nat) (eQ 0 z32 hs):=⟨_,rfl⟩
 have hlA:=gV.of (D9 hs 0 z32 rfl) hls
 have C1:Hid (∀ y,Keep w y→Calls prog 233 #[.agg ls,.agg hd] y fun e w' => ∃ A' c' PA' pc' vs cs' er n last,e = .returned (.tuple #[.agg cs',.int .i64 er])∧QW b (ws.map aG.pl) (vs.map aG.pl) base room hs h er n last ∧
   gV (bW (.slice A' b.length c') (.slice PA' vs.length pc') base room n last) cs'∧(∀ W,lY F y w' W→dJ W A' b c' PA' vs pc')∧Keep y w'):=fun y hy=>b1f A b c PA ws pc base room hs ls h hd y F (fun W hW=>hF W (af hy hW)) h0 (hS.keep hy) hb hi hlA hk hhd
 obtain⟨zs,hz1,hz2,hz3⟩:=QR;obtain⟨jQ,hl1,hl2,hl3⟩:=Ey;have hsz:=hss.z;have hsn:=hss.n;have hsi:=hss.i
 have hdz:=hhd.z;have hdn:=hhd.n;have hdi:=hhd.i
 have hlz:=hlA.z;have hln:=hlA.n;have nX:=hlA.i
 have Jo:=hid hss;have CU:=hid hhd
 have hbc:b.length≤c∧c≤9223372036854775807:=by have h1:=h0 w (hF w (Below.refl _ _));have:=h1.bc;have:=h1.cm;unfold maxLen at *;omega
 have a95:Hid (((uO (.slice A b.length c) (.slice PA ws.length pc) base room (hs.length:Nat) (eQ 0 z32 hs) ep).drop 0).take ls.toList.length=ls.toList):=by
  rw[Array.length_toList,hlz,hls];exact b9J (D9 hs 0 z32 rfl)
 have Hll:=hid (D9 hs 0 z32 rfl:(eQ 0 z32 hs).length=32);clear hss hhd hlA hls hi hk hS;generalize hbl:b.length=bl at *;have yU:=hid hbl;clear hbl;generalize ws.length=wl at *;go_enter func217,ntmps217
 go_upto_region 1 with fail
 obtain⟨w1,hw1,rD,jZ,HR1,ai,Gf⟩:=FM w 47 29 47 ss hd zs;rw[←hw1];clear hw1;have hrg:Hid (w1.rangeAt w.heap.size 0 ls.toList):=cu rD.out 0 ls.toList (by rw[Jo.out.l];exact a95.out)
 go_wp2_with (first
  | ((with_reducible refine PY w.heap.size 0 ls (Eq.trans ?_ rfl) hrg.out _ underlying45 rfl nX ?_);rfl)
  | ((with_reducible refine bY (w.heap.size+1) hd (Eq.trans ?_ rfl) jZ.out _ underlying29 rfl hdi ?_);rfl))
 refine(C1.out w1 ai.out).mono ?_;clear C1;rintro e w2 ⟨A2,c2,dM,dI,vs,ds,er,n2,last2,rfl,hap,hds,hd2,k2⟩;have hz2':=hds.z;have hn2:=hds.n;have hi2:=hds.i
 have Tf:=hid hap;have dZ:=hid hds;have Hd2:=hid hd2;have K2:=hid k2
 have ay:=hid (af ai.out k2);have HS2:=hid (rD.out.keep k2);have HR2:=hid (HR1.out.keep k2)
 have b5G:w1.heap.size≤w2.heap.size:=k2.size;have hst:=fK w2 45 hi2 (hl1.trans hz2'.symm) dZ.out.o;clear hap hds hd2 k2 rD jZ HR1 hrg;go_upto_region 2 with fail
 clear hst;obtain⟨w3,hw3,CG,K3,-⟩:=di w2 45 ds;have EZ:Hid (ae w3 w.heap.size 47 ss.toList):=by rw[hw3];exact HS2.out.alloc _
 have HR3:Hid (ae w3 (w.heap.size+1+1) 47 zs.toList):=by rw[hw3];exact HR2.out.alloc _
 rw[←hw3];clear hw3;have b5H:w2.heap.size<w3.heap.size:=CG.out.lt;obtain⟨GM,KO,_⟩:=a6A (lv:=ds) Tf.out.len dZ.out.l ep;have jb:=KO.z;have hn4:=KO.n;have hi4:=KO.i
 have TP:=hid KO;obtain⟨w4,VR,hb4,hg4⟩:=Xf (P:=prog) 0 ds.toList EZ.out (by rw[Array.length_toList,Array.length_toList];omega) dZ.out.o
 have a2M:ae w4 w.heap.size 47 GM.toList:=by
  have e:splice ss.toList 0 ds.toList=GM.toList:=by
   rw[Jo.out.l,TP.out.l,dZ.out.l];unfold splice uO;rw[List.take_zero,List.nil_append,Nat.zero_add,oq Tf.out.len,List.drop_left' (oq Hll.out)]
  rw[←e];exact hb4
 have Hb4:=hid a2M;have Z8:=hid hg4
 have HR4:=hid (HR3.out.grown hg4 (iw (by omega)));have hs4:=hg4.size;clear KO hb4 a2M hg4;generalize hX:w2.heap.size=X at *;have c3a:w2.heap.size≤X:=Nat.le_of_eq hX;clear hX;go_upto_region 3 with((with_reducible refine bY X ds (Eq.trans ?_ rfl) CG.out _ underlying45 rfl hi2 ?_);rfl)
 clear VR;obtain⟨w5,hst5,Hb5,vP⟩:=jo GM.toList HR4.out (by simp[hz1,jb]) TP.out.o;go_wp2_with ((with_reducible refine bY w.heap.size GM (Eq.trans ?_ rfl) Hb4.out _ underlying47 rfl hi4 ?_);rfl)
 have hb8:=Hb5.out;have hK3:=af ay.out K3.out;have hK4:=aK hK3 Z8.out (by omega);have hs5:=vP.out.size;refine bodyPost_ret (v:=.tuple #[.agg GM,.int .i64 er]) (lq results217 hb8 underlying47 hi4 rfl rfl) rfl ⟨A2,c2,dM,dI,vs,GM,er,n2,last2,rfl,Tf.out,TP.out,fun W hW=>Hd2.out W ⟨hW.1,fun k h1 h2=>?_⟩,aK hK4 vP.out (by omega)⟩;have e1:k≠w.heap.size:=by omega
 have e2:k≠w.heap.size+1+1:=by omega
 exact(hW.2 k (by omega) (by omega)).trans ((vP.out.block k (by omega) (fun e=>e2 (Option.some.inj e))).trans ((Z8.out.block k (by omega) (fun e=>e1 (Option.some.inj e))).trans (K3.out.block k (by omega))))
end
theorem c08 {P:Program} {S:World→Prop} {ops:Array Oper} {rest:List Oper} {a:Act} {Q:Act→Prop} {parts:Array (Nat × Operand)} {dst:Option Tmp} {t ty':TypeId} {pos:String} {eG:Array Edge}
  (ps:List (Nat × Value)) (cells:Array Value) (hx:(parts.toList.map fun p=>(p.1,a.eval p.2))=ps) (hb:P.built t ps=some cells)
  (h:wpQuiet P ops S Q rest (a.put dst (.agg cells))):wpQuiet P ops S Q ({ dst:=dst,op:=.build t parts,type:=ty',pos:=pos,after:=eG,guard:=none}::rest) a:=by
 refine BigFrame.wpQuiet_want (by simp[Region.wanted]) fun K hK=>⟨.agg cells,fun w hw=>?_,hK _ h⟩
 have e:(parts.map fun(i,x)=>(i,a.eval x)).toList=ps:=by rw[Array.toList_map];exact hx
 have hb2:P.built t (parts.map fun(i,x)=>(i,a.eval x)).toList=some cells:=by rw[e];exact hb
 unfold Oper.quietAt execOp;simp only[Sem.run_bind,run_build w t _ cells hb2,Result.andThen_ok];exact⟨rfl,rfl⟩
theorem b3p:prog.eqGuardType prog.depth 283=false:=by kernel_rfl
theorem b3q:prog.stoodInHeld 283=false:=by kernel_rfl
theorem b3r:prog.underlying 283=some (.struct (prog.fieldsOf 283)):=by kernel_rfl
theorem b3o : ((prog.fieldsOf 283).toList.map fun f => (f.name != "_", f.type, f.offset)) = [(true, 3, 0), (true, 3, 1)] := by kernel_rfl
theorem b58 (w:World):(isAgg 3).run prog w = .ok false w:=by kernel_rfl
theorem Qk {cs:Array Value} {off:Nat} {v:Value} (h:cs[off]?=some v) (w:World):(part 3 cs off).run prog w = .ok v w:=by
 simp only[part,Sem.run_bind,b58,Result.andThen_ok,Bool.false_eq_true,if_false,h,Sem.run_pure]
theorem a1W (a b c d:Int) (w:World):(Op.equalIn 10000 283 (.agg #[iv a,iv b]) (.agg #[iv c,iv d])).run prog w = .ok ((a==c)&&((b==d)&&true)) w:=by
 rw[show(10000:Nat)=9998+2 from rfl,run_equalIn_agg w 9999 _ _ _ b3r b3q,U2 prog,b3o];refine AX (Qk rfl w) (Qk rfl w) (run_equalIn_int w 9998 _ .i64 .i64 _ _ underlying3) (AX (Qk rfl w) (Qk rfl w) (run_equalIn_int w 9998 _ .i64 .i64 _ _ underlying3) ?_);rw[eqF];rfl
theorem b3t (a b c d:Int) (w:World):(Go.binOp .eql 283 (.agg #[iv a,iv b]) (.agg #[iv c,iv d])).run prog w = .ok (.bool ((a==c)&&((b==d)&&true))) w:=by
 rw[run_eql_struct,a1W];rfl
theorem Wu:dL prog 170 118 (Value.agg a7A) 114 336:=dL.mk' underlying170 (by kernel_rfl) c1M (by omega)
theorem a18 (off:Nat) : ∀ (l:List Value) (k:Nat) (acc:Array Value),off+k+l.length≤acc.size→(l.zipIdx k).foldl (fun cs x=>cs.setIfInBounds (off+x.2) x.1) acc=(acc.toList.take (off+k)++l++acc.toList.drop (off+k+l.length)).toArray
 | [],k,acc,h=>by simp
 | v::r,k,acc,h=>by
   rw[List.zipIdx_cons,List.foldl_cons,a18 off r (k+1) _ (by simp at h ⊢;omega)];have hk:off+k<acc.size:=by simp at h;omega
   congr 1
   rw[Array.toList_setIfInBounds,←Nat.add_assoc,List.take_succ_eq_append_getElem (by simpa using hk),List.getElem_set_self,List.take_set_of_le (Nat.le_refl _),List.drop_set_of_lt (by omega)];have e:off+k+(v::r).length=off+k+1+r.length:=by simp;omega
   simp only[e,List.append_assoc,List.singleton_append,List.cons_append,List.nil_append]
theorem Dn {place:Nat→Option (Nat × Nat)} {acc:Array Value} {i off size:Nat} {v:Value} {rest:List (Nat × Value)} (hp:place i=some (off,size)) (hv:v.cells.size=size) (ho:off+size≤acc.size) :
  Instr.fill place acc ((i,v)::rest)=Instr.fill place (acc.toList.take off++v.cells.toList++acc.toList.drop (off+size)).toArray rest:=by
 rw[Instr.fill,hp];simp only[];rw[if_neg (by simp[hv];omega)]
 congr 1
 rw[←Array.foldl_toList,Array.toList_zipIdx]
 have:=a18 off v.cells.toList 0 acc (by simp[hv];omega)
 rw[Nat.add_zero]at this;rw[show v.cells.toList.length=size from by simpa using hv]at this;exact this
theorem c1e {P:Program} {t e:TypeId} {zc:Array Value} {size bytes:Nat} (T:dL P t e (.agg zc) size bytes) {o:Oper} {a:Act} {w:World} {K:Act→World→Prop} {Q:Exit→Act→World→Prop} (x y:Operand) (ho:o.op = .buildSlice t 2 #[(0,x),(1,y)])
  (cs ds:Array Value) (hz:cs.size=size) (hzd:ds.size=size) (hsm:size≤1000) (hx:a.eval x = .agg cs) (hy:a.eval y = .agg ds)
  (h:K (a.put o.dst (.slice (some ⟨w.heap.size,0,none⟩) 2 2)) (w.alloc (.cells (cs.toList++ds.toList).toArray e))):o.wp P a w K Q:=by
 obtain⟨i,hi,hiz,his,_⟩:=T.info;have hzc:zc.size=size:=T.zs;have hp:=T.pos;refine wp_buildSlice t e 2 _ ho (cs.toList++ds.toList).toArray i (.agg zc) T.und hi hiz (by rw[his];omega) (by rw[his];omega) ?_ h;have hc:(Value.agg cs).cells=cs:=rfl;have hd:(Value.agg ds).cells=ds:=rfl;have hcl:cs.toList.length=size:=by simpa using hz
 have hdl:ds.toList.length=size:=by simpa using hzd
 simp only[List.map_toArray,List.map_cons,List.map_nil,hx,hy,his];rw[Dn (off:=0*size) (size:=size) rfl (by rw[hc,hz]) (by simp;omega)];rw[Dn (off:=1*size) (size:=size) rfl (by rw[hd,hzd]) (by simp[hc,hz];omega)];rw[Instr.fill]
 congr 2
 rw[hc,hd,Nat.zero_mul,Nat.one_mul,List.take_zero,List.nil_append];rw[List.take_append_of_le_length (by omega),List.take_of_length_le (by omega)]
 have:List.drop (size+size) (cs.toList++List.drop (0+size) ((Array.range (2*size)).map fun j=>(Value.agg zc).cells[j%(Value.agg zc).cells.size]!).toList)=[]:=List.drop_eq_nil_of_le (by simp[hz];omega)
 simp only[]at this ⊢;rw[this,List.append_nil]
def TB (R:aW × List fO × Int) (w:World) (e:Ending) (w':World):Prop :=
 ∃ ds A n,e = .returned (.tuple #[.agg ds,.slice A R.2.1.length n,iv R.2.2])∧bZ R.1 ds∧R.2.1.length≤n∧n≤2∧Rd w' A (R.2.1.flatMap fO.cells)∧Keep w w'
inductive Mw where
 | done
 | take (l:List Nat) (r:Mw)
 | call (i:Nat) (r:Mw)
def Mw.total:Mw→Nat
 | .done=>0
 | .take l r=>r.total+l.length
 | .call _ r=>r.total+1
def Mw.okB (ops:Array Oper) (E:List Nat):Mw→Array Bool→Bool
 | .done,listed=>decide (Region.ready .any ops listed=[])
 | .take l r,listed=>(l.all (· < ops.size))&&yB ops E l listed&&r.okB ops E (jO listed l)
 | .call i r,listed=>decide (i<ops.size)&&decide (Region.ready .any ops listed=[i])&&E.contains i&&r.okB ops E (listed.setIfInBounds i true)
def Mw.wp (P:Program) (l0:List Oper) (Q:Exit→Act→World→Prop):Mw→Act→World→Prop
 | .done,a,w=>Q .normal a w
 | .take l r,a,w => ∃ w0,Keep w0 w∧wpQuiet P l0.toArray (fun w' => ∃ x,w'=dn w0 x) (fun a'=>r.wp P l0 Q a' w) (pick l0 l) a
 | .call i r,a,w=>Region.wanted (nth l0 i) (yielded l0.toArray a.tmps)=true∧∀ K:Act→World→Prop,(∀ a' w',r.wp P l0 Q a' w'→K a' w')→(nth l0 i).wp P a w K Q
theorem Mw.sound {P:Program} {Q:Exit→Act→World→Prop} {E:List Nat} {l0:List Oper} (hs:Region.noSelect l0.toArray=true) (hQ : ∀ c a x v w,Q (.panic c) (a.put x v) w→Q (.panic c) a w) : ∀ (mv:Mw) (listed:Array Bool) (a:Act) (w:World),Closed l0.toArray listed→mv.okB l0.toArray E listed=true →
  mv.wp P l0 Q a w→jq P l0.toArray Q E mv.total listed a w
 | .done,listed,a,w,hc,hB,h=>⟨of_decide_eq_true hB,h⟩
 | .take l r,listed,a,w,hc,hB,h=>by
   simp only[Mw.okB,Bool.and_eq_true]at hB;obtain⟨⟨hin,htk⟩,hB⟩:=hB;obtain⟨w0,hw0,hq⟩:=h;have hl : ∀ i∈l,i<l0.length:=fun i hi=>by simpa using List.all_eq_true.1 hin i hi
   exact G8 hs hQ _ w w0 hw0 l (pick l0 l) listed a hc htk (Dp l hl).2 (LV (fun a' h' hc'=>Mw.sound hs hQ r _ a' w hc' hB h') _ _ hq)
 | .call i r,listed,a,w,hc,hB,h=>by
   simp only[Mw.okB,Bool.and_eq_true,decide_eq_true_eq]at hB;obtain⟨⟨⟨hi,hr⟩,hE⟩,hB⟩:=hB;obtain⟨hw,h⟩:=h;have hoi:l0.toArray[i]?=some (nth l0 i):=by simp at hi ⊢;simp[nth,hi]
   have kS:i∈Region.ready .any l0.toArray listed:=by rw[hr];simp
   refine⟨fun h0=>(by rw[hr]at h0;cases h0),fun k hk=>?_⟩;rw[hr]at hk;obtain rfl:k=i:=by simpa using hk
   unfold wpOp;simp only[hoi];rw[if_pos hw];exact .inl (h _ fun a' w' h'=>⟨fun hn=>absurd (by simpa using hE) hn,Mw.sound hs hQ r _ a' w' (hc.az kS) hB h'⟩)
def a4W (ops:Array Oper) (mv:Mw) (E:List Nat):Bool:=Region.noSelect ops&&decide (mv.total=ops.size)&&mv.okB ops E (Array.replicate ops.size false)
theorem MM {P:Program} {id:Nat} {Q:Exit→Act→World→Prop} {a:Act} {w:World} {l:List Oper} (mv:Mw) (E:List Nat) (hm:P.follows .mixedOrders=true) (hB:a4W l.toArray mv E=true)
  (h : ∀ w1,Keep w w1→mv.wp P l (Exit.then (fun a w=>Q .normal a w) (fun _ _ _=>False)) a w1):(Code.region id l.toArray true).wp P Q a w:=by
 simp only[a4W,Bool.and_eq_true,decide_eq_true_eq]at hB;obtain⟨⟨hs,hlen⟩,hB⟩:=hB
 refine wp_mono (Q:=Exit.then (fun a w=>Q .normal a w) (fun _ _ _=>False)) (wp_region_any hm ?_) fun e a w h=>by
  cases e with
  | normal=>exact h
  | _=>exact False.elim h
 have:=Mw.sound (P:=P) (Q:=Exit.then (fun a w=>Q .normal a w) (fun _ _ _=>False)) hs (fun _ _ _ _ _ h=>h) mv _ a { w with drawn:=w.drawn+1} (UL _ _) hB (h _ ((Below.refl _ _).drew))
 rw[hlen]at this;exact G9 _ _ _ _ this
section
variable {P:Program} {l0:List Oper} {Q:Exit→Act→World→Prop} {a:Act} {w:World} {l:List Nat} {r:Mw} {i:Nat}
theorem Bj (w0:World) (hw:Keep w0 w) (h:wpQuiet P l0.toArray (fun w' => ∃ x,w'=dn w0 x) (fun a'=>r.wp P l0 Q a' w) (pick l0 l) a):(Mw.take l r).wp P l0 Q a w:=⟨w0,hw,h⟩
theorem zI (hw:Region.wanted (nth l0 i) (yielded l0.toArray a.tmps)=true) (h : ∀ K:Act→World→Prop,(∀ a' w',r.wp P l0 Q a' w'→K a' w')→(nth l0 i).wp P a w K Q):(Mw.call i r).wp P l0 Q a w:=⟨hw,h⟩
theorem Lr (h:Q .normal a w):Mw.done.wp P l0 Q a w:=h
end
end Go.Proofs.YtiagcenlnekdeaaGreatDoor
namespace Go.Proofs.YtiagcenlnekdeaaGreatDoor
open Go.RowKit Go.ChangeShapes Go.WideShapes Go.Deep
theorem b1a {w:World} {a:Addr} {v:Value} (h:w.cell? a=some v):a=⟨a.block,a.off,none⟩:=by
 obtain⟨b,o,s⟩:=a
 cases s with
 | none=>rfl
 | some x=>unfold World.cell? at h;split at h <;> simp at h
theorem Rd.b7F {w:World} {a:Addr} {xs:List Value} (h : ∀ j (hj:j<xs.length),w.cell? (a.add j)=some xs[j]):Rd w (some a) xs:=by
 by_cases h0:xs=[]
 ·exact .inl h0
 ·have hp:0<xs.length:=List.length_pos_iff.2 h0
  have h1:=h 0 hp;have e:a.add 0=a:=by unfold Addr.add;simp
  rw[e]at h1;have ha:=b1a h1;refine .inr ⟨a.block,a.off,by rw[←ha],fun j hj=>?_⟩
  have:=h j hj
  rw[ha,qE]at this;exact this
theorem PX {α β:Type} {f:α→β} {p:α→Prop} : ∀ (l:List β),(∀ x∈l,∃ a,x=f a∧p a) → ∃ ys:List α,l=ys.map f∧∀ a∈ys,p a
 | [],_=>⟨[],rfl,by simp⟩
 | x::l,h=>by
   obtain⟨a,rfl,ha⟩:=h x (by simp);obtain⟨ys,rfl,hys⟩:=PX l fun y hy=>h y (by simp[hy]);exact⟨a::ys,rfl,by simpa using⟨ha,hys⟩⟩
section
variable {H:Type} {enc:TypeId × Value→H} {P:Program} {w:World} {spare:Nat→Bool} {held:Bool}
theorem a6v {t e:TypeId} {size fuel:Nat} {cs:List Value} {x:DataW H × List MemPlace} (ht:P.underlying t=some (.slice e)) (hc:P.cellsOf e=size) (hz:0<size)
  (h:DataW.trod enc P w 0 spare held fuel t cs=some x) :
  ∃ (A:Option Addr) (n c:Nat) (Cs:List (List Value)),cs=[.slice A n c]∧n≤c∧c≤maxLen∧Cs.length=n∧Rd w A Cs.flatten ∧
    ∀ y∈Cs,y.length=size∧∃ m z,DataW.trod enc P w 0 spare held m e y=some z:=by
 rcases open_slice ht h with⟨rfl,_⟩ | ⟨a,len,cap,m,n,D,Pl,rfl,_,hl,hm,hmm,_,hi⟩
 ·exact⟨none,0,0,[],rfl,Nat.le_refl _,Nat.zero_le _,rfl,.inl rfl,by simp⟩
 ·have hlm:len≤m:=by rw[hmm];split <;> omega
  rw[hc]at hi;obtain⟨V,hV⟩:=choose_lt (p:=fun i (cs':List Value)=>w.cells? 0 (a.add (i*size)) size=some cs'∧DataW.trod enc P w 0 spare held n e cs'=some (D i,Pl i)) (n:=len) fun i hi'=>hi i (by omega)
  have hlen : ∀ y∈(List.range len).map V,y.length=size:=by
   intro y hy;obtain⟨i,hi',rfl⟩:=List.mem_map.1 hy;exact(World.cells?_some (hV i (List.mem_range.1 hi')).1).2.1
  refine⟨some a,len,cap,(List.range len).map V,rfl,hl,hm,by simp,Rd.b7F fun j hj=>?_,fun y hy=>⟨hlen y hy,?_⟩⟩
  ·have hfl:((List.range len).map V).flatten.length=len*size:=by
    rw[←List.flatMap_id,rF id size _ hlen];simp
   have hj':j<len*size:=by rw[←hfl];exact hj
   have hq:j/size<len:=by rwa[Nat.div_lt_iff_lt_mul hz]
   have hr:j%size<size:=Nat.mod_lt _ hz;have hcell:=(World.cells?_some (hV (j/size) hq).1).2.2 (j%size) hr;have hjj:j=j/size*size+j%size:=by rw[Nat.mul_comm];exact(Nat.div_add_mod j size).symm
   have hadd:(a.add (j/size*size)).add (j%size)=a.add j:=by
    rw[add_add',←hjj]
   rw[hadd]at hcell;rw[hcell,←List.getElem?_eq_getElem hj,←List.flatMap_id]
   conv=>rhs;rw[hjj]
   rw[JW id size _ hlen (j/size) (j%size) (by simpa using hq) hr];simp
  ·obtain⟨i,hi',rfl⟩:=List.mem_map.1 hy
   exact⟨n,_,(hV i (List.mem_range.1 hi')).2⟩
theorem b3y {t:TypeId} {fs:Array Field} {fuel:Nat} {cs:List Value} {x:DataW H × List MemPlace} (ht:P.underlying t=some (.struct fs)) (hone:oneCellFields P fs=true)
  (h:DataW.trod enc P w 0 spare held fuel t cs=some x) (hl:cs.length=fs.size) :
  ∀ (j:Nat) (f:Field),fs[j]?=some f → ∃ v m y,cs[j]?=some v∧DataW.trod enc P w 0 spare held m f.type [v]=some y:=by
 obtain⟨ys,n,_,_,_,hyl,hf⟩:=DataW.trod_struct ht h;intro j f hj;obtain⟨ho,hk⟩:=hone_of hone j f hj;have hjl:j<fs.size:=(Array.getElem?_eq_some_iff.1 hj).1;have h1:=hf j f hj;rw[ho,hk]at h1
 have hone':(cs.drop j).take 1=[cs[j]'(by omega)]:=by
  rw[List.drop_eq_getElem_cons (by omega)];rfl
 rw[hone']at h1;have hys:ys[j]?=some (ys[j]'(by omega)):=List.getElem?_eq_getElem (by omega);exact⟨_,n,_,List.getElem?_eq_getElem (by omega),h1.trans hys⟩
theorem b1R {t e:TypeId} {fuel:Nat} {cs:List Value} {x:DataW H × List MemPlace} (ht:P.underlying t=some (.slice e)) (he:P.underlying e=some (.int .u8)) (hc:P.cellsOf e=1)
  (h:DataW.trod enc P w 0 spare held fuel t cs=some x) :
  ∃ (A:Option Addr) (l:List UInt8) (c:Nat),cs=[.slice A l.length c]∧l.length≤c∧c≤maxLen∧Rd w A (l.map ah):=by
 obtain⟨A,n,c,Cs,rfl,h1,h2,rfl,h3,h4⟩:=a6v ht hc (by omega) h
 obtain⟨l,rfl,_⟩:=PX (f:=fun x:UInt8=>[ah x]) (p:=fun _=>True) Cs fun y hy=>by
  obtain⟨_,m,z,hz⟩:=h4 y hy;obtain⟨n,rfl,_,hw⟩:=DataW.trod_int he hz;have hb:0≤n∧n≤255:=by simpa[Lit.wf,IntKind.min,IntKind.max,IntKind.signed,IntKind.bits]using hw
  refine⟨UInt8.ofNat n.toNat,?_,trivial⟩
  have:((UInt8.ofNat n.toNat).toNat:Int)=n:=by
   rw[UInt8.toNat_ofNat'];omega
  show[Value.int .u8 n]=[Value.int .u8 ((UInt8.ofNat n.toNat).toNat:Int)]
  rw[this]
 refine⟨A,l,c,by simp,by simpa using h1,h2,?_⟩;have e:(l.map fun x:UInt8=>[ah x]).flatten=l.map ah:=by rw[←List.flatMap_def,←List.map_eq_flatMap]
 rwa[e]at h3
end
section
variable {H:Type} {enc:TypeId × Value→H} {P:Program}
theorem a6W (hl:laidOutB P=true) {W W':World} (hb:Below W.heap.size W W') : ∀ (ts:List TypeId) (vs:List Value) (ds:List (DataW H)) (ps:List MemPlace),
  (∀ t∈ts,P.readableRec t=true∧t<P.types.size)→(∀ x∈ps,x.block<W.heap.size)→DataW.TrodAll enc P W 0 (fun _=>true) true ts vs ds ps →
  DataW.TrodAll enc P W' 0 (fun b=>decide (b<W.heap.size)) true ts vs ds ps
 | [],[],[],ps,_,_,h=>h
 | t::ts,v::vs,d::ds,ps,hr,hlt,h=>by
   obtain⟨p,q,h1,h2,rfl⟩:=h
   exact⟨p,q,Below.trod hl (hr t (by simp)).1 (hr t (by simp)).2 h1 hb fun x hx=>hlt x (by simp[hx]),
    a6W hl hb ts vs ds q (fun t ht=>hr t (by simp[ht])) (fun x hx=>hlt x (by simp[hx])) h2,rfl⟩
 | [],_::_,_,_,_,_,h=>by cases h
 | [],[],_::_,_,_,_,h=>by cases h
 | _::_,[],_,_,_,_,h=>by cases h
 | _::_,_::_,[],_,_,_,h=>by cases h
theorem b6t {f:Func} {s:ChangeSpec} {apart fresh handsOn:Bool} {W W':World} {args:Array Value} {ds gs:List (DataW H)} {before:List MemPlace} {tb:TypeId}
  (hW:DataW.Whole enc P f.params.toList s.vars apart W args.toList ds gs before) (hv:s.vars=[]) (hl:laidOutB P=true)
  (b5r:(f.params.toList.all fun t=>P.readableRec t&&decide (t<P.types.size))=true) (hres:f.resultTypes = #[tb]) (htb:P.underlying tb=some .bool)
  (hs:s.fn H ds = { results:=[.lit (.bool true)],args:=ds}) (hb:Below W.heap.size W W') :
  s.post enc P f apart fresh handsOn false W args (.bool true) W':=by
 have hr : ∀ t∈f.params.toList,P.readableRec t=true∧t<P.types.size:=fun t ht=>by
  have:=List.all_eq_true.1 b5r t ht
  simpa using this
 have hW':=hW;obtain⟨p,q,hA,hV,rfl,hfz,hnd⟩:=hW;rw[hv]at hV;obtain⟨rfl,rfl⟩:=trodVars_none hV;simp only[List.append_nil]at hW';have hlt : ∀ x∈p,x.block<W.heap.size:=fun x hx=>hW'.lt x (by simpa using hx);refine⟨ds,[],p,[],p,[],by simpa using hW',?_,?_,?_,hb.frame _,fun h=>by cases h⟩
 ·rw[List.append_nil,hs,hres]
  exact trodAll_mk1 (shut_bool htb true)
 ·rw[List.append_nil,hs]
  exact a6W hl hb _ _ _ _ hr hlt hA
 ·rw[List.append_nil,hs,hv]
  exact rfl
end
end Go.Proofs.YtiagcenlnekdeaaGreatDoor
namespace Go.Proofs.YtiagcenlnekdeaaGreatDoor
open Go.RowKit
attribute [local go_sem ↓] Go.wp_at_zero Go.wp_at_succ
def mG (l:List UInt8):Nat→Nat
 | 0=>0
 | n+1=>if l[n]?=some 0 then mG l n else n+1
theorem a6V (l:List UInt8) : ∀ n,mG l n≤n
 | 0=>Nat.le_refl _
 | n+1=>by unfold mG;split;exact Nat.le_succ_of_le (a6V l n);exact Nat.le_refl _
def lenOf:Value→Nat
 | .slice _ n _=>n
 | _=>0
theorem c0q (A:Option Addr) (l:List UInt8) (N c:Nat) (w:World) (hN:l.length=N) (hc:N≤c∧c≤9223372036854775807) (hr:Rd w A (l.map ah)) :
  Calls prog 226 #[.slice A N c,.int .u8 0] w fun e w'=>e = .returned (.slice A (mG l N) c)∧Keep w w':=by
 have ROW:Hid (∀ k (h:k<N),∃ b off x,A=some ⟨b,off,none⟩∧b<w.heap.size∧w.cell? ⟨b,off+k,none⟩=some (ah x)∧l[k]?=some x):=hid fun k h=>by
  obtain⟨b,off,rfl,hb,hcell⟩:=hr.at (k:=k) (by simp[hN];exact h);exact⟨b,off,l[k],rfl,hb,by have q:=hcell k (by simp[hN];exact h);simpa using q,List.getElem?_eq_getElem (by omega)⟩
 have HK:Hid (Keep w w):=hid (Below.refl _ _);have hc1:=hc.1;have hc2:=hc.2
 clear hr hN hc;go_enter func226,ntmps226
 go_wp2_with fail
 go_loopw [0] (fun s wr => ∃ n:Nat,n≤N∧s = .slice A n c∧Hid (mG l n=mG l N)∧Hid (Keep w wr)) (fun s _=>lenOf s)
 case atStart=>exact⟨N,Nat.le_refl _,rfl,hid rfl,HK⟩
 case round =>
  obtain⟨n,hn,rfl,HT,bg⟩:=hrel;clear HK
  cases n with
  | zero =>
    have d0 : ¬ (0:Int)<0:=by omega
    clear ROW;go_wp2
    exact bodyPost_ret (v:=.slice A 0 c) (by simp[results,results226]) rfl ⟨by rw[←HT.out];rfl,bg.out⟩
  | succ m =>
    obtain⟨b,off,x,rfl,hb,hx,hlx⟩:=ROW.out m (by omega);have rx:=aC bg.out hx;have lH:=hid hlx;have d0:(0:Int)<(m:Int)+1:=by omega
    have d1:m<m+1:=by omega
    have d2:m+1≤c:=by omega
    clear hx hlx ROW;by_cases h0:x=0
    ·have e0:(ah x) = .int .u8 0:=by rw[h0];rfl
     rw[e0]at rx;have HT2:Hid (mG l m=mG l N):=hid (by rw[←HT.out,mG,if_pos (by rw[lH.out,h0])]);clear e0 lH HT h0;go_wp2
     go_roundw
     case rel=>exact⟨m,by omega,rfl,HT2,bg⟩
     case measure=>simp[lenOf]
    ·have e1:(x==0)=false:=by rw[beq_eq_false_iff_ne];exact h0
     have e2 : ¬ (x.toNat:Int)=0:=fun q=>h0 (UInt8.toNat_inj.1 (by show x.toNat=0;omega));have e3:((x.toNat:Int)==0)=false:=by rw[beq_eq_false_iff_ne];exact e2
     have HT2:Hid (m+1=mG l N):=hid (by rw[←HT.out,mG,if_neg (by rw[lH.out];simpa using h0)]);clear lH HT h0;go_wp2
     exact bodyPost_ret (v:=.slice (some ⟨b,off,none⟩) (m+1) c) (by simp[results,results226]) rfl ⟨by rw[←HT2.out],bg.out⟩
theorem c0p (A:Option Addr) (l:List UInt8) (N c:Nat) (w:World) (hN:l.length=N) (h0:0<N) (hc:N≤c∧c≤9223372036854775807) (hr:Rd w A (l.map ah)) :
  Calls prog 210 #[.slice A N c,.string ⟨#[0]⟩] w fun e w'=>e = .returned (.slice A (mG l N) c)∧Keep w w':=by
 have b0U:Hid (Calls prog 226 #[.slice A N c,.int .u8 0] w fun e w'=>e = .returned (.slice A (mG l N) c)∧Keep w w'):=hid (c0q A l N c w hN hc hr);have d0:((N:Int)==0)=false:=by rw[beq_eq_false_iff_ne];omega
 have d1 : ¬ (N:Int)=0:=by omega
 have d2 : ¬ N=0:=by omega
 generalize mG l N=R at *;clear hr hc hN h0;go_enter func210,ntmps210
 go_wp2_with (go_at_call 226;refine b0U.out.mono ?_;rintro e w1 ⟨rfl,k1⟩;have K1:=hid k1;clear k1)
 exact bodyPost_ret (v:=.slice A R c) (by simp[results,results210]) rfl ⟨rfl,K1.out⟩
def wz (l:List UInt8):Bool:=decide (1≤l.length)&&decide (l.length≤12)&&l.all fun x:UInt8=>decide (33≤x.toNat)&&decide (x.toNat≤126)
theorem nC (l:List UInt8):(str l).size=l.length:=rfl
theorem b9V (l:List UInt8) (k:Nat) (x:UInt8) (h:l[k]?=some x) (w:World):(Instr.index 9 (.string (str l)) (.int .i64 (k:Int))).run prog w = .ok (ah x) w:=by
 have hk:k<l.length:=(List.getElem?_eq_some_iff.1 h).1;rw[run_index_string w 9 (str l) .i64 (k:Int) underlying9,dif_pos ⟨by omega,by rw[nC];omega⟩]
 have e:(str l)[k]'(by rw[nC];exact hk)=x:=by
  have e1:(str l)[k]'(by rw[nC];exact hk)=l[k]:=rfl;rw[e1];exact(List.getElem?_eq_some_iff.1 h).2
 simp only[Int.toNat_natCast];rw[e]
theorem a1p (l:List UInt8) (w:World) :
  Calls prog 91 #[.string (str l)] w fun e w'=>e = .returned (.bool (wz l))∧Keep w w':=by
 have HK:Hid (Keep w w):=hid (Below.refl _ _);have HZ:Hid ((str l).size=l.length):=hid (nC l);have HB:Hid (wz l=(decide (1≤l.length)&&decide (l.length≤12)&&l.all fun x:UInt8=>decide (33≤x.toNat)&&decide (x.toNat≤126))):=hid rfl;generalize wz l=R at *;by_cases h1:1≤l.length∧l.length≤12
 ·have d0 : ¬ ((str l).size:Int)<1:=by rw[nC];omega
  have d1 : ¬ (12:Int)<(str l).size:=by rw[nC];omega
  have d2 : ¬ (str l).size<1:=by rw[nC];omega
  have d3 : ¬ 12<(str l).size:=by rw[nC];omega
  have d4 : ¬ (str l).size=0:=by rw[nC];omega
  have HR:Hid (R=l.all fun x:UInt8=>decide (33≤x.toNat)&&decide (x.toNat≤126)):=hid (by rw[HB.out];simp[h1]);obtain⟨N,hN⟩ : ∃ N,N=(str l).size:=⟨_,rfl⟩
  have HN:=hid hN
  have ROW:Hid (∀ k,k<N → ∃ x:UInt8,l[k]?=some x∧∀ y,(Instr.index 9 (.string (str l)) (.int .i64 (k:Int))).run prog y = .ok (ah x) y):=hid fun k hk=>by
   have hk2:k<l.length:=by rw[hN,nC]at hk;exact hk
   exact⟨l[k],List.getElem?_eq_getElem hk2,b9V l k _ (List.getElem?_eq_getElem hk2)⟩
  have MZ:Hid (∀ (k:Nat) (x:UInt8),l[k]?=some x → ¬ (33≤x.toNat∧x.toNat≤126)→R=false):=hid fun k x hx hb=>by
   rw[HR.out,List.all_eq_false];exact⟨x,List.mem_of_getElem? hx,by simpa using hb⟩
  have GOOD:Hid ((∀ (k:Nat) (x:UInt8),k<N→l[k]?=some x→33≤x.toNat∧x.toNat≤126)→R=true):=hid fun h=>by
   rw[HR.out,List.all_eq_true];intro x hx;obtain⟨k,hk⟩:=List.getElem?_of_mem hx;have hkN:k<N:=by rw[hN,nC];exact(List.getElem?_eq_some_iff.1 hk).1
   simpa using h k x hkN hk
  clear h1 HB HR hN;go_enter func91,ntmps91
  go_wp2_with fail
  go_loopw [14] (fun i wr => ∃ k:Nat,k≤N∧i = .int .i64 k∧Hid (∀ (j:Nat) (x:UInt8),j<k→l[j]?=some x→33≤x.toNat∧x.toNat≤126)∧Hid (Keep w wr)) (fun i _=>N - (intOf i).toNat)
  case atStart=>exact⟨0,Nat.zero_le _,rfl,hid (fun j x h=>absurd h (Nat.not_lt_zero _)),HK⟩
  case round =>
   obtain⟨k,hk,rfl,HP,bg⟩:=hrel;clear HK;by_cases hlt:k<N
   ·obtain⟨x,hx,hi⟩:=ROW.out k hlt
    have HX:=hid hx;have l1:(k:Int)<(str l).size:=by rw[←HN.out];omega
    have l2:k<(str l).size:=by rw[←HN.out];exact hlt
    clear ROW hx;by_cases hg:33≤x.toNat∧x.toNat≤126
    ·have g1 : ¬ (x.toNat:Int)<33:=by omega
     have g2 : ¬ (126:Int)<x.toNat:=by omega
     have g3 : ¬ x.toNat<33:=by omega
     have g4 : ¬ 126<x.toNat:=by omega
     have HP2:Hid (∀ (j:Nat) (y:UInt8),j<k+1→l[j]?=some y→33≤y.toNat∧y.toNat≤126):=hid fun j y hj hy=>by
      by_cases e:j<k
      ·exact HP.out j y e hy
      ·obtain rfl:j=k:=by omega
       rw[HX.out]at hy;obtain rfl:=Option.some.inj hy;exact hg
     clear hg HP HX MZ GOOD;go_wp2
     go_roundw
     case rel=>exact⟨k+1,by omega,by go_num,HP2,bg⟩
     case measure=>simp[intOf];omega
    ·have hR:R=false:=MZ.out k x HX.out hg
     subst hR;clear MZ GOOD HP HX;by_cases g:x.toNat<33
     ·have g1:(x.toNat:Int)<33:=by omega
      clear hg;go_wp2
      exact bodyPost_ret (v:=.bool false) (by simp[results,results91]) rfl ⟨rfl,bg.out⟩
     ·have g1 : ¬ (x.toNat:Int)<33:=by omega
      have g2:(126:Int)<x.toNat:=by omega
      have g4:126<x.toNat:=by omega
      clear hg;go_wp2
      exact bodyPost_ret (v:=.bool false) (by simp[results,results91]) rfl ⟨rfl,bg.out⟩
   ·have l1 : ¬ (k:Int)<(str l).size:=by rw[←HN.out];omega
    have l2 : ¬ k<(str l).size:=by rw[←HN.out];exact hlt
    have hR:R=true:=GOOD.out fun j y hj hy=>HP.out j y (by omega) hy;subst hR;clear ROW MZ GOOD HP;go_wp2
    exact bodyPost_ret (v:=.bool true) (by simp[results,results91]) rfl ⟨rfl,bg.out⟩
 ·have hR:R=false:=by
   rw[HB.out];by_cases h2:1≤l.length
   ·have h3 : ¬ l.length≤12:=fun q=>h1 ⟨h2,q⟩
    simp[h3]
   ·simp[h2]
  subst hR;clear HB;by_cases h2:1≤l.length
  ·have d0 : ¬ ((str l).size:Int)<1:=by rw[nC];omega
   have d1:(12:Int)<(str l).size:=by rw[nC];omega
   have d2 : ¬ (str l).size<1:=by rw[nC];omega
   have d3:12<(str l).size:=by rw[nC];omega
   have d4 : ¬ (str l).size=0:=by rw[nC];omega
   clear h1 h2;go_enter func91,ntmps91
   go_wp2
   exact bodyPost_ret (v:=.bool false) (by simp[results,results91]) rfl ⟨rfl,HK.out⟩
  ·have d0:((str l).size:Int)<1:=by rw[nC];omega
   have d2:(str l).size<1:=by rw[nC];omega
   have d4:(str l).size=0:=by rw[nC];omega
   clear h1 h2;go_enter func91,ntmps91
   go_wp2
   exact bodyPost_ret (v:=.bool false) (by simp[results,results91]) rfl ⟨rfl,HK.out⟩
theorem UG {A:Option Addr} {l:List UInt8} {w:World} (n c:Nat) (hn:n=l.length) (hr:Rd w A (l.map ah)):(convert 32 9 (.slice A n c)).run prog w = .ok (.string (str l)) w:=by
 subst hn;exact a6g underlying32 underlying5 underlying9 _ hr
theorem b3l (A:Option Addr) (a:List UInt8) (n c:Nat) (B:Option Addr) (b:List UInt8) (m d:Nat) (w:World) (ha:Rd w A (a.map ah)) (hb:Rd w B (b.map ah)) (hn:n=a.length) (hm:m=b.length) :
  Calls prog 123 #[.slice A n c,.slice B m d] w fun e w'=>e = .returned (.bool (decide (a=b)))∧w=w':=by
 have c1:=UG n c hn ha;have c2:=UG m d hm hb;have t:=QC a b;clear hn hm;go_enter func123,ntmps123
 go_wp2
 go_ret
 exact⟨xe (by by_cases h:a=b <;> simp[h]),rfl⟩
end Go.Proofs.YtiagcenlnekdeaaGreatDoor
