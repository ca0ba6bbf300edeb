/- Texts merged by pack.py: Rpt, Zma, Zmb, Zmc, Zmd, Zme, Zmf. -/
import Derived.Test.YtiagcenlnekdeaaGreatDoorCx16
import Derived.Test.YtiagcenlnekdeaaGreatDoorCx8
import Derived.Lib.LazyBuf
import Derived.Test.YtiagcenlnekdeaaGreatDoorCx7
import Derived.Test.YtiagcenlnekdeaaGreatDoorCx6
import Derived.Test.YtiagcenlnekdeaaGreatDoorCx9
set_option maxRecDepth 1000000
set_option maxHeartbeats 16000000
open Go.Proofs.Tryz
open Go.Lib (hid)
set_option linter.unusedSimpArgs false
set_option linter.unusedVariables false
namespace Go.Proofs.YtiagcenlnekdeaaGreatDoor
open Go.RowKit
attribute [local go_sem ↓] Go.wp_at_zero Go.wp_at_succ
theorem a2k {b:Nat} : ∀ (vs:List Value) (o:Nat) (w w':World),w.grownBy w' (some b)→w.grownBy (w'.setCells b o vs) (some b)
 | [],_,_,_,h=>h
 | v::r,o,w,w',h=>a2k r (o+1) w _ (eH h)
theorem a0Y {b:Nat} {t:TypeId} : ∀ (vs pre cs:List Value) (w:World),ae w b t (pre++cs)→vs.length≤cs.length→ae (w.setCells b pre.length vs) b t (pre++(vs++cs.drop vs.length))
 | [],pre,cs,w,h,_=>by simpa[World.setCells]using h
 | v::r,pre,[],w,h,hl=>by simp at hl
 | v::r,pre,x::cs,w,h,hl=>by
   have h1:=h.az pre.length v;have e:(pre++x::cs).set pre.length v=(pre++[v])++cs:=by simp[List.set_append_right]
   rw[e]at h1;have q:=a0Y r (pre++[v]) cs _ h1 (by simpa using hl);rw[List.length_append,List.length_singleton,List.append_assoc]at q;simpa[World.setCells]using q
theorem c1j {P:Program} {o:Oper} {a:Act} {w:World} {K:Act→World→Prop} {Q:Exit→Act→World→Prop} (d x:Operand) (dT sT:TypeId) (hop:o.op=Op.call { callee:=Callee.builtin Builtin.copy,args:=#[d,x],argTypes:=#[dT,sT]})
  (u v r:Value) (w':World) (hd:a.eval d=u) (hx:a.eval x=v) (hrun:(Builtin.copy_ #[dT,sT] o.type #[u,v]).run P w = .ok r w') (hK:K (a.put o.dst r) w'):o.wp P a w K Q:=by
 unfold Oper.wp;simp[execOp,hop,resolve,invoke,builtin,hd,hx,hrun,Result.andThen];exact hK
theorem Below.blk {B:Nat} {a b:World} {g:Nat} {t:TypeId} {cs:List Value} (h:Below B a b) (hb:ae a g t cs) (hg:g<B):ae b g t cs:=(h.block g hg).trans hb
def uM (g:UInt32) (cmd pl:List UInt8):List UInt8:=le4 g++((cmd++List.replicate (12 - cmd.length) 0)++(le4 (UInt32.ofNat pl.length)++((jH pl).take 4++pl)))
noncomputable def z12:Array Value:=match(prog.info? 195).bind (·.zero)with | some (.agg c)=>c | _ => #[]
theorem c1q (w:World):(zeroValue 195).run prog w = .ok (.agg z12) w:=by kernel_rfl
theorem XB:z12.toList=(List.replicate 12 (0:UInt8)).map ah:=by kernel_rfl
theorem c1p : ∃ zs:Array Value,(∀ w,(zeroValue 195).run prog w = .ok (.agg zs) w)∧zs.toList=(List.replicate 12 (0:UInt8)).map ah∧zs.size=12∧¬ zs = #[] :=
 ⟨z12,c1q,XB,by have h:=congrArg List.length XB;simpa using h,fun e=>by have h:=XB;rw[e]at h;cases h⟩
theorem a2b (g:UInt32) (cmd pl:List UInt8) (A:Option Addr) (n c:Nat) (w:World) (hn:pl.length=n) (hc:n≤c∧c≤maxLen) (hbig:n≤4000000) (Kq:wz cmd=true) (hr:Rd w A (pl.map ah)) (hS:bV w) :
  Calls prog 58 #[ag g,.agg #[.string (str cmd),.slice A n c]] w fun e w' => ∃ v,e = .returned (.tuple #[v,iv 0])∧w'.ownsRow w.heap.size 5 1 v (24+n) ((uM g cmd pl).map ah)∧Keep w w':=by
 have CM:Hid (∀ y,Calls prog 91 #[.string (str cmd)] y fun e w'=>e = .returned (.bool true)∧Keep y w'):=hid fun y=>by
  have q:=a1p cmd y
  rwa[Kq]at q
 have hcl:1≤cmd.length∧cmd.length≤12:=by
  simp only[wz,Bool.and_eq_true,decide_eq_true_eq]at Kq;exact⟨Kq.1.1,Kq.1.2⟩
 have HP:Hid (uM g cmd pl=_):=hid (uM.eq_1 g cmd pl);generalize uM g cmd pl=BS at *;obtain⟨ds,hds⟩ : ∃ ds,aX (jH pl) ds:=⟨_,aX.of (uw _)⟩
 have yJ:Hid ((jH pl).length=32):=hid (uw _)
 have DB:Hid (∀ y,Keep w y→Calls prog 34 #[.slice A n c] y fun e w'=>e = .returned (.agg ds)∧Keep y w'):=hid fun y hy=>by
  have q:=JQ A pl c y (hS.keep hy) (hr.keep hy) (by omega) hc.2 (by omega);rw[hn,show zl (jH pl) = .agg ds from congrArg Value.agg hds.e]at q;exact q
 have hdn:=hds.n;have hdz:=hds.z;have hdi:=hds.i
 have gZ:=hid hds;generalize jH pl=D at *;obtain⟨zs,hz0,hzl,hzz,hzn⟩:=c1p;have Fg:=hid hzl;have YW:=hid hcl;have HC:=hid hc;have HR:=hid hr;have HN:=hid hn
 have d1:decide ((4000000:Int)<n)=false:=decide_eq_false (by omega);have HB:=hid hbig;clear Kq hc hr hS hn hds hzl hcl hbig;go_enter func58,ntmps58
 go_upto_region 1 with fail
 obtain⟨w0,hw0,H3,qw,-⟩:=mW w 150 [.string (str cmd),.slice A n c];rw[←hw0];clear hw0;have r0:w0.cell? ⟨w.heap.size,0,none⟩=some (.string (str cmd)):=(H3.out.cell 0).trans rfl;go_upto_region 3 with(go_at_call 91;refine(CM.out _).mono ?_;rintro e w1 ⟨rfl,k1⟩;replace H3:=hid (H3.out.keep k1);have ai:=hid (af qw.out k1);clear k1)
 clear r0;have r1:w1.cell? ⟨w.heap.size,1,none⟩=some (.slice A n c):=(H3.out.cell 1).trans rfl;go_upto_region 6 with fail
 obtain⟨w2,hw2,-,hk2,-⟩:=di w1 195 zs;replace hk2:=hk2.out;have oH:Hid (ae w2 w1.heap.size 195 ((List.replicate 12 (0:UInt8)).map ah)):=by rw[hw2,←Fg.out];exact hid (ae.new w1 _ zs.toList)
 rw[←hw2];clear hw2 r1 CM;have hb6:w.heap.size<w1.heap.size:=H3.out.lt;replace H3:=hid (H3.out.keep hk2);have ay:=hid (af ai.out hk2);clear hk2 qw ai d1;generalize w1.heap.size=b6 at *;letI jc:G.Mk:=⟨some b6⟩
 refine G.bu (.take [0,1,2] (.force [3] .done)) [] (by kernel_rfl) (by kernel_rfl) (fun wa ka=>?_);have hne:G.Mk.m≠some w.heap.size:=fun q=>by have e:b6=w.heap.size:=Option.some.inj q;omega
 have r0:=G.ja (aC ka (show w2.cell? ⟨w.heap.size,0,none⟩=some (.string (str cmd)) from(H3.out.cell 0).trans rfl)) hne;have A3:=hid (H3.out.keep ka);have A6:=hid (oH.out.keep ka);have AK:=hid (af ay.out ka)
 clear ka H3 oH ay;refine G.aN wa (G.Gr.refl _) ?_;simp only[au,ax,ak,aj];repeat(go_big_quiet_step (fail))
 clear r0 hne;refine wpQuiet_nil (G.bI ?_);simp only[au,ax,ak,aj];refine G.aI rfl (fun K hK=>?_);have hcl:=YW.out;have hsz:(str cmd).size=cmd.length:=rfl
 have hrun:=run_copy_string (P:=prog) wa 32 9 3 5 b6 0 12 12 (str cmd) underlying32 GV (by rw[hsz];exact hcl.2) (fun j hj=>by
  rw[Nat.zero_add,A6.out.cell,List.getElem?_eq_getElem (by rw[hsz]at hj;simp;omega)];rfl) (fun j hj=>A6.out.frozen _)
 have hdt:((str cmd).data.toList.map fun x=>Value.int .u8 (x.toNat:Int))=cmd.map ah:=by
  show(cmd.toArray.toList.map fun x=>Value.int .u8 (x.toNat:Int))=cmd.map ah
  simp
 rw[hdt]at hrun;refine c1j (.tmp 17) (.tmp 19) 32 9 rfl _ _ _ _ rfl rfl hrun ?_;have hgr:wa.grownBy (wa.setCells b6 0 (cmd.map ah)) (some b6):=a2k _ _ _ _ (iH _ _)
 have Va:ae (wa.setCells b6 0 (cmd.map ah)) b6 195 ((cmd++List.replicate (12 - cmd.length) 0).map ah):=by
  have q:=a0Y (cmd.map ah) [] _ wa A6.out (by simp;exact hcl.2)
  have e:cmd.map ah++((List.replicate 12 (0:UInt8)).map ah).drop (cmd.map ah).length=(cmd++List.replicate (12 - cmd.length) 0).map ah:=by
   rw[List.map_append,List.length_map,←List.map_drop,List.drop_replicate]
  have q2:ae (wa.setCells b6 0 (cmd.map ah)) b6 195 (cmd.map ah++((List.replicate 12 (0:UInt8)).map ah).drop (cmd.map ah).length):=q;rw[e]at q2;exact q2
 refine hK _ _ (show G.Gr wa _ from hgr) ?_;clear hK K hrun hdt;obtain⟨wb,hwb⟩ : ∃ y,y=wa.setCells b6 0 (cmd.map ah):=⟨_,rfl⟩
 rw[←hwb]at hgr Va;rw[←hwb];clear hwb;have yE:Hid (ae wb w.heap.size 150 [.string (str cmd),.slice A n c]):=hid (A3.out.grown hgr (fun e=>by injection e with e;omega));have QT:Hid (Keep w wb):=hid (aK AK.out hgr (by omega));have BG:=hid Va;clear hgr Va A3 A6 AK hcl hsz;refine G.aS (G.aT ?_);clear jc;have r1:wb.cell? ⟨w.heap.size,1,none⟩=some (.slice A n c):=(yE.out.cell 1).trans rfl;go_wp2_with fail
 refine(DB.out _ QT.out).mono ?_;clear DB r1;rintro e w5 ⟨rfl,k5⟩;replace yE:=hid (yE.out.keep k5);replace BG:=hid (BG.out.keep k5);have XR:=hid (af QT.out k5);obtain⟨hz,VG,b4Y,b4Z,VH⟩:=BD;have RV:=hid hdi;have RS:=hid hdz
 have hst:=fK w5 27 RV.out (VG.trans RS.out.symm) gZ.out.o;clear k5 QT VH;go_upto_region 8 with fail
 obtain⟨w6,hw,-,hk6,-⟩:=di w5 27 ds;replace hk6:=hk6.out;have QS:Hid (ae w6 w5.heap.size 27 (D.map ah)):=by rw[hw,←gZ.out.l];exact hid (ae.new w5 _ ds.toList)
 rw[←hw];clear hst hw;have hb7:b6<w5.heap.size:=BG.out.lt;replace yE:=hid (yE.out.keep hk6);replace BG:=hid (BG.out.keep hk6);have a7F:=hid (af XR.out hk6);clear hk6 XR;generalize w5.heap.size=b7 at *;have r1:w6.cell? ⟨w.heap.size,1,none⟩=some (.slice A n c):=(yE.out.cell 1).trans rfl;obtain⟨w8,hmk,Gw,k8,hs8⟩:=a4N (24+n) (by have:=HB.out;omega) w6;have DT:=hmk (24+(n:Int)) (by omega);have hn63:n≤4000000:=HB.out;clear hmk;go_upto_region 9 with fail
 obtain⟨B,hB⟩ : ∃ B,B=w6.heap.size:=⟨_,rfl⟩
 rw[←hB]at Gw hs8;rw[←hB];have a2Q:Below B w6 w8:=by rw[hB];exact k8
 have hbB:w.heap.size<B∧b6<B∧b7<B:=⟨by rw[hB];exact yE.out.lt,by rw[hB];exact BG.out.lt,by rw[hB];exact QS.out.lt⟩
 have ED:=hid hbB;have a0E:=hid Gw;have QY:=hid a2Q;have Jd:=hid hs8
 have hcv:IntKind.u32.wrap (n:Int)=((UInt32.ofNat n).toNat:Int):=by
  rw[IntKind.wrap_u32,UInt32.toNat_ofNat'];omega
 have YX:=hid hcv;have XY:Hid (∀ y,Below B w6 y→Keep w y):=hid fun y hy=>a7F.out.trans (hy.mono (by have:=ED.out.1;omega));have sD:Hid (B≤w6.heap.size):=hid (Nat.le_of_eq hB);clear DT hcv Gw a2Q hbB hs8 k8 r1 hb7 hB;have b0w:Hid (((cmd++List.replicate (12 - cmd.length) 0).map ah).length=12*1):=hid (by have:=YW.out;simp;omega);have b0x:Hid (((D.take 4).map ah).length=4*1):=hid (by have:=yJ.out;simp[this]);have b0y:Hid ((pl.map ah).length=n*1):=hid (by have:=HN.out;simp[this]);go_upto_region 10 with(go_at_call 92;refine(a2a B _ 0 [] w8 a0E.out (by have:=QY.out.size;have:=sD.out;omega) (by have:=HB.out;omega) g).mono ?_;rintro e w9 ⟨v9,rfl,ow,gr⟩;have a0F:=hid ow;have Nc:=hid (QY.out.trans (gr.below a0E.out (by have:=QY.out.size;have:=sD.out;omega)));clear ow gr)
 have b0Q:=hid ((Below.blk Nc.out BG.out ED.out.2.1).rd);go_upto_region 11 with(at_builtin;refine iF jU (by rfl) _ _ (by rfl) B _ (0+4) _ (by rfl) a0F.out (some ⟨b6,0,none⟩) 12 12 ((cmd++List.replicate (12 - cmd.length) 0).map ah) (by rfl) b0w.out b0Q.out (jL _) (by have:=HB.out;omega) (by unfold maxLen;have:=HB.out;omega) (by have:=Nc.out.size;have:=sD.out;omega) ?_;intro v10 w10 ow hg hat;have a0B:=hid ow;have Na:=hid (Nc.out.trans ((Gr.app (Gr.refl w9 _) hg hat).below a0F.out (by have:=Nc.out.size;have:=sD.out;omega)));clear ow hg hat)
 have r1:w10.cell? ⟨w.heap.size,1,none⟩=some (.slice A n c):=((Below.blk Na.out yE.out ED.out.1).cell 1).trans rfl;have hcv:=YX.out
 have hu:ag (UInt32.ofNat n) = .int .u32 (n:Int):=by
  unfold ag;rw[←YX.out,IntWalk.u32_in _ (by have:=HB.out;omega)]
 have F11:Hid (Calls prog 92 #[v10,.int .u32 (n:Int)] w10 (rf B v10 (0+4+12+4) (([]++(le4 g).map ah)++(cmd++List.replicate (12 - cmd.length) 0).map ah++(le4 (UInt32.ofNat n)).map ah) w10)):=hid (by
  have q:=a2a B v10 (0+4+12) _ w10 a0B.out (by have:=Na.out.size;have:=sD.out;omega) (by have:=HB.out;omega) (UInt32.ofNat n)
  rwa[hu]at q)
 clear hcv hu;go_upto_region 12 with(go_at_call 92;refine F11.out.mono ?_;rintro e mJ ⟨v11,rfl,ow,gr⟩;have a0C:=hid ow;have Nb:=hid (Na.out.trans (gr.below a0B.out (by have:=Na.out.size;have:=sD.out;omega)));clear ow gr)
 clear r1 F11;have b0R:=hid ((show Rd mJ (some ⟨b7,0,none⟩) ((D.take 4).map ah) from by rw[List.map_take];exact(Below.blk Nb.out QS.out ED.out.2.2).rd.take 4));go_upto_region 13 with(at_builtin;refine iF jU (by rfl) _ _ (by rfl) B _ (0+4+12+4) _ (by rfl) a0C.out (some ⟨b7,0,none⟩) 4 32 ((D.take 4).map ah) (by rfl) b0x.out b0R.out (jL _) (by have:=HB.out;omega) (by unfold maxLen;have:=HB.out;omega) (by have:=Nb.out.size;have:=sD.out;omega) ?_;intro v12 w12 ow hg hat;have a0D:=hid ow;have Hl:=hid (Nb.out.trans ((Gr.app (Gr.refl mJ _) hg hat).below a0C.out (by have:=Nb.out.size;have:=sD.out;omega)));clear ow hg hat)
 have r1:w12.cell? ⟨w.heap.size,1,none⟩=some (.slice A n c):=((Below.blk Hl.out yE.out ED.out.1).cell 1).trans rfl;have b0S:=hid ((HR.out.keep (XY.out _ Hl.out)));go_wp2_with (at_builtin;refine iF jU (by rfl) _ _ (by rfl) B _ (0+4+12+4+4) _ (by rfl) a0D.out A n c (pl.map ah) (by rfl) b0y.out b0S.out (jL _) (by have:=HB.out;omega) (by unfold maxLen;have:=HB.out;omega) (by have:=Hl.out.size;have:=sD.out;omega) ?_;intro v13 xu ow hg hat;have b0E:=hid ow;have a7G:=hid (Hl.out.trans ((Gr.app (Gr.refl w12 _) hg hat).below a0D.out (by have:=Hl.out.size;have:=sD.out;omega)));clear ow hg hat)
 have hfin:(((([]++(le4 g).map ah)++(cmd++List.replicate (12 - cmd.length) 0).map ah)++(le4 (UInt32.ofNat n)).map ah)++(D.take 4).map ah)++pl.map ah=BS.map ah:=by
  rw[HP.out,HN.out];simp
 exact bodyPost_ret (v:=.tuple #[v13,iv 0]) (by simp[results,results58]) rfl ⟨v13,rfl,jm (own_base b0E.out (by have:=ED.out.1;omega)) (by omega) hfin,XY.out _ a7G.out⟩
abbrev gY:Value:=.slice none 0 0
def zH:List Value:=gY::(z32.map ah++(gY::(Hd.cells ⟨0,z32,z32,0,0,0⟩++[ag 0,gY,gY,ag 0,gY,gY,ag 0])))
inductive aV where
 | bz (p:UInt32) (n:Nat) (h:UInt32)
 | kN
 | hds (A:Option Addr) (l:List Hd) (c:Nat)
def qo (k:Int):List Value:=iv k::ag 0::dA 0::ag 0::gY::zH
def aV.kind:aV→Int
 | bz .. => 0
 | kN=>1
 | hds .. => 5
def aV.cells:aV→List Value
 | bz p n h=>iv 0::ag p::dA n::ag h::gY::zH
 | kN=>qo 1
 | hds A l c=>iv 5::ag 0::dA 0::ag 0 :: .slice A l.length c::zH
theorem a4P:zH.length=109:=by decide
theorem b7g : ∀ v∈zH,v.oneCell'=true:=by
 have h:zH.all (fun v=>v.oneCell')=true:=by decide
 exact fun v hv=>List.all_eq_true.1 h v hv
theorem Bi (a b c d:Value) (e:Value) (h : ∀ v∈[a,b,c,d,e],v.oneCell'=true):Bx 118 114 (a::b::c::d::e::zH) (a::b::c::d::e::zH).toArray :=
 Bx.of (by kernel_rfl) (by simp[a4P]) (by omega) (fun v hv=>by
  have hv':v∈[a,b,c,d,e]++zH:=hv
  exact(List.mem_append.1 hv').elim (h v) (b7g v))
theorem c1K (k:Int) : ∃ cs,Bx 118 114 (qo k) cs:=⟨_,Bi _ _ _ _ _ (by simp[Value.oneCell'])⟩
theorem aV.bx (m:aV) : ∃ cs,Bx 118 114 m.cells cs:=by
 cases m <;> exact⟨_,Bi _ _ _ _ _ (by simp[Value.oneCell'])⟩
theorem Ez : ∃ zs:Array Value,(∀ w,(zeroValue 118).run prog w = .ok (.agg zs) w)∧Bx 118 114 (qo 0) zs:=⟨_,fun w=>by kernel_rfl,Bi _ _ _ _ _ (by simp[Value.oneCell'])⟩
theorem b7V (m:aV) (cs:Array Value) (hA:Bx 118 114 m.cells cs) (w:World) :
  Calls prog 138 #[.agg cs] w fun e w' => ∃ ds,e = .returned (.agg ds)∧Bx 118 114 (qo m.kind) ds∧Keep w w':=by
 obtain⟨ys,hy0,ng⟩:=Ez;obtain⟨ds,hdA⟩:=c1K m.kind;have hyn:=ng.n;have o6:=ng.z
 have hcn:=hA.n;have hcz:=hA.z
 have hdn:=hdA.n;have hdz:=hdA.z;have hdi:=hdA.i
 have HD:=hid hdA;have HA:=hid hA.l
 clear ng hA hdA;go_enter func138,ntmps138
 go_upto_region 1 with fail
 obtain⟨w1,hw1,-,HR,HK,-⟩:=qF w 118 118 cs ys;have HB:Hid (ae w1 w.heap.size 118 m.cells):=by rw[hw1,←HA.out];exact hid ((ae.new w _ cs.toList).alloc _)
 rw[←hw1];clear hw1 HA
 cases m with
 | bz p n h =>
   obtain⟨wx,hx,HX,hg⟩ : ∃ wx,(((w1.setCell ⟨w.heap.size,1,none⟩ (.int .u32 0)).setCell ⟨w.heap.size,2,none⟩ (.int .u64 0)).setCell ⟨w.heap.size,3,none⟩ (.int .u32 0))=wx∧Hid (ae wx w.heap.size 118 (qo 0))∧Hid (w1.grownBy wx (some w.heap.size)):=⟨_,rfl,hid (((HB.out.az 1 _).az 2 _).az 3 _),hid (eH (eH (eH (iH _ _))))⟩
   have r0:w1.cell? ⟨w.heap.size,0,none⟩=some (iv 0):=HB.out.cell 0;have r1:w1.cell? ⟨w.heap.size,1,none⟩=some (ag p):=HB.out.cell 1;have r2:w1.cell? ⟨w.heap.size,2,none⟩=some (dA n):=HB.out.cell 2;have r3:w1.cell? ⟨w.heap.size,3,none⟩=some (ag h):=HB.out.cell 3
   have f1:=HB.out.frozen 1;have f2:=HB.out.frozen 2;have f3:=HB.out.frozen 3
   go_upto_region 19 with fail
   clear r0 r1 r2 r3 f1 f2 f3 hx;obtain⟨w8,hst,hb,aZ⟩:=bn (P:=prog) ds.toList (HR.out.grown hg.out (by simp)) (by rw[Array.length_toList,Array.length_toList,hdz,o6]) HD.out.o;have oI:=hid (show ae _ w.heap.size 118 ds.toList by rw[HD.out.l];exact HX.out);have ve:=hid hb;have HKK:Hid (Keep w w8):=hid (aK (aK HK.out hg.out (by omega)) aZ (by omega));clear hb aZ HX hg HB HR;go_wp2_with ((with_reducible refine bY w.heap.size ds (Eq.trans ?_ rfl) oI.out _ underlying118 rfl hdi ?_);rfl)
   exact bodyPost_ret (v:=.agg ds) (gJ results138 ve.out underlying118 hdi rfl rfl) rfl ⟨ds,rfl,HD.out,HKK.out⟩
 | kN =>
   have HX:=HB;have hg:Hid (w1.grownBy w1 (some w.heap.size)):=hid (iH _ _);have r0:w1.cell? ⟨w.heap.size,0,none⟩=some (iv 1):=HB.out.cell 0;go_upto_region 19 with fail
   clear r0;obtain⟨w8,hst,hb,aZ⟩:=bn (P:=prog) ds.toList (HR.out.grown hg.out (by simp)) (by rw[Array.length_toList,Array.length_toList,hdz,o6]) HD.out.o;have oI:=hid (show ae _ w.heap.size 118 ds.toList by rw[HD.out.l];exact HX.out);have ve:=hid hb;have HKK:Hid (Keep w w8):=hid (aK (aK HK.out hg.out (by omega)) aZ (by omega));clear hb aZ HX hg HB HR;go_wp2_with ((with_reducible refine bY w.heap.size ds (Eq.trans ?_ rfl) oI.out _ underlying118 rfl hdi ?_);rfl)
   exact bodyPost_ret (v:=.agg ds) (gJ results138 ve.out underlying118 hdi rfl rfl) rfl ⟨ds,rfl,HD.out,HKK.out⟩
 | hds A l c =>
   obtain⟨wx,hx,HX,hg⟩ : ∃ wx,w1.setCell ⟨w.heap.size,4,none⟩ (.slice none 0 0)=wx∧Hid (ae wx w.heap.size 118 (qo 5))∧Hid (w1.grownBy wx (some w.heap.size)):=⟨_,rfl,hid (HB.out.az 4 _),hid (eH (iH _ _))⟩
   have r0:w1.cell? ⟨w.heap.size,0,none⟩=some (iv 5):=HB.out.cell 0;have r4:w1.cell? ⟨w.heap.size,4,none⟩=some (.slice A l.length c):=HB.out.cell 4
   have f4:=HB.out.frozen 4;go_upto_region 19 with fail
   clear r0 r4 f4 hx;obtain⟨w8,hst,hb,aZ⟩:=bn (P:=prog) ds.toList (HR.out.grown hg.out (by simp)) (by rw[Array.length_toList,Array.length_toList,hdz,o6]) HD.out.o;have oI:=hid (show ae _ w.heap.size 118 ds.toList by rw[HD.out.l];exact HX.out);have ve:=hid hb;have HKK:Hid (Keep w w8):=hid (aK (aK HK.out hg.out (by omega)) aZ (by omega));clear hb aZ HX hg HB HR;go_wp2_with ((with_reducible refine bY w.heap.size ds (Eq.trans ?_ rfl) oI.out _ underlying118 rfl hdi ?_);rfl)
   exact bodyPost_ret (v:=.agg ds) (gJ results138 ve.out underlying118 hdi rfl rfl) rfl ⟨ds,rfl,HD.out,HKK.out⟩
theorem MR : ∃ zs:Array Value,aX z32 zs∧(∀ w,(zeroValue 27).run prog w = .ok (.agg zs) w) :=
 ⟨uT,⟨BF,xy,by rw[xy];kernel_rfl,(fun h=>by have:=xy;rw[h]at this;cases this),by rw[BF];exact jL _,by rw[show z32.map ah=uT.toList from BF.symm,Array.toArray_toList]⟩,Hf⟩
theorem XI : ∃ zs:Array Value,bF ⟨0,z32,z32,0,0,0⟩ zs∧(∀ w,(zeroValue 29).run prog w = .ok (.agg zs) w) :=
 ⟨uU,by
  have h:=bF.of (h:=⟨0,z32,z32,0,0,0⟩) ⟨rfl,rfl⟩
  rwa[show Hd.cells ⟨0,z32,z32,0,0,0⟩=uU.toList from QO.symm,Array.toArray_toList]at h,XJ⟩
theorem b7B (k:Int) (cs:Array Value) (hA:Bx 118 114 (qo k) cs) (w:World) :
  Calls prog 137 #[.agg cs] w fun e w'=>e = .returned (.bool true)∧Keep w w':=by
 obtain⟨iQ,aU,hz0⟩:=MR;obtain⟨zd,rO,hd0⟩:=XI;have hgd1:=b4d;have hgd2:=a2Y
 have hzn:=aU.n;have hzz:=aU.z;have hzi:=aU.i;have hdn:=rO.n;have hdz:=rO.z;have hdi:=rO.i
 have e1 : ∀ w,(Go.binOp .eql 27 (.agg iQ) (.agg iQ)).run prog w = .ok (.bool true) w:=fun w=>by
  have h:=b4c aU aU rfl rfl w
  rwa[show(z32==z32)=true from rfl]at h
 have e2 : ∀ w,(Go.binOp .eql 29 (.agg zd) (.agg zd)).run prog w = .ok (.bool true) w:=fun w=>by
  have h:=a2X rO rO ⟨rfl,rfl⟩ ⟨rfl,rfl⟩ w
  rwa[(Vx _ _).2 rfl]at h
 have hcn:=hA.n;have hcz:=hA.z
 have HA:=hid hA.l;have HZ:=hid aU.l;have HD:=hid rO.l
 clear hA aU rO;go_enter func137,ntmps137
 go_upto_region 1 with fail
 obtain⟨w1,hw1,HB,HK⟩:=l7 w 118 cs;rw[hw1];rw[HA.out]at HB;clear hw1 HA;have iZ:Hid (w1.rangeAt w.heap.size 6 iQ.toList):=hid (cu HB.out 6 iQ.toList (by rw[HZ.out];rfl));have bU:Hid (w1.rangeAt w.heap.size 39 zd.toList):=hid (cu HB.out 39 zd.toList (by rw[HD.out];rfl));have r1:w1.cell? ⟨w.heap.size,1,none⟩=some (ag 0):=HB.out.cell 1;have r2:w1.cell? ⟨w.heap.size,2,none⟩=some (dA 0):=HB.out.cell 2;have r3:w1.cell? ⟨w.heap.size,3,none⟩=some (ag 0):=HB.out.cell 3
 have r4:w1.cell? ⟨w.heap.size,4,none⟩=some gY:=HB.out.cell 4;have r5:w1.cell? ⟨w.heap.size,5,none⟩=some gY:=HB.out.cell 5;have r6:w1.cell? ⟨w.heap.size,38,none⟩=some gY:=HB.out.cell 38
 have r7:w1.cell? ⟨w.heap.size,107,none⟩=some (ag 0):=HB.out.cell 107;have r8:w1.cell? ⟨w.heap.size,108,none⟩=some gY:=HB.out.cell 108;have r9:w1.cell? ⟨w.heap.size,109,none⟩=some gY:=HB.out.cell 109
 have s0:w1.cell? ⟨w.heap.size,110,none⟩=some (ag 0):=HB.out.cell 110;have s1:w1.cell? ⟨w.heap.size,111,none⟩=some gY:=HB.out.cell 111;have s2:w1.cell? ⟨w.heap.size,112,none⟩=some gY:=HB.out.cell 112;have s3:w1.cell? ⟨w.heap.size,113,none⟩=some (ag 0):=HB.out.cell 113
 go_wp2_with (first | ((with_reducible refine dw w.heap.size 6 iQ (Eq.trans ?_ rfl) iZ.out _ kG rfl hzi (Eq.trans ?_ rfl) ?_);rfl;rfl) | ((with_reducible refine dw w.heap.size 6 iQ (Eq.trans ?_ rfl) iZ.out _ kG rfl hzi rfl ?_);rfl) | ((with_reducible refine dw w.heap.size 39 zd (Eq.trans ?_ rfl) bU.out _ underlying29 rfl hdi (Eq.trans ?_ rfl) ?_);rfl;rfl) | ((with_reducible refine dw w.heap.size 39 zd (Eq.trans ?_ rfl) bU.out _ underlying29 rfl hdi rfl ?_);rfl))
 exact bodyPost_ret (v:=.bool true) (by simp[results,results137]) rfl ⟨rfl,HK.out⟩
def aV.small:aV→Prop
 | hds _ l _=>l.length≤2000
 | _=>True
theorem a13 (m:aV) (hm:m.small) (cs:Array Value) (hA:Bx 118 114 m.cells cs) (w:World) :
  Calls prog 88 #[.agg cs] w fun e w'=>e = .returned (.bool true)∧Keep w w':=by
 have FC:Hid (∀ y,Calls prog 138 #[.agg cs] y fun e w' => ∃ ds,e = .returned (.agg ds)∧Bx 118 114 (qo m.kind) ds∧Keep y w'):=hid fun y=>b7V m cs hA y;have NO:Hid (∀ ds y,Bx 118 114 (qo m.kind) ds→Calls prog 137 #[.agg ds] y fun e w'=>e = .returned (.bool true)∧Keep y w'):=hid fun ds y h=>b7B _ ds h y;have hcn:=hA.n;have hcz:=hA.z;have hci:=hA.i
 have HA:=hid hA.l;clear hA;go_enter func88,ntmps88
 go_upto_region 1 with fail
 obtain⟨w1,hw1,HC,HK⟩:=l7 w 118 cs;rw[hw1];clear hw1;have HB:Hid (ae w1 w.heap.size 118 m.cells):=by rw[←HA.out];exact HC
 cases m with
 | bz p n h =>
   have r0:w1.cell? ⟨w.heap.size,0,none⟩=some (iv 0):=HB.out.cell 0;have r4:w1.cell? ⟨w.heap.size,4,none⟩=some (gY):=HB.out.cell 4;have r5:w1.cell? ⟨w.heap.size,5,none⟩=some gY:=HB.out.cell 5;have r6:w1.cell? ⟨w.heap.size,38,none⟩=some gY:=HB.out.cell 38;have r8:w1.cell? ⟨w.heap.size,108,none⟩=some gY:=HB.out.cell 108;have r9:w1.cell? ⟨w.heap.size,109,none⟩=some gY:=HB.out.cell 109
   go_wp2_with ((with_reducible refine bY w.heap.size cs (Eq.trans ?_ rfl) HC.out _ underlying118 rfl hci ?_);rfl)
   refine(FC.out _).mono ?_;rintro e w2 ⟨ds,rfl,hd,k2⟩;have hdn:=hd.n;have hdz:=hd.z
   have N2:=hid (NO.out ds w2 hd);have ay:=hid (af HK.out k2)
   clear hd k2 r0 r4 r5 r6 r8 r9 FC NO;go_wp2_with fail
   refine N2.out.mono ?_;rintro e w3 ⟨rfl,k3⟩;have aA:=hid (af ay.out k3);clear k3 N2;go_wp2
   exact bodyPost_ret (v:=.bool true) (by simp[results,results88]) rfl ⟨rfl,aA.out⟩
 | kN =>
   have r0:w1.cell? ⟨w.heap.size,0,none⟩=some (iv 1):=HB.out.cell 0;have r4:w1.cell? ⟨w.heap.size,4,none⟩=some (gY):=HB.out.cell 4;have r5:w1.cell? ⟨w.heap.size,5,none⟩=some gY:=HB.out.cell 5;have r6:w1.cell? ⟨w.heap.size,38,none⟩=some gY:=HB.out.cell 38;have r8:w1.cell? ⟨w.heap.size,108,none⟩=some gY:=HB.out.cell 108;have r9:w1.cell? ⟨w.heap.size,109,none⟩=some gY:=HB.out.cell 109
   go_wp2_with ((with_reducible refine bY w.heap.size cs (Eq.trans ?_ rfl) HC.out _ underlying118 rfl hci ?_);rfl)
   refine(FC.out _).mono ?_;rintro e w2 ⟨ds,rfl,hd,k2⟩;have hdn:=hd.n;have hdz:=hd.z
   have N2:=hid (NO.out ds w2 hd);have ay:=hid (af HK.out k2)
   clear hd k2 r0 r4 r5 r6 r8 r9 FC NO;go_wp2_with fail
   refine N2.out.mono ?_;rintro e w3 ⟨rfl,k3⟩;have aA:=hid (af ay.out k3);clear k3 N2;go_wp2
   exact bodyPost_ret (v:=.bool true) (by simp[results,results88]) rfl ⟨rfl,aA.out⟩
 | hds A l c =>
   have hlt : ¬ (2000:Int)<l.length:=by have:l.length≤2000:=hm
                                        omega
   have r0:w1.cell? ⟨w.heap.size,0,none⟩=some (iv 5):=HB.out.cell 0;have r4:w1.cell? ⟨w.heap.size,4,none⟩=some (.slice A l.length c):=HB.out.cell 4;have r5:w1.cell? ⟨w.heap.size,5,none⟩=some gY:=HB.out.cell 5;have r6:w1.cell? ⟨w.heap.size,38,none⟩=some gY:=HB.out.cell 38;have r8:w1.cell? ⟨w.heap.size,108,none⟩=some gY:=HB.out.cell 108;have r9:w1.cell? ⟨w.heap.size,109,none⟩=some gY:=HB.out.cell 109
   go_wp2_with ((with_reducible refine bY w.heap.size cs (Eq.trans ?_ rfl) HC.out _ underlying118 rfl hci ?_);rfl)
   refine(FC.out _).mono ?_;rintro e w2 ⟨ds,rfl,hd,k2⟩;have hdn:=hd.n;have hdz:=hd.z
   have N2:=hid (NO.out ds w2 hd);have ay:=hid (af HK.out k2)
   clear hd k2 r0 r4 r5 r6 r8 r9 FC NO;go_wp2_with fail
   refine N2.out.mono ?_;rintro e w3 ⟨rfl,k3⟩;have aA:=hid (af ay.out k3);clear k3 N2;go_wp2
   exact bodyPost_ret (v:=.bool true) (by simp[results,results88]) rfl ⟨rfl,aA.out⟩
inductive eX where
 | u32 (x:UInt32)
 | u64 (n:Nat)
 | heads (A:Option Addr) (l:List Hd) (c:Nat)
def eX.val:eX→Value
 | .u32 x => .iface 22 (ag x)
 | .u64 n => .iface 48 (dA n)
 | .heads A l c => .iface 86 (.slice A l.length c)
def eX.lay:eX→List UInt8
 | .u32 x=>fG x.toNat 4
 | .u64 n=>fG n 8
 | .heads _ l _=>qM l
def eX.fit (w:World):eX→Prop
 | .u64 n=>n<2^64
 | .heads A l _=>l.length≤2000∧(∀ h∈l,h.ok)∧Rd w A (l.flatMap Hd.cells)
 | _=>True
def aV.parts:aV→List eX
 | .bz p n h=>[.u32 p,.u64 n,.u32 h]
 | .kN=>[]
 | .hds A l c=>[.heads A l c]
def aV.put (m:aV):List UInt8:=m.parts.flatMap eX.lay
theorem a5K (m:aV) (cs:Array Value) (hA:Bx 118 114 m.cells cs) (w:World) :
  Calls prog 89 #[.agg cs] w fun e w' => ∃ A,e = .returned (.slice A m.parts.length m.parts.length)∧Rd w' A (m.parts.map eX.val)∧Keep w w':=by
 have hcn:=hA.n;have hcz:=hA.z
 have HA:=hid hA.l;clear hA;go_enter func89,ntmps89
 go_upto_region 1 with fail
 obtain⟨w1,hw1,HB,HK⟩:=l7 w 118 cs;rw[hw1];rw[HA.out]at HB;clear hw1 HA
 cases m with
 | bz p n h =>
   have r0:w1.cell? ⟨w.heap.size,0,none⟩=some (iv 0):=HB.out.cell 0;have r1:w1.cell? ⟨w.heap.size,1,none⟩=some (ag p):=HB.out.cell 1;have r2:w1.cell? ⟨w.heap.size,2,none⟩=some (dA n):=HB.out.cell 2;have r3:w1.cell? ⟨w.heap.size,3,none⟩=some (ag h):=HB.out.cell 3
   go_wp2
   exact bodyPost_ret (v:=.slice (some ⟨w1.heap.size,0,none⟩) 3 3) (by simp[results,results89]) rfl ⟨_,rfl,Rd.new w1 _ _,af HK.out (aB _ _)⟩
 | kN =>
   have r0:w1.cell? ⟨w.heap.size,0,none⟩=some (iv 1):=HB.out.cell 0;go_wp2
   exact bodyPost_ret (v:=gY) (by simp[results,results89]) rfl ⟨_,rfl,.inl rfl,HK.out⟩
 | hds A l c =>
   have r0:w1.cell? ⟨w.heap.size,0,none⟩=some (iv 5):=HB.out.cell 0;have r4:w1.cell? ⟨w.heap.size,4,none⟩=some (.slice A l.length c):=HB.out.cell 4
   go_wp2
   exact bodyPost_ret (v:=.slice (some ⟨w1.heap.size,0,none⟩) 1 1) (by simp[results,results89]) rfl ⟨_,rfl,Rd.new w1 _ _,af HK.out (aB _ _)⟩
theorem og {P:Program} {t a:TypeId} {d:TypeDesc} {z:Value} (hu:P.underlying a=some d) (hd:(match d with | .interface _=>true | _=>false)=false) (hne:t≠a) (hz : ∀ w,(zeroValue a).run P w = .ok z w) (v:Value) (xT:TypeId) (w:World) :
  (Instr.typeAssert (.iface t v) xT a true).run P w = .ok (.tuple #[z,.bool false]) w:=by
 unfold Instr.typeAssert
 cases d <;> first | (simp at hd;done) | simp[run_underlying hu,hne,hz,Sem.run_bind,Result.andThen]
theorem Gh {P:Program} {a:TypeId} {d:TypeDesc} (hu:P.underlying a=some d) (hd:(match d with | .interface _=>true | _=>false)=false) (v:Value) (xT:TypeId) (w:World) :
  (Instr.typeAssert (.iface a v) xT a true).run P w = .ok (.tuple #[v,.bool true]) w:=by
 unfold Instr.typeAssert
 cases d <;> first | (simp at hd;done) | simp[run_underlying hu,Sem.run_bind,Result.andThen]
theorem V7 {P:Program} {a:TypeId} {d:TypeDesc} (hu:P.underlying a=some d) (hd:(match d with | .interface _=>true | _=>false)=false) (v:Value) (xT:TypeId) (w:World) :
  (Instr.typeAssert (.iface a v) xT a false).run P w = .ok v w:=by
 unfold Instr.typeAssert
 cases d <;> first | (simp at hd;done) | simp[run_underlying hu,Sem.run_bind,Result.andThen]
theorem PS (w:World):(zeroValue 22).run prog w = .ok (.int .u32 0) w:=by kernel_rfl
theorem a4o (w:World):(zeroValue 48).run prog w = .ok (.int .u64 0) w:=by kernel_rfl
theorem a4m (w:World):(zeroValue 258).run prog w = .ok (.agg #[.slice none 0 0,.int .u64 0]) w:=by kernel_rfl
theorem a4n (w:World):(zeroValue 110).run prog w = .ok (.slice none 0 0) w:=by kernel_rfl
theorem a4l (w:World):(zeroValue 32).run prog w = .ok (.slice none 0 0) w:=by kernel_rfl
theorem b6y (B:Nat) (v:Value) (N:Nat) (xs:List Value) (w:World) (own:w.ownsRow B 5 1 v N xs) (hB:B≤w.heap.size) (hN:N≤900000000) (x:UInt32) :
  Calls prog 90 #[v,.iface 22 (ag x)] w (rf B v (N+4) (xs++(fG x.toNat 4).map ah) w):=by
 obtain⟨iQ,aU,hz0⟩:=MR;have hzn:=aU.n;have hzz:=aU.z
 have HZ:=hid aU;have HO:=hid own;have HB:=hid hB
 clear own aU;have hx32:=x.toNat_lt;have Uo:Hid (∀ y,w.heap.size≤y.heap.size→y.ownsRow B 5 1 v N xs→Calls prog 139 #[v,dA x.toNat,iv 4] y (rf B v (N+4) (xs++(fG x.toNat 4).map ah) y)):=hid fun y h1 h2=>a7h B v N xs x.toNat 4 y h2 (by have:=HB.out;omega) (by omega) (by omega);generalize fG x.toNat 4=T at *;unfold rf;go_enter func90,ntmps90
 have Uc : ∀ y,(Instr.typeAssert (.iface 22 (ag x)) 20 27 true).run prog y = .ok (.tuple #[.agg iQ,.bool false]) y:=og kG rfl (by decide) hz0 _ _;have yZ : ∀ y,(Instr.typeAssert (.iface 22 (ag x)) 20 22 true).run prog y = .ok (.tuple #[ag x,.bool true]) y:=Gh underlying22 rfl _ _;have hst : ∀ y:World,(storeCells ⟨y.heap.size,0,none⟩ iQ.toList 0).run prog (y.alloc (.cells iQ 27)) = .ok () (y.alloc (.cells iQ 27)):=fun y=>run_storeCells_new (P:=prog) y 27 iQ iQ HZ.out.i rfl (by have:=all_oneCell_toArray HZ.out.o;simpa using this);go_upto_region 4 with fail
 go_wp2_with (go_at_call 139;refine(Uo.out _ (by simp) (HO.out.alloc _)).mono ?_;rintro e w2 ⟨v2,rfl,kJ,U7⟩)
 exact bodyPost_ret (v:=v2) (by simp[results,results90]) rfl ⟨_,rfl,kJ,Gr.trans (Gr.oz (aB _ _) _) U7⟩
theorem b6z (B:Nat) (v:Value) (N:Nat) (xs:List Value) (w:World) (own:w.ownsRow B 5 1 v N xs) (hB:B≤w.heap.size) (hN:N≤900000000) (n:Nat) (hn:n<2^64) :
  Calls prog 90 #[v,.iface 48 (dA n)] w (rf B v (N+8) (xs++(fG n 8).map ah) w):=by
 obtain⟨iQ,aU,hz0⟩:=MR;have hzn:=aU.n;have hzz:=aU.z
 have HZ:=hid aU;have HO:=hid own;have HB:=hid hB
 clear own aU;have Uo:Hid (∀ y,w.heap.size≤y.heap.size→y.ownsRow B 5 1 v N xs→Calls prog 139 #[v,dA n,iv 8] y (rf B v (N+8) (xs++(fG n 8).map ah) y)):=hid fun y h1 h2=>a7h B v N xs n 8 y h2 (by have:=HB.out;omega) (by omega) (by omega);generalize fG n 8=T at *;unfold rf;go_enter func90,ntmps90
 have Uc : ∀ y,(Instr.typeAssert (.iface 48 (dA n)) 20 27 true).run prog y = .ok (.tuple #[.agg iQ,.bool false]) y:=og kG rfl (by decide) hz0 _ _;have N1 : ∀ y,(Instr.typeAssert (.iface 48 (dA n)) 20 22 true).run prog y = .ok (.tuple #[.int .u32 0,.bool false]) y:=og underlying22 rfl (by decide) PS _ _;have yZ : ∀ y,(Instr.typeAssert (.iface 48 (dA n)) 20 48 true).run prog y = .ok (.tuple #[dA n,.bool true]) y:=Gh underlying48 rfl _ _;have hst : ∀ y:World,(storeCells ⟨y.heap.size,0,none⟩ iQ.toList 0).run prog (y.alloc (.cells iQ 27)) = .ok () (y.alloc (.cells iQ 27)):=fun y=>run_storeCells_new (P:=prog) y 27 iQ iQ HZ.out.i rfl (by have:=all_oneCell_toArray HZ.out.o;simpa using this);go_upto_region 4 with fail
 go_wp2_with (go_at_call 139;refine(Uo.out _ (by simp) (HO.out.alloc _)).mono ?_;rintro e w2 ⟨v2,rfl,kJ,U7⟩)
 exact bodyPost_ret (v:=v2) (by simp[results,results90]) rfl ⟨_,rfl,kJ,Gr.trans (Gr.oz (aB _ _) _) U7⟩
theorem b6v (w0:World) (v:Value) (N:Nat) (xs:List Value) (A:Option Addr) (l:List Hd) (c:Nat) (w:World) (hk0:Keep w0 w) (own:w.ownsRow w0.heap.size 5 1 v N xs) (hN:N≤900000000) (hl:l.length≤2000) (hk : ∀ h∈l,h.ok) (hr:Rd w0 A (l.flatMap Hd.cells)) :
  Calls prog 90 #[v,.iface 86 (.slice A l.length c)] w (rf w0.heap.size v (N+(qM l).length) (xs++(qM l).map ah) w):=by
 obtain⟨iQ,aU,hz0⟩:=MR;obtain⟨zd,rO,hd0⟩:=XI;have hzn:=aU.n;have hzz:=aU.z
 have hdn:=rO.n;have hdz:=rO.z
 have HZ:=hid aU;have HZD:=hid rO
 have HO:=hid own;have HK:=hid hk0
 have hs0:=hk0.size;clear own aU rO hk0;have HLEN:(qM l).length≤200000:=by unfold qM;rw[List.length_append,JP,VM l hk];have:=Md l.length;omega
 have HR:=hid hr;have HP:Hid (∀ y,Keep w0 y→Calls prog 142 #[.slice A l.length c] y fun e w' => ∃ v,e = .returned (.tuple #[v,iv 0])∧w'.ownsRow y.heap.size 5 1 v (qM l).length ((qM l).map ah)∧Keep y w'):=hid fun y hy=>b5k A l c y hl hk (HR.out.keep hy);clear hr hk;generalize qM l=hp at *;unfold rf;go_enter func90,ntmps90
 have Uc : ∀ y,(Instr.typeAssert (.iface 86 (.slice A l.length c)) 20 27 true).run prog y = .ok (.tuple #[.agg iQ,.bool false]) y:=og kG rfl (by decide) hz0 _ _;have N0 : ∀ y,(Instr.typeAssert (.iface 86 (.slice A l.length c)) 20 22 true).run prog y = .ok (.tuple #[.int .u32 0,.bool false]) y:=og underlying22 rfl (by decide) PS _ _;have N1 : ∀ y,(Instr.typeAssert (.iface 86 (.slice A l.length c)) 20 48 true).run prog y = .ok (.tuple #[.int .u64 0,.bool false]) y:=og underlying48 rfl (by decide) a4o _ _;have N2 : ∀ y,(Instr.typeAssert (.iface 86 (.slice A l.length c)) 20 258 true).run prog y = .ok (.tuple #[.agg #[.slice none 0 0,.int .u64 0],.bool false]) y:=og underlying258 rfl (by decide) a4m _ _;have N3 : ∀ y,(Instr.typeAssert (.iface 86 (.slice A l.length c)) 20 110 true).run prog y = .ok (.tuple #[.slice none 0 0,.bool false]) y:=og underlying110 rfl (by decide) a4n _ _;have N4 : ∀ y,(Instr.typeAssert (.iface 86 (.slice A l.length c)) 20 32 true).run prog y = .ok (.tuple #[.slice none 0 0,.bool false]) y:=og underlying32 rfl (by decide) a4l _ _;have N5 : ∀ y,(Instr.typeAssert (.iface 86 (.slice A l.length c)) 20 29 true).run prog y = .ok (.tuple #[.agg zd,.bool false]) y:=og underlying29 rfl (by decide) hd0 _ _;have yZ : ∀ y,(Instr.typeAssert (.iface 86 (.slice A l.length c)) 20 86 true).run prog y = .ok (.tuple #[.slice A l.length c,.bool true]) y:=Gh underlying86 rfl _ _;have hst : ∀ y:World,(storeCells ⟨y.heap.size,0,none⟩ iQ.toList 0).run prog (y.alloc (.cells iQ 27)) = .ok () (y.alloc (.cells iQ 27)):=fun y=>run_storeCells_new (P:=prog) y 27 iQ iQ HZ.out.i rfl (by have:=all_oneCell_toArray HZ.out.o;simpa using this);go_upto_region 37 with fail
 have k1:Keep w (w.alloc (.cells iQ 27)):=aB _ _;have ai:=hid k1;clear k1 hst;go_wp2_with (first | (go_at_call 142;refine(HP.out _ (af HK.out ai.out)).mono ?_;rintro e w2 ⟨v2,rfl,o2,k2⟩;obtain⟨A2,c2,rfl,-,-,-⟩:=dD o2;have b0O:=hid (wV o2);have ay:=hid (af ai.out k2);have hs2:=ay.out.size;clear o2 k2) | (at_builtin;refine iF jU (by rfl) _ _ (by rfl) w0.heap.size _ _ _ (by rfl) (jM HO.out ay.out) _ _ _ (hp.map ah) (by rfl) (by simp) b0O.out (Qa hp) (by omega) (by unfold maxLen;omega) (by omega) ?_;intro v3 w3 qi hg3 DI;have Own3:=hid qi;have a7V:=hid ((Gr.oz ay.out _).app hg3 DI);clear qi hg3 DI))
 exact bodyPost_ret (v:=v3) (by simp[results,results90]) rfl ⟨_,rfl,Own3.out,a7V.out⟩
theorem b6w (w0:World) (v:Value) (N:Nat) (xs:List Value) (p:eX) (w:World) (hk0:Keep w0 w) (own:w.ownsRow w0.heap.size 5 1 v N xs) (hN:N≤900000000) (hp:p.fit w0) :
  Calls prog 90 #[v,p.val] w (rf w0.heap.size v (N+p.lay.length) (xs++p.lay.map ah) w):=by
 cases p with
 | u32 x=>exact b6y w0.heap.size v N xs w own hk0.size hN x
 | u64 n=>exact b6z w0.heap.size v N xs w own hk0.size hN n hp
 | heads A l c=>exact b6v w0 v N xs A l c w hk0 own hN hp.1 hp.2.1 hp.2.2
theorem b3N {w0 a b:World} {u v:Value} {e:TypeId} {size n:Nat} {xs:List Value} (h:Gr a u b v) (ho:a.ownsRow w0.heap.size e size u n xs) (k:Keep w0 a):Keep w0 b:=Below.trans k (h.below ho k.size)
theorem U5 {α:Type} (f:α→List UInt8) (m:Nat) : ∀ (l:List α),(∀ x∈l,(f x).length≤m)→(l.flatMap f).length≤l.length*m
 | [],_=>by simp
 | a::l,h=>by
   have h1:=h a List.mem_cons_self;have h2:=U5 f m l fun x hx=>h x (List.mem_cons_of_mem _ hx);rw[List.flatMap_cons,List.length_append,List.length_cons,Nat.succ_mul];omega
theorem a4u {p:eX} {w:World} (h:p.fit w):p.lay.length≤200000:=by
 cases p with
 | u32 x=>rw[eX.lay,Gm];omega
 | u64 n=>rw[eX.lay,Gm];omega
 | heads A l c=>have:=h.1;unfold eX.lay qM;rw[List.length_append,JP,VM l h.2.1];have:=Md l.length;omega
theorem a5P (m:aV) (hs:m.small) (cs:Array Value) (hA:Bx 118 114 m.cells cs) (w:World) (h : ∀ p∈m.parts,p.fit w) :
  Calls prog 57 #[.agg cs] w fun e w' => ∃ v,e = .returned (.tuple #[v,iv 0])∧w'.ownsRow w.heap.size 5 1 v m.put.length (m.put.map ah)∧Keep w w':=by
 have hcn:=hA.n;have hcz:=hA.z;have hci:=hA.i
 have H9:Hid (∀ y,Keep w y→Calls prog 88 #[.agg cs] y fun e w'=>e = .returned (.bool true)∧Keep y w'):=hid fun y hy=>a13 m hs cs hA y;have JD:Hid (∀ y,Calls prog 89 #[.agg cs] y fun e w' => ∃ A,e = .returned (.slice A m.parts.length m.parts.length)∧Rd w' A (m.parts.map eX.val)∧Keep y w'):=hid fun y=>a5K m cs hA y
 have PF:Hid (∀ y,Keep w y → ∀ p∈m.parts,p.fit y):=hid fun y hy p hp=>by
  have q:=h p hp
  cases p with
  | heads A l c=>exact⟨q.1,q.2.1,q.2.2.keep hy⟩
  | u32 x=>exact q
  | u64 n=>exact q
 have hpl:m.parts.length≤3:=by cases m <;> simp[aV.parts]
 have HRR:Hid (m.put=m.parts.flatMap eX.lay):=hid rfl;generalize m.put=R at *;generalize m.parts=ps at *;clear h hA;go_enter func57,ntmps57
 go_upto_region 1 with fail
 obtain⟨w1,hw1,HBc,ai,-⟩:=di w 118 cs;rw[←hw1];clear hw1;have Zy:=PF;clear PF;go_upto_region 3 with(first | ((with_reducible refine bY w.heap.size cs (Eq.trans ?_ rfl) HBc.out _ underlying118 rfl hci ?_);rfl) | (go_at_call 88;refine(H9.out _ ai.out).mono ?_;rintro e w2 ⟨rfl,k2⟩;have ay:=hid (af ai.out k2);have HB2:=hid (HBc.out.keep k2);clear k2))
 clear H9 HBc;go_upto_region 5 with(first | ((with_reducible refine bY w.heap.size cs (Eq.trans ?_ rfl) HB2.out _ underlying118 rfl hci ?_);rfl) | (go_at_call 89;refine(JD.out _).mono ?_;rintro e w3 ⟨A,rfl,r3,k3⟩;have aA:=hid (af ay.out k3);have iG:=hid r3;clear k3 r3))
 have HF3:=hid (Zy.out _ aA.out);obtain⟨n,hn⟩ : ∃ n,ps.length=n:=⟨_,rfl⟩
 have HN:=hid hn;rw[hn]at hpl;simp only[hn];clear hn Zy JD HB2;have nP:Hid (w3.ownsRow w3.heap.size 5 1 (.slice none 0 0) ((ps.take 0).flatMap eX.lay).length (((ps.take 0).flatMap eX.lay).map ah)):=hid (World.ownsRow_nil _ _ _ _);have K0:Hid (Keep w3 w3):=hid (Below.refl _ _);go_wp2_with fail
 go_loopw [4,13] (fun x i wr => ∃ k:Nat,k≤n∧i = .int .i64 k∧Hid (wr.ownsRow w3.heap.size 5 1 x ((ps.take k).flatMap eX.lay).length (((ps.take k).flatMap eX.lay).map ah))∧Hid (Keep w3 wr)) (fun _ i _=>n - (intOf i).toNat)
 case atStart=>exact⟨0,Nat.zero_le _,rfl,nP,K0⟩
 case round =>
  obtain⟨k,hk,rfl,kD,qA⟩:=hrel;clear nP K0;by_cases hlt:k<n
  ·have d1:(k:Int)<n:=by omega
   have hkl:k<ps.length:=by rw[HN.out];exact hlt
   obtain⟨g,off,hA',hgb,F⟩:=(iG.out.keep qA.out).at (k:=k) (by rw[List.length_map];exact hkl);have c0:wr.cell? ⟨g,off+k,none⟩=some (ps[k].val):=by rw[F k (by rw[List.length_map];exact hkl),List.getElem_map]
   have KJ:=HF3.out ps[k] (List.getElem_mem hkl);have hb:=U5 eX.lay 200000 (ps.take k) fun x hx=>a4u (HF3.out x (List.mem_of_mem_take hx));have hb2:(ps.take k).length≤3:=by rw[List.length_take];omega
   have HT:Hid ((ps.take (k+1)).flatMap eX.lay=(ps.take k).flatMap eX.lay++eX.lay ps[k]):=hid (by rw[List.take_succ_eq_append_getElem hkl,List.flatMap_append];simp only[List.flatMap_cons,List.flatMap_nil,List.append_nil]);have b0z:=hid (b6w w3 _ _ _ ps[k] wr qA.out kD.out (by omega) KJ);generalize ps[k]=p at *;subst hA';clear hgb F hb hb2 KJ;generalize p.val=pv at *;go_wp2_with (go_at_call 90;refine b0z.out.mono ?_;rintro e w4 ⟨v4,rfl,own4,a2g⟩;have Own4:=hid own4;have K4:=hid (b3N a2g kD.out qA.out);clear own4 a2g)
   go_roundw
   case rel=>exact⟨k+1,by omega,by go_num,hid (jm Own4.out (by rw[HT.out,List.length_append]) (by rw[HT.out,List.map_append])),K4⟩
   case measure=>simp[intOf];omega
  ·obtain rfl:k=n:=by omega
   have d1 : ¬ (k:Int)<k:=by omega
   have Ue:=kD.out;rw[show ps.take k=ps from by rw[←HN.out];exact List.take_length,←HRR.out]at Ue;have a0I:=hid Ue;clear Ue kD;obtain⟨Av,cv,rfl,-,-,-⟩:=dD a0I.out;go_wp2
   exact bodyPost_ret (v:=.tuple #[.slice Av R.length cv,iv 0]) (by simp[results,results57]) rfl ⟨_,rfl,own_base a0I.out aA.out.size,af aA.out qA.out⟩
theorem c0f (x:Nat) (A:Option Addr) (b:List UInt8) (c:Nat) (w:World) (hl:b.length≤1000000000) (hc:b.length≤c) (h8 : ¬ b.length<8) (hr:Rd w A (b.map ah)) :
  Calls prog 157 #[.iface 48 (dA x),.slice A b.length c] w fun e w'=>e = .returned (.tuple #[.iface 48 (dA (fH b 8)),iv 8,iv 0])∧Keep w w':=by
 have jS:=hid (a6S A b c 8 w (by omega) (by omega) hr);clear hr;rw[if_neg h8,if_neg h8]at jS;generalize fH b 8=nv at *;clear h8;go_enter func157,ntmps157
 have N1 : ∀ y,(Instr.typeAssert (.iface 48 (dA x)) 20 22 true).run prog y = .ok (.tuple #[.int .u32 0,.bool false]) y:=og underlying22 rfl (by decide) PS _ _;have yZ : ∀ y,(Instr.typeAssert (.iface 48 (dA x)) 20 48 true).run prog y = .ok (.tuple #[dA x,.bool true]) y:=Gh underlying48 rfl _ _;go_wp2_with (go_at_call 190;refine jS.out.mono ?_;rintro e w2 ⟨rfl,rfl⟩)
 exact bodyPost_ret (v:=.tuple #[.iface 48 (dA nv),iv 8,iv 0]) (by simp[results,results157]) rfl ⟨rfl,Below.refl _ _⟩
theorem a6R (x:UInt32) (A:Option Addr) (b:List UInt8) (c:Nat) (w:World) (hl:b.length≤1000000000) (hc:b.length≤c) (hr:Rd w A (b.map ah)) :
  Calls prog 157 #[.iface 22 (ag x),.slice A b.length c] w fun e w'=>e = .returned (.tuple #[.iface 22 (ag (UInt32.ofNat (if b.length<4 then 0 else fH b 4))),iv 4,iv (if b.length<4 then 1 else 0)])∧Keep w w':=by
 have jS:=hid (a6S A b c 4 w (by omega) (by omega) hr);clear hr;obtain⟨V,hV⟩ : ∃ V,(if b.length<4 then 0 else fH b 4)=V:=⟨_,rfl⟩
 obtain⟨E,hE⟩ : ∃ E:Int,(if b.length<4 then(1:Int)else 0)=E:=⟨_,rfl⟩
 rw[hV,hE]at jS;rw[hV,hE];clear hV hE;obtain⟨y32,hy⟩ : ∃ v:UInt32,v=UInt32.ofNat V:=⟨_,rfl⟩
 have hvv:(V:Int)%4294967296=(y32.toNat:Int):=by rw[hy,UInt32.toNat_ofNat'];omega
 have hvw:IntKind.u32.wrap (V:Int)=(y32.toNat:Int):=by rw[IntKind.wrap_u32];exact hvv
 rw[←hy];clear hy;go_enter func157,ntmps157
 have yZ : ∀ y,(Instr.typeAssert (.iface 22 (ag x)) 20 22 true).run prog y = .ok (.tuple #[ag x,.bool true]) y:=Gh underlying22 rfl _ _;go_wp2_with (go_at_call 190;refine jS.out.mono ?_;rintro e w2 ⟨rfl,rfl⟩)
 exact bodyPost_ret (v:=.tuple #[.iface 22 (ag y32),iv 4,iv E]) (by simp[results,results157];try rfl) rfl ⟨rfl,Below.refl _ _⟩
theorem c0e (A0:Option Addr) (n0 c0:Nat) (A:Option Addr) (b:List UInt8) (c:Nat) (w:World) (hl:b.length≤1000000000) (hc:b.length≤c) (hcm:c≤maxLen) (hr:Rd w A (b.map ah)) :
  Calls prog 157 #[.iface 86 (.slice A0 n0 c0),.slice A b.length c] w fun e w' => ∃ v,e = .returned (.tuple #[.iface 86 v,iv b.length,iv (qL b).2])∧w'.ownsRow w.heap.size 29 68 v (qL b).1.length ((qL b).1.flatMap Hd.cells)∧Keep w w':=by
 obtain⟨iQ,aU,hz0⟩:=MR;obtain⟨zd,rO,hd0⟩:=XI;have jS:=hid (b4S A b c w hl hc hcm hr);clear hr aU rO;generalize qL b=R at *;go_enter func157,ntmps157
 have Uc : ∀ y,(Instr.typeAssert (.iface 86 (.slice A0 n0 c0)) 20 27 true).run prog y = .ok (.tuple #[.agg iQ,.bool false]) y:=og kG rfl (by decide) hz0 _ _;have N0 : ∀ y,(Instr.typeAssert (.iface 86 (.slice A0 n0 c0)) 20 22 true).run prog y = .ok (.tuple #[.int .u32 0,.bool false]) y:=og underlying22 rfl (by decide) PS _ _;have N1 : ∀ y,(Instr.typeAssert (.iface 86 (.slice A0 n0 c0)) 20 48 true).run prog y = .ok (.tuple #[.int .u64 0,.bool false]) y:=og underlying48 rfl (by decide) a4o _ _;have N2 : ∀ y,(Instr.typeAssert (.iface 86 (.slice A0 n0 c0)) 20 258 true).run prog y = .ok (.tuple #[.agg #[.slice none 0 0,.int .u64 0],.bool false]) y:=og underlying258 rfl (by decide) a4m _ _;have N3 : ∀ y,(Instr.typeAssert (.iface 86 (.slice A0 n0 c0)) 20 110 true).run prog y = .ok (.tuple #[.slice none 0 0,.bool false]) y:=og underlying110 rfl (by decide) a4n _ _;have N4 : ∀ y,(Instr.typeAssert (.iface 86 (.slice A0 n0 c0)) 20 32 true).run prog y = .ok (.tuple #[.slice none 0 0,.bool false]) y:=og underlying32 rfl (by decide) a4l _ _;have N5 : ∀ y,(Instr.typeAssert (.iface 86 (.slice A0 n0 c0)) 20 29 true).run prog y = .ok (.tuple #[.agg zd,.bool false]) y:=og underlying29 rfl (by decide) hd0 _ _;have yZ : ∀ y,(Instr.typeAssert (.iface 86 (.slice A0 n0 c0)) 20 86 true).run prog y = .ok (.tuple #[.slice A0 n0 c0,.bool true]) y:=Gh underlying86 rfl _ _;go_wp2_with (go_at_call 194;refine jS.out.mono ?_;rintro e w2 ⟨v2,rfl,o2,k2⟩;have O2:=hid o2;have K2:=hid k2;clear o2 k2)
 exact bodyPost_ret (v:=.tuple #[.iface 86 v2,iv b.length,iv R.2]) (by simp[results,results157]) rfl ⟨v2,rfl,O2.out,K2.out⟩
theorem a7z (k:Int) : ∃ ks,Bx 118 114 (qo k) ks∧prog.built 118 [(0,iv k)]=some ks:=⟨_,Bi _ _ _ _ _ (by simp[Value.oneCell']),by kernel_rfl⟩
theorem b7c (m:aV) (A:Option Addr) (c:Nat) (w:World) (hr:Rd w A (m.parts.map eX.val)) :
  Calls prog 158 #[iv m.kind,.slice A m.parts.length c] w fun e w' => ∃ ds,e = .returned (.agg ds)∧Bx 118 114 m.cells ds∧Keep w w':=by
 obtain⟨ys,hy0,ng⟩:=Ez;obtain⟨ks,mY,hkb⟩:=a7z m.kind;obtain⟨ds,hdA⟩:=m.bx;have hyn:=ng.n;have o6:=ng.z;have hkn:=mY.n;have hkz:=mY.z;have hdn:=hdA.n;have hdz:=hdA.z;have hdi:=hdA.i
 have HD:=hid hdA;have BR:=hid mY
 have hst:=run_storeCells_new (P:=prog) (w.alloc (.cells ys 118)) 118 ys ks mY.i (o6.trans hkz.symm) (by have:=all_oneCell_toArray mY.o;simpa using this);rw[World.size_alloc]at hst;clear ng mY hdA;go_enter func158,ntmps158
 go_upto_region 2 with((with_reducible refine La [(0,iv m.kind)] ks (Eq.trans ?_ rfl) hkb (Eq.trans ?_ rfl) ?_);rfl;rfl)
 obtain⟨w1,hw1,HR,-,HK,-⟩:=qF w 118 118 ys ks
 have HX:Hid (ae w1 (w.heap.size+1) 118 (qo m.kind)):=by
  rw[hw1,←BR.out.l];have h2:=ae.new (w.alloc (.cells ys 118)) 118 ks.toList;rw[World.size_alloc]at h2;exact hid h2
 rw[←hw1];clear hw1 hst hkb BR
 cases m with
 | bz p n h =>
   dsimp only[aV.kind,aV.parts,List.length_cons,List.length_nil,Nat.zero_add,Nat.reduceAdd]
   obtain⟨g,off,rfl,hgb,hcell⟩:=hr.at (k:=0) (by simp[aV.parts]);have c0:w.cell? ⟨g,off,none⟩=some (.iface 22 (ag p)):=hcell 0 (by simp[aV.parts]);have c1:w.cell? ⟨g,off+1,none⟩=some (.iface 48 (dA n)):=hcell 1 (by simp[aV.parts]);have c2:w.cell? ⟨g,off+2,none⟩=some (.iface 22 (ag h)):=hcell 2 (by simp[aV.parts])
   clear hr hcell;have AL : ∀ x:UInt32,∀ y,(Instr.typeAssert (.iface 22 (ag x)) 20 22 false).run prog y = .ok (ag x) y:=fun x=>V7 underlying22 rfl _ _;have yZ : ∀ y,(Instr.typeAssert (.iface 48 (dA n)) 20 48 false).run prog y = .ok (dA n) y:=V7 underlying48 rfl _ _;have b0W:=AL h;replace AL:=AL p;go_upto_region 4 with fail
   letI jc:G.Mk:=⟨some (w.heap.size+1)⟩
   refine G.bu (.take [0,1,2,3,4,5,6,7,8,9,10,11,12] (.force [13] (.take [14] (.force [15] (.take [16] (.force [17] .done)))))) [] (by kernel_rfl) (by kernel_rfl) (fun wa ka=>?_);have hne:G.Mk.m≠some g:=fun q=>by have e:w.heap.size+1=g:=Option.some.inj q;omega
   have b0:=G.ja (aC ka (aC HK.out c0)) hne;have b1:=G.ja (aC ka (aC HK.out c1)) hne;have b2:=G.ja (aC ka (aC HK.out c2)) hne
   replace HX:=hid (HX.out.keep ka);replace HR:=hid (HR.out.keep ka);replace HK:=hid (af HK.out ka);clear ka c0 c1 c2;refine G.aN wa (G.Gr.refl _) ?_;simp only[au,ax,ak,aj];repeat(go_big_quiet_step (fail))
   clear b0 b1 b2 hne AL yZ b0W;refine wpQuiet_nil (G.bI ?_);simp only[au,ax,ak,aj];refine G.aI rfl (fun K hK=>?_);have z:wa.cell? ⟨w.heap.size+1,1,none⟩=some (ag 0):=HX.out.cell 1;have y:=HX.out.frozen 1;go_simp;refine hK _ _ (show G.Gr wa _ from eH (iH wa _)) ?_;clear hK K z y;obtain⟨wa,hwb,xO,hgw⟩ : ∃ wb,wa.setCell ⟨w.heap.size+1,1,none⟩ (ag p)=wb∧Hid (ae wb (w.heap.size+1) 118 ((qo 0).set 1 (ag p)))∧Hid (wa.grownBy wb (some (w.heap.size+1))):=⟨_,rfl,hid (HX.out.az 1 (ag p)),hid (eH (iH _ _))⟩
   rw[hwb];replace HR:=hid (HR.out.grown hgw.out (by simp));replace HK:=hid (aK HK.out hgw.out (by omega));clear hwb hgw HX;have HX:=xO;clear xO;refine G.aS (G.aN _ (G.Gr.refl _) ?_);simp only[au,ax,ak,aj];repeat(go_big_quiet_step (fail))
   refine wpQuiet_nil (G.bI ?_);simp only[au,ax,ak,aj];refine G.aI rfl (fun K hK=>?_);have z:wa.cell? ⟨w.heap.size+1,2,none⟩=some (dA 0):=HX.out.cell 2;have y:=HX.out.frozen 2;go_simp;refine hK _ _ (show G.Gr wa _ from eH (iH wa _)) ?_;clear hK K z y;obtain⟨wa,hwb,xO,hgw⟩ : ∃ wb,wa.setCell ⟨w.heap.size+1,2,none⟩ (dA n)=wb∧Hid (ae wb (w.heap.size+1) 118 (((qo 0).set 1 (ag p)).set 2 (dA n)))∧Hid (wa.grownBy wb (some (w.heap.size+1))):=⟨_,rfl,hid (HX.out.az 2 (dA n)),hid (eH (iH _ _))⟩
   rw[hwb];replace HR:=hid (HR.out.grown hgw.out (by simp));replace HK:=hid (aK HK.out hgw.out (by omega));clear hwb hgw HX;have HX:=xO;clear xO;refine G.aS (G.aN _ (G.Gr.refl _) ?_);simp only[au,ax,ak,aj];repeat(go_big_quiet_step (fail))
   refine wpQuiet_nil (G.bI ?_);simp only[au,ax,ak,aj];refine G.aI rfl (fun K hK=>?_);have z:wa.cell? ⟨w.heap.size+1,3,none⟩=some (ag 0):=HX.out.cell 3;have y:=HX.out.frozen 3;go_simp;refine hK _ _ (show G.Gr wa _ from eH (iH wa _)) ?_;clear hK K z y;obtain⟨wa,hwb,xO,hgw⟩ : ∃ wb,wa.setCell ⟨w.heap.size+1,3,none⟩ (ag h)=wb∧Hid (ae wb (w.heap.size+1) 118 ((((qo 0).set 1 (ag p)).set 2 (dA n)).set 3 (ag h)))∧Hid (wa.grownBy wb (some (w.heap.size+1))):=⟨_,rfl,hid (HX.out.az 3 (ag h)),hid (eH (iH _ _))⟩
   rw[hwb];replace HR:=hid (HR.out.grown hgw.out (by simp));replace HK:=hid (aK HK.out hgw.out (by omega));clear hwb hgw HX;have HX:=xO;clear xO;refine G.aS (G.aT ?_);clear jc;go_upto_region 21 with fail
   have oI:=hid (show ae _ (w.heap.size+1) 118 ds.toList by rw[HD.out.l];exact HX.out);obtain⟨w8,fQ,hb8,aZ⟩:=bn (P:=prog) ds.toList HR.out (by rw[Array.length_toList,Array.length_toList,hdz,o6]) HD.out.o;have gq:=hid hb8;have bK:Hid (Keep w w8):=hid (aK HK.out aZ (by omega));clear hb8 aZ HX HR HK;go_wp2_with ((with_reducible refine bY (w.heap.size+1) ds (Eq.trans ?_ rfl) oI.out _ underlying118 rfl hdi ?_);rfl)
   exact bodyPost_ret (v:=.agg ds) (gJ results158 gq.out underlying118 hdi rfl rfl) rfl ⟨ds,rfl,HD.out,bK.out⟩
 | kN =>
   dsimp only[aV.kind,aV.parts,List.length_cons,List.length_nil,Nat.zero_add,Nat.reduceAdd]
   go_upto_region 21 with fail
   have oI:=hid (show ae _ (w.heap.size+1) 118 ds.toList by rw[HD.out.l];exact HX.out);obtain⟨w8,fQ,hb8,aZ⟩:=bn (P:=prog) ds.toList HR.out (by rw[Array.length_toList,Array.length_toList,hdz,o6]) HD.out.o;have gq:=hid hb8;have bK:Hid (Keep w w8):=hid (aK HK.out aZ (by omega));clear hb8 aZ HX HR HK;go_wp2_with ((with_reducible refine bY (w.heap.size+1) ds (Eq.trans ?_ rfl) oI.out _ underlying118 rfl hdi ?_);rfl)
   exact bodyPost_ret (v:=.agg ds) (gJ results158 gq.out underlying118 hdi rfl rfl) rfl ⟨ds,rfl,HD.out,bK.out⟩
 | hds hA l hc =>
   dsimp only[aV.kind,aV.parts,List.length_cons,List.length_nil,Nat.zero_add,Nat.reduceAdd]
   obtain⟨g,off,rfl,hgb,hcell⟩:=hr.at (k:=0) (by simp[aV.parts]);have c0:=aC HK.out (show w.cell? ⟨g,off,none⟩=some (.iface 86 (.slice hA l.length hc)) from hcell 0 (by simp[aV.parts]));clear hr hcell;have AL : ∀ y,(Instr.typeAssert (.iface 86 (.slice hA l.length hc)) 20 86 false).run prog y = .ok (.slice hA l.length hc) y:=V7 underlying86 rfl _ _;have r4:=HX.out.frozen 4;have x4:w1.cell? ⟨w.heap.size+1,4,none⟩=some gY:=HX.out.cell 4;obtain⟨wa,nY,xO,hgw⟩ : ∃ wb,w1.setCell ⟨w.heap.size+1,4,none⟩ (.slice hA l.length hc)=wb∧Hid (ae wb (w.heap.size+1) 118 (aV.hds hA l hc).cells)∧Hid (w1.grownBy wb (some (w.heap.size+1))):=⟨_,rfl,hid (HX.out.az 4 _),hid (eH (iH _ _))⟩
   go_upto_region 21 with fail
   replace HR:=hid (HR.out.grown hgw.out (by simp));replace HK:=hid (aK HK.out hgw.out (by omega));clear nY hgw HX r4 x4 c0 AL;have HX:=xO;have oI:=hid (show ae _ (w.heap.size+1) 118 ds.toList by rw[HD.out.l];exact HX.out);obtain⟨w8,fQ,hb8,aZ⟩:=bn (P:=prog) ds.toList HR.out (by rw[Array.length_toList,Array.length_toList,hdz,o6]) HD.out.o;have gq:=hid hb8;have bK:Hid (Keep w w8):=hid (aK HK.out aZ (by omega));clear hb8 aZ HX HR HK;go_wp2_with ((with_reducible refine bY (w.heap.size+1) ds (Eq.trans ?_ rfl) oI.out _ underlying118 rfl hdi ?_);rfl)
   exact bodyPost_ret (v:=.agg ds) (gJ results158 gq.out underlying118 hdi rfl rfl) rfl ⟨ds,rfl,HD.out,bK.out⟩
end Go.Proofs.YtiagcenlnekdeaaGreatDoor
