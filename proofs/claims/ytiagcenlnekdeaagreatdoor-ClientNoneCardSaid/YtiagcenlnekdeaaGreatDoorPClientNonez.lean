/- ClientNone: for every argument, whenever the program's four laid tables (two of SHA-256, two of unicode/utf8) hold what the program lays in them, the law answers true and its arguments read as before. No other condition. -/
import Derived.Test.YtiagcenlnekdeaaGreatDoorCx31
import Derived.Test.YtiagcenlnekdeaaGreatDoorCx20
import Derived.Test.YtiagcenlnekdeaaGreatDoorCx21
set_option maxRecDepth 1000000
set_option maxHeartbeats 16000000
set_option linter.unusedSimpArgs false
set_option linter.unusedVariables false
open Go.Proofs.Tryz
namespace Go.Proofs.YtiagcenlnekdeaaGreatDoor.pClientNone
open Go.RowKit Go.ChangeShapes Go.WideShapes Go.ChangeAt Go.Deep
theorem own:ownKnob prog.godebug=none:=by kernel_rfl
theorem laidOut:laidOutB prog=true:=by kernel_rfl
theorem contract (H:Type) (enc:TypeId × Value→H) (W:World) (base:Nat) (args:Array Value) (ds gs:List (DataW H)) (before:List MemPlace)
  (hval : ∀ (j:Nat) t v,Tryz.f3.params[j]?=some t→args[j]?=some v→Value.okWide prog W .any base t v)
  (hW:DataW.Whole enc prog Tryz.f3.params.toList Rows.clientNoneSpec.vars false W args.toList ds gs before) (hL:laidMetH prog Rows.clientNoneRow.laid W) :
  Calls prog 3 args W fun e W' => ∃ v,e = .returned v∧Rows.clientNoneSpec.post enc prog Tryz.f3 false true false false W args v W':=by
 have a9l:bV W:=b9q hL;clear hL;have hW':=hW;obtain⟨p,q,hA0,hV,rfl,hfz,hnd⟩:=hW;have hA:DataW.TrodAll enc prog W 0 (fun _=>true) true Tryz.f3.params.toList args.toList ds p:=hA0;rw[Tryz.params3]at hA hval;obtain⟨v0,c4u,d0,ds0,p0,q0,hargs,rfl,rfl,h0,r0⟩:=trodAll_cons hA;obtain⟨v1,vs1,d1,ds1,p1,q1,rfl,rfl,rfl,h1,r1⟩:=trodAll_cons r0;obtain⟨v2,vs2,d2,ds2,p2,q2,rfl,rfl,rfl,h2,r2⟩:=trodAll_cons r1;obtain⟨rfl,rfl,rfl⟩:=trodAll_nil r2;obtain rfl:args = #[v0,v1,v2]:=by cases args;simp_all
 obtain⟨cs0,rfl,hsz0⟩:=okWide_struct underlying31 (hval 0 31 v0 rfl rfl);obtain⟨fuel0,hf0⟩:=h0;obtain⟨p0,A0,c0,hd0,Wp,cap0,XA,Xi,hcs0,ho0,hR0,b3R⟩:=b2O hf0
 have hB0:Bx 31 79 (fE p0 A0 c0 hd0 Wp cap0 XA Xi) cs0:=by
  have e:cs0=(fE p0 A0 c0 hd0 Wp cap0 XA Xi).toArray:=by rw[←hcs0];simp[Value.cells]
  rw[e];exact b2c _ _ _ _ _ _ _ _ ho0
 obtain⟨cs1,rfl,hsz1⟩:=okWide_struct underlying34 (hval 1 34 v1 rfl rfl);obtain⟨fuel1,hf1⟩:=h1;obtain⟨k1,p1,n1,A1,m1,c1,hcs1⟩:=b9O hf1
 obtain rfl:cs1 = #[iv k1,iv p1,iv n1,.slice A1 m1 c1]:=by
  have e:cs1.toList=_:=hcs1;rw[←Array.toArray_toList (xs:=cs1),e]
 obtain⟨x2,rfl,rfl,rfl,w2⟩:=open_int underlying3 (hval 2 3 v2 rfl rfl) h2;have hx2 : -9223372036854775808≤x2∧x2≤9223372036854775807:=by have:=w2;simpa[Lit.wf,IntKind.min,IntKind.max,IntKind.signed,IntKind.bits]using this
 refine(b7y p0 A0 c0 hd0 Wp cap0 XA Xi cs0 hB0 k1 p1 n1 A1 m1 c1 x2 W a9l ho0 hR0 b3R).mono fun e W' ⟨he,hg⟩=>?_;subst he;exact⟨_,rfl,b6t hW' rfl laidOut (by kernel_rfl) rfl underlying4 rfl hg⟩
def QM:Array Value:=#[.int .u32 0,.int .i64 0,.int .i64 0,.int .i64 0,.int .i64 0,.int .i64 0,.slice none 0 0]++(Hd.cells ⟨0,z32,z32,0,0,0⟩).toArray ++ #[.int .u32 0,.int .i64 0,.int .i64 0,.int .i64 0]
theorem laid_met (os:Os):laidMet prog Rows.clientNoneRow.laid ((laidWorld os).forCall (fun _ _=>0) ⟨#[],#[.agg QM,.agg #[.int .i64 0,.int .i64 0,.int .i64 0,.slice none 0 0],.int .i64 0],[]⟩).memory :=
 laidMet_of_run' 8 (by kernel_rfl) (by kernel_rfl)
theorem reads (os:Os) {H:Type} (enc:TypeId × Value→H):(DataW.whole enc prog ((laidWorld os).forCall (fun _ _=>0) ⟨#[],#[.agg QM,.agg #[.int .i64 0,.int .i64 0,.int .i64 0,.slice none 0 0],.int .i64 0],[]⟩).memory Tryz.f3.params.toList Rows.clientNoneSpec.vars false (#[.agg QM,.agg #[.int .i64 0,.int .i64 0,.int .i64 0,.slice none 0 0],.int .i64 0]:Array Value).toList 8).isSome=true:=by kernel_rfl
theorem lifted (os:Os) (started:os.Started) (H:Type) (enc:TypeId × Value→H) (F:Stop.Interp) :
  ReturnsInHanded {} Tryz.checked os 3 .any ((OpenSpec.ofChange Rows.clientNoneSpec).preRow enc prog Tryz.f3 Rows.clientNoneRow.domain false Rows.clientNoneRow.laid) (((OpenSpec.ofChange Rows.clientNoneSpec).at F).post enc prog Tryz.f3 false true false false):=by
 obtain⟨x,hx⟩:=Option.isSome_iff_exists.1 (reads os enc)
 refine returnsInHanded_of_row (C:=Tryz.checked) (s:=OpenSpec.ofChange Rows.clientNoneSpec) own started (by kernel_rfl) func3
  (witness_row_at (enc:=enc) (C:=Tryz.checked) false (laidWorld os) #[.agg QM,.agg #[.int .i64 0,.int .i64 0,.int .i64 0,.slice none 0 0],.int .i64 0] rfl (by kernel_rfl) (by kernel_rfl) (by kernel_rfl)
   (OpenSpec.preRow_of_cond 8 hx (by kernel_rfl) (fun k hk=>by cases hk) (by kernel_rfl) (laid_met os))) ?_
 intro W base args ds gs before hval hW _ _ _ hL _ _;exact contract H enc W base args ds gs before hval hW hL
theorem named:Tryz.pinned.checked.prog.funcNamed Rows.clientNoneRow.func=some 3:=by kernel_rfl
theorem there:Tryz.pinned.checked.prog.funcs[3]?=some Tryz.f3:=func3
theorem inst:Tryz.f3.isInstance Tryz.pinned.checked.prog Rows.clientNoneRow.origin Rows.clientNoneRow.targs:=of_decide_eq_true (by kernel_rfl)
theorem wrap:Tryz.f3.isWrapper Tryz.pinned.checked.prog Rows.clientNoneRow.wrapper Rows.clientNoneRow.mainSum:=(by unfold Func.isWrapper;first | (rw[if_pos (by decide +kernel)];kernel_rfl) | (rw[if_neg (by decide +kernel)];exact⟨rfl,rfl⟩))
theorem lifts (os:Os) (st:os.Started) (H:Type) (enc:TypeId × Value→H) (F:Stop.Interp):ReturnsInHanded Rows.clientNoneRow.assume Tryz.pinned.checked os 3 .any (Rows.clientNoneRow.pre enc Tryz.pinned.checked.prog Tryz.f3 (OpenSpec.ofChange Rows.clientNoneSpec)) (((OpenSpec.ofChange Rows.clientNoneSpec).at F).post enc Tryz.pinned.checked.prog Tryz.f3 Rows.clientNoneRow.apart Rows.clientNoneRow.fresh Rows.clientNoneRow.handsOn Rows.clientNoneRow.again):=by
 rw[OpenClaim.pre_eq_preRow];exact lifted os st H enc F
theorem said:Rows.ClientNoneSaid :=
 OpenClaim.holds_of_cond 3 Tryz.f3 rfl rfl rfl rfl rfl rfl rfl ⟨rfl,rfl,rfl,rfl,rfl⟩ rfl rfl rfl rfl rfl named there b6e inst wrap (fun os started H enc _ F=>lifts os started H enc F)
theorem plain (f : FuncId) (fn : Func) (hf : Tryz.pinned.checked.prog.funcNamed "florin/florinlaw24.ClientNone" = some f) (hfn : Tryz.pinned.checked.prog.funcs[f]? = some fn) :
  true=Tryz.pinned.checked.prog.looks []∧∀ (j:Nat) t,fn.params[j]?=some t→Tryz.pinned.checked.prog.wantsStandIn t=false:=by
 obtain rfl : f = 3 := Option.some.inj ((show prog.funcNamed "florin/florinlaw24.ClientNone" = some 3 by kernel_rfl).symm.trans hf) |>.symm
 obtain rfl:fn=Tryz.f3:=(Option.some.inj (func3.symm.trans hfn)).symm;refine⟨by kernel_rfl,fun j t ht=>?_⟩;have hall:(Tryz.f3.params.toList.all fun t=>!prog.wantsStandIn t)=true:=by kernel_rfl
 have h1:=List.all_eq_true.1 hall t (Array.mem_toList_iff.2 (Array.mem_of_getElem? ht));have h2:prog.wantsStandIn t=false:=by simpa using h1
 exact h2
theorem proved:Rows.ClientNoneCardSaid :=
 Claim7.holds_tied_plain_at .later [] _ _ _ _ said (fun _ h=>by cases h) (by kernel_rfl) (fun _ h=>by cases h) clientNone_row_tie rfl ⟨rfl,rfl⟩ (by kernel_rfl) rfl plain (by kernel_rfl)
end Go.Proofs.YtiagcenlnekdeaaGreatDoor.pClientNone
