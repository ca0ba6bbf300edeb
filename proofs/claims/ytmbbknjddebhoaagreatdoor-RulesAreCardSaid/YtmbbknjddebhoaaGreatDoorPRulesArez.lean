/- RulesAre: for every argument, whenever the two tables of SHA-256 hold what the program lays in them, the law answers true and its arguments read as before. No other condition. -/
import Derived.Test.YtmbbknjddebhoaaGreatDoorCx11
import Derived.Test.YtmbbknjddebhoaaGreatDoorCx12
set_option linter.unusedSimpArgs false
set_option linter.unusedVariables false
namespace Go.Proofs.YtmbbknjddebhoaaGreatDoor.pRulesAre
open Go.RowKit Go.ChangeShapes Go.WideShapes Go.ChangeAt Go.Deep
theorem own : ownKnob Tryz.prog.godebug = none:=by kernel_rfl
theorem laidOut : laidOutB Tryz.prog = true:=by kernel_rfl
set_option maxRecDepth 100000 in
set_option maxHeartbeats 2000000 in
theorem contract (H : Type) (enc : TypeId × Value → H) (W : World) (base : Nat) (args : Array Value) (ds gs : List (DataW H)) (before : List MemPlace)
  (hval : ∀ (j : Nat) t v,Tryz.f3.params[j]? = some t → args[j]? = some v → Value.okWide Tryz.prog W .any base t v)
  (hW : DataW.Whole enc Tryz.prog Tryz.f3.params.toList Rows.rulesAreSpec.vars false W args.toList ds gs before) (hL : laidMetH Tryz.prog Rows.rulesAreRow.laid W) :
  Calls Tryz.prog 3 args W fun e W' => ∃ v,e = .returned v∧Rows.rulesAreSpec.post enc Tryz.prog Tryz.f3 false true false false W args v W':=by
 have HSW : ShaOk W:=sha_ok hL
 clear hL
 have hW':=hW
 obtain ⟨p,q,hA0,hV,rfl,hfz,hnd⟩:=hW
 have hA : DataW.TrodAll enc Tryz.prog W 0 (fun _ => true) true Tryz.f3.params.toList args.toList ds p:=hA0
 rw [Tryz.params3] at hA hval
 obtain ⟨v0,vs0,d0,ds0,p0,q0,hargs,rfl,rfl,h0,r0⟩:=trodAll_cons hA
 obtain ⟨v1,vs1,d1,ds1,p1,q1,rfl,rfl,rfl,h1,r1⟩:=trodAll_cons r0
 obtain ⟨v2,vs2,d2,ds2,p2,q2,rfl,rfl,rfl,h2,r2⟩:=trodAll_cons r1
 obtain ⟨v3,vs3,d3,ds3,p3,q3,rfl,rfl,rfl,h3,r3⟩:=trodAll_cons r2
 obtain ⟨v4,vs4,d4,ds4,p4,q4,rfl,rfl,rfl,h4,r4⟩:=trodAll_cons r3
 obtain ⟨rfl,rfl,rfl⟩:=trodAll_nil r4
 obtain rfl : args = #[v0,v1,v2,v3,v4]:=by cases args;simp_all
 obtain ⟨cs0,rfl,hsz0⟩:=okWide_struct Tryz.underlying25 (hval 0 25 v0 rfl rfl)
 obtain ⟨fuel0,hf0⟩:=h0
 obtain ⟨p0,A0,c0,hcs0,hC0⟩:=params_openJ hf0 (by rw [show Tryz.prog.cellsOf 25 = 7 by kernel_rfl] at hsz0;simpa [Value.cells] using hsz0)
 rw [show (Value.agg cs0).cells.toList.toArray = cs0 by simp [Value.cells]] at hcs0
 obtain rfl : cs0 = #[u32v p0.limit,iv p0.itv,iv p0.span,iv p0.fut,iv p0.idx,iv p0.orp,.slice A0 p0.chks.length c0]:=Value.agg.inj hcs0
 obtain ⟨a1,len1,cap1,rfl⟩:=okWide_slice Tryz.underlying26 (hval 1 26 v1 rfl rfl)
 obtain ⟨fuel1,hf1⟩:=h1
 obtain ⟨A1,l1,c1,hcs1,hl1,hm1,hr1,ho1⟩:=heads_openJ hf1
 obtain ⟨rfl,rfl,rfl⟩ : a1 = A1∧len1 = l1.length∧cap1 = c1:=by simpa [Value.cells] using hcs1
 obtain ⟨cs2,rfl,hsz2⟩:=okWide_struct Tryz.underlying30 (hval 2 30 v2 rfl rfl)
 obtain ⟨fuel2,hf2⟩:=h2
 obtain ⟨rh2,hcs2,ho2⟩:=header_openJ hf2
 have hB2 : HdA rh2 cs2:=hda_of ho2 hcs2
 obtain ⟨x3,rfl,rfl,rfl,w3⟩:=open_int Tryz.underlying3 (hval 3 3 v3 rfl rfl) h3
 have hx3 : -9223372036854775808 ≤ x3∧x3 ≤ 9223372036854775807:=by have:=w3;simpa [Lit.wf,IntKind.min,IntKind.max,IntKind.signed,IntKind.bits] using this
 obtain ⟨x4,rfl,rfl,rfl,w4⟩:=open_int Tryz.underlying3 (hval 4 3 v4 rfl rfl) h4
 have hx4 : -9223372036854775808 ≤ x4∧x4 ≤ 9223372036854775807:=by have:=w4;simpa [Lit.wf,IntKind.min,IntKind.max,IntKind.signed,IntKind.bits] using this
 refine (are_walk p0 A0 c0 _ l1 _ rh2 cs2 x3 x4 W HSW hC0 hl1 hm1 hr1 ho1 ho2 hB2).mono fun e W' ⟨he,hg⟩ => ?_
 subst he
 exact ⟨_,rfl,law_post hW' rfl laidOut (by kernel_rfl) rfl Tryz.underlying4 rfl hg⟩
def zheadL : Array Value:=(Hd.cells ⟨0,z32,z32,0,0,0⟩).toArray
theorem laid_met (os : Os) : laidMet Tryz.prog Rows.rulesAreRow.laid ((laidWorld os).forCall (fun _ _ => 0) ⟨#[],#[.agg #[.int .u32 0,.int .i64 0,.int .i64 0,.int .i64 0,.int .i64 0,.int .i64 0,.slice none 0 0],.slice none 0 0,.agg zheadL,.int .i64 0,.int .i64 0],[]⟩).memory :=
 laidMet_of_run' 8 (by kernel_rfl) (by kernel_rfl)
theorem reads (os : Os) {H : Type} (enc : TypeId × Value → H) : (DataW.whole enc Tryz.prog ((laidWorld os).forCall (fun _ _ => 0) ⟨#[],#[.agg #[.int .u32 0,.int .i64 0,.int .i64 0,.int .i64 0,.int .i64 0,.int .i64 0,.slice none 0 0],.slice none 0 0,.agg zheadL,.int .i64 0,.int .i64 0],[]⟩).memory Tryz.f3.params.toList Rows.rulesAreSpec.vars false (#[.agg #[.int .u32 0,.int .i64 0,.int .i64 0,.int .i64 0,.int .i64 0,.int .i64 0,.slice none 0 0],.slice none 0 0,.agg zheadL,.int .i64 0,.int .i64 0] : Array Value).toList 8).isSome = true:=by kernel_rfl
set_option maxRecDepth 100000 in
theorem lifted (os : Os) (started : os.Started) (H : Type) (enc : TypeId × Value → H) (F : Stop.Interp) :
  ReturnsInHanded {} Tryz.checked os 3 .any ((OpenSpec.ofChange Rows.rulesAreSpec).preRow enc Tryz.prog Tryz.f3 Rows.rulesAreRow.domain false Rows.rulesAreRow.laid) (((OpenSpec.ofChange Rows.rulesAreSpec).at F).post enc Tryz.prog Tryz.f3 false true false false):=by
 obtain ⟨x,hx⟩:=Option.isSome_iff_exists.1 (reads os enc)
 refine returnsInHanded_of_row (C:=Tryz.checked) (s:=OpenSpec.ofChange Rows.rulesAreSpec) own started (by kernel_rfl) Tryz.func3
  (witness_row_at (enc:=enc) (C:=Tryz.checked) false (laidWorld os) #[.agg #[.int .u32 0,.int .i64 0,.int .i64 0,.int .i64 0,.int .i64 0,.int .i64 0,.slice none 0 0],.slice none 0 0,.agg zheadL,.int .i64 0,.int .i64 0] rfl (by kernel_rfl) (by kernel_rfl) (by kernel_rfl)
   (OpenSpec.preRow_of_cond 8 hx (by kernel_rfl) (fun k hk => by cases hk) (by kernel_rfl) (laid_met os))) ?_
 intro W base args ds gs before hval hW _ _ _ hL _ _
 exact contract H enc W base args ds gs before hval hW hL
theorem said : Rows.RulesAreSaid :=
 OpenClaim.holds_of_cond 3 Tryz.f3 rfl rfl rfl rfl rfl rfl rfl ⟨rfl,rfl,rfl,rfl,rfl⟩ rfl rfl rfl rfl rfl (by kernel_rfl) Tryz.func3 (by kernel_rfl)
  (of_decide_eq_true (by kernel_rfl)) (by unfold Func.isWrapper;first | (rw [if_pos (by decide +kernel)];kernel_rfl) | (rw [if_neg (by decide +kernel)];exact ⟨rfl,rfl⟩))
  (fun os started H enc _ F => by rw [OpenClaim.pre_eq_preRow];exact lifted os started H enc F)
theorem plain (f : FuncId) (fn : Func) (hf : Tryz.pinned.checked.prog.funcNamed "florin/florinlaw16.RulesAre" = some f) (hfn : Tryz.pinned.checked.prog.funcs[f]? = some fn) :
  true = Tryz.pinned.checked.prog.looks []∧∀ (j : Nat) t,fn.params[j]? = some t → Tryz.pinned.checked.prog.wantsStandIn t = false:=by
 obtain rfl : f = 3 := Option.some.inj ((show Tryz.prog.funcNamed "florin/florinlaw16.RulesAre" = some 3 by kernel_rfl).symm.trans hf) |>.symm
 obtain rfl : fn = Tryz.f3:=(Option.some.inj (Tryz.func3.symm.trans hfn)).symm
 refine ⟨by kernel_rfl,fun j t ht => ?_⟩
 have hall : (Tryz.f3.params.toList.all fun t => !Tryz.prog.wantsStandIn t) = true:=by kernel_rfl
 have h1:=List.all_eq_true.1 hall t (Array.mem_toList_iff.2 (Array.mem_of_getElem? ht))
 have h2 : Tryz.prog.wantsStandIn t = false:=by simpa using h1
 exact h2
theorem proved : Rows.RulesAreCardSaid :=
 Claim7.holds_tied_plain_at .later [] _ _ _ _ said (fun _ h => by cases h) (by kernel_rfl) (fun _ h => by cases h) rulesAre_row_tie rfl ⟨rfl,rfl⟩ (by kernel_rfl) rfl plain (by kernel_rfl)
end Go.Proofs.YtmbbknjddebhoaaGreatDoor.pRulesAre
