/- PeerKind: for every argument, whenever the two tables of SHA-256 hold what the program lays in them, the law answers true and its arguments read as before. No other condition. -/
import Derived.Test.YtffpanlpbdnafaaDoorCx17
set_option linter.unusedSimpArgs false
set_option linter.unusedVariables false
namespace Go.Proofs.YtffpanlpbdnafaaDoor.pPeerKind
open Go.RowKit Go.ChangeShapes Go.WideShapes Go.ChangeAt Go.Deep
theorem own : ownKnob Tryd.prog.godebug = none:=by kernel_rfl
theorem laidOut : laidOutB Tryd.prog = true:=by kernel_rfl
set_option maxRecDepth 100000 in
set_option maxHeartbeats 2000000 in
theorem contract (H : Type) (enc : TypeId × Value → H) (W : World) (base : Nat) (args : Array Value) (ds gs : List (DataW H)) (before : List MemPlace)
  (hval : ∀ (j : Nat) t v,Tryd.f5.params[j]? = some t → args[j]? = some v → Value.okWide Tryd.prog W .any base t v)
  (hW : DataW.Whole enc Tryd.prog Tryd.f5.params.toList Rows.peerKindSpec.vars false W args.toList ds gs before) (hL : laidMetH Tryd.prog Rows.peerKindRow.laid W) :
  Calls Tryd.prog 5 args W fun e W' => ∃ v,e = .returned v∧Rows.peerKindSpec.post enc Tryd.prog Tryd.f5 false true false false W args v W':=by
 have HSW : ShaOk W:=sha_ok hL
 clear hL
 have hW':=hW
 obtain ⟨p,q,hA0,hV,rfl,hfz,hnd⟩:=hW
 have hA : DataW.TrodAll enc Tryd.prog W 0 (fun _ => true) true Tryd.f5.params.toList args.toList ds p:=hA0
 rw [Tryd.params5] at hA hval
 obtain ⟨v0,vs0,d0,ds0,p0,q0,hargs,rfl,rfl,h0,r0⟩:=trodAll_cons hA
 obtain ⟨v1,vs1,d1,ds1,p1,q1,rfl,rfl,rfl,h1,r1⟩:=trodAll_cons r0
 obtain ⟨v2,vs2,d2,ds2,p2,q2,rfl,rfl,rfl,h2,r2⟩:=trodAll_cons r1
 obtain ⟨rfl,rfl,rfl⟩:=trodAll_nil r2
 obtain rfl : args = #[v0,v1,v2]:=by cases args;simp_all
 obtain ⟨x0,rfl,rfl,rfl,w0⟩:=open_int Tryd.underlying22 (hval 0 22 v0 rfl rfl) h0
 obtain ⟨t0,rfl⟩ : ∃ u : UInt32,x0 = (u.toNat : Int):=word_ofJ (by simpa [Lit.wf,IntKind.min,IntKind.max,IntKind.signed,IntKind.bits] using w0)
 obtain ⟨a1,len1,cap1,rfl⟩:=okWide_slice Tryd.underlying79 (hval 1 79 v1 rfl rfl)
 obtain ⟨fuel1,hf1⟩:=h1
 obtain ⟨A1,l1,c1,hcs1,hl1,hm1,hr1,ho1⟩:=rmsgs_openJ hf1
 obtain ⟨rfl,rfl,rfl⟩ : a1 = A1∧len1 = l1.length∧cap1 = c1:=by simpa [Value.cells] using hcs1
 obtain ⟨x2,rfl,rfl,rfl,w2⟩:=open_int Tryd.underlying3 (hval 2 3 v2 rfl rfl) h2
 have hx2 : -9223372036854775808 ≤ x2∧x2 ≤ 9223372036854775807:=by have:=w2;simpa [Lit.wf,IntKind.min,IntKind.max,IntKind.signed,IntKind.bits] using this
 refine (kind_walk t0 _ _ _ l1 x2 W rfl hr1 ⟨hl1,hm1⟩ ho1 HSW).mono fun e W' ⟨he,hg⟩ => ?_
 subst he
 exact ⟨_,rfl,law_post hW' rfl laidOut (by kernel_rfl) rfl Tryd.underlying4 rfl hg⟩
theorem laid_met (os : Os) : laidMet Tryd.prog Rows.peerKindRow.laid ((laidWorld os).forCall (fun _ _ => 0) ⟨#[],#[.int .u32 0,.slice none 0 0,.int .i64 0],[]⟩).memory :=
 laidMet_of_run' 8 (by kernel_rfl) (by kernel_rfl)
theorem reads (os : Os) {H : Type} (enc : TypeId × Value → H) : (DataW.whole enc Tryd.prog ((laidWorld os).forCall (fun _ _ => 0) ⟨#[],#[.int .u32 0,.slice none 0 0,.int .i64 0],[]⟩).memory Tryd.f5.params.toList Rows.peerKindSpec.vars false (#[.int .u32 0,.slice none 0 0,.int .i64 0] : Array Value).toList 8).isSome = true:=by kernel_rfl
set_option maxRecDepth 100000 in
theorem lifted (os : Os) (started : os.Started) (H : Type) (enc : TypeId × Value → H) (F : Stop.Interp) :
  ReturnsInHanded {} Tryd.checked os 5 .any ((OpenSpec.ofChange Rows.peerKindSpec).preRow enc Tryd.prog Tryd.f5 Rows.peerKindRow.domain false Rows.peerKindRow.laid) (((OpenSpec.ofChange Rows.peerKindSpec).at F).post enc Tryd.prog Tryd.f5 false true false false):=by
 obtain ⟨x,hx⟩:=Option.isSome_iff_exists.1 (reads os enc)
 refine returnsInHanded_of_row (C:=Tryd.checked) (s:=OpenSpec.ofChange Rows.peerKindSpec) own started (by kernel_rfl) Tryd.func5
  (witness_row_at (enc:=enc) (C:=Tryd.checked) false (laidWorld os) #[.int .u32 0,.slice none 0 0,.int .i64 0] rfl (by kernel_rfl) (by kernel_rfl) (by kernel_rfl)
   (OpenSpec.preRow_of_cond 8 hx (by kernel_rfl) (fun k hk => by cases hk) (by kernel_rfl) (laid_met os))) ?_
 intro W base args ds gs before hval hW _ _ _ hL _ _
 exact contract H enc W base args ds gs before hval hW hL
theorem said : Rows.PeerKindSaid :=
 OpenClaim.holds_of_cond 5 Tryd.f5 rfl rfl rfl rfl rfl rfl rfl ⟨rfl,rfl,rfl,rfl,rfl⟩ rfl rfl rfl rfl rfl (by kernel_rfl) Tryd.func5 (by kernel_rfl)
  (of_decide_eq_true (by kernel_rfl)) (by unfold Func.isWrapper;first | (rw [if_pos (by decide +kernel)];kernel_rfl) | (rw [if_neg (by decide +kernel)];exact ⟨rfl,rfl⟩))
  (fun os started H enc _ F => by rw [OpenClaim.pre_eq_preRow];exact lifted os started H enc F)
theorem plain (f : FuncId) (fn : Func) (hf : Tryd.pinned.checked.prog.funcNamed "florin/florinlaw22.PeerKind" = some f) (hfn : Tryd.pinned.checked.prog.funcs[f]? = some fn) :
  true = Tryd.pinned.checked.prog.looks []∧∀ (j : Nat) t,fn.params[j]? = some t → Tryd.pinned.checked.prog.wantsStandIn t = false:=by
 obtain rfl : f = 5 := Option.some.inj ((show Tryd.prog.funcNamed "florin/florinlaw22.PeerKind" = some 5 by kernel_rfl).symm.trans hf) |>.symm
 obtain rfl : fn = Tryd.f5:=(Option.some.inj (Tryd.func5.symm.trans hfn)).symm
 refine ⟨by kernel_rfl,fun j t ht => ?_⟩
 have hall : (Tryd.f5.params.toList.all fun t => !Tryd.prog.wantsStandIn t) = true:=by kernel_rfl
 have h1:=List.all_eq_true.1 hall t (Array.mem_toList_iff.2 (Array.mem_of_getElem? ht))
 have h2 : Tryd.prog.wantsStandIn t = false:=by simpa using h1
 exact h2
theorem proved : Rows.PeerKindCardSaid :=
 Claim7.holds_tied_plain_at .later [] _ _ _ _ said (fun _ h => by cases h) (by kernel_rfl) (fun _ h => by cases h) peerKind_row_tie rfl ⟨rfl,rfl⟩ (by kernel_rfl) rfl plain (by kernel_rfl)
end Go.Proofs.YtffpanlpbdnafaaDoor.pPeerKind
