/- WireIs: for every argument the law answers true and its arguments read as before. No condition. -/
import Derived.Test.YtbgpgdhndanigaaCx17
import Derived.Test.YtbgpgdhndanigaaCx18
set_option linter.unusedSimpArgs false
set_option linter.unusedVariables false
namespace Go.Proofs.Ytbgpgdhndanigaa.pWireIs
open Go.RowKit Go.ChangeShapes Go.WideShapes Go.ChangeAt Go.Deep
theorem own : ownKnob Try.prog.godebug = none:=by kernel_rfl
theorem laidOut : laidOutB Try.prog = true:=by kernel_rfl
set_option maxRecDepth 100000 in
set_option maxHeartbeats 1000000 in
theorem contract (H : Type) (enc : TypeId × Value → H) (W : World) (base : Nat) (args : Array Value) (ds gs : List (DataW H)) (before : List MemPlace)
  (hval : ∀ (j : Nat) t v,Try.f3.params[j]? = some t → args[j]? = some v → Value.okWide Try.prog W .any base t v)
  (hW : DataW.Whole enc Try.prog Try.f3.params.toList Rows.wireIsSpec.vars false W args.toList ds gs before) :
  Calls Try.prog 3 args W fun e W' => ∃ v,e = .returned v∧Rows.wireIsSpec.post enc Try.prog Try.f3 false true false false W args v W':=by
 have hW':=hW
 obtain ⟨p,q,hA0,hV,rfl,hfz,hnd⟩:=hW
 have hA : DataW.TrodAll enc Try.prog W 0 (fun _ => true) true Try.f3.params.toList args.toList ds p:=hA0
 rw [Try.params3] at hA hval
 obtain ⟨v0,vs0,d0,ds0,p0,q0,hargs,rfl,rfl,h0,r0⟩:=trodAll_cons hA
 obtain ⟨v1,vs1,d1,ds1,p1,q1,rfl,rfl,rfl,h1,r1⟩:=trodAll_cons r0
 obtain ⟨v2,vs2,d2,ds2,p2,q2,rfl,rfl,rfl,h2,r2⟩:=trodAll_cons r1
 obtain ⟨v3,vs3,d3,ds3,p3,q3,rfl,rfl,rfl,h3,r3⟩:=trodAll_cons r2
 obtain ⟨rfl,rfl,rfl⟩:=trodAll_nil r3
 obtain rfl : args = #[v0,v1,v2,v3]:=by cases args;simp_all
 obtain ⟨cs0,rfl,hsz0⟩:=okWide_struct Try.underlying39 (hval 0 39 v0 rfl rfl)
 obtain ⟨fuel0,hf0⟩:=h0
 obtain ⟨m0,hcs0,hm0⟩:=rmsg_openJ hf0
 have hB0 : MsB m0 cs0:=by
  have e : cs0 = m0.cells.toArray:=by rw [← hcs0];simp [Value.cells]
  rw [e];exact MsB.of hm0.o
 obtain ⟨s1,rfl⟩:=okWide_string Try.underlying9 (hval 1 9 v1 rfl rfl)
 obtain ⟨t1,rfl⟩ : ∃ l,s1 = str l:=⟨s1.data.toList,by cases s1;simp [str]⟩
 obtain ⟨a2,len2,cap2,rfl⟩:=okWide_slice Try.underlying31 (hval 2 31 v2 rfl rfl)
 obtain ⟨fuel2,hf2⟩:=h2
 obtain ⟨A2,l2,c2,hcs2,hl2,hm2,hr2⟩:=bytes_open Try.underlying31 Try.underlying5 (by kernel_rfl) hf2
 obtain ⟨rfl,rfl,rfl⟩ : a2 = A2∧len2 = l2.length∧cap2 = c2:=by simpa [Value.cells] using hcs2
 obtain ⟨x3,rfl,rfl,rfl,w3⟩:=open_int Try.underlying3 (hval 3 3 v3 rfl rfl) h3
 refine (wireis_walk m0 cs0 t1 _ l2 _ x3 W hB0 hm0 hr2 hl2 hm2).mono fun e W' ⟨he,hg⟩ => ?_
 subst he
 exact ⟨_,rfl,law_post hW' rfl laidOut (by kernel_rfl) rfl Try.underlying4 rfl hg⟩
set_option maxRecDepth 100000 in
theorem lifted (os : Os) (started : os.Started) (H : Type) (enc : TypeId × Value → H) :
  ReturnsInHanded {} Try.checked os 3 .any (Rows.wireIsSpec.pre6 enc Try.prog Try.f3 Rows.wireIsRow.domain false) (Rows.wireIsSpec.post enc Try.prog Try.f3 false true false false):=by
 refine returnsInHanded_of_change (C:=Try.checked) own started (by kernel_rfl) Try.func3
  (ChangeSpec.witness6 (enc:=enc) (C:=Try.checked) false ⟨#[],#[.agg zrmsg,.string ⟨#[]⟩,.slice none 0 0,.int .i64 0],[]⟩ 8 (by kernel_rfl) (by kernel_rfl) (by kernel_rfl) (by kernel_rfl)) ?_
 intro W base args ds gs before hval hW _ _
 exact contract H enc W base args ds gs before hval hW
theorem proved : Rows.WireIsSaid :=
 OpenClaim.holds_of_wide 3 Try.f3 rfl rfl rfl rfl rfl rfl rfl ⟨rfl,rfl,rfl,rfl,rfl⟩ rfl rfl rfl rfl rfl (by kernel_rfl) Try.func3 (by kernel_rfl)
  (of_decide_eq_true (by kernel_rfl)) (by unfold Func.isWrapper;first | (rw [if_pos (by decide +kernel)];kernel_rfl) | (rw [if_neg (by decide +kernel)];exact ⟨rfl,rfl⟩))
  (fun os started H enc _ => lifted os started H enc)
end Go.Proofs.Ytbgpgdhndanigaa.pWireIs
