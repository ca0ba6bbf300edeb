/- Texts merged by pack.py: Vr, Ve, Vf, Hdr, Vg, Vh, Vs, Vt, Vu. -/
import Derived.Test.YtffpanlpbdnafaaDoorCx3
import Derived.Test.YtffpanlpbdnafaaDoorCx2
/- wire.Name and wire.Kind. (printed by gen_vr.py) -/
set_option linter.unusedSimpArgs false
set_option linter.unusedVariables false
namespace Go.Proofs.YtffpanlpbdnafaaDoor
open Go.RowKit
attribute [local go_sem ↓] Go.wp_at_zero Go.wp_at_succ
def nameL (k : Int) : List UInt8 :=
 if k = 0 then [118,101,114,115,105,111,110] else if k = 1 then [118,101,114,97,99,107] else if k = 2 then [112,105,110,103] else if k = 3 then [112,111,110,103] else if k = 4 then [103,101,116,104,101,97,100,101,114,115] else if k = 5 then [104,101,97,100,101,114,115] else if k = 6 then [105,110,118] else if k = 7 then [103,101,116,100,97,116,97] else if k = 8 then [110,111,116,102,111,117,110,100] else if k = 9 then [109,101,114,107,108,101,98,108,111,99,107] else if k = 10 then [116,120] else []
def kindF (s : List UInt8) : Nat → Nat → Nat × Bool
 | 0,_ => (0,false)
 | f + 1,k => if nameL k = s then (k,true) else kindF s f (k + 1)
def kindN (s : List UInt8) : Nat × Bool:=kindF s 11 0
theorem nameL_out {k : Int} (h : ¬ (0 ≤ k∧k < 11)) : nameL k = []:=by
 unfold nameL
 repeat rw [if_neg (by omega)]
theorem nameL_in : ∀ k : Fin 11,nameL ((k.val : Nat) : Int) ≠ []:=by decide
theorem nameL_inj : ∀ k j : Fin 11,nameL ((k.val : Nat) : Int) = nameL ((j.val : Nat) : Int) → k = j:=by decide
theorem nameL_ne {k : Int} (h : 0 ≤ k∧k < 11) : nameL k ≠ []:=by
 have q:=nameL_in ⟨k.toNat,by omega⟩
 rwa [show ((k.toNat : Nat) : Int) = k from by omega] at q
theorem nameL_eq {k j : Int} (h : 0 ≤ k∧k < 11) : nameL k = nameL j ↔ k = j:=by
 refine ⟨fun e => ?_,fun e => by rw [e]⟩
 by_cases hj : 0 ≤ j∧j < 11
 ·have q:=nameL_inj ⟨k.toNat,by omega⟩ ⟨j.toNat,by omega⟩ (by
   show nameL ((k.toNat : Nat) : Int) = nameL ((j.toNat : Nat) : Int)
   rw [show ((k.toNat : Nat) : Int) = k from by omega,show ((j.toNat : Nat) : Int) = j from by omega];exact e)
  have:=Fin.val_eq_of_eq q
  simp only at this
  omega
 ·rw [nameL_out hj] at e
  exact absurd e (nameL_ne h)
theorem kindF_spec (s : List UInt8) : ∀ (f k : Nat),(kindF s f k).2 = true → nameL ((kindF s f k).1 : Int) = s∧k ≤ (kindF s f k).1∧(kindF s f k).1 < k + f
 | 0,k,h => by cases h
 | f + 1,k,h => by
   unfold kindF at h ⊢
   split
   ·rename_i e;exact ⟨e,Nat.le_refl _,by simp only;omega⟩
   ·rename_i e
    rw [if_neg e] at h
    have:=kindF_spec s f (k + 1) h
    exact ⟨this.1,by omega,by omega⟩
theorem kindF_none (s : List UInt8) : ∀ (f k : Nat),(kindF s f k).2 = false → (kindF s f k).1 = 0∧∀ j : Nat,k ≤ j → j < k + f → nameL (j : Int) ≠ s
 | 0,k,h => ⟨rfl,fun j h1 h2 => by omega⟩
 | f + 1,k,h => by
   unfold kindF at h ⊢
   split
   ·rename_i e;rw [if_pos e] at h;cases h
   ·rename_i e
    rw [if_neg e] at h
    have:=kindF_none s f (k + 1) h
    refine ⟨this.1,fun j h1 h2 => ?_⟩
    rcases Nat.eq_or_lt_of_le h1 with rfl | q
    ·exact e
    ·exact this.2 j q (by omega)
theorem kindN_spec {s : List UInt8} (h : (kindN s).2 = true) : nameL ((kindN s).1 : Int) = s∧(kindN s).1 < 11:=by
 have:=kindF_spec s 11 0 h
 exact ⟨this.1,by have:=this.2.2;unfold kindN;omega⟩
theorem kindN_none {s : List UInt8} (h : (kindN s).2 = false) : (kindN s).1 = 0∧∀ j : Nat,j < 11 → nameL (j : Int) ≠ s:=by
 have:=kindF_none s 11 0 h
 exact ⟨this.1,fun j hj => this.2 j (Nat.zero_le _) (by omega)⟩
theorem kindN_name (k : Int) : kindN (nameL k) = if 0 ≤ k∧k < 11 then (k.toNat,true) else (0,false):=by
 cases h : (kindN (nameL k)).2 with
 | true =>
   have q:=kindN_spec h
   have hk : 0 ≤ k∧k < 11:=by
    refine Classical.byContradiction fun hn => ?_
    rw [nameL_out hn] at q
    exact nameL_ne ⟨by omega,by omega⟩ q.1
   rw [if_pos hk]
   have e:=(nameL_eq hk).1 q.1.symm
   exact Prod.ext (by simp only;omega) h
 | false =>
   have q:=kindN_none h
   have hk : ¬ (0 ≤ k∧k < 11):=fun hk => q.2 k.toNat (by omega) (by rw [show ((k.toNat : Nat) : Int) = k from by omega])
   rw [if_neg hk]
   exact Prod.ext q.1 h
set_option maxRecDepth 100000 in
set_option maxHeartbeats 4000000 in
theorem name_any (k : Int) (w : World) : Calls Tryd.prog 21 #[.int .i64 k] w fun e w' => e = .returned (.string (str (nameL k)))∧Keep w w':=by
 by_cases h0 : k = 0
 ·subst h0
  go_enter Tryd.func21,Tryd.ntmps21
  go_wp2
  exact bodyPost_ret (v:=.string (str (nameL 0))) (by simp [results,Tryd.results21];rfl) rfl ⟨rfl,Below.refl _ _⟩
 by_cases h1 : k = 1
 ·subst h1
  go_enter Tryd.func21,Tryd.ntmps21
  go_wp2
  exact bodyPost_ret (v:=.string (str (nameL 1))) (by simp [results,Tryd.results21];rfl) rfl ⟨rfl,Below.refl _ _⟩
 by_cases h2 : k = 2
 ·subst h2
  go_enter Tryd.func21,Tryd.ntmps21
  go_wp2
  exact bodyPost_ret (v:=.string (str (nameL 2))) (by simp [results,Tryd.results21];rfl) rfl ⟨rfl,Below.refl _ _⟩
 by_cases h3 : k = 3
 ·subst h3
  go_enter Tryd.func21,Tryd.ntmps21
  go_wp2
  exact bodyPost_ret (v:=.string (str (nameL 3))) (by simp [results,Tryd.results21];rfl) rfl ⟨rfl,Below.refl _ _⟩
 by_cases h4 : k = 4
 ·subst h4
  go_enter Tryd.func21,Tryd.ntmps21
  go_wp2
  exact bodyPost_ret (v:=.string (str (nameL 4))) (by simp [results,Tryd.results21];rfl) rfl ⟨rfl,Below.refl _ _⟩
 by_cases h5 : k = 5
 ·subst h5
  go_enter Tryd.func21,Tryd.ntmps21
  go_wp2
  exact bodyPost_ret (v:=.string (str (nameL 5))) (by simp [results,Tryd.results21];rfl) rfl ⟨rfl,Below.refl _ _⟩
 by_cases h6 : k = 6
 ·subst h6
  go_enter Tryd.func21,Tryd.ntmps21
  go_wp2
  exact bodyPost_ret (v:=.string (str (nameL 6))) (by simp [results,Tryd.results21];rfl) rfl ⟨rfl,Below.refl _ _⟩
 by_cases h7 : k = 7
 ·subst h7
  go_enter Tryd.func21,Tryd.ntmps21
  go_wp2
  exact bodyPost_ret (v:=.string (str (nameL 7))) (by simp [results,Tryd.results21];rfl) rfl ⟨rfl,Below.refl _ _⟩
 by_cases h8 : k = 8
 ·subst h8
  go_enter Tryd.func21,Tryd.ntmps21
  go_wp2
  exact bodyPost_ret (v:=.string (str (nameL 8))) (by simp [results,Tryd.results21];rfl) rfl ⟨rfl,Below.refl _ _⟩
 by_cases h9 : k = 9
 ·subst h9
  go_enter Tryd.func21,Tryd.ntmps21
  go_wp2
  exact bodyPost_ret (v:=.string (str (nameL 9))) (by simp [results,Tryd.results21];rfl) rfl ⟨rfl,Below.refl _ _⟩
 by_cases h10 : k = 10
 ·subst h10
  go_enter Tryd.func21,Tryd.ntmps21
  go_wp2
  exact bodyPost_ret (v:=.string (str (nameL 10))) (by simp [results,Tryd.results21];rfl) rfl ⟨rfl,Below.refl _ _⟩
 have d0 : (k == 0) = false:=by rw [beq_eq_false_iff_ne];exact h0
 have d1 : (k == 1) = false:=by rw [beq_eq_false_iff_ne];exact h1
 have d2 : (k == 2) = false:=by rw [beq_eq_false_iff_ne];exact h2
 have d3 : (k == 3) = false:=by rw [beq_eq_false_iff_ne];exact h3
 have d4 : (k == 4) = false:=by rw [beq_eq_false_iff_ne];exact h4
 have d5 : (k == 5) = false:=by rw [beq_eq_false_iff_ne];exact h5
 have d6 : (k == 6) = false:=by rw [beq_eq_false_iff_ne];exact h6
 have d7 : (k == 7) = false:=by rw [beq_eq_false_iff_ne];exact h7
 have d8 : (k == 8) = false:=by rw [beq_eq_false_iff_ne];exact h8
 have d9 : (k == 9) = false:=by rw [beq_eq_false_iff_ne];exact h9
 have d10 : (k == 10) = false:=by rw [beq_eq_false_iff_ne];exact h10
 have hn : nameL k = []:=nameL_out (by omega)
 rw [hn]
 clear h0 h1 h2 h3 h4 h5 h6 h7 h8 h9 h10 hn
 go_enter Tryd.func21,Tryd.ntmps21
 go_wp2
 exact bodyPost_ret (v:=.string (str [])) (by simp [results,Tryd.results21];rfl) rfl ⟨rfl,Below.refl _ _⟩
set_option maxRecDepth 100000 in
set_option maxHeartbeats 4000000 in
theorem kind_any (s : List UInt8) (w : World) : Calls Tryd.prog 38 #[.string (str s)] w fun e w' => e = .returned (.tuple #[iv (kindN s).1,.bool (kindN s).2])∧Keep w w':=by
 obtain ⟨R,hR⟩ : ∃ R,kindN s = R:=⟨_,rfl⟩
 have HR : Hid (kindF s (11 - 0) 0 = R):=Lib.hid hR
 have S1 : Hid (∀ f k,nameL ((k : Nat) : Int) = s → kindF s (f + 1) k = (k,true)):=Lib.hid fun f k h => by rw [kindF,if_pos h]
 have S2 : Hid (∀ f k,nameL ((k : Nat) : Int) ≠ s → kindF s (f + 1) k = kindF s f (k + 1)):=Lib.hid fun f k h => by rw [kindF,if_neg h]
 have S3 : Hid (∀ k,kindF s 0 k = (0,false)):=Lib.hid fun k => rfl
 have NM:=Lib.hid fun (k : Int) (y : World) => name_any k y
 rw [hR]
 clear hR
 go_enter Tryd.func38,Tryd.ntmps38
 go_wp2_with fail
 go_loopw [5] (fun i wr => ∃ k : Nat,k ≤ 11∧i = .int .i64 k∧Hid (kindF s (11 - k) k = R)∧Hid (Keep w wr)) (fun i _ => 11 - (intOf i).toNat)
 case atStart => exact ⟨0,Nat.zero_le _,rfl,HR,Lib.hid (Below.refl _ _)⟩
 case round =>
  obtain ⟨k,hk,rfl,HRk,HK⟩:=hrel
  by_cases hlt : k < 11
  ·have d1 : (k : Int) < 11:=by omega
   have hr:=HRk.out
   rw [show 11 - k = (11 - (k + 1)) + 1 by omega] at hr
   have N1:=Lib.hid fun (y : World) => name_any (k : Int) y
   clear HRk HR NM
   by_cases he : nameL (k : Int) = s
   ·rw [S1.out _ _ he] at hr
    subst hr
    rw [he] at N1
    have d2 : (str s == str s) = true:=str_eq_t rfl
    clear he
    go_wp2_with (go_at_call 21;refine (N1.out _).mono ?_;rintro e w1 ⟨rfl,k1⟩;have HK1:=Lib.hid (keep_trans HK.out k1);clear k1)
    exact bodyPost_ret (v:=.tuple #[iv k,.bool true]) (by simp [results,Tryd.results38]) rfl ⟨rfl,HK1.out⟩
   ·rw [S2.out _ _ he] at hr
    have HR2:=Lib.hid hr
    have d2 : (str (nameL (k : Int)) == str s) = false:=str_eq_f he
    have d3 : (nameL (k : Int) == s) = false:=by rw [beq_eq_false_iff_ne];exact he
    clear he hr
    generalize nameL (k : Int) = nk at *
    go_wp2_with (go_at_call 21;refine (N1.out _).mono ?_;rintro e w1 ⟨rfl,k1⟩;have HK1:=Lib.hid (keep_trans HK.out k1);clear k1)
    go_roundw
    case rel => exact ⟨k + 1,by omega,by go_num,HR2,HK1⟩
    case measure => simp [intOf];omega
  ·obtain rfl : k = 11:=by omega
   have d1 : ¬ ((11 : Nat) : Int) < 11:=by omega
   have hr:=HRk.out
   rw [show 11 - 11 = 0 from rfl,S3.out] at hr
   subst hr
   clear HRk HR
   go_wp2_with fail
   exact bodyPost_ret (v:=.tuple #[iv 0,.bool false]) (by simp [results,Tryd.results38]) rfl ⟨rfl,HK.out⟩
end Go.Proofs.YtffpanlpbdnafaaDoor
/- wire.takeHashes. (printed by gen_ve1.py) -/
set_option linter.unusedSimpArgs false
set_option linter.unusedVariables false
namespace Go.Proofs.YtffpanlpbdnafaaDoor
open Go.RowKit
attribute [local go_sem ↓] Go.wp_at_zero Go.wp_at_succ
def hshs (b : List UInt8) (at_ n : Nat) : List (List UInt8):=(List.range n).map fun i => (b.drop (at_ + i * 32)).take 32
theorem hshs_succ (b : List UInt8) (at_ n : Nat) : hshs b at_ (n + 1) = hshs b at_ n ++ [(b.drop (at_ + n * 32)).take 32]:=by
 unfold hshs;rw [List.range_succ,List.map_append];rfl
theorem hshs_len (b : List UInt8) (at_ n : Nat) : (hshs b at_ n).length = n:=by simp [hshs]
def thsN (b : List UInt8) (most : Nat) : List (List UInt8) × Nat × Int :=
 if (bndN b most).2.2 = 0 then if b.length < (bndN b most).2.1 + (bndN b most).1 * 32 then ([],0,1) else (hshs b (bndN b most).2.1 (bndN b most).1,(bndN b most).2.1 + (bndN b most).1 * 32,0) else ([],0,(bndN b most).2.2)
theorem run_s2a {P : Program} {arr e : TypeId} {n m c : Nat} {A : Option Addr} (hu : P.underlying arr = some (.array n e)) (hn : n ≤ m) (w : World) : (Instr.arrayAt arr (.slice A m c)).run P w = .ok (.pointer A) w:=by
 have hlt : ¬ m < n:=by omega
 simp [Instr.arrayAt,run_underlying hu,hlt]
theorem rd_hash {w : World} {A : Option Addr} {b : List UInt8} (hr : Rd w A (b.map u8v)) {k : Nat} (h : k + 32 ≤ b.length) {cs : Array Value} (hcs : HashA ((b.drop k).take 32) cs) :
  ∃ g off,A = some ⟨g,off,none⟩∧w.rangeAt g (off + k) cs.toList:=by
 obtain ⟨g,off,h1,h2,h3⟩:=hr.at (k:=k) (by simp;omega)
 refine ⟨g,off,h1,fun j v hv => ?_⟩
 rw [hcs.l] at hv
 have hj : j < 32:=by have:=(List.getElem?_eq_some_iff.1 hv).1;simp at this;omega
 rw [Nat.add_assoc,h3 (k + j) (by simp;omega)]
 rw [List.getElem?_map,List.getElem?_take_of_lt hj,List.getElem?_drop,List.getElem?_eq_getElem (show k + j < b.length by omega)] at hv
 rw [List.getElem_map]
 exact hv
set_option maxRecDepth 100000 in
set_option maxHeartbeats 4000000 in
theorem ths_any (A : Option Addr) (b : List UInt8) (c most : Nat) (w : World) (hl : b.length ≤ 1000000000) (hc : b.length ≤ c) (hcm : c ≤ maxLen) (hm : most ≤ 1000000) (hr : Rd w A (b.map u8v)) :
  Calls Tryd.prog 70 #[.slice A b.length c,u64v most] w fun e w' => ∃ v,e = .returned (.tuple #[v,iv (thsN b most).2.1,iv (thsN b most).2.2])∧w'.ownsRow w.heap.size 39 32 v (thsN b most).1.length (hsL (thsN b most).1)∧Keep w w':=by
 have G1 : Hid (Calls Tryd.prog 87 #[.slice A b.length c,u64v most] w fun e w' => e = .returned (.tuple #[iv (bndN b most).1,iv (bndN b most).2.1,iv (bndN b most).2.2])∧Keep w w'):=Lib.hid (bnd_any A b c most w (by omega) hr)
 have HRG:=Lib.hid (bnd_rng b most)
 have HB : Hid (∀ R,thsN b most = R → R = if (bndN b most).2.2 = 0 then if b.length < (bndN b most).2.1 + (bndN b most).1 * 32 then ([],0,1) else (hshs b (bndN b most).2.1 (bndN b most).1,(bndN b most).2.1 + (bndN b most).1 * 32,0) else ([],0,(bndN b most).2.2)):=Lib.hid fun R h => by subst h;rfl
 replace HB:=Lib.hid (HB.out _ rfl)
 have RB:=Lib.hid hr
 clear hr
 generalize thsN b most = R at *
 generalize bndN b most = G at *
 obtain ⟨n,k,e0⟩:=G
 obtain ⟨L,hL⟩ : ∃ L,b.length = L:=⟨_,rfl⟩
 have HLL:=Lib.hid hL
 rw [hL] at HB G1 HRG hl hc ⊢
 clear hL
 unfold maxLen at hcm
 simp only at G1 HB HRG
 go_enter Tryd.func70,Tryd.ntmps70
 go_wp2_with fail
 refine G1.out.mono ?_
 clear G1
 rintro e w1 ⟨rfl,k1⟩
 have HK1:=Lib.hid k1
 clear k1
 have hv:=HB.out
 by_cases h0 : e0 = 0
 case neg =>
  rw [if_neg h0] at hv
  subst hv
  have d1 : (e0 != 0) = true:=by rw [bne_iff_ne];exact h0
  clear HB HRG
  go_wp2
  exact bodyPost_ret (v:=.tuple #[.slice none 0 0,iv 0,iv e0]) (by simp [results,Tryd.results70]) rfl ⟨_,rfl,World.ownsRow_nil _ _ _ _,HK1.out⟩
 subst h0
 rw [if_pos rfl] at hv
 obtain ⟨q1,q2,q3,q4⟩:=HRG.out rfl
 have hw1 : IntKind.i64.wrap ((n : Int) * 32) = (n : Int) * 32:=IntWalk.i64_in _ (by omega)
 have hw2 : IntKind.i64.wrap ((k : Int) + (n : Int) * 32) = (k : Int) + (n : Int) * 32:=IntWalk.i64_in _ (by omega)
 by_cases h1 : L < k + n * 32
 ·rw [if_pos h1] at hv
  subst hv
  have d1 : (L : Int) < (k : Int) + (n : Int) * 32:=by omega
  clear HB h1 HRG
  go_wp2
  exact bodyPost_ret (v:=.tuple #[.slice none 0 0,iv 0,iv 1]) (by simp [results,Tryd.results70]) rfl ⟨_,rfl,World.ownsRow_nil _ _ _ _,HK1.out⟩
 rw [if_neg h1] at hv
 have HV:=Lib.hid hv
 have d1 : ¬ (L : Int) < (k : Int) + (n : Int) * 32:=by omega
 clear hv HB HRG
 go_wp2_with fail
 clear d1
 go_loopw [11,12] (fun v x wr => ∃ i : Nat,i ≤ n∧x = .int .i64 ((k + i * 32 : Nat) : Int)∧Hid (wr.ownsRow w.heap.size 39 32 v i (hsL (hshs b k i)))∧Hid (Keep w wr)) (fun _ x _ => k + n * 32 - (intOf x).toNat)
 case atStart => exact ⟨0,Nat.zero_le _,by simp,Lib.hid (World.ownsRow_nil _ _ _ _),HK1⟩
 case round =>
  obtain ⟨i,hi,rfl,Own1,HKr⟩:=hrel
  have e1 : ((k + i * 32 : Nat) : Int) = (k : Int) + (i : Int) * 32:=by omega
  by_cases hlt : i < n
  ·have hxl : ((b.drop (k + i * 32)).take 32).length = 32:=by rw [List.length_take,List.length_drop,HLL.out];omega
   obtain ⟨ds,hds⟩ : ∃ ds,HashA ((b.drop (k + i * 32)).take 32) ds:=⟨_,HashA.of hxl⟩
   obtain ⟨g,off,rfl,hrg⟩:=rd_hash (RB.out.keep HKr.out) (k:=k + i * 32) (by rw [HLL.out];omega) hds
   have HSN : Hid (hsL (hshs b k (i + 1)) = hsL (hshs b k i) ++ ds.toList):=Lib.hid (by rw [hshs_succ,hsL_snoc,hds.l])
   obtain ⟨a,ha⟩ : ∃ a,k + i * 32 = a:=⟨_,rfl⟩
   rw [ha] at hrg ⊢
   have HRD:=Lib.hid hrg
   have hdz:=hds.z;have hdn:=hds.n;have hdi:=hds.i
   have Hds:=Lib.hid hds
   have d2 : (a : Int) < (k : Int) + (n : Int) * 32:=by omega
   have hw3 : IntKind.i64.wrap ((a : Int) + 32) = (a : Int) + 32:=IntWalk.i64_in _ (by omega)
   have hs1:=HKr.out.size
   have hsa:=run_s2a (P:=Tryd.prog) (c:=c - a) (A:=some ⟨g,off + a,none⟩) hash_under (Nat.le_refl 32)
   clear hxl hrg hds e1
   go_upto_region 10 with (first
    | ((with_reducible refine load_partg g (off + a) ds (Eq.trans ?_ rfl) HRD.out _ Tryd.underlying39 rfl hdi rfl ?_);rfl)
    | ((with_reducible refine list_build1h hashTb ds hdz (by omega) (Eq.trans ?_ rfl) ?_);rfl)
    | (at_builtin;refine wpList_app hashTb (by rfl) _ _ (by rfl) w.heap.size _ i _ (by rfl) (Own1.out.alloc _) _ 1 1 ds.toList (by rfl) (by rw [Array.length_toList,hdz]) (by simpa using Rd.new wr ds.toList 39) Hds.out.o (by omega) (by unfold maxLen;omega) (by simp;omega) ?_;intro v3 w3 own3 hg3 hat3;have k3:=keep_grown (keep_trans HKr.out (keep_new _ _)) (by simp;omega) hg3 (Own1.out.alloc _);rw [← HSN.out] at own3))
   have Own2:=Lib.hid own3;have HK2:=Lib.hid k3
   clear own3 k3 hg3 hat3 hsa HRD Own1 HKr
   go_wp2
   go_roundw
   case rel => exact ⟨i + 1,by omega,by go_num,Own2,HK2⟩
   case measure => simp [intOf];omega
  ·obtain rfl : i = n:=by omega
   have d2 : ¬ ((k + i * 32 : Nat) : Int) < (k : Int) + (i : Int) * 32:=by omega
   have hv:=HV.out
   subst hv
   clear HV
   obtain ⟨Ao,co,rfl,-,-,-⟩:=own_form Own1.out
   go_wp2
   exact bodyPost_ret (v:=.tuple #[.slice Ao i co,iv ((k : Int) + (i : Int) * 32),iv 0]) (by simp [results,Tryd.results70]) rfl ⟨_,by simp,own_eq Own1.out (hshs_len b k i).symm rfl,HKr.out⟩
end Go.Proofs.YtffpanlpbdnafaaDoor
/- wire.takeItems. (printed by gen_vf.py) -/
set_option linter.unusedSimpArgs false
set_option linter.unusedVariables false
namespace Go.Proofs.YtffpanlpbdnafaaDoor
open Go.RowKit
attribute [local go_sem ↓] Go.wp_at_zero Go.wp_at_succ
structure Itm where
 ty : UInt32
 h : List UInt8
def Itm.ok (x : Itm) : Prop:=x.h.length = 32
def Itm.cells (x : Itm) : List Value:=u32v x.ty :: x.h.map u8v
theorem Itm.len {x : Itm} (h : x.ok) : x.cells.length = 33:=by unfold Itm.ok at h;simp [Itm.cells,h]
theorem item_info : (Tryd.prog.info? 98).map (·.size) = some 33:=by kernel_rfl
structure ItA (x : Itm) (cs : Array Value) : Prop where
 l : cs.toList = x.cells
 z : cs.size = 33
 i : (Tryd.prog.info? 98).map (·.size) = some cs.size
 n : ¬ cs = #[]
 o : ∀ v ∈ cs.toList,v.oneCell' = true
theorem Itm.one (x : Itm) : ∀ u ∈ x.cells,u.oneCell' = true:=by
 intro u hu
 rcases List.mem_cons.1 hu with rfl | hu
 ·rfl
 ·obtain ⟨y,_,rfl⟩:=List.mem_map.1 hu;rfl
theorem ItA.of {x : Itm} (h : x.ok) : ItA x x.cells.toArray:=by
 have hz : x.cells.toArray.size = 33:=by simpa using Itm.len h
 exact ⟨rfl,hz,by rw [hz];exact item_info,fun e => by rw [e] at hz;simp at hz,by simpa using x.one⟩
noncomputable def zitem : Array Value:=match (Tryd.prog.info? 98).bind (·.zero) with | some (.agg c) => c | _ => #[]
theorem zitem_size : zitem.size = 33:=by kernel_rfl
theorem zitem_zero (w : World) : (zeroValue 98).run Tryd.prog w = .ok (.agg zitem) w:=by kernel_rfl
theorem zitem_letter : ∃ zs : Array Value,zs.size = 33∧(∀ w,(zeroValue 98).run Tryd.prog w = .ok (.agg zs) w)∧¬ zs = #[] :=
 ⟨zitem,zitem_size,zitem_zero,fun h => by have:=zitem_size;rw [h] at this;cases this⟩
set_option maxRecDepth 100000 in
theorem itemT : ElT Tryd.prog 40 98 (Value.agg zitem) 33 36:=ElT.mk' Tryd.underlying40 (by kernel_rfl) zitem_size (by omega)
theorem item_built (t : UInt32) (l : List UInt8) (ds : Array Value) (hl : l.length = 32) (hd : HashA l ds) : Tryd.prog.built 98 [(0,u32v t),(1,.agg ds)] = some (Itm.cells ⟨t,l⟩).toArray:=by
 obtain rfl:=hd.e
 obtain ⟨a0,a1,a2,a3,a4,a5,a6,a7,a8,a9,b0,b1,b2,b3,b4,b5,b6,b7,b8,b9,c0,c1,c2,c3,c4,c5,c6,c7,c8,c9,d0,d1,rfl⟩:=list32b hl
 show _ = _
 kernel_rfl
def itmOf (b : List UInt8) (a : Nat) : Itm:=⟨UInt32.ofNat (numN (b.drop a) 4),(b.drop (a + 4)).take 32⟩
def itms (b : List UInt8) (at_ n : Nat) : List Itm:=(List.range n).map fun i => itmOf b (at_ + i * 36)
theorem itms_succ (b : List UInt8) (at_ n : Nat) : itms b at_ (n + 1) = itms b at_ n ++ [itmOf b (at_ + n * 36)]:=by
 unfold itms;rw [List.range_succ,List.map_append];rfl
theorem itms_len (b : List UInt8) (at_ n : Nat) : (itms b at_ n).length = n:=by simp [itms]
def titN (b : List UInt8) : List Itm × Nat × Int :=
 if (bndN b 50000).2.2 = 0 then if b.length < (bndN b 50000).2.1 + (bndN b 50000).1 * 36 then ([],0,1) else (itms b (bndN b 50000).2.1 (bndN b 50000).1,(bndN b 50000).2.1 + (bndN b 50000).1 * 36,0) else ([],0,(bndN b 50000).2.2)
set_option maxRecDepth 100000 in
set_option maxHeartbeats 4000000 in
theorem tit_any (A : Option Addr) (b : List UInt8) (c : Nat) (w : World) (hl : b.length ≤ 1000000000) (hc : b.length ≤ c) (hcm : c ≤ maxLen) (hr : Rd w A (b.map u8v)) :
  Calls Tryd.prog 71 #[.slice A b.length c] w fun e w' => ∃ v,e = .returned (.tuple #[v,iv (titN b).2.1,iv (titN b).2.2])∧w'.ownsRow w.heap.size 98 33 v (titN b).1.length ((titN b).1.flatMap Itm.cells)∧Keep w w':=by
 have G1 : Hid (Calls Tryd.prog 87 #[.slice A b.length c,u64v 50000] w fun e w' => e = .returned (.tuple #[iv (bndN b 50000).1,iv (bndN b 50000).2.1,iv (bndN b 50000).2.2])∧Keep w w'):=Lib.hid (bnd_any A b c 50000 w (by omega) hr)
 have HRG:=Lib.hid (bnd_rng b 50000)
 have HB : Hid (∀ R,titN b = R → R = if (bndN b 50000).2.2 = 0 then if b.length < (bndN b 50000).2.1 + (bndN b 50000).1 * 36 then ([],0,1) else (itms b (bndN b 50000).2.1 (bndN b 50000).1,(bndN b 50000).2.1 + (bndN b 50000).1 * 36,0) else ([],0,(bndN b 50000).2.2)):=Lib.hid fun R h => by subst h;rfl
 replace HB:=Lib.hid (HB.out _ rfl)
 have RB:=Lib.hid hr
 have TK : Hid (∀ y A' m c' a,Keep w y → (b.drop a).length = m → 4 ≤ m → m ≤ 1000000000 → Rd y A' ((b.drop a).map u8v) → Calls Tryd.prog 69 #[.slice A' m c',iv 4] y fun e w' => e = .returned (.tuple #[u64v (numN (b.drop a) 4),iv 0])∧y = w'):=Lib.hid fun y A' m c' a hy h1 h2 h3 h4 => by
  subst h1
  have:=taken_any A' (b.drop a) c' 4 y (by omega) (by omega) h4
  rw [if_neg (by omega),if_neg (by omega)] at this
  exact this
 clear hr
 generalize titN b = R at *
 generalize bndN b 50000 = G at *
 obtain ⟨n,k,e0⟩:=G
 obtain ⟨L,hL⟩ : ∃ L,b.length = L:=⟨_,rfl⟩
 have HLL:=Lib.hid hL
 rw [hL] at HB G1 HRG hl hc ⊢
 clear hL
 unfold maxLen at hcm
 simp only at G1 HB HRG
 go_enter Tryd.func71,Tryd.ntmps71
 go_wp2_with fail
 refine G1.out.mono ?_
 clear G1
 rintro e w1 ⟨rfl,k1⟩
 have HK1:=Lib.hid k1
 clear k1
 have hv:=HB.out
 by_cases h0 : e0 = 0
 case neg =>
  rw [if_neg h0] at hv
  subst hv
  have d1 : (e0 != 0) = true:=by rw [bne_iff_ne];exact h0
  clear HB HRG
  go_wp2
  exact bodyPost_ret (v:=.tuple #[.slice none 0 0,iv 0,iv e0]) (by simp [results,Tryd.results71]) rfl ⟨_,rfl,World.ownsRow_nil _ _ _ _,HK1.out⟩
 subst h0
 rw [if_pos rfl] at hv
 obtain ⟨q1,q2,q3,q4⟩:=HRG.out rfl
 have hw1 : IntKind.i64.wrap ((n : Int) * 36) = (n : Int) * 36:=IntWalk.i64_in _ (by omega)
 have hw2 : IntKind.i64.wrap ((k : Int) + (n : Int) * 36) = (k : Int) + (n : Int) * 36:=IntWalk.i64_in _ (by omega)
 by_cases h1 : L < k + n * 36
 ·rw [if_pos h1] at hv
  subst hv
  have d1 : (L : Int) < (k : Int) + (n : Int) * 36:=by omega
  clear HB h1 HRG
  go_wp2
  exact bodyPost_ret (v:=.tuple #[.slice none 0 0,iv 0,iv 1]) (by simp [results,Tryd.results71]) rfl ⟨_,rfl,World.ownsRow_nil _ _ _ _,HK1.out⟩
 rw [if_neg h1] at hv
 have HV:=Lib.hid hv
 have d1 : ¬ (L : Int) < (k : Int) + (n : Int) * 36:=by omega
 clear hv HB HRG
 go_wp2_with fail
 clear d1
 go_loopw [9,10] (fun v x wr => ∃ i : Nat,i ≤ n∧x = .int .i64 ((k + i * 36 : Nat) : Int)∧Hid (wr.ownsRow w.heap.size 98 33 v i ((itms b k i).flatMap Itm.cells))∧Hid (Keep w wr)) (fun _ x _ => k + n * 36 - (intOf x).toNat)
 case atStart => exact ⟨0,Nat.zero_le _,by simp,Lib.hid (World.ownsRow_nil _ _ _ _),HK1⟩
 case round =>
  obtain ⟨i,hi,rfl,Own1,HKr⟩:=hrel
  by_cases hlt : i < n
  ·have hxl : ((b.drop (k + i * 36 + 4)).take 32).length = 32:=by rw [List.length_take,List.length_drop,HLL.out];omega
   obtain ⟨ds,hds⟩ : ∃ ds,HashA ((b.drop (k + i * 36 + 4)).take 32) ds:=⟨_,HashA.of hxl⟩
   obtain ⟨g,off,rfl,hrg⟩:=rd_hash (RB.out.keep HKr.out) (k:=k + i * 36 + 4) (by rw [HLL.out];omega) hds
   have hbu:=item_built (UInt32.ofNat (numN (b.drop (k + i * 36)) 4)) _ ds hxl hds
   obtain ⟨es,hes⟩ : ∃ es,ItA (itmOf b (k + i * 36)) es∧(Itm.cells ⟨UInt32.ofNat (numN (b.drop (k + i * 36)) 4),(b.drop (k + i * 36 + 4)).take 32⟩).toArray = es:=⟨_,ItA.of (show (itmOf b (k + i * 36)).ok from hxl),rfl⟩
   rw [hes.2] at hbu
   have HSN : Hid ((itms b k (i + 1)).flatMap Itm.cells = (itms b k i).flatMap Itm.cells ++ es.toList):=Lib.hid (by rw [itms_succ,List.flatMap_append,hes.1.l];simp)
   obtain ⟨a,ha⟩ : ∃ a,k + i * 36 = a:=⟨_,rfl⟩
   rw [ha] at hrg hbu ⊢
   have RBA : Hid (Rd wr (some ⟨g,off + a,none⟩) ((b.drop a).map u8v)):=Lib.hid (by have:=(RB.out.keep HKr.out).dropN (k:=a) (by rw [List.length_map,HLL.out];omega);rw [Option.map_some,add_lit0] at this;rw [List.map_drop];exact this)
   have HDL : Hid ((b.drop a).length = L - a):=Lib.hid (by rw [List.length_drop,HLL.out])
   have T2:=Lib.hid fun y A' m c' => TK.out y A' m c' a
   have hn4:=numN_lt (b.drop a) 4
   generalize numN (b.drop a) 4 = N4 at *
   obtain ⟨t,ht⟩ : ∃ t : UInt32,t = UInt32.ofNat N4:=⟨_,rfl⟩
   have htn : (N4 : Int) = (t.toNat : Int):=by rw [ht,UInt32.toNat_ofNat'];omega
   have hw5 : IntKind.u32.wrap (N4 : Int) = (t.toNat : Int):=by rw [IntKind.wrap_u32,htn];have:=t.toNat_lt;omega
   have hw6 : (N4 : Int) % 4294967296 = (t.toNat : Int):=by rw [htn];have:=t.toNat_lt;omega
   rw [← ht] at hbu
   have HRD : Hid (wr.rangeAt g (off + (a + 4)) ds.toList):=Lib.hid hrg
   have hdz:=hds.z;have hdn:=hds.n;have hdi:=hds.i
   have Hds:=Lib.hid hds;have Hes:=Lib.hid hes.1
   have hez:=hes.1.z;have hen:=hes.1.n;have hei:=hes.1.i
   have d2 : (a : Int) < (k : Int) + (n : Int) * 36:=by omega
   have hw3 : IntKind.i64.wrap ((a : Int) + 36) = (a : Int) + 36:=IntWalk.i64_in _ (by omega)
   have hw4 : IntKind.i64.wrap ((a : Int) + 4) = (a : Int) + 4:=IntWalk.i64_in _ (by omega)
   have hs1:=HKr.out.size
   have hsa:=run_s2a (P:=Tryd.prog) (c:=c - (a + 4)) (A:=some ⟨g,off + (a + 4),none⟩) hash_under (Nat.le_refl 32)
   have Hbu:=Lib.hid hbu
   clear hxl hrg hds hes ht hbu htn TK
   go_wp2_with fail
   (with_reducible refine (T2.out _ _ _ _ HKr.out HDL.out (by omega) (by omega) ?_).mono ?_)
   ·exact RBA.out
   rintro e w2 ⟨rfl,rfl⟩
   clear T2 RBA HDL
   go_upto_region 10 with (first
    | ((with_reducible refine load_partg g (off + (a + 4)) ds (Eq.trans ?_ rfl) HRD.out _ Tryd.underlying39 rfl hdi rfl ?_);rfl)
    | ((with_reducible refine list_bldg [(0,u32v t),(1,.agg ds)] es (Eq.trans ?_ rfl) Hbu.out (Eq.trans ?_ rfl) ?_);rfl;rfl)
    | ((with_reducible refine list_build1h itemT es hez (by omega) (Eq.trans ?_ rfl) ?_);rfl)
    | (at_builtin;refine wpList_app itemT (by rfl) _ _ (by rfl) w.heap.size _ i _ (by rfl) (Own1.out.alloc _) _ 1 1 es.toList (by rfl) (by rw [Array.length_toList,hez]) (by simpa using Rd.new wr es.toList 98) Hes.out.o (by omega) (by unfold maxLen;omega) (by simp;omega) ?_;intro v3 w3 own3 hg3 hat3;have k3:=keep_grown (keep_trans HKr.out (keep_new _ _)) (by simp;omega) hg3 (Own1.out.alloc _);rw [← HSN.out] at own3))
   have Own2:=Lib.hid own3;have HK2:=Lib.hid k3
   clear own3 k3 hg3 hat3 hsa HRD Own1 HKr
   go_wp2
   go_roundw
   case rel => exact ⟨i + 1,by omega,by go_num,Own2,HK2⟩
   case measure => simp [intOf];omega
  ·obtain rfl : i = n:=by omega
   have d2 : ¬ ((k + i * 36 : Nat) : Int) < (k : Int) + (i : Int) * 36:=by omega
   have hv:=HV.out
   subst hv
   clear HV TK
   obtain ⟨Ao,co,rfl,-,-,-⟩:=own_form Own1.out
   go_wp2
   exact bodyPost_ret (v:=.tuple #[.slice Ao i co,iv ((k : Int) + (i : Int) * 36),iv 0]) (by simp [results,Tryd.results71]) rfl ⟨_,by simp,own_eq Own1.out (itms_len b k i).symm rfl,HKr.out⟩
end Go.Proofs.YtffpanlpbdnafaaDoor
/- A header's bytes: Put, Get. -/
set_option linter.unusedSimpArgs false
set_option linter.unusedVariables false
namespace Go.Proofs.YtffpanlpbdnafaaDoor
open Go.RowKit
attribute [local go_sem ↓] Go.wp_at_zero Go.wp_at_succ
set_option maxRecDepth 100000 in
set_option maxHeartbeats 1000000 in
theorem hput_any (h : Hd) (cs : Array Value) (w : World) (hk : h.ok) (hcs : HdA h cs) :
  Calls Tryd.prog 65 #[.agg cs] w fun e w' => ∃ A,e = .returned (.slice A 80 80)∧Rd w' A ((hputL h).map u8v)∧Keep w w':=by
 have hpl:=hputL_len hk
 have A1 : Hid (∀ w',Calls Tryd.prog 83 #[.agg cs] w' fun e w'' => e = .returned (.agg ((hputL h).map u8v).toArray)∧Keep w' w''):=fun w' => array_any h cs w' hk hcs
 generalize hputL h = p at *
 obtain ⟨ps,hps⟩ : ∃ ps : Array Value,ps.toList = p.map u8v:=⟨(p.map u8v).toArray,rfl⟩
 have hpz : ps.size = 80:=by rw [← Array.length_toList,hps,List.length_map,hpl]
 have hpn : ¬ ps = #[]:=by intro h;rw [h] at hpz;simp at hpz
 have hpi : (Tryd.prog.info? 177).map (·.size) = some ps.size:=by rw [hpz];kernel_rfl
 rw [show (p.map u8v).toArray = ps by rw [← hps,Array.toArray_toList]] at A1
 obtain ⟨zs,hz1,hz2,hz3⟩:=z80_letter
 have hst : ∀ ww : World,(storeCells ⟨ww.heap.size,0,none⟩ ps.toList 0).run Tryd.prog (ww.alloc (.cells zs 177)) = .ok () (ww.alloc (.cells ps 177)):=fun ww =>
  run_storeCells_new (P:=Tryd.prog) ww 177 zs ps hpi (hz1.trans hpz.symm) (by have:=all_oneCell_toArray (show ∀ v ∈ ps.toList,v.oneCell' = true by rw [hps];exact one_w8 _);rwa [Array.toArray_toList] at this)
 have Hps:=Lib.hid hps
 have hcz:=hcs.z;have hcn:=hcs.n;have hci:=hcs.i
 clear hps hpi hcs hpl
 go_enter Tryd.func65,Tryd.ntmps65
 have Hbx : Hid (Blk (w.alloc (.cells cs 42)) w.heap.size 42 cs.toList):=Blk.new w _ cs.toList
 go_upto_region 1 with fail
 go_wp2_with ((with_reducible refine load_arr w.heap.size cs (Eq.trans ?_ rfl) Hbx.out _ Tryd.underlying42 rfl hci ?_);rfl)
 refine (A1.out _).mono ?_
 rintro e w1 ⟨rfl,k1⟩
 have kw1:=keep_trans (keep_new w _) k1
 go_wp2
 go_ret
 refine ⟨_,rfl,?_,keep_trans kw1 (keep_new _ _)⟩
 rw [← Hps.out]
 exact (show Blk _ w1.heap.size 177 ps.toList from Blk.new w1 _ ps.toList).rd
theorem or_add (k : Nat) (hk : k < 4) (n y : Int) (h0 : 0 ≤ n) (h1 : n < 2 ^ (8 * k)) (h2 : 0 ≤ y) (h3 : y < 256) : bits .or .u32 n (y * 2 ^ (8 * k) % 4294967296) = n + y * 2 ^ (8 * k):=by
 rcases (show k = 0 ∨ k = 1 ∨ k = 2 ∨ k = 3 by omega) with rfl | rfl | rfl | rfl
 ·obtain rfl : n = 0:=by simp at h1;omega
  have e:=u32_or 0 (y * 2 ^ (8 * 0) % 4294967296) (by omega) (by omega) (by omega) (by omega)
  rw [e];simp;omega
 ·simp only [show (8 * 1 : Nat) = 8 from rfl,show ((2 : Int) ^ 8) = 256 from rfl] at *
  rw [u32_or8 _ _ h0 h1 (by omega) (by omega) (by omega)];omega
 ·simp only [show (8 * 2 : Nat) = 16 from rfl,show ((2 : Int) ^ 16) = 65536 from rfl] at *
  rw [u32_or16 _ _ h0 h1 (by omega) (by omega) (by omega)];omega
 ·simp only [show (8 * 3 : Nat) = 24 from rfl,show ((2 : Int) ^ 24) = 16777216 from rfl] at *
  rw [u32_or24 _ _ h0 h1 (by omega) (by omega) (by omega)];omega
def numE (b : List UInt8) : Nat → Int
 | 0 => 0
 | k + 1 => numE b k + (b.getD k 0).toNat * 2 ^ (8 * k)
theorem numE_rng (b : List UInt8) (k : Nat) : 0 ≤ numE b k∧numE b k < 2 ^ (8 * k):=by
 induction k with
 | zero => simp [numE]
 | succ k ih =>
   have hy:=(b.getD k 0).toNat_lt
   have hp : (0 : Int) < 2 ^ (8 * k):=Int.pow_pos (by omega)
   have e : (2 : Int) ^ (8 * (k + 1)) = 256 * 2 ^ (8 * k):=by rw [Nat.mul_succ,Int.pow_add];omega
   rw [numE,e]
   have h1 : ((b.getD k 0).toNat : Int) * 2 ^ (8 * k) ≤ 255 * 2 ^ (8 * k):=Int.mul_le_mul_of_nonneg_right (by omega) (by omega)
   have h2 : (0 : Int) ≤ ((b.getD k 0).toNat : Int) * 2 ^ (8 * k):=Int.mul_nonneg (by omega) (by omega)
   omega
def num32 (b : List UInt8) : UInt32:=w32 (numE b 4)
set_option maxRecDepth 100000 in
set_option maxHeartbeats 1000000 in
theorem number_any (A : Option Addr) (b : List UInt8) (n c : Nat) (w : World) (hn : n = b.length) (hl : 4 ≤ b.length) (hr : Rd w A (b.map u8v)) :
  Calls Tryd.prog 88 #[.slice A n c] w fun e w' => e = .returned (u32v (num32 b))∧w = w':=by
 obtain ⟨g,off,rfl,hg,hc⟩:=hr.at (k:=0) (by simp;omega)
 have hn4 : 4 ≤ n:=by omega
 clear hn
 go_enter Tryd.func88,Tryd.ntmps88
 go_wp2_with fail
 go_loopw [3,5] (fun v i wr => ∃ k : Nat,k ≤ 4∧i = .int .i64 k∧v = .int .u32 (numE b k)∧w = wr) (fun _ i _ => 4 - (intOf i).toNat)
 case atStart => exact ⟨0,by omega,rfl,rfl,rfl⟩
 case round =>
  obtain ⟨k,hk,rfl,rfl,rfl⟩:=hrel
  by_cases hlt : k < 4
  ·obtain ⟨y,hy⟩ : ∃ y,b[k]? = some y:=⟨_,List.getElem?_eq_getElem (by omega)⟩
   have c0:=hc k (by simp;omega)
   rw [show (b.map u8v)[k]'(by simp;omega) = u8v y by
    obtain ⟨_,h⟩:=List.getElem?_eq_some_iff.1 hy
    simp [h]] at c0
   have hy2:=y.toNat_lt
   have hr1:=numE_rng b k
   have hor:=or_add k hlt (numE b k) y.toNat hr1.1 hr1.2 (by omega) (by omega)
   have Hne:=Lib.hid (show numE b (k + 1) = numE b k + y.toNat * 2 ^ (8 * k) by rw [numE,getD_of hy])
   generalize numE b k = e at *
   clear hy hr1 hc hr
   go_wp2
   go_roundw
   case rel => exact ⟨k + 1,by omega,by go_num,by rw [Hne.out],by trivial⟩
   case measure => simp [intOf];omega
  ·have Hk:=Lib.hid (show k = 4 by omega)
   have hr1:=numE_rng b 4
   go_wp2
   go_ret
   refine ⟨?_,rfl⟩
   rw [Hk.out]
   exact ret_int (w32_of hr1.1 (by have:=hr1.2;omega))
end Go.Proofs.YtffpanlpbdnafaaDoor
namespace Go.Proofs.YtffpanlpbdnafaaDoor
open Go.RowKit
attribute [local go_sem ↓] Go.wp_at_zero Go.wp_at_succ
def hgetL (b : List UInt8) : Hd:=⟨num32 b,(b.drop 4).take 32,(b.drop 36).take 32,num32 (b.drop 68),num32 (b.drop 72),num32 (b.drop 76)⟩
theorem hgetL_ok {b : List UInt8} (hb : b.length = 80) : (hgetL b).ok:=by
 unfold hgetL Hd.ok;simp [hb]
theorem head_set (a t b n : UInt32) : ((((Hd.cells ⟨0,z32,z32,0,0,0⟩).set 0 (u32v a)).set 65 (u32v t)).set 66 (u32v b)).set 67 (u32v n) = Hd.cells ⟨a,z32,z32,t,b,n⟩:=by kernel_rfl
set_option maxRecDepth 100000 in
set_option maxHeartbeats 3000000 in
theorem hget_any (A : Option Addr) (b : List UInt8) (c : Nat) (w : World) (hb : b.length = 80) (hc : 80 ≤ c) (hcm : c ≤ maxLen) (hr : Rd w A (b.map u8v)) :
  Calls Tryd.prog 73 #[.slice A 80 c] w fun e w' => ∃ cs,e = .returned (.tuple #[.agg cs,.int .i64 0])∧HdA (hgetL b) cs∧Keep w w':=by
 obtain ⟨g,off,rfl,hg,_⟩:=hr.at (k:=0) (by simp;omega)
 unfold maxLen at hcm
 obtain ⟨zs,hz1,hz2,hz3,hz4⟩:=zhead_letter
 obtain ⟨bs,hbs⟩ : ∃ bs : Array Value,bs.toList = (Hd.cells ⟨num32 b,z32,z32,num32 (b.drop 68),num32 (b.drop 72),num32 (b.drop 76)⟩):=⟨_,rfl⟩
 have hset : (((zs.toList.set 0 (u32v (num32 b))).set 65 (u32v (num32 (b.drop 68)))).set 66 (u32v (num32 (b.drop 72)))).set 67 (u32v (num32 (b.drop 76))) = bs.toList:=by rw [hz4,hbs,head_set]
 have hbz : bs.size = 68:=by rw [← Array.length_toList,hbs];exact Hd.len ⟨rfl,rfl⟩
 have hbn : ¬ bs = #[]:=by intro h;rw [h] at hbz;simp at hbz
 have Hst : Hid (∀ ww : World,(storeCells ⟨ww.heap.size,0,none⟩ ((((zs.toList.set 0 (u32v (num32 b))).set 65 (u32v (num32 (b.drop 68)))).set 66 (u32v (num32 (b.drop 72)))).set 67 (u32v (num32 (b.drop 76)))) 0).run Tryd.prog (ww.alloc (.cells zs 42)) = .ok () (ww.alloc (.cells bs 42))):=fun ww => by
  rw [hset]
  exact run_storeCells_new (P:=Tryd.prog) ww 42 zs bs (by rw [hbz];kernel_rfl) (hz1.trans hbz.symm) (by have:=all_oneCell_toArray (show ∀ v ∈ bs.toList,v.oneCell' = true by rw [hbs];exact Hd.one _);rwa [Array.toArray_toList] at this)
 have hsub : ∀ (w' : World),Keep w w' → ∀ k,k ≤ 80 → Rd w' (some ⟨g,off + k,none⟩) ((b.drop k).map u8v):=fun w' h k hk => by
  have h1:=(hr.keep h).sub k (80 - k) (by simp [hb];omega)
  rw [List.take_of_length_le (by simp [hb])] at h1
  rwa [List.map_drop]
 have N1 : Hid (∀ w',Keep w w' → Calls Tryd.prog 88 #[.slice (some ⟨g,off,none⟩) 80 c] w' fun e w'' => e = .returned (u32v (num32 b))∧w' = w''):=fun w' h => number_any _ b 80 c w' hb.symm (by omega) (hr.keep h)
 have N4 : Hid (∀ w',Keep w w' → Calls Tryd.prog 88 #[.slice (some ⟨g,off + 68,none⟩) 12 (c - 68)] w' fun e w'' => e = .returned (u32v (num32 (b.drop 68)))∧w' = w''):=fun w' h => number_any _ (b.drop 68) 12 _ w' (by simp [hb]) (by simp [hb]) (hsub w' h 68 (by omega))
 have N7 : Hid (∀ w',Keep w w' → Calls Tryd.prog 88 #[.slice (some ⟨g,off + 72,none⟩) 8 (c - 72)] w' fun e w'' => e = .returned (u32v (num32 (b.drop 72)))∧w' = w''):=fun w' h => number_any _ (b.drop 72) 8 _ w' (by simp [hb]) (by simp [hb]) (hsub w' h 72 (by omega))
 have N10 : Hid (∀ w',Keep w w' → Calls Tryd.prog 88 #[.slice (some ⟨g,off + 76,none⟩) 4 (c - 76)] w' fun e w'' => e = .returned (u32v (num32 (b.drop 76)))∧w' = w''):=fun w' h => number_any _ (b.drop 76) 4 _ w' (by simp [hb]) (by simp [hb]) (hsub w' h 76 (by omega))
 have HS1 : Hid (∀ w',Keep w w' → Rd w' (some ⟨g,off + 4,none⟩) (((b.drop 4).take 32).map u8v)):=fun w' h => by
  have h1:=(hr.keep h).sub 4 32 (by simp [hb])
  rwa [← List.map_drop,← List.map_take] at h1
 have HS2 : Hid (∀ w',Keep w w' → Rd w' (some ⟨g,off + 36,none⟩) (((b.drop 36).take 32).map u8v)):=fun w' h => by
  have h1:=(hr.keep h).sub 36 32 (by simp [hb])
  rwa [← List.map_drop,← List.map_take] at h1
 have Hbs:=Lib.hid hbs;have Hb:=Lib.hid hb
 have ht1 : Hid (((b.drop 4).take 32).length = 32):=by simp [Hid,hb]
 have ht2 : Hid (((b.drop 36).take 32).length = 32):=by simp [Hid,hb]
 have HG : Hid (hgetL b = ⟨num32 b,(b.drop 4).take 32,(b.drop 36).take 32,num32 (b.drop 68),num32 (b.drop 72),num32 (b.drop 76)⟩):=rfl
 generalize hgetL b = H at HG ⊢
 generalize num32 b = na at *
 generalize num32 (b.drop 68) = nt at *
 generalize num32 (b.drop 72) = nb at *
 generalize num32 (b.drop 76) = nn at *
 generalize (b.drop 4).take 32 = p1 at *
 generalize (b.drop 36).take 32 = p2 at *
 clear hbs hb hsub hr hset hz4
 go_enter Tryd.func73,Tryd.ntmps73
 go_upto_region 5 with fail
 have HR1 : Hid (Blk (w.alloc (.cells zs 42)) w.heap.size 42 zs.toList):=Blk.new w _ zs.toList
 have kw1:=keep_new w (.cells zs 42)
 have hz0 : w.heap.size < (w.alloc (.cells zs 42)).heap.size:=by simp
 generalize w.alloc (.cells zs 42) = w1 at HR1 kw1 hz0 ⊢
 go_cut [4] (fun p wx => ∃ w9 : World,p = .pointer (some ⟨w9.heap.size,0,none⟩)∧Blk wx w9.heap.size 42 bs.toList∧Keep w1 wx∧w1.heap.size ≤ w9.heap.size)
 case first =>
  refine wp_region_tree (.take [0,2,3,5,6,8,9] (.fork 1 (.fork 4 (.fork 7 (.fork 10 (.take [11] (.force [12] .done)) 12 (.force [10] (.take [11] .done))) 12 (.force [7,10] (.take [11] .done))) 12 (.force [4,7,10] (.take [11] .done))) 12 (.force [1,4,7,10] (.take [11] .done)))) [13] (by kernel_rfl) (by kernel_rfl) (fun w9 k9 => ?_)
  have k8:=k9
  replace k9:=keep_trans kw1 k9
  refine mt_take w9 (Below.refl _ _) ?_
  simp only [pick_cons,pick_nil,nth_zero,nth_succ]
  repeat (go_big_quiet_step (fail))
  refine wpQuiet_nil ?_
  refine mt_fork ?_ ?_
  ·simp only [pick_cons,pick_nil,nth_zero,nth_succ]
   refine fc_step rfl (fun K hK => ?_)
   go_simp
   (with_reducible refine (N1.out _ k9).mono ?_)
   rintro e wX ⟨rfl,rfl⟩
   refine hK _ _ (Below.refl _ _) ?_
   clear hK K
   refine fc_nil ?_
   refine mt_fork ?_ ?_
   ·simp only [pick_cons,pick_nil,nth_zero,nth_succ]
    refine fc_step rfl (fun K hK => ?_)
    go_simp
    (with_reducible refine (N4.out _ k9).mono ?_)
    rintro e wX ⟨rfl,rfl⟩
    refine hK _ _ (Below.refl _ _) ?_
    clear hK K
    refine fc_nil ?_
    refine mt_fork ?_ ?_
    ·simp only [pick_cons,pick_nil,nth_zero,nth_succ]
     refine fc_step rfl (fun K hK => ?_)
     go_simp
     (with_reducible refine (N7.out _ k9).mono ?_)
     rintro e wX ⟨rfl,rfl⟩
     refine hK _ _ (Below.refl _ _) ?_
     clear hK K
     refine fc_nil ?_
     refine mt_fork ?_ ?_
     ·simp only [pick_cons,pick_nil,nth_zero,nth_succ]
      refine fc_step rfl (fun K hK => ?_)
      go_simp
      (with_reducible refine (N10.out _ k9).mono ?_)
      rintro e wX ⟨rfl,rfl⟩
      refine hK _ _ (Below.refl _ _) ?_
      clear hK K
      refine fc_nil ?_
      refine mt_take w9 (Below.refl _ _) ?_
      simp only [pick_cons,pick_nil,nth_zero,nth_succ]
      repeat (go_big_quiet_step (fail))
      refine wpQuiet_nil ?_
      refine mt_force ?_
      simp only [pick_cons,pick_nil,nth_zero,nth_succ]
      refine fc_step rfl (fun K hK => ?_)
      go_simp
      refine hK _ _ (keep_new _ _) ?_
      clear hK K
      refine fc_nil ?_
      refine mt_end ?_
      have hst:=Hst.out w9
      go_wp2
      go_meet
      exact ⟨w9,rfl,Blk.new w9 _ bs.toList,keep_trans k8 (keep_new _ _),k8.size⟩
     ·simp only [pick_cons,pick_nil,nth_zero,nth_succ]
      refine fc_step rfl (fun K hK => ?_)
      go_simp
      refine hK _ _ (keep_new _ _) ?_
      clear hK K
      refine fc_nil ?_
      refine mt_force ?_
      simp only [pick_cons,pick_nil,nth_zero,nth_succ]
      refine fc_step rfl (fun K hK => ?_)
      go_simp
      (with_reducible refine (N10.out _ (keep_trans k9 (keep_new _ _))).mono ?_)
      rintro e wX ⟨rfl,rfl⟩
      refine hK _ _ (Below.refl _ _) ?_
      clear hK K
      refine fc_nil ?_
      refine mt_take (w9.alloc (.cells zs 42)) (Below.refl _ _) ?_
      simp only [pick_cons,pick_nil,nth_zero,nth_succ]
      repeat (go_big_quiet_step (fail))
      refine wpQuiet_nil ?_
      refine mt_end ?_
      have hst:=Hst.out w9
      go_wp2
      go_meet
      exact ⟨w9,rfl,Blk.new w9 _ bs.toList,keep_trans k8 (keep_new _ _),k8.size⟩
    ·simp only [pick_cons,pick_nil,nth_zero,nth_succ]
     refine fc_step rfl (fun K hK => ?_)
     go_simp
     refine hK _ _ (keep_new _ _) ?_
     clear hK K
     refine fc_nil ?_
     refine mt_force ?_
     simp only [pick_cons,pick_nil,nth_zero,nth_succ]
     refine fc_step rfl (fun K hK => ?_)
     go_simp
     (with_reducible refine (N7.out _ (keep_trans k9 (keep_new _ _))).mono ?_)
     rintro e wX ⟨rfl,rfl⟩
     refine hK _ _ (Below.refl _ _) ?_
     clear hK K
     refine fc_step rfl (fun K hK => ?_)
     go_simp
     (with_reducible refine (N10.out _ (keep_trans k9 (keep_new _ _))).mono ?_)
     rintro e wX ⟨rfl,rfl⟩
     refine hK _ _ (Below.refl _ _) ?_
     clear hK K
     refine fc_nil ?_
     refine mt_take (w9.alloc (.cells zs 42)) (Below.refl _ _) ?_
     simp only [pick_cons,pick_nil,nth_zero,nth_succ]
     repeat (go_big_quiet_step (fail))
     refine wpQuiet_nil ?_
     refine mt_end ?_
     have hst:=Hst.out w9
     go_wp2
     go_meet
     exact ⟨w9,rfl,Blk.new w9 _ bs.toList,keep_trans k8 (keep_new _ _),k8.size⟩
   ·simp only [pick_cons,pick_nil,nth_zero,nth_succ]
    refine fc_step rfl (fun K hK => ?_)
    go_simp
    refine hK _ _ (keep_new _ _) ?_
    clear hK K
    refine fc_nil ?_
    refine mt_force ?_
    simp only [pick_cons,pick_nil,nth_zero,nth_succ]
    refine fc_step rfl (fun K hK => ?_)
    go_simp
    (with_reducible refine (N4.out _ (keep_trans k9 (keep_new _ _))).mono ?_)
    rintro e wX ⟨rfl,rfl⟩
    refine hK _ _ (Below.refl _ _) ?_
    clear hK K
    refine fc_step rfl (fun K hK => ?_)
    go_simp
    (with_reducible refine (N7.out _ (keep_trans k9 (keep_new _ _))).mono ?_)
    rintro e wX ⟨rfl,rfl⟩
    refine hK _ _ (Below.refl _ _) ?_
    clear hK K
    refine fc_step rfl (fun K hK => ?_)
    go_simp
    (with_reducible refine (N10.out _ (keep_trans k9 (keep_new _ _))).mono ?_)
    rintro e wX ⟨rfl,rfl⟩
    refine hK _ _ (Below.refl _ _) ?_
    clear hK K
    refine fc_nil ?_
    refine mt_take (w9.alloc (.cells zs 42)) (Below.refl _ _) ?_
    simp only [pick_cons,pick_nil,nth_zero,nth_succ]
    repeat (go_big_quiet_step (fail))
    refine wpQuiet_nil ?_
    refine mt_end ?_
    have hst:=Hst.out w9
    go_wp2
    go_meet
    exact ⟨w9,rfl,Blk.new w9 _ bs.toList,keep_trans k8 (keep_new _ _),k8.size⟩
  ·simp only [pick_cons,pick_nil,nth_zero,nth_succ]
   refine fc_step rfl (fun K hK => ?_)
   go_simp
   refine hK _ _ (keep_new _ _) ?_
   clear hK K
   refine fc_nil ?_
   refine mt_force ?_
   simp only [pick_cons,pick_nil,nth_zero,nth_succ]
   refine fc_step rfl (fun K hK => ?_)
   go_simp
   (with_reducible refine (N1.out _ (keep_trans k9 (keep_new _ _))).mono ?_)
   rintro e wX ⟨rfl,rfl⟩
   refine hK _ _ (Below.refl _ _) ?_
   clear hK K
   refine fc_step rfl (fun K hK => ?_)
   go_simp
   (with_reducible refine (N4.out _ (keep_trans k9 (keep_new _ _))).mono ?_)
   rintro e wX ⟨rfl,rfl⟩
   refine hK _ _ (Below.refl _ _) ?_
   clear hK K
   refine fc_step rfl (fun K hK => ?_)
   go_simp
   (with_reducible refine (N7.out _ (keep_trans k9 (keep_new _ _))).mono ?_)
   rintro e wX ⟨rfl,rfl⟩
   refine hK _ _ (Below.refl _ _) ?_
   clear hK K
   refine fc_step rfl (fun K hK => ?_)
   go_simp
   (with_reducible refine (N10.out _ (keep_trans k9 (keep_new _ _))).mono ?_)
   rintro e wX ⟨rfl,rfl⟩
   refine hK _ _ (Below.refl _ _) ?_
   clear hK K
   refine fc_nil ?_
   refine mt_take (w9.alloc (.cells zs 42)) (Below.refl _ _) ?_
   simp only [pick_cons,pick_nil,nth_zero,nth_succ]
   repeat (go_big_quiet_step (fail))
   refine wpQuiet_nil ?_
   refine mt_end ?_
   have hst:=Hst.out w9
   go_wp2
   go_meet
   exact ⟨w9,rfl,Blk.new w9 _ bs.toList,keep_trans k8 (keep_new _ _),k8.size⟩
 case rest =>
  obtain ⟨w9,rfl,hb9,k9,hz9⟩:=hcut
  have HB1:=Lib.hid hb9;have HR1':=Lib.hid (HR1.out.keep k9);have HK1:=Lib.hid k9
  generalize w9.heap.size = G at HB1 hz9 ⊢
  clear hb9 k9 HR1
  have HR1:=HR1'
  have Hbl : Hid (bs.toList.length = 68):=(Array.length_toList).trans hbz
  clear HR1' N1 N4 N7 N10 Hst
  go_upto_region 6 with fail
  refine wp_region_tree (.take [0,1,2,3] .done) [4] (by kernel_rfl) (by kernel_rfl) (fun v2 k2 => ?_)
  have b2:=Lib.hid (HB1.out.keep k2);have r2:=Lib.hid (HR1.out.keep k2);have q2:=Lib.hid (keep_trans HK1.out k2)
  refine mt_take v2 (Below.refl _ _) ?_
  simp only [pick_cons,pick_nil,nth_zero,nth_succ]
  repeat (go_big_quiet_step (fail))
  refine wpQuiet_nil (mt_end ?_)
  refine wpList_cpy byteW (by rfl) _ _ (by rfl) G 1 32 32 (by rfl) (some ⟨g,off + 4,none⟩) 32 (c - 4) (p1.map u8v) (by rfl) (by rw [List.length_map];exact ht1) (HS1.out v2 (keep_trans kw1 q2.out)) (one_w8 _) bs.toList _ b2.out (by rw [Array.length_toList,hbz];omega) ?_
  intro w2 ho2 hg2
  simp only [Act.put,Array.set!_eq_setIfInBounds,List.setIfInBounds_toArray,List.set_cons_succ,List.set_cons_zero]
  have HB2 : Hid (Blk w2 G 42 (splice bs.toList 1 (p1.map u8v))):=by
   have h:=ho2.out
   rwa [List.take_of_length_le (by rw [List.length_map];have : p1.length = 32:=ht1;omega)] at h
  have HR2:=Lib.hid (r2.out.grown hg2 (fun e => by injection e with e;omega))
  have HK2 : Hid (Keep w1 w2):=q2.out.grown hg2 q2.out.size (fun q hq => by injection hq with hq;omega)
  clear ho2 hg2 b2 r2 q2 k2 HB1 HR1 HK1
  have Hl2 : Hid ((splice bs.toList 1 (p1.map u8v)).length = 68):=(length_splice _ _ _ (by rw [Hbl.out,List.length_map];have : p1.length = 32:=ht1;omega)).trans Hbl.out
  generalize hx2 : splice bs.toList 1 (p1.map u8v) = x2 at HB2 Hl2
  have Hx2:=Lib.hid hx2;clear hx2
  go_upto_region 7 with fail
  refine wp_region_tree (.take [0,1,2,3] .done) [4] (by kernel_rfl) (by kernel_rfl) (fun v3 k3 => ?_)
  have b3:=Lib.hid (HB2.out.keep k3);have r3:=Lib.hid (HR2.out.keep k3);have q3:=Lib.hid (keep_trans HK2.out k3)
  refine mt_take v3 (Below.refl _ _) ?_
  simp only [pick_cons,pick_nil,nth_zero,nth_succ]
  repeat (go_big_quiet_step (fail))
  refine wpQuiet_nil (mt_end ?_)
  refine wpList_cpy byteW (by rfl) _ _ (by rfl) G 33 32 32 (by rfl) (some ⟨g,off + 36,none⟩) 32 (c - 36) (p2.map u8v) (by rfl) (by rw [List.length_map];exact ht2) (HS2.out v3 (keep_trans kw1 q3.out)) (one_w8 _) x2 _ b3.out (by rw [Hl2.out];omega) ?_
  intro w3 ho3 hg3
  simp only [Act.put,Array.set!_eq_setIfInBounds,List.setIfInBounds_toArray,List.set_cons_succ,List.set_cons_zero]
  have HB3 : Hid (Blk w3 G 42 (splice x2 33 (p2.map u8v))):=by
   have h:=ho3.out
   rwa [List.take_of_length_le (by rw [List.length_map];have : p2.length = 32:=ht2;omega)] at h
  have HR3:=Lib.hid (r3.out.grown hg3 (fun e => by injection e with e;omega))
  have HK3 : Hid (Keep w1 w3):=q3.out.grown hg3 q3.out.size (fun q hq => by injection hq with hq;omega)
  clear ho3 hg3 b3 r3 q3 k3 HB2 HR2 HK2
  have hfin : splice x2 33 (p2.map u8v) = H.cells:=by
   rw [← Hx2.out,Hbs.out,HG.out]
   have e1 : Hd.cells ⟨na,z32,z32,nt,nb,nn⟩ = [u32v na] ++ (z32.map u8v ++ (z32.map u8v ++ [u32v nt,u32v nb,u32v nn])):=rfl
   rw [e1,splice_mid [u32v na] _ _ (p1.map u8v) 1 rfl (by rw [List.length_map,List.length_map];exact Eq.symm ht1),← List.append_assoc,
    splice_mid ([u32v na] ++ p1.map u8v) _ _ (p2.map u8v) 33 (by have : p1.length = 32:=ht1;simp [this]) (by rw [List.length_map,List.length_map];exact Eq.symm ht2)]
   simp [Hd.cells]
  have hok : H.ok:=by rw [HG.out];exact ⟨ht1,ht2⟩
  rw [hfin] at HB3
  clear hfin Hx2
  obtain ⟨cs,hcs⟩ : ∃ cs,HdA H cs:=⟨_,HdA.of hok⟩
  have hcz:=hcs.z;have hcn:=hcs.n;have hci:=hcs.i
  have HB4 : Hid (Blk w3 G 42 cs.toList):=by rw [hcs.l];exact HB3.out
  obtain ⟨w8,hst,hb8,hg8⟩:=run_store_blk (P:=Tryd.prog) cs.toList HR3.out (by simp [hz1,hcz]) hcs.o
  have Hb8:=Lib.hid hb8;have Hg8:=Lib.hid hg8;have Hcs:=Lib.hid hcs
  clear hb8 hg8 hcs hok
  go_upto_region 8 with fail
  go_wp2_with ((with_reducible refine load_arr G cs (Eq.trans ?_ rfl) HB4.out _ Tryd.underlying42 rfl hci ?_);rfl)
  have hb8:=Hb8.out
  have hk8 : Keep w w3:=keep_trans kw1 HK3.out
  exact bodyPost_ret (v:=.tuple #[.agg cs,.int .i64 0]) (results_cell_tmp_row Tryd.results73 _ _ w.heap.size _ _ _ _ rfl hb8 Tryd.underlying42 rfl (by rw [List.size_toArray,Array.length_toList];exact hci)) rfl ⟨cs,rfl,Hcs.out,hk8.grown Hg8.out hk8.size (fun q hq => by injection hq with hq;omega)⟩
end Go.Proofs.YtffpanlpbdnafaaDoor
/- header.Get of too few bytes, PutAll, GetAll. (printed by gen_vg.py) -/
set_option linter.unusedSimpArgs false
set_option linter.unusedVariables false
namespace Go.Proofs.YtffpanlpbdnafaaDoor
open Go.RowKit
attribute [local go_sem ↓] Go.wp_at_zero Go.wp_at_succ
theorem zhead_HdA : HdA ⟨0,z32,z32,0,0,0⟩ zhead:=by
 have h:=HdA.of (h:=⟨0,z32,z32,0,0,0⟩) ⟨rfl,rfl⟩
 rwa [← zhead_list,Array.toArray_toList] at h
theorem zhead_built : Tryd.prog.built 42 [] = some zhead:=by kernel_rfl
theorem zheadB_letter : ∃ zs : Array Value,HdA ⟨0,z32,z32,0,0,0⟩ zs∧(∀ w,(zeroValue 42).run Tryd.prog w = .ok (.agg zs) w)∧Tryd.prog.built 42 [] = some zs :=
 ⟨zhead,zhead_HdA,zhead_zero,zhead_built⟩
def hpa (l : List Hd) : List UInt8:=l.flatMap fun h => hputL h ++ [0]
def hpall (l : List Hd) : List UInt8:=cptL l.length ++ hpa l
theorem hpa_len (l : List Hd) (hk : ∀ h ∈ l,h.ok) : (hpa l).length = l.length * 81:=by
 unfold hpa
 exact flatMap_len' _ 81 l fun h hh => by rw [List.length_append,hputL_len (hk h hh)];rfl
set_option maxRecDepth 100000 in
set_option maxHeartbeats 4000000 in
theorem hpall_any (A : Option Addr) (l : List Hd) (c : Nat) (w : World) (hl : l.length ≤ 2000) (hk : ∀ h ∈ l,h.ok) (hr : Rd w A (l.flatMap Hd.cells)) :
  Calls Tryd.prog 66 #[.slice A l.length c] w fun e w' => ∃ v,e = .returned (.tuple #[v,iv 0])∧w'.ownsRow w.heap.size 5 1 v (hpall l).length ((hpall l).map u8v)∧Keep w w':=by
 have C1 : Hid (∀ y,Calls Tryd.prog 82 #[.slice none 0 0,u64v l.length] y fun e w' => ∃ v,e = .returned v∧w'.ownsRow y.heap.size 5 1 v (sizN l.length) ((cptL l.length).map u8v)∧Keep y w'):=Lib.hid fun y => cput_any l.length (by omega) y
 have hs:=siz_le l.length
 have HLEN : Hid ((hpall l).length = sizN l.length + l.length * 81):=Lib.hid (by unfold hpall;rw [List.length_append,cpt_len,hpa_len l hk])
 have HAT : Hid (∀ k (h : k < l.length),∃ (x : Hd) (xs : Array Value),x.ok∧HdA x xs∧(l.take (k + 1)) = l.take k ++ [x]∧∃ b off,A = some ⟨b,off,none⟩∧w.rangeAt b (off + k * 68) xs.toList):=Lib.hid fun k h => by
  obtain ⟨b,off,h1,-,h2⟩:=heads_at hr hk h
  have hx:=HdA.of (hk _ (List.getElem_mem h))
  exact ⟨l[k],_,hk _ (List.getElem_mem h),hx,List.take_succ_eq_append_getElem h,b,off,h1,by rw [hx.l];exact h2⟩
 have HFN : Hid ((cptL l.length ++ hpa (l.take l.length)) = hpall l):=Lib.hid (by rw [List.take_length];rfl)
 have H0 : Hid (∀ C : List UInt8,C ++ hpa (l.take 0) = C):=Lib.hid fun C => by simp [hpa]
 have H1 : Hid (∀ (C : List UInt8) k x,l.take (k + 1) = l.take k ++ [x] → C ++ hpa (l.take (k + 1)) = (C ++ hpa (l.take k)) ++ (hputL x ++ [0])):=Lib.hid fun C k x h => by rw [h];simp [hpa]
 clear hr hk
 generalize hpall l = R at *
 generalize cptL l.length = C at *
 generalize sizN l.length = s at *
 obtain ⟨n,hn⟩ : ∃ n,l.length = n:=⟨_,rfl⟩
 rw [hn] at C1 HLEN HAT HFN hl ⊢
 clear hn
 have d1 : ¬ (2000 : Int) < n:=by omega
 have hw : IntKind.u64.wrap (n : Int) = n:=by rw [IntKind.wrap_u64];omega
 obtain ⟨zs,hz1,hz2,hz3,hz4⟩:=zhead_letter
 clear hz4
 go_enter Tryd.func66,Tryd.ntmps66
 go_wp2_with fail
 refine (C1.out _).mono ?_
 clear C1
 rintro e w1 ⟨v1,rfl,hown,k1⟩
 have Own0 : Hid (w1.ownsRow w.heap.size 5 1 v1 (s + 0 * 81) ((C ++ hpa (l.take 0)).map u8v)):=Lib.hid (own_eq hown (by omega) (by rw [H0.out]))
 have HK1:=Lib.hid k1
 clear k1 hown H0
 go_wp2_with fail
 clear d1 hw
 go_loopw [4,16] (fun v x wr => ∃ k : Nat,k ≤ n∧x = .int .i64 k∧Hid (wr.ownsRow w.heap.size 5 1 v (s + k * 81) ((C ++ hpa (l.take k)).map u8v))∧Hid (Keep w wr)) (fun _ x _ => n - (intOf x).toNat)
 case atStart => exact ⟨0,Nat.zero_le _,rfl,Own0,HK1⟩
 case round =>
  obtain ⟨k,hk,rfl,Own1,HKr⟩:=hrel
  by_cases hlt : k < n
  ·obtain ⟨x,xs,hxo,hxs,htk,b,off,rfl,hrg⟩:=HAT.out k hlt
   have HH1:=Lib.hid (H1.out C k x htk)
   have P1 : Hid (∀ y,Calls Tryd.prog 65 #[.agg xs] y fun e w' => ∃ A,e = .returned (.slice A 80 80)∧Rd w' A ((hputL x).map u8v)∧Keep y w'):=Lib.hid fun y => hput_any x xs y hxo hxs
   have HPL:=Lib.hid (hputL_len hxo)
   have hxz:=hxs.z;have hxn:=hxs.n;have hxi:=hxs.i
   have RX : Hid (wr.rangeAt b (off + k * 68) xs.toList):=Lib.hid fun j v hv => keep_cell HKr.out (hrg j v hv)
   have hst : (storeCells ⟨wr.heap.size,0,none⟩ xs.toList 0).run Tryd.prog (wr.alloc (.cells zs 42)) = .ok () (wr.alloc (.cells xs 42)):=run_storeCells_new (P:=Tryd.prog) wr 42 zs xs hxi (hz1.trans hxz.symm) (by have:=all_oneCell_toArray hxs.o;rwa [Array.toArray_toList] at this)
   have d2 : (k : Int) < n:=by omega
   clear hxo hxs htk hrg HAT H1
   obtain ⟨Av,cv,rfl,-,-,-⟩:=own_form Own1.out
   go_upto_region 7 with ((with_reducible refine load_partg b (off + k * 68) xs (Eq.trans ?_ rfl) RX.out _ Tryd.underlying42 rfl hxi rfl ?_);rfl)
   obtain ⟨w2,hw2⟩ : ∃ w2,w2 = wr.alloc (.cells xs 42):=⟨_,rfl⟩
   have HB2 : Hid (Blk w2 wr.heap.size 42 xs.toList):=by rw [hw2];exact Lib.hid (Blk.new wr 42 xs.toList)
   have HK2 : Hid (Keep w w2):=by rw [hw2];exact Lib.hid (keep_trans HKr.out (keep_new _ _))
   have Own2 : Hid (w2.ownsRow w.heap.size 5 1 (.slice Av (s + k * 81) cv) (s + k * 81) ((C ++ hpa (l.take k)).map u8v)):=by rw [hw2];exact Lib.hid (Own1.out.alloc _)
   rw [← hw2]
   clear hw2 hst RX HKr Own1
   generalize wr.heap.size = gb at *
   have RB : Hid (w2.rangeAt gb 0 xs.toList):=Lib.hid (range_of HB2.out 0 xs.toList (by simp [List.take_of_length_le]))
   clear HB2
   go_wp2_with ((with_reducible refine load_partg gb 0 xs (Eq.trans ?_ rfl) RB.out _ Tryd.underlying42 rfl hxi rfl ?_);rfl)
   refine (P1.out _).mono ?_
   clear P1 RB
   rintro e w3 ⟨Ap,rfl,hrp,k3⟩
   have HK3:=Lib.hid (keep_trans HK2.out k3)
   have Own3:=Lib.hid (own_keep Own2.out k3)
   have RP:=Lib.hid hrp
   clear k3 hrp HK2 Own2
   go_upto_region 8 with (at_builtin;refine wpList_app byteT (by rfl) _ _ (by rfl) w.heap.size _ (s + k * 81) _ (by rfl) Own3.out _ 80 80 ((hputL x).map u8v) (by rfl) (by rw [List.length_map,HPL.out]) RP.out (one_bytes _) (by omega) (by unfold maxLen;omega) (by have:=HK3.out.size;omega) ?_;intro v4 w4 own4 hg4 hat4;have Own4:=Lib.hid own4;have HK4:=Lib.hid (keep_grown HK3.out (by have:=HK3.out.size;omega) hg4 Own3.out);clear own4 hg4 hat4 Own3 HK3)
   go_wp2_with (at_builtin;refine wpList_app byteT (by rfl) _ _ (by rfl) w.heap.size _ (s + k * 81 + 80) _ (by rfl) (Own4.out.alloc _) _ 1 1 [.int .u8 0] (by rfl) (by rfl) (Rd.new _ _ _) (by simp [Value.oneCell']) (by omega) (by unfold maxLen;omega) (by have:=HK4.out.size;simp;omega) ?_;intro v5 w5 own5 hg5 hat5;have Own5:=Lib.hid own5;have HK5:=Lib.hid (keep_grown (HK4.out.alloc (HK4.out.size) _) (by have:=HK4.out.size;simp;omega) hg5 (Own4.out.alloc _));clear own5 hg5 hat5 Own4 HK4)
   go_roundw
   case rel => exact ⟨k + 1,by omega,by go_num,Lib.hid (own_eq Own5.out (by omega) (by rw [HH1.out];simp)),HK5⟩
   case measure => simp [intOf];omega
  ·obtain rfl : k = n:=by omega
   have d2 : ¬ (k : Int) < k:=by omega
   obtain ⟨Ao,co,rfl,-,-,-⟩:=own_form Own1.out
   go_wp2
   exact bodyPost_ret (v:=.tuple #[.slice Ao (s + k * 81) co,iv 0]) (by simp [results,Tryd.results66]) rfl ⟨_,rfl,own_eq Own1.out HLEN.out.symm (by rw [HFN.out]),HKr.out⟩
end Go.Proofs.YtffpanlpbdnafaaDoor
/- header.GetAll. (printed by gen_vh.py) -/
set_option linter.unusedSimpArgs false
set_option linter.unusedVariables false
namespace Go.Proofs.YtffpanlpbdnafaaDoor
open Go.RowKit
attribute [local go_sem ↓] Go.wp_at_zero Go.wp_at_succ
def hgal (b : List UInt8) : Nat → Nat → List Hd × Int
 | 0,a => if b.length ≤ a then ([],0) else ([],2)
 | n + 1,a => if b.length ≤ a + 80 then ([],1) else if b.getD (a + 80) 0 = 0 then
     if (hgal b n (a + 81)).2 = 0 then (hgetL ((b.drop a).take 80) :: (hgal b n (a + 81)).1,0) else ([],(hgal b n (a + 81)).2)
   else ([],2)
def hgall (b : List UInt8) : List Hd × Int:=if (bndN b 2000).2.2 = 0 then hgal b (bndN b 2000).1 (bndN b 2000).2.1 else ([],(bndN b 2000).2.2)
def hgalW (ds : List Hd) (r : List Hd × Int) : List Hd × Int:=if r.2 = 0 then (ds ++ r.1,0) else ([],r.2)
theorem hgalW_nil (r : List Hd × Int) (h : r.2 = 0 ∨ r.1 = []) : hgalW [] r = r:=by
 unfold hgalW
 split
 ·rename_i q;rw [List.nil_append,← q]
 ·rename_i q
  rcases h with h | h
  ·exact absurd h q
  ·rw [← h]
theorem hgal_e (b : List UInt8) : ∀ n a,(hgal b n a).2 = 0 ∨ (hgal b n a).1 = []
 | 0,a => by unfold hgal;split <;> simp
 | n + 1,a => by unfold hgal;split;· exact .inr rfl
                 ·split
                  ·split
                   ·exact .inl rfl
                   ·exact .inr rfl
                  ·exact .inr rfl
theorem hgalW_step (b : List UInt8) (ds : List Hd) (n a : Nat) (h1 : ¬ b.length ≤ a + 80) (h2 : b.getD (a + 80) 0 = 0) : hgalW ds (hgal b (n + 1) a) = hgalW (ds ++ [hgetL ((b.drop a).take 80)]) (hgal b n (a + 81)):=by
 rw [hgal,if_neg h1,if_pos h2]
 unfold hgalW
 by_cases h : (hgal b n (a + 81)).2 = 0
 ·rw [if_pos h,if_pos rfl,if_pos h];simp
 ·rw [if_neg h,if_neg h,if_neg h]
theorem hgalW_short (b : List UInt8) (ds : List Hd) (n a : Nat) (h1 : b.length ≤ a + 80) : hgalW ds (hgal b (n + 1) a) = ([],1):=by
 rw [hgal,if_pos h1];rfl
theorem hgalW_form (b : List UInt8) (ds : List Hd) (n a : Nat) (h1 : ¬ b.length ≤ a + 80) (h2 : b.getD (a + 80) 0 ≠ 0) : hgalW ds (hgal b (n + 1) a) = ([],2):=by
 rw [hgal,if_neg h1,if_neg h2];rfl
theorem hgalW_end (b : List UInt8) (ds : List Hd) (a : Nat) : hgalW ds (hgal b 0 a) = if b.length ≤ a then (ds,0) else ([],2):=by
 unfold hgal
 split
 ·unfold hgalW;rw [if_pos rfl,List.append_nil]
 ·rfl
set_option maxRecDepth 100000 in
set_option maxHeartbeats 8000000 in
theorem hgall_any (A : Option Addr) (b : List UInt8) (c : Nat) (w : World) (hl : b.length ≤ 1000000000) (hc : b.length ≤ c) (hcm : c ≤ maxLen) (hr : Rd w A (b.map u8v)) :
  Calls Tryd.prog 74 #[.slice A b.length c] w fun e w' => ∃ v,e = .returned (.tuple #[v,iv (hgall b).2])∧w'.ownsRow w.heap.size 42 68 v (hgall b).1.length ((hgall b).1.flatMap Hd.cells)∧Keep w w':=by
 have G1 : Hid (Calls Tryd.prog 87 #[.slice A b.length c,u64v 2000] w fun e w' => e = .returned (.tuple #[iv (bndN b 2000).1,iv (bndN b 2000).2.1,iv (bndN b 2000).2.2])∧Keep w w'):=Lib.hid (bnd_any A b c 2000 w (by omega) hr)
 have HRG:=Lib.hid (bnd_rng b 2000)
 have HB : Hid (∀ R,hgall b = R → R = if (bndN b 2000).2.2 = 0 then hgalW [] (hgal b (bndN b 2000).1 (bndN b 2000).2.1) else ([],(bndN b 2000).2.2)):=Lib.hid fun R h => by
  subst h;unfold hgall
  rw [hgalW_nil _ (hgal_e _ _ _)]
 replace HB:=Lib.hid (HB.out _ rfl)
 have RB:=Lib.hid hr
 have HG : Hid (∀ y A' c' a,Keep w y → a + 80 ≤ b.length → 80 ≤ c' → c' ≤ maxLen → Rd y A' ((b.drop a).map u8v) → Calls Tryd.prog 73 #[.slice A' 80 c'] y fun e w' => ∃ cs,e = .returned (.tuple #[.agg cs,.int .i64 0])∧HdA (hgetL ((b.drop a).take 80)) cs∧Keep y w'):=Lib.hid fun y A' c' a hy h1 h2 h3 h4 => by
  have h5:=h4.take 80
  rw [← List.map_take] at h5
  exact hget_any A' ((b.drop a).take 80) c' y (by rw [List.length_take,List.length_drop];omega) h2 h3 h5
 have S1 : Hid (∀ ds n a,¬ b.length ≤ a + 80 → b.getD (a + 80) 0 = 0 → hgalW ds (hgal b (n + 1) a) = hgalW (ds ++ [hgetL ((b.drop a).take 80)]) (hgal b n (a + 81))):=Lib.hid fun ds n a => hgalW_step b ds n a
 have S2 : Hid (∀ ds n a,b.length ≤ a + 80 → hgalW ds (hgal b (n + 1) a) = ([],1)):=Lib.hid fun ds n a => hgalW_short b ds n a
 have S3 : Hid (∀ ds n a,¬ b.length ≤ a + 80 → b.getD (a + 80) 0 ≠ 0 → hgalW ds (hgal b (n + 1) a) = ([],2)):=Lib.hid fun ds n a => hgalW_form b ds n a
 have S4 : Hid (∀ ds a,hgalW ds (hgal b 0 a) = if b.length ≤ a then (ds,0) else ([],2)):=Lib.hid fun ds a => hgalW_end b ds a
 clear hr
 generalize hgall b = R at *
 generalize bndN b 2000 = G at *
 obtain ⟨n,k,e0⟩:=G
 obtain ⟨L,hL⟩ : ∃ L,b.length = L:=⟨_,rfl⟩
 have HLL:=Lib.hid hL
 rw [hL] at G1 HRG HG S1 S2 S3 S4 hl hc ⊢
 clear hL
 unfold maxLen at hcm
 simp only at G1 HB HRG
 obtain ⟨zs,hz1,hz2,hz3,hz4⟩:=zhead_letter
 clear hz4
 go_enter Tryd.func74,Tryd.ntmps74
 go_wp2_with fail
 refine G1.out.mono ?_
 clear G1
 rintro e w1 ⟨rfl,k1⟩
 have HK1:=Lib.hid k1
 clear k1
 have hv:=HB.out
 by_cases h0 : e0 = 0
 case neg =>
  rw [if_neg h0] at hv
  subst hv
  have d1 : (e0 != 0) = true:=by rw [bne_iff_ne];exact h0
  clear HB HRG HG S1 S2 S3 S4
  go_wp2
  exact bodyPost_ret (v:=.tuple #[.slice none 0 0,iv e0]) (by simp [results,Tryd.results74]) rfl ⟨_,rfl,World.ownsRow_nil _ _ _ _,HK1.out⟩
 subst h0
 rw [if_pos rfl] at hv
 obtain ⟨q1,q2,q3,q4⟩:=HRG.out rfl
 have HV:=Lib.hid hv
 clear hv HB HRG
 obtain ⟨g0,off0,rfl,-,-⟩:=RB.out.at (k:=0) (by rw [List.length_map,HLL.out];omega)
 have hsub : IntKind.i64.wrap ((L : Int) - k) = (L : Int) - k:=IntWalk.i64_in _ (by omega)
 go_upto_region 4 with fail
 go_cut [0] (fun s0 wx => ∃ A',s0 = .slice A' (L - k) (c - k)∧Hid (Rd w A' ((b.drop k).map u8v))∧wx = w1)
 case first =>
  go_wp2_with fail
  all_goals go_meet
  all_goals
   first
    | (refine ⟨some ⟨g0,off0 + k,none⟩,rfl,Lib.hid ?_,rfl⟩
       have:=RB.out.dropN (k:=k) (by rw [List.length_map,HLL.out];omega)
       rw [Option.map_some,add_lit0] at this
       rw [List.map_drop];exact this)
    | (refine ⟨some ⟨g0,off0,none⟩,by congr 1;omega,Lib.hid ?_,rfl⟩
       have : b.drop k = []:=List.drop_eq_nil_of_le (by rw [HLL.out];omega)
       rw [this];exact Rd.nil _ _)
 case rest =>
  obtain ⟨A1,rfl,RD1,rfl⟩:=hcut
  go_wp2_with fail
  clear hsub
  go_loopw [0,7,23] (fun s0 v x wr => ∃ (i a : Nat) (A' : Option Addr) (ds : List Hd),i ≤ n∧a ≤ L∧x = .int .i64 i∧s0 = .slice A' (L - a) (c - a)∧ds.length = i∧Hid (Rd w A' ((b.drop a).map u8v))∧Hid (wr.ownsRow w.heap.size 42 68 v i (ds.flatMap Hd.cells))∧Hid (R = hgalW ds (hgal b (n - i) a))∧Hid (Keep w wr)) (fun _ _ x _ => n - (intOf x).toNat)
  case atStart => exact ⟨0,k,A1,[],Nat.zero_le _,q3,rfl,rfl,rfl,RD1,Lib.hid (World.ownsRow_nil _ _ _ _),Lib.hid (by rw [Nat.sub_zero];exact HV.out),HK1⟩
  case round =>
   obtain ⟨i,a,A',ds,hi,ha,rfl,rfl,hdl,RDa,Own1,HRi,HKr⟩:=hrel
   have HDL:=Lib.hid hdl
   clear hdl
   by_cases hlt : i < n
   ·have d1 : (i : Int) < n:=by omega
    have hr:=HRi.out
    rw [show n - i = (n - (i + 1)) + 1 by omega] at hr
    by_cases h80 : L ≤ a + 80
    ·rw [S2.out _ _ _ h80] at hr
     subst hr
     have d2 : ((L - a : Nat) : Int) ≤ 80:=by omega
     have d3 : L - a ≤ 80:=by omega
     clear HRi S1 S2 S3 S4 HG
     go_wp2
     exact bodyPost_ret (v:=.tuple #[.slice none 0 0,iv 1]) (by simp [results,Tryd.results74]) rfl ⟨_,rfl,World.ownsRow_nil _ _ _ _,HKr.out⟩
    obtain ⟨g,off,rfl,hg,hcell⟩:=RDa.out.at (k:=80) (by rw [List.length_map,List.length_drop,HLL.out];omega)
    have c80:=hcell 80 (by rw [List.length_map,List.length_drop,HLL.out];omega)
    have h80v : (b.map u8v).drop a = (b.drop a).map u8v:=List.map_drop.symm
    obtain ⟨y,hy⟩ : ∃ y,b.getD (a + 80) 0 = y:=⟨_,rfl⟩
    have hcy : wr.cell? ⟨g,off + 80,none⟩ = some (u8v y):=by
     rw [keep_cell HKr.out c80,← hy]
     simp [List.getD_eq_getElem?_getD,List.getElem?_eq_getElem (show a + 80 < b.length by rw [HLL.out];omega)]
    have HCY:=Lib.hid hcy
    have HY:=Lib.hid hy
    have HG2 : Hid (∀ y m c',Keep w y → m = 80 → c' = c - a → Calls Tryd.prog 73 #[.slice (some ⟨g,off,none⟩) m c'] y fun e w' => ∃ cs,e = .returned (.tuple #[.agg cs,.int .i64 0])∧HdA (hgetL ((b.drop a).take 80)) cs∧Keep y w'):=Lib.hid fun y m c' h1 h3 h4 => by
     subst h3;subst h4
     exact HG.out y _ _ a h1 (by omega) (by omega) (by unfold maxLen;omega) (RDa.out.keep h1)
    have d2 : ¬ ((L - a : Nat) : Int) ≤ 80:=by omega
    have d3 : ¬ (L - a ≤ 80):=by omega
    have d4 : 80 ≤ c - a:=by omega
    have HR2:=Lib.hid hr
    clear hr HRi c80 h80v hy hcy hcell HG S2
    go_wp2_with fail
    (with_reducible refine (HG2.out _ _ _ HKr.out rfl rfl).mono ?_)
    clear HG2
    rintro e w2 ⟨cs,rfl,hcs,k2⟩
    have hcz:=hcs.z;have hcn:=hcs.n;have hci:=hcs.i
    have hst : (storeCells ⟨w2.heap.size,0,none⟩ cs.toList 0).run Tryd.prog (w2.alloc (.cells zs 42)) = .ok () (w2.alloc (.cells cs 42)):=run_storeCells_new (P:=Tryd.prog) w2 42 zs cs hci (hz1.trans hcz.symm) (by have:=all_oneCell_toArray hcs.o;rwa [Array.toArray_toList] at this)
    have Hcs:=Lib.hid hcs
    obtain ⟨Av,cv,rfl,-,-,-⟩:=own_form Own1.out
    have Own2:=Lib.hid (own_keep Own1.out k2)
    have HK2:=Lib.hid (keep_trans HKr.out k2)
    have HRW:=Lib.hid k2
    clear hcs k2 Own1 HKr
    go_upto_region 11 with fail
    obtain ⟨w3,hw3⟩ : ∃ w3,w3 = w2.alloc (.cells cs 42):=⟨_,rfl⟩
    have HB3 : Hid (Blk w3 w2.heap.size 42 cs.toList):=by rw [hw3];exact Lib.hid (Blk.new w2 42 cs.toList)
    have HK3 : Hid (Keep w w3):=by rw [hw3];exact Lib.hid (keep_trans HK2.out (keep_new _ _))
    have HR3 : Hid (Keep wr w3):=by rw [hw3];exact Lib.hid (keep_trans HRW.out (keep_new _ _))
    have Own3 : Hid (w3.ownsRow w.heap.size 42 68 (.slice Av i cv) i (ds.flatMap Hd.cells)):=by rw [hw3];exact Lib.hid (Own2.out.alloc _)
    rw [← hw3]
    clear hw3 hst HK2 HRW Own2
    generalize w2.heap.size = gb at *
    have c80:=keep_cell HR3.out HCY.out
    have RB : Hid (w3.rangeAt gb 0 cs.toList):=Lib.hid (range_of HB3.out 0 cs.toList (by simp [List.take_of_length_le]))
    clear HB3
    have d5 : ((80 : Nat) : Int) < ((L - a : Nat) : Int):=by omega
    by_cases hy0 : y = 0
    ·have d6 : ((y.toNat : Int) != 0) = false:=by rw [hy0];rfl
     have hr:=HR2.out
     rw [S1.out _ _ _ h80 (HY.out.trans hy0)] at hr
     have HR4:=Lib.hid hr
     clear hr HR2 S1 S3 hy0 HY
     have hs3:=HK3.out.size
     have RBK:=Lib.hid RB.out
     go_upto_region 16 with (first
      | ((with_reducible refine load_partg gb 0 cs (Eq.trans ?_ rfl) RB.out _ Tryd.underlying42 rfl hci rfl ?_);rfl)
      | ((with_reducible refine list_build1h headTb cs hcz (by omega) (Eq.trans ?_ rfl) ?_);rfl)
      | (at_builtin;refine wpList_app headTb (by rfl) _ _ (by rfl) w.heap.size _ i _ (by rfl) (Own3.out.alloc _) _ 1 1 cs.toList (by rfl) (by rw [Array.length_toList,hcz]) (by simpa using Rd.new w3 cs.toList 42) Hcs.out.o (by omega) (by unfold maxLen;omega) (by simp;omega) ?_;intro v4 w4 own4 hg4 hat4;have k4:=keep_grown (HK3.out.alloc HK3.out.size _) (by simp;omega) hg4 (Own3.out.alloc _)))
     have Own4:=Lib.hid own4;have HK4:=Lib.hid k4
     clear own4 k4 hg4 hat4 RB RBK c80 d5 d6 Own3
     have d7 : ((81 : Nat) : Int) ≤ ((L - a : Nat) : Int):=by omega
     have d8 : 81 ≤ L - a:=by omega
     have HRD : Hid (Rd w (if c - a = 81 then some ⟨g,off,none⟩ else some ⟨g,off + 81,none⟩) ((b.drop (a + 81)).map u8v)):=Lib.hid (by
      split
      ·have : b.drop (a + 81) = []:=List.drop_eq_nil_of_le (by rw [HLL.out];omega)
       rw [this];exact Rd.nil _ _
      ·have q:=RDa.out.dropN (k:=81) (by rw [List.length_map,List.length_drop,HLL.out];omega)
       rw [Option.map_some,add_lit0,← List.map_drop,List.drop_drop] at q
       exact q)
     go_wp2
     go_roundw
     case rel => exact ⟨i + 1,a + 81,(if c - a = 81 then some ⟨g,off,none⟩ else some ⟨g,off + 81,none⟩),ds ++ [hgetL ((b.drop a).take 80)],by omega,by omega,by go_num,by rw [Nat.sub_sub,Nat.sub_sub],by rw [List.length_append,HDL.out];rfl,HRD,Lib.hid (own_eq Own4.out rfl (by rw [List.flatMap_append,Hcs.out.l];simp)),HR4,HK4⟩
     case measure => simp [intOf];omega
    ·have hyn : y.toNat ≠ 0:=fun q => hy0 (UInt8.toNat_inj.1 (q.trans rfl))
     have d6 : ((y.toNat : Int) != 0) = true:=by rw [bne_iff_ne];omega
     have hr:=HR2.out
     rw [S3.out _ _ _ h80 (fun q => hy0 (HY.out.symm.trans q))] at hr
     subst hr
     clear HR2 S1 S3 HY RB
     go_wp2
     exact bodyPost_ret (v:=.tuple #[.slice none 0 0,iv 2]) (by simp [results,Tryd.results74]) rfl ⟨_,rfl,World.ownsRow_nil _ _ _ _,HK3.out⟩
   ·obtain rfl : i = n:=by omega
    have d1 : ¬ (i : Int) < i:=by omega
    have hr:=HRi.out
    rw [Nat.sub_self,S4.out] at hr
    clear HRi S1 S2 S3 S4 HG
    obtain ⟨Av,cv,rfl,-,-,-⟩:=own_form Own1.out
    by_cases hLa : L ≤ a
    ·rw [if_pos hLa] at hr
     subst hr
     have d2 : ¬ (0 : Int) < ((L - a : Nat) : Int):=by omega
     have d3 : ¬ 0 < L - a:=by omega
     go_wp2
     exact bodyPost_ret (v:=.tuple #[.slice Av i cv,iv 0]) (by simp [results,Tryd.results74]) rfl ⟨_,rfl,own_eq Own1.out HDL.out.symm rfl,HKr.out⟩
    ·rw [if_neg hLa] at hr
     subst hr
     have d2 : (0 : Int) < ((L - a : Nat) : Int):=by omega
     have d3 : 0 < L - a:=by omega
     go_wp2
     exact bodyPost_ret (v:=.tuple #[.slice none 0 0,iv 2]) (by simp [results,Tryd.results74]) rfl ⟨_,rfl,World.ownsRow_nil _ _ _ _,HKr.out⟩
end Go.Proofs.YtffpanlpbdnafaaDoor
/- Messages in memory. -/
set_option linter.unusedSimpArgs false
set_option linter.unusedVariables false
namespace Go.Proofs.YtffpanlpbdnafaaDoor
open Go.RowKit
attribute [local go_sem ↓] Go.wp_at_zero Go.wp_at_succ
theorem run_store_prt {P : Program} {w : World} {g : Nat} {t : TypeId} {all : List Value} (off : Nat) (cs : List Value) (hb : Blk w g t all) (hl : off + cs.length ≤ all.length) (h1 : ∀ v ∈ cs,v.oneCell' = true) :
  ∃ w',(storeCells ⟨g,off,none⟩ cs 0).run P w = .ok () w'∧Blk w' g t (splice all off cs)∧w.grownBy w' (some g):=by
 have hrun:=run_storeCells_at P g off t cs 0 all.toArray w hb (by simpa using hl) h1
 simp only [Nat.add_zero,List.toList_toArray] at hrun
 refine ⟨_,hrun,?_,rfl,rfl,rfl,by simp [World.setRow],fun k _ hne => setRow_other w g k _ (fun e => hne (by rw [e]))⟩
 have h:=setRow_heap w g all.toArray (all.take off ++ cs ++ all.drop (off + cs.length)).toArray t (0,0) hb
 unfold Blk splice
 rw [← List.append_assoc]
 exact h
structure MsgR where
 kind : Int
 proto : UInt32
 nonce : Nat
 height : UInt32
 hA : Option Addr
 hs : List Hd
 hc : Nat
 lA : Option Addr
 ls : List (List UInt8)
 lc : Nat
 stop : List UInt8
 iA : Option Addr
 is : List Itm
 ic : Nat
 bh : Hd
 total : UInt32
 sA : Option Addr
 shs : List (List UInt8)
 sc : Nat
 fA : Option Addr
 fs : List UInt8
 fc : Nat
 t : TxR
def zHdr : Hd:=⟨0,z32,z32,0,0,0⟩
def msgZ (k : Int) : MsgR:=⟨k,0,0,0,none,[],0,none,[],0,z32,none,[],0,zHdr,0,none,[],0,none,[],0,txZ⟩
namespace MsgR
def blk (m : MsgR) : List Value:=m.bh.cells ++ [u32v m.total,.slice m.sA m.shs.length m.sc,.slice m.fA m.fs.length m.fc]
def cells (m : MsgR) : List Value :=
 [.int .i64 m.kind,u32v m.proto,u64v m.nonce,u32v m.height,.slice m.hA m.hs.length m.hc,.slice m.lA m.ls.length m.lc] ++ (m.stop.map u8v ++ (.slice m.iA m.is.length m.ic :: (m.blk ++ m.t.cells)))
structure ok (m : MsgR) : Prop where
 k : -9223372036854775808 ≤ m.kind∧m.kind ≤ 9223372036854775807
 n : m.nonce < 2 ^ 64
 s : m.stop.length = 32
 b : m.bh.ok
 h : ∀ x ∈ m.hs,x.ok
 l : ∀ x ∈ m.ls,x.length = 32
 i : ∀ x ∈ m.is,x.ok
 z : ∀ x ∈ m.shs,x.length = 32
structure at_ (m : MsgR) (w : World) : Prop where
 o : m.ok
 h : Rd w m.hA (m.hs.flatMap Hd.cells)
 hc : m.hs.length ≤ m.hc∧m.hc ≤ maxLen
 l : Rd w m.lA (hsL m.ls)
 lc : m.ls.length ≤ m.lc∧m.lc ≤ maxLen
 i : Rd w m.iA (m.is.flatMap Itm.cells)
 ic : m.is.length ≤ m.ic∧m.ic ≤ maxLen
 s : Rd w m.sA (hsL m.shs)
 sc : m.shs.length ≤ m.sc∧m.sc ≤ maxLen
 f : Rd w m.fA (m.fs.map u8v)
 fc : m.fs.length ≤ m.fc∧m.fc ≤ maxLen
 t : m.t.at w
theorem at_.keep {m : MsgR} {w w' : World} (h : m.at_ w) (k : Keep w w') : m.at_ w':=⟨h.o,h.h.keep k,h.hc,h.l.keep k,h.lc,h.i.keep k,h.ic,h.s.keep k,h.sc,h.f.keep k,h.fc,h.t.keep k⟩
theorem blk_len {m : MsgR} (h : m.bh.ok) : m.blk.length = 71:=by
 unfold blk;rw [List.length_append,Hd.len h];rfl
theorem len {m : MsgR} (h : m.ok) : m.cells.length = 114:=by
 unfold cells;simp [h.s,blk_len h.b,TxR.cells]
theorem one (m : MsgR) : ∀ u ∈ m.cells,u.oneCell' = true:=by
 intro u hu
 unfold cells blk TxR.cells at hu
 simp only [List.mem_append,List.mem_cons,List.not_mem_nil,or_false,List.mem_map] at hu
 rcases hu with (rfl | rfl | rfl | rfl | rfl | rfl) | ⟨y,_,rfl⟩ | rfl | (hu | rfl | rfl | rfl) | rfl | rfl | rfl | rfl
 all_goals first | rfl | exact Hd.one _ _ hu
end MsgR
theorem msg_info : (Tryd.prog.info? 50).map (·.size) = some 114:=by kernel_rfl
structure MsA (m : MsgR) (cs : Array Value) : Prop where
 l : cs.toList = m.cells
 z : cs.size = 114
 i : (Tryd.prog.info? 50).map (·.size) = some cs.size
 n : ¬ cs = #[]
 o : ∀ v ∈ cs.toList,v.oneCell' = true
theorem MsA.of {m : MsgR} (h : m.ok) : MsA m m.cells.toArray:=by
 have hz : m.cells.toArray.size = 114:=by simpa using MsgR.len h
 exact ⟨rfl,hz,by rw [hz];exact msg_info,fun e => by rw [e] at hz;simp at hz,by simpa using m.one⟩
noncomputable def zmsg : Array Value:=match (Tryd.prog.info? 50).bind (·.zero) with | some (.agg c) => c | _ => #[]
theorem zmsg_size : zmsg.size = 114:=by kernel_rfl
theorem zmsg_zero (w : World) : (zeroValue 50).run Tryd.prog w = .ok (.agg zmsg) w:=by kernel_rfl
theorem zmsg_list : zmsg.toList = (msgZ 0).cells:=by kernel_rfl
theorem msgZ_ok (k : Int) (h : -9223372036854775808 ≤ k∧k ≤ 9223372036854775807) : (msgZ k).ok :=
 ⟨h,(by show 0 < 2 ^ 64;omega),rfl,⟨rfl,rfl⟩,(fun x q => by cases q),(fun x q => by cases q),(fun x q => by cases q),(fun x q => by cases q)⟩
theorem zmsg_letter : ∃ zs : Array Value,(∀ w,(zeroValue 50).run Tryd.prog w = .ok (.agg zs) w)∧MsA (msgZ 0) zs :=
 ⟨zmsg,zmsg_zero,by
  have h:=MsA.of (msgZ_ok 0 (by omega))
  rwa [← zmsg_list,Array.toArray_toList] at h⟩
noncomputable def zblk : Array Value:=match (Tryd.prog.info? 44).bind (·.zero) with | some (.agg c) => c | _ => #[]
theorem zblk_size : zblk.size = 71:=by kernel_rfl
theorem zblk_zero (w : World) : (zeroValue 44).run Tryd.prog w = .ok (.agg zblk) w:=by kernel_rfl
theorem zblk_list : zblk.toList = (msgZ 0).blk:=by kernel_rfl
theorem zblk_letter : ∃ zs : Array Value,zs.size = 71∧(∀ w,(zeroValue 44).run Tryd.prog w = .ok (.agg zs) w)∧¬ zs = #[]∧zs.toList = (msgZ 0).blk∧(Tryd.prog.info? 44).map (·.size) = some zs.size :=
 ⟨zblk,zblk_size,zblk_zero,(fun h => by have:=zblk_size;rw [h] at this;cases this),zblk_list,by rw [zblk_size];kernel_rfl⟩
def othersM (m : MsgR) : MsgR :=
 if m.kind = 0 then { m with proto:=0,nonce:=0,height:=0 }
 else if m.kind = 2 ∨ m.kind = 3 then { m with nonce:=0 }
 else if m.kind = 4 then { m with proto:=0,lA:=none,ls:=[],lc:=0,stop:=z32 }
 else if m.kind = 5 then { m with hA:=none,hs:=[],hc:=0 }
 else if m.kind = 6 ∨ m.kind = 7 ∨ m.kind = 8 then { m with iA:=none,is:=[],ic:=0 }
 else if m.kind = 9 then { m with bh:=zHdr,total:=0,sA:=none,shs:=[],sc:=0,fA:=none,fs:=[],fc:=0 }
 else if m.kind = 10 then { m with t:=txZ }
 else m
theorem othersM_ok {m : MsgR} (h : m.ok) : (othersM m).ok:=by
 obtain ⟨k,n,s,b,hh,l,i,z⟩:=h
 have n0 : 0 < 2 ^ 64:=by omega
 unfold othersM
 repeat' split
 all_goals constructor <;> first | assumption | exact n0 | rfl | exact ⟨rfl,rfl⟩ | (intro x q;cases q)
namespace MsgR
theorem tail_get {m : MsgR} (h : m.ok) (k : Nat) : m.cells[k + 38]? = (.slice m.iA m.is.length m.ic :: (m.blk ++ m.t.cells))[k]?:=by
 unfold cells
 rw [List.getElem?_append_right (by simp),List.getElem?_append_right (by simp [h.s] <;> omega)]
 simp [h.s]
theorem tx_get {m : MsgR} (h : m.ok) (k : Nat) : m.cells[k + 110]? = m.t.cells[k]?:=by
 rw [show k + 110 = (k + 72) + 38 by omega,tail_get h,List.getElem?_cons_succ,List.getElem?_append_right (by rw [blk_len h.b];omega),blk_len h.b,show k + 71 - 71 = k by omega]
theorem blk_get {m : MsgR} (h : m.ok) (k : Nat) (hk : k < 71) : m.cells[k + 39]? = m.blk[k]?:=by
 rw [show k + 39 = (k + 1) + 38 by omega,tail_get h,List.getElem?_cons_succ,List.getElem?_append_left (by rw [blk_len h.b];omega)]
theorem set38 {m : MsgR} (h : m.ok) : m.cells.set 38 (.slice none 0 0) = cells { m with iA:=none,is:=[],ic:=0 }:=by
 unfold cells
 rw [List.set_append_right _ _ (by simp),List.set_append_right _ _ (by simp [h.s])]
 simp [h.s,blk]
end MsgR
theorem splice3 {a b c b' : List Value} {n : Nat} (ha : a.length = n) (hb : b'.length = b.length) : splice (a ++ (b ++ c)) n b' = a ++ (b' ++ c):=by
 subst ha
 unfold splice
 rw [List.take_left' rfl,← List.append_assoc a b c,List.drop_left' (by rw [List.length_append,hb])]
namespace MsgR
def hd6 (m : MsgR) : List Value:=[.int .i64 m.kind,u32v m.proto,u64v m.nonce,u32v m.height,.slice m.hA m.hs.length m.hc,.slice m.lA m.ls.length m.lc]
def hd39 (m : MsgR) : List Value:=m.hd6 ++ (m.stop.map u8v ++ [.slice m.iA m.is.length m.ic])
theorem hd39_len {m : MsgR} (h : m.stop.length = 32) : m.hd39.length = 39:=by unfold hd39 hd6;simp [h]
theorem cells6 (m : MsgR) : m.cells = m.hd6 ++ (m.stop.map u8v ++ (.slice m.iA m.is.length m.ic :: (m.blk ++ m.t.cells))):=rfl
theorem cells39 (m : MsgR) : m.cells = m.hd39 ++ (m.blk ++ m.t.cells):=by unfold cells hd39 hd6;simp
theorem cells110 (m : MsgR) : m.cells = (m.hd39 ++ m.blk) ++ m.t.cells:=by rw [cells39,List.append_assoc]
theorem splice_stop {m : MsgR} (h : m.ok) {l : List UInt8} (hl : l.length = 32) : splice m.cells 6 (l.map u8v) = cells { m with stop:=l }:=by
 rw [cells6,splice3 (show m.hd6.length = 6 from rfl) (by rw [List.length_map,List.length_map,h.s,hl])];rfl
theorem splice_blk {m m' : MsgR} (h : m.ok) (h' : m'.bh.ok) : splice m.cells 39 m'.blk = cells { m with bh:=m'.bh,total:=m'.total,sA:=m'.sA,shs:=m'.shs,sc:=m'.sc,fA:=m'.fA,fs:=m'.fs,fc:=m'.fc }:=by
 rw [cells39,splice3 (hd39_len h.s) (by rw [blk_len h.b,blk_len h'])]
 rw [cells39];rfl
theorem setp (m : MsgR) (h : m.ok) (t : List Value) (k : Nat) (v : Value) : ((m.hd39 ++ m.blk) ++ t).set (k + 110) v = (m.hd39 ++ m.blk) ++ t.set k v:=by
 have q : (m.hd39 ++ m.blk).length = 110:=by rw [List.length_append,hd39_len h.s,blk_len h.b]
 rw [List.set_append_right _ _ (by omega),q,show k + 110 - 110 = k by omega]
theorem set_tx {m : MsgR} (h : m.ok) : (((m.cells.set 110 (.int .u32 0)).set 111 (.slice none 0 0)).set 112 (.slice none 0 0)).set 113 (.int .u32 0) = cells { m with t:=txZ }:=by
 rw [cells110,setp m h _ 0,setp m h _ 1,setp m h _ 2,setp m h _ 3,cells110];rfl
end MsgR
end Go.Proofs.YtffpanlpbdnafaaDoor
/- wire.others. (printed by gen_vt.py) -/
set_option linter.unusedSimpArgs false
set_option linter.unusedVariables false
namespace Go.Proofs.YtffpanlpbdnafaaDoor
open Go.RowKit
attribute [local go_sem ↓] Go.wp_at_zero Go.wp_at_succ
theorem zhash_letter32 : ∃ zs : Array Value,HashA z32 zs∧(∀ w,(zeroValue 39).run Tryd.prog w = .ok (.agg zs) w) :=
 ⟨zhash,⟨zhash_list,zhash_size,by rw [zhash_size];kernel_rfl,(fun h => by have:=zhash_size;rw [h] at this;cases this),by rw [zhash_list];exact one_w8 _,by rw [show z32.map u8v = zhash.toList from zhash_list.symm,Array.toArray_toList]⟩,zhash_zero⟩
set_option maxRecDepth 100000 in
set_option maxHeartbeats 8000000 in
theorem others_any (m : MsgR) (cs : Array Value) (hA : MsA m cs) (hk : m.ok) (w : World) :
  Calls Tryd.prog 36 #[.agg cs] w fun e w' => ∃ ds,e = .returned (.agg ds)∧MsA (othersM m) ds∧Keep w w':=by
 obtain ⟨ys,hyz,hyA⟩:=zmsg_letter
 obtain ⟨zb,hbz,hb0,hbn,hbl,hbi⟩:=zblk_letter
 obtain ⟨zh,hzA,hz0⟩:=zhash_letter32
 have hzn:=hzA.n;have hzz:=hzA.z
 have hyn:=hyA.n
 have hcn:=hA.n;have hcz:=hA.z;have hci:=hA.i
 have HA:=Lib.hid hA;have HK:=Lib.hid hk;have HY:=Lib.hid hyA;have HZ:=Lib.hid hzA;have HBL:=Lib.hid hbl
 have HOK:=Lib.hid (othersM_ok hk)
 have HOM : Hid (∀ X,othersM m = X → X.ok → ∃ ds,MsA X ds∧X.ok):=Lib.hid fun X h1 h2 => ⟨_,MsA.of h2,h2⟩
 have HSC : Hid (∀ X,othersM m = X → othersM m = X):=Lib.hid fun X h => h
 clear hA hk hyA hzA hbl
 have e0 : othersM m = othersM m:=rfl
 have HD : Hid (othersM m = if m.kind = 0 then { m with proto:=0,nonce:=0,height:=0 }
  else if m.kind = 2 ∨ m.kind = 3 then { m with nonce:=0 }
  else if m.kind = 4 then { m with proto:=0,lA:=none,ls:=[],lc:=0,stop:=z32 }
  else if m.kind = 5 then { m with hA:=none,hs:=[],hc:=0 }
  else if m.kind = 6 ∨ m.kind = 7 ∨ m.kind = 8 then { m with iA:=none,is:=[],ic:=0 }
  else if m.kind = 9 then { m with bh:=zHdr,total:=0,sA:=none,shs:=[],sc:=0,fA:=none,fs:=[],fc:=0 }
  else if m.kind = 10 then { m with t:=txZ }
  else m):=Lib.hid rfl
 clear e0 HOM HSC
 generalize othersM m = M at *
 go_enter Tryd.func36,Tryd.ntmps36
 go_upto_region 1 with fail
 obtain ⟨w1,hw1⟩ : ∃ w1,w1 = (w.alloc (.cells cs 50)).alloc (.cells ys 50):=⟨_,rfl⟩
 have HB1 : Hid (Blk w1 w.heap.size 50 m.cells):=by rw [hw1,← HA.out.l];exact (Blk.new w _ cs.toList).alloc _
 have HR1 : Hid (Blk w1 (w.heap.size + 1) 50 ys.toList):=by
  rw [hw1]
  have h2:=Blk.new (w.alloc (.cells cs 50)) 50 ys.toList
  rw [World.size_alloc] at h2
  exact h2
 have HK1 : Hid (Keep w w1):=by rw [hw1];exact keep_trans (keep_new _ _) (keep_new _ _)
 rw [← hw1]
 clear hw1
 have r0 : w1.cell? ⟨w.heap.size,0,none⟩ = some (.int .i64 m.kind):=(HB1.out.cell 0).trans rfl
 by_cases h0 : m.kind = 0
 ·have HM : Hid (M = { m with proto:=0,nonce:=0,height:=0 }):=Lib.hid (HD.out.trans (by repeat (first | rw [if_pos (by omega)] | rw [if_neg (by omega)])))
  have d0 : (m.kind == 0) = true:=by rw [beq_iff_eq];omega
  clear HD h0
  have r1 : w1.cell? ⟨w.heap.size,1,none⟩ = some (u32v m.proto):=(HB1.out.cell 1).trans rfl
  have f1:=HB1.out.frozen 1
  have r2 : w1.cell? ⟨w.heap.size,2,none⟩ = some (u64v m.nonce):=(HB1.out.cell 2).trans rfl
  have f2:=HB1.out.frozen 2
  have r3 : w1.cell? ⟨w.heap.size,3,none⟩ = some (u32v m.height):=(HB1.out.cell 3).trans rfl
  have f3:=HB1.out.frozen 3
  go_upto_region 19 with fail
  obtain ⟨wx,hwx⟩ : ∃ wx,wx = (((w1.setCell ⟨w.heap.size,1,none⟩ (.int .u32 0)).setCell ⟨w.heap.size,2,none⟩ (.int .u64 0)).setCell ⟨w.heap.size,3,none⟩ (.int .u32 0)):=⟨_,rfl⟩
  have HX : Blk wx w.heap.size 50 M.cells:=by
   rw [hwx,HM.out]
   have q:=(((HB1.out.set_ 1 (.int .u32 0)).set_ 2 (.int .u64 0)).set_ 3 (.int .u32 0))
   exact q
  have HRX : Hid (Blk wx (w.heap.size + 1) 50 ys.toList):=by rw [hwx];exact Lib.hid (((HR1.out.far (by simp <;> omega) _).far (by simp <;> omega) _).far (by simp <;> omega) _)
  have HKX : Hid (Keep w wx):=by rw [hwx];exact Lib.hid (Below.setCell (Below.setCell (Below.setCell HK1.out (by simp <;> omega) _) (by simp <;> omega) _) (by simp <;> omega) _)
  rw [← hwx]
  clear hwx r1 f1 r2 f2 r3 f3 r0
  obtain ⟨ds,hds⟩ : ∃ ds,MsA M ds:=⟨_,MsA.of HOK.out⟩
  have hdz:=hds.z;have hdn:=hds.n;have hdi:=hds.i
  have HDS:=Lib.hid hds
  have HBx : Hid (Blk wx w.heap.size 50 ds.toList):=by rw [HDS.out.l];exact HX
  obtain ⟨w8,hst8,hb8,hg8⟩:=run_store_blk (P:=Tryd.prog) ds.toList HRX.out (by rw [Array.length_toList,Array.length_toList,hdz,HY.out.z]) HDS.out.o
  have Hb8:=Lib.hid hb8;have Hg8:=Lib.hid hg8
  clear hds hb8 hg8 HX HRX HB1 HR1
  go_wp2_with ((with_reducible refine load_arr w.heap.size ds (Eq.trans ?_ rfl) HBx.out _ Tryd.underlying50 rfl hdi ?_);rfl)
  have hb8:=Hb8.out
  exact bodyPost_ret (v:=.agg ds) (results_cell_row Tryd.results36 _ _ (w.heap.size + 1) _ _ _ _ rfl hb8 Tryd.underlying50 rfl (by rw [List.size_toArray,Array.length_toList];exact hdi)) rfl ⟨ds,rfl,HDS.out,HKX.out.grown Hg8.out HKX.out.size (fun q hq => by injection hq with hq;omega)⟩
 by_cases h2 : m.kind = 2
 ·have HM : Hid (M = { m with nonce:=0 }):=Lib.hid (HD.out.trans (by repeat (first | rw [if_pos (by omega)] | rw [if_neg (by omega)])))
  have d0 : (m.kind == 0) = false:=by rw [beq_eq_false_iff_ne];omega
  have d2 : (m.kind == 2) = true:=by rw [beq_iff_eq];omega
  clear HD h2 h0
  have r2 : w1.cell? ⟨w.heap.size,2,none⟩ = some (u64v m.nonce):=(HB1.out.cell 2).trans rfl
  have f2:=HB1.out.frozen 2
  go_upto_region 19 with fail
  obtain ⟨wx,hwx⟩ : ∃ wx,wx = (w1.setCell ⟨w.heap.size,2,none⟩ (.int .u64 0)):=⟨_,rfl⟩
  have HX : Blk wx w.heap.size 50 M.cells:=by
   rw [hwx,HM.out]
   have q:=(HB1.out.set_ 2 (.int .u64 0))
   exact q
  have HRX : Hid (Blk wx (w.heap.size + 1) 50 ys.toList):=by rw [hwx];exact Lib.hid (HR1.out.far (by simp <;> omega) _)
  have HKX : Hid (Keep w wx):=by rw [hwx];exact Lib.hid (Below.setCell HK1.out (by simp <;> omega) _)
  rw [← hwx]
  clear hwx r2 f2 r0
  obtain ⟨ds,hds⟩ : ∃ ds,MsA M ds:=⟨_,MsA.of HOK.out⟩
  have hdz:=hds.z;have hdn:=hds.n;have hdi:=hds.i
  have HDS:=Lib.hid hds
  have HBx : Hid (Blk wx w.heap.size 50 ds.toList):=by rw [HDS.out.l];exact HX
  obtain ⟨w8,hst8,hb8,hg8⟩:=run_store_blk (P:=Tryd.prog) ds.toList HRX.out (by rw [Array.length_toList,Array.length_toList,hdz,HY.out.z]) HDS.out.o
  have Hb8:=Lib.hid hb8;have Hg8:=Lib.hid hg8
  clear hds hb8 hg8 HX HRX HB1 HR1
  go_wp2_with ((with_reducible refine load_arr w.heap.size ds (Eq.trans ?_ rfl) HBx.out _ Tryd.underlying50 rfl hdi ?_);rfl)
  have hb8:=Hb8.out
  exact bodyPost_ret (v:=.agg ds) (results_cell_row Tryd.results36 _ _ (w.heap.size + 1) _ _ _ _ rfl hb8 Tryd.underlying50 rfl (by rw [List.size_toArray,Array.length_toList];exact hdi)) rfl ⟨ds,rfl,HDS.out,HKX.out.grown Hg8.out HKX.out.size (fun q hq => by injection hq with hq;omega)⟩
 by_cases h3 : m.kind = 3
 ·have HM : Hid (M = { m with nonce:=0 }):=Lib.hid (HD.out.trans (by repeat (first | rw [if_pos (by omega)] | rw [if_neg (by omega)])))
  have d0 : (m.kind == 0) = false:=by rw [beq_eq_false_iff_ne];omega
  have d2 : (m.kind == 2) = false:=by rw [beq_eq_false_iff_ne];omega
  have d3 : (m.kind == 3) = true:=by rw [beq_iff_eq];omega
  clear HD h3 h0 h2
  have r2 : w1.cell? ⟨w.heap.size,2,none⟩ = some (u64v m.nonce):=(HB1.out.cell 2).trans rfl
  have f2:=HB1.out.frozen 2
  go_upto_region 19 with fail
  obtain ⟨wx,hwx⟩ : ∃ wx,wx = (w1.setCell ⟨w.heap.size,2,none⟩ (.int .u64 0)):=⟨_,rfl⟩
  have HX : Blk wx w.heap.size 50 M.cells:=by
   rw [hwx,HM.out]
   have q:=(HB1.out.set_ 2 (.int .u64 0))
   exact q
  have HRX : Hid (Blk wx (w.heap.size + 1) 50 ys.toList):=by rw [hwx];exact Lib.hid (HR1.out.far (by simp <;> omega) _)
  have HKX : Hid (Keep w wx):=by rw [hwx];exact Lib.hid (Below.setCell HK1.out (by simp <;> omega) _)
  rw [← hwx]
  clear hwx r2 f2 r0
  obtain ⟨ds,hds⟩ : ∃ ds,MsA M ds:=⟨_,MsA.of HOK.out⟩
  have hdz:=hds.z;have hdn:=hds.n;have hdi:=hds.i
  have HDS:=Lib.hid hds
  have HBx : Hid (Blk wx w.heap.size 50 ds.toList):=by rw [HDS.out.l];exact HX
  obtain ⟨w8,hst8,hb8,hg8⟩:=run_store_blk (P:=Tryd.prog) ds.toList HRX.out (by rw [Array.length_toList,Array.length_toList,hdz,HY.out.z]) HDS.out.o
  have Hb8:=Lib.hid hb8;have Hg8:=Lib.hid hg8
  clear hds hb8 hg8 HX HRX HB1 HR1
  go_wp2_with ((with_reducible refine load_arr w.heap.size ds (Eq.trans ?_ rfl) HBx.out _ Tryd.underlying50 rfl hdi ?_);rfl)
  have hb8:=Hb8.out
  exact bodyPost_ret (v:=.agg ds) (results_cell_row Tryd.results36 _ _ (w.heap.size + 1) _ _ _ _ rfl hb8 Tryd.underlying50 rfl (by rw [List.size_toArray,Array.length_toList];exact hdi)) rfl ⟨ds,rfl,HDS.out,HKX.out.grown Hg8.out HKX.out.size (fun q hq => by injection hq with hq;omega)⟩
 by_cases h4 : m.kind = 4
 ·have HM : Hid (M = { m with proto:=0,lA:=none,ls:=[],lc:=0,stop:=z32 }):=Lib.hid (HD.out.trans (by repeat (first | rw [if_pos (by omega)] | rw [if_neg (by omega)])))
  have d0 : (m.kind == 0) = false:=by rw [beq_eq_false_iff_ne];omega
  have d2 : (m.kind == 2) = false:=by rw [beq_eq_false_iff_ne];omega
  have d3 : (m.kind == 3) = false:=by rw [beq_eq_false_iff_ne];omega
  have d4 : (m.kind == 4) = true:=by rw [beq_iff_eq];omega
  clear HD h4 h0 h2 h3
  have r1 : w1.cell? ⟨w.heap.size,1,none⟩ = some (u32v m.proto):=(HB1.out.cell 1).trans rfl
  have f1:=HB1.out.frozen 1
  have r5 : w1.cell? ⟨w.heap.size,5,none⟩ = some (.slice m.lA m.ls.length m.lc):=(HB1.out.cell 5).trans rfl
  have f5:=HB1.out.frozen 5
  obtain ⟨wy,hwy⟩ : ∃ wy,wy = ((w1.setCell ⟨w.heap.size,1,none⟩ (.int .u32 0)).setCell ⟨w.heap.size,5,none⟩ (.slice none 0 0)):=⟨_,rfl⟩
  have HBy : Hid (Blk wy w.heap.size 50 (MsgR.cells { m with proto:=0,lA:=none,ls:=[],lc:=0 })):=by
   rw [hwy];exact Lib.hid ((HB1.out.set_ 1 (.int .u32 0)).set_ 5 (.slice none 0 0))
  have HRy : Hid (Blk wy (w.heap.size + 1) 50 ys.toList):=by rw [hwy];exact Lib.hid ((HR1.out.far (by simp <;> omega) _).far (by simp <;> omega) _)
  have HKy : Hid (Keep w wy):=by rw [hwy];exact Lib.hid (Below.setCell (Below.setCell HK1.out (by simp <;> omega) _) (by simp <;> omega) _)
  have HKo : Hid (MsgR.ok { m with proto:=0,lA:=none,ls:=[],lc:=0 }):=Lib.hid ⟨HK.out.k,HK.out.n,HK.out.s,HK.out.b,HK.out.h,(fun x q => by cases q),HK.out.i,HK.out.z⟩
  obtain ⟨wx,hst,hbx,hgx⟩:=run_store_prt (P:=Tryd.prog) 6 zh.toList HBy.out (by rw [MsgR.len HKo.out,Array.length_toList,HZ.out.z];omega) HZ.out.o
  have HBX:=Lib.hid hbx;have HGX:=Lib.hid hgx
  rw [hwy] at hst
  clear hbx hgx
  go_upto_region 19 with fail
  have HX : Blk wx w.heap.size 50 M.cells:=by
   rw [HM.out]
   have q:=HBX.out
   rw [HZ.out.l,MsgR.splice_stop HKo.out rfl] at q
   exact q
  have HRX : Hid (Blk wx (w.heap.size + 1) 50 ys.toList):=Lib.hid (HRy.out.grown HGX.out (fun q => by injection q with q;omega))
  have HKX : Hid (Keep w wx):=Lib.hid (HKy.out.grown HGX.out HKy.out.size (fun q hq => by injection hq with hq;omega))
  clear hst hwy HBX r1 r5 f1 f5 r0
  obtain ⟨ds,hds⟩ : ∃ ds,MsA M ds:=⟨_,MsA.of HOK.out⟩
  have hdz:=hds.z;have hdn:=hds.n;have hdi:=hds.i
  have HDS:=Lib.hid hds
  have HBx : Hid (Blk wx w.heap.size 50 ds.toList):=by rw [HDS.out.l];exact HX
  obtain ⟨w8,hst8,hb8,hg8⟩:=run_store_blk (P:=Tryd.prog) ds.toList HRX.out (by rw [Array.length_toList,Array.length_toList,hdz,HY.out.z]) HDS.out.o
  have Hb8:=Lib.hid hb8;have Hg8:=Lib.hid hg8
  clear hds hb8 hg8 HX HRX HB1 HR1
  go_wp2_with ((with_reducible refine load_arr w.heap.size ds (Eq.trans ?_ rfl) HBx.out _ Tryd.underlying50 rfl hdi ?_);rfl)
  have hb8:=Hb8.out
  exact bodyPost_ret (v:=.agg ds) (results_cell_row Tryd.results36 _ _ (w.heap.size + 1) _ _ _ _ rfl hb8 Tryd.underlying50 rfl (by rw [List.size_toArray,Array.length_toList];exact hdi)) rfl ⟨ds,rfl,HDS.out,HKX.out.grown Hg8.out HKX.out.size (fun q hq => by injection hq with hq;omega)⟩
 by_cases h5 : m.kind = 5
 ·have HM : Hid (M = { m with hA:=none,hs:=[],hc:=0 }):=Lib.hid (HD.out.trans (by repeat (first | rw [if_pos (by omega)] | rw [if_neg (by omega)])))
  have d0 : (m.kind == 0) = false:=by rw [beq_eq_false_iff_ne];omega
  have d2 : (m.kind == 2) = false:=by rw [beq_eq_false_iff_ne];omega
  have d3 : (m.kind == 3) = false:=by rw [beq_eq_false_iff_ne];omega
  have d4 : (m.kind == 4) = false:=by rw [beq_eq_false_iff_ne];omega
  have d5 : (m.kind == 5) = true:=by rw [beq_iff_eq];omega
  clear HD h5 h0 h2 h3 h4
  have r4 : w1.cell? ⟨w.heap.size,4,none⟩ = some (.slice m.hA m.hs.length m.hc):=(HB1.out.cell 4).trans rfl
  have f4:=HB1.out.frozen 4
  go_upto_region 19 with fail
  obtain ⟨wx,hwx⟩ : ∃ wx,wx = (w1.setCell ⟨w.heap.size,4,none⟩ (.slice none 0 0)):=⟨_,rfl⟩
  have HX : Blk wx w.heap.size 50 M.cells:=by
   rw [hwx,HM.out]
   have q:=(HB1.out.set_ 4 (.slice none 0 0))
   exact q
  have HRX : Hid (Blk wx (w.heap.size + 1) 50 ys.toList):=by rw [hwx];exact Lib.hid (HR1.out.far (by simp <;> omega) _)
  have HKX : Hid (Keep w wx):=by rw [hwx];exact Lib.hid (Below.setCell HK1.out (by simp <;> omega) _)
  rw [← hwx]
  clear hwx r4 f4 r0
  obtain ⟨ds,hds⟩ : ∃ ds,MsA M ds:=⟨_,MsA.of HOK.out⟩
  have hdz:=hds.z;have hdn:=hds.n;have hdi:=hds.i
  have HDS:=Lib.hid hds
  have HBx : Hid (Blk wx w.heap.size 50 ds.toList):=by rw [HDS.out.l];exact HX
  obtain ⟨w8,hst8,hb8,hg8⟩:=run_store_blk (P:=Tryd.prog) ds.toList HRX.out (by rw [Array.length_toList,Array.length_toList,hdz,HY.out.z]) HDS.out.o
  have Hb8:=Lib.hid hb8;have Hg8:=Lib.hid hg8
  clear hds hb8 hg8 HX HRX HB1 HR1
  go_wp2_with ((with_reducible refine load_arr w.heap.size ds (Eq.trans ?_ rfl) HBx.out _ Tryd.underlying50 rfl hdi ?_);rfl)
  have hb8:=Hb8.out
  exact bodyPost_ret (v:=.agg ds) (results_cell_row Tryd.results36 _ _ (w.heap.size + 1) _ _ _ _ rfl hb8 Tryd.underlying50 rfl (by rw [List.size_toArray,Array.length_toList];exact hdi)) rfl ⟨ds,rfl,HDS.out,HKX.out.grown Hg8.out HKX.out.size (fun q hq => by injection hq with hq;omega)⟩
 by_cases h6 : m.kind = 6
 ·have HM : Hid (M = { m with iA:=none,is:=[],ic:=0 }):=Lib.hid (HD.out.trans (by repeat (first | rw [if_pos (by omega)] | rw [if_neg (by omega)])))
  have d0 : (m.kind == 0) = false:=by rw [beq_eq_false_iff_ne];omega
  have d2 : (m.kind == 2) = false:=by rw [beq_eq_false_iff_ne];omega
  have d3 : (m.kind == 3) = false:=by rw [beq_eq_false_iff_ne];omega
  have d4 : (m.kind == 4) = false:=by rw [beq_eq_false_iff_ne];omega
  have d5 : (m.kind == 5) = false:=by rw [beq_eq_false_iff_ne];omega
  have d6 : (m.kind == 6) = true:=by rw [beq_iff_eq];omega
  clear HD h6 h0 h2 h3 h4 h5
  have r38 : w1.cell? ⟨w.heap.size,38,none⟩ = some (.slice m.iA m.is.length m.ic):=(HB1.out.cell 38).trans ((MsgR.tail_get HK.out 0).trans rfl)
  have f38:=HB1.out.frozen 38
  go_upto_region 19 with fail
  obtain ⟨wx,hwx⟩ : ∃ wx,wx = (w1.setCell ⟨w.heap.size,38,none⟩ (.slice none 0 0)):=⟨_,rfl⟩
  have HX : Blk wx w.heap.size 50 M.cells:=by
   rw [hwx,HM.out]
   have q:=(HB1.out.set_ 38 (.slice none 0 0))
   rw [MsgR.set38 HK.out] at q;exact q
  have HRX : Hid (Blk wx (w.heap.size + 1) 50 ys.toList):=by rw [hwx];exact Lib.hid (HR1.out.far (by simp <;> omega) _)
  have HKX : Hid (Keep w wx):=by rw [hwx];exact Lib.hid (Below.setCell HK1.out (by simp <;> omega) _)
  rw [← hwx]
  clear hwx r38 f38 r0
  obtain ⟨ds,hds⟩ : ∃ ds,MsA M ds:=⟨_,MsA.of HOK.out⟩
  have hdz:=hds.z;have hdn:=hds.n;have hdi:=hds.i
  have HDS:=Lib.hid hds
  have HBx : Hid (Blk wx w.heap.size 50 ds.toList):=by rw [HDS.out.l];exact HX
  obtain ⟨w8,hst8,hb8,hg8⟩:=run_store_blk (P:=Tryd.prog) ds.toList HRX.out (by rw [Array.length_toList,Array.length_toList,hdz,HY.out.z]) HDS.out.o
  have Hb8:=Lib.hid hb8;have Hg8:=Lib.hid hg8
  clear hds hb8 hg8 HX HRX HB1 HR1
  go_wp2_with ((with_reducible refine load_arr w.heap.size ds (Eq.trans ?_ rfl) HBx.out _ Tryd.underlying50 rfl hdi ?_);rfl)
  have hb8:=Hb8.out
  exact bodyPost_ret (v:=.agg ds) (results_cell_row Tryd.results36 _ _ (w.heap.size + 1) _ _ _ _ rfl hb8 Tryd.underlying50 rfl (by rw [List.size_toArray,Array.length_toList];exact hdi)) rfl ⟨ds,rfl,HDS.out,HKX.out.grown Hg8.out HKX.out.size (fun q hq => by injection hq with hq;omega)⟩
 by_cases h7 : m.kind = 7
 ·have HM : Hid (M = { m with iA:=none,is:=[],ic:=0 }):=Lib.hid (HD.out.trans (by repeat (first | rw [if_pos (by omega)] | rw [if_neg (by omega)])))
  have d0 : (m.kind == 0) = false:=by rw [beq_eq_false_iff_ne];omega
  have d2 : (m.kind == 2) = false:=by rw [beq_eq_false_iff_ne];omega
  have d3 : (m.kind == 3) = false:=by rw [beq_eq_false_iff_ne];omega
  have d4 : (m.kind == 4) = false:=by rw [beq_eq_false_iff_ne];omega
  have d5 : (m.kind == 5) = false:=by rw [beq_eq_false_iff_ne];omega
  have d6 : (m.kind == 6) = false:=by rw [beq_eq_false_iff_ne];omega
  have d7 : (m.kind == 7) = true:=by rw [beq_iff_eq];omega
  clear HD h7 h0 h2 h3 h4 h5 h6
  have r38 : w1.cell? ⟨w.heap.size,38,none⟩ = some (.slice m.iA m.is.length m.ic):=(HB1.out.cell 38).trans ((MsgR.tail_get HK.out 0).trans rfl)
  have f38:=HB1.out.frozen 38
  go_upto_region 19 with fail
  obtain ⟨wx,hwx⟩ : ∃ wx,wx = (w1.setCell ⟨w.heap.size,38,none⟩ (.slice none 0 0)):=⟨_,rfl⟩
  have HX : Blk wx w.heap.size 50 M.cells:=by
   rw [hwx,HM.out]
   have q:=(HB1.out.set_ 38 (.slice none 0 0))
   rw [MsgR.set38 HK.out] at q;exact q
  have HRX : Hid (Blk wx (w.heap.size + 1) 50 ys.toList):=by rw [hwx];exact Lib.hid (HR1.out.far (by simp <;> omega) _)
  have HKX : Hid (Keep w wx):=by rw [hwx];exact Lib.hid (Below.setCell HK1.out (by simp <;> omega) _)
  rw [← hwx]
  clear hwx r38 f38 r0
  obtain ⟨ds,hds⟩ : ∃ ds,MsA M ds:=⟨_,MsA.of HOK.out⟩
  have hdz:=hds.z;have hdn:=hds.n;have hdi:=hds.i
  have HDS:=Lib.hid hds
  have HBx : Hid (Blk wx w.heap.size 50 ds.toList):=by rw [HDS.out.l];exact HX
  obtain ⟨w8,hst8,hb8,hg8⟩:=run_store_blk (P:=Tryd.prog) ds.toList HRX.out (by rw [Array.length_toList,Array.length_toList,hdz,HY.out.z]) HDS.out.o
  have Hb8:=Lib.hid hb8;have Hg8:=Lib.hid hg8
  clear hds hb8 hg8 HX HRX HB1 HR1
  go_wp2_with ((with_reducible refine load_arr w.heap.size ds (Eq.trans ?_ rfl) HBx.out _ Tryd.underlying50 rfl hdi ?_);rfl)
  have hb8:=Hb8.out
  exact bodyPost_ret (v:=.agg ds) (results_cell_row Tryd.results36 _ _ (w.heap.size + 1) _ _ _ _ rfl hb8 Tryd.underlying50 rfl (by rw [List.size_toArray,Array.length_toList];exact hdi)) rfl ⟨ds,rfl,HDS.out,HKX.out.grown Hg8.out HKX.out.size (fun q hq => by injection hq with hq;omega)⟩
 by_cases h8 : m.kind = 8
 ·have HM : Hid (M = { m with iA:=none,is:=[],ic:=0 }):=Lib.hid (HD.out.trans (by repeat (first | rw [if_pos (by omega)] | rw [if_neg (by omega)])))
  have d0 : (m.kind == 0) = false:=by rw [beq_eq_false_iff_ne];omega
  have d2 : (m.kind == 2) = false:=by rw [beq_eq_false_iff_ne];omega
  have d3 : (m.kind == 3) = false:=by rw [beq_eq_false_iff_ne];omega
  have d4 : (m.kind == 4) = false:=by rw [beq_eq_false_iff_ne];omega
  have d5 : (m.kind == 5) = false:=by rw [beq_eq_false_iff_ne];omega
  have d6 : (m.kind == 6) = false:=by rw [beq_eq_false_iff_ne];omega
  have d7 : (m.kind == 7) = false:=by rw [beq_eq_false_iff_ne];omega
  have d8 : (m.kind == 8) = true:=by rw [beq_iff_eq];omega
  clear HD h8 h0 h2 h3 h4 h5 h6 h7
  have r38 : w1.cell? ⟨w.heap.size,38,none⟩ = some (.slice m.iA m.is.length m.ic):=(HB1.out.cell 38).trans ((MsgR.tail_get HK.out 0).trans rfl)
  have f38:=HB1.out.frozen 38
  go_upto_region 19 with fail
  obtain ⟨wx,hwx⟩ : ∃ wx,wx = (w1.setCell ⟨w.heap.size,38,none⟩ (.slice none 0 0)):=⟨_,rfl⟩
  have HX : Blk wx w.heap.size 50 M.cells:=by
   rw [hwx,HM.out]
   have q:=(HB1.out.set_ 38 (.slice none 0 0))
   rw [MsgR.set38 HK.out] at q;exact q
  have HRX : Hid (Blk wx (w.heap.size + 1) 50 ys.toList):=by rw [hwx];exact Lib.hid (HR1.out.far (by simp <;> omega) _)
  have HKX : Hid (Keep w wx):=by rw [hwx];exact Lib.hid (Below.setCell HK1.out (by simp <;> omega) _)
  rw [← hwx]
  clear hwx r38 f38 r0
  obtain ⟨ds,hds⟩ : ∃ ds,MsA M ds:=⟨_,MsA.of HOK.out⟩
  have hdz:=hds.z;have hdn:=hds.n;have hdi:=hds.i
  have HDS:=Lib.hid hds
  have HBx : Hid (Blk wx w.heap.size 50 ds.toList):=by rw [HDS.out.l];exact HX
  obtain ⟨w8,hst8,hb8,hg8⟩:=run_store_blk (P:=Tryd.prog) ds.toList HRX.out (by rw [Array.length_toList,Array.length_toList,hdz,HY.out.z]) HDS.out.o
  have Hb8:=Lib.hid hb8;have Hg8:=Lib.hid hg8
  clear hds hb8 hg8 HX HRX HB1 HR1
  go_wp2_with ((with_reducible refine load_arr w.heap.size ds (Eq.trans ?_ rfl) HBx.out _ Tryd.underlying50 rfl hdi ?_);rfl)
  have hb8:=Hb8.out
  exact bodyPost_ret (v:=.agg ds) (results_cell_row Tryd.results36 _ _ (w.heap.size + 1) _ _ _ _ rfl hb8 Tryd.underlying50 rfl (by rw [List.size_toArray,Array.length_toList];exact hdi)) rfl ⟨ds,rfl,HDS.out,HKX.out.grown Hg8.out HKX.out.size (fun q hq => by injection hq with hq;omega)⟩
 by_cases h9 : m.kind = 9
 ·have HM : Hid (M = { m with bh:=zHdr,total:=0,sA:=none,shs:=[],sc:=0,fA:=none,fs:=[],fc:=0 }):=Lib.hid (HD.out.trans (by repeat (first | rw [if_pos (by omega)] | rw [if_neg (by omega)])))
  have d0 : (m.kind == 0) = false:=by rw [beq_eq_false_iff_ne];omega
  have d2 : (m.kind == 2) = false:=by rw [beq_eq_false_iff_ne];omega
  have d3 : (m.kind == 3) = false:=by rw [beq_eq_false_iff_ne];omega
  have d4 : (m.kind == 4) = false:=by rw [beq_eq_false_iff_ne];omega
  have d5 : (m.kind == 5) = false:=by rw [beq_eq_false_iff_ne];omega
  have d6 : (m.kind == 6) = false:=by rw [beq_eq_false_iff_ne];omega
  have d7 : (m.kind == 7) = false:=by rw [beq_eq_false_iff_ne];omega
  have d8 : (m.kind == 8) = false:=by rw [beq_eq_false_iff_ne];omega
  have d9 : (m.kind == 9) = true:=by rw [beq_iff_eq];omega
  clear HD h9 h0 h2 h3 h4 h5 h6 h7 h8
  obtain ⟨wx,hst,hbx,hgx⟩:=run_store_prt (P:=Tryd.prog) 39 zb.toList HB1.out (by rw [MsgR.len HK.out,Array.length_toList,hbz];omega) (by rw [HBL.out];intro u hu;exact MsgR.one (msgZ 0) u (by rw [MsgR.cells39];simp [hu]))
  have HBX:=Lib.hid hbx;have HGX:=Lib.hid hgx
  clear hbx hgx
  go_upto_region 19 with fail
  have HX : Blk wx w.heap.size 50 M.cells:=by
   rw [HM.out]
   have q:=HBX.out
   rw [HBL.out,MsgR.splice_blk HK.out (show (msgZ 0).bh.ok from ⟨rfl,rfl⟩)] at q
   exact q
  have HRX : Hid (Blk wx (w.heap.size + 1) 50 ys.toList):=Lib.hid (HR1.out.grown HGX.out (fun q => by injection q with q;omega))
  have HKX : Hid (Keep w wx):=Lib.hid (HK1.out.grown HGX.out HK1.out.size (fun q hq => by injection hq with hq;omega))
  clear hst HBX r0
  obtain ⟨ds,hds⟩ : ∃ ds,MsA M ds:=⟨_,MsA.of HOK.out⟩
  have hdz:=hds.z;have hdn:=hds.n;have hdi:=hds.i
  have HDS:=Lib.hid hds
  have HBx : Hid (Blk wx w.heap.size 50 ds.toList):=by rw [HDS.out.l];exact HX
  obtain ⟨w8,hst8,hb8,hg8⟩:=run_store_blk (P:=Tryd.prog) ds.toList HRX.out (by rw [Array.length_toList,Array.length_toList,hdz,HY.out.z]) HDS.out.o
  have Hb8:=Lib.hid hb8;have Hg8:=Lib.hid hg8
  clear hds hb8 hg8 HX HRX HB1 HR1
  go_wp2_with ((with_reducible refine load_arr w.heap.size ds (Eq.trans ?_ rfl) HBx.out _ Tryd.underlying50 rfl hdi ?_);rfl)
  have hb8:=Hb8.out
  exact bodyPost_ret (v:=.agg ds) (results_cell_row Tryd.results36 _ _ (w.heap.size + 1) _ _ _ _ rfl hb8 Tryd.underlying50 rfl (by rw [List.size_toArray,Array.length_toList];exact hdi)) rfl ⟨ds,rfl,HDS.out,HKX.out.grown Hg8.out HKX.out.size (fun q hq => by injection hq with hq;omega)⟩
 by_cases h10 : m.kind = 10
 ·have HM : Hid (M = { m with t:=txZ }):=Lib.hid (HD.out.trans (by repeat (first | rw [if_pos (by omega)] | rw [if_neg (by omega)])))
  have d0 : (m.kind == 0) = false:=by rw [beq_eq_false_iff_ne];omega
  have d2 : (m.kind == 2) = false:=by rw [beq_eq_false_iff_ne];omega
  have d3 : (m.kind == 3) = false:=by rw [beq_eq_false_iff_ne];omega
  have d4 : (m.kind == 4) = false:=by rw [beq_eq_false_iff_ne];omega
  have d5 : (m.kind == 5) = false:=by rw [beq_eq_false_iff_ne];omega
  have d6 : (m.kind == 6) = false:=by rw [beq_eq_false_iff_ne];omega
  have d7 : (m.kind == 7) = false:=by rw [beq_eq_false_iff_ne];omega
  have d8 : (m.kind == 8) = false:=by rw [beq_eq_false_iff_ne];omega
  have d9 : (m.kind == 9) = false:=by rw [beq_eq_false_iff_ne];omega
  have d10 : (m.kind == 10) = true:=by rw [beq_iff_eq];omega
  clear HD h10 h0 h2 h3 h4 h5 h6 h7 h8 h9
  have r110 : w1.cell? ⟨w.heap.size,110,none⟩ = some (u32v m.t.ver):=(HB1.out.cell 110).trans ((MsgR.tx_get HK.out 0).trans rfl)
  have f110:=HB1.out.frozen 110
  have r111 : w1.cell? ⟨w.heap.size,111,none⟩ = some (.slice m.t.iA m.t.ins.length m.t.ic):=(HB1.out.cell 111).trans ((MsgR.tx_get HK.out 1).trans rfl)
  have f111:=HB1.out.frozen 111
  have r112 : w1.cell? ⟨w.heap.size,112,none⟩ = some (.slice m.t.oA m.t.outs.length m.t.oc):=(HB1.out.cell 112).trans ((MsgR.tx_get HK.out 2).trans rfl)
  have f112:=HB1.out.frozen 112
  have r113 : w1.cell? ⟨w.heap.size,113,none⟩ = some (u32v m.t.lock):=(HB1.out.cell 113).trans ((MsgR.tx_get HK.out 3).trans rfl)
  have f113:=HB1.out.frozen 113
  go_upto_region 19 with fail
  obtain ⟨wx,hwx⟩ : ∃ wx,wx = ((((w1.setCell ⟨w.heap.size,110,none⟩ (.int .u32 0)).setCell ⟨w.heap.size,111,none⟩ (.slice none 0 0)).setCell ⟨w.heap.size,112,none⟩ (.slice none 0 0)).setCell ⟨w.heap.size,113,none⟩ (.int .u32 0)):=⟨_,rfl⟩
  have HX : Blk wx w.heap.size 50 M.cells:=by
   rw [hwx,HM.out]
   have q:=((((HB1.out.set_ 110 (.int .u32 0)).set_ 111 (.slice none 0 0)).set_ 112 (.slice none 0 0)).set_ 113 (.int .u32 0))
   rw [MsgR.set_tx HK.out] at q;exact q
  have HRX : Hid (Blk wx (w.heap.size + 1) 50 ys.toList):=by rw [hwx];exact Lib.hid ((((HR1.out.far (by simp <;> omega) _).far (by simp <;> omega) _).far (by simp <;> omega) _).far (by simp <;> omega) _)
  have HKX : Hid (Keep w wx):=by rw [hwx];exact Lib.hid (Below.setCell (Below.setCell (Below.setCell (Below.setCell HK1.out (by simp <;> omega) _) (by simp <;> omega) _) (by simp <;> omega) _) (by simp <;> omega) _)
  rw [← hwx]
  clear hwx r110 f110 r111 f111 r112 f112 r113 f113 r0
  obtain ⟨ds,hds⟩ : ∃ ds,MsA M ds:=⟨_,MsA.of HOK.out⟩
  have hdz:=hds.z;have hdn:=hds.n;have hdi:=hds.i
  have HDS:=Lib.hid hds
  have HBx : Hid (Blk wx w.heap.size 50 ds.toList):=by rw [HDS.out.l];exact HX
  obtain ⟨w8,hst8,hb8,hg8⟩:=run_store_blk (P:=Tryd.prog) ds.toList HRX.out (by rw [Array.length_toList,Array.length_toList,hdz,HY.out.z]) HDS.out.o
  have Hb8:=Lib.hid hb8;have Hg8:=Lib.hid hg8
  clear hds hb8 hg8 HX HRX HB1 HR1
  go_wp2_with ((with_reducible refine load_arr w.heap.size ds (Eq.trans ?_ rfl) HBx.out _ Tryd.underlying50 rfl hdi ?_);rfl)
  have hb8:=Hb8.out
  exact bodyPost_ret (v:=.agg ds) (results_cell_row Tryd.results36 _ _ (w.heap.size + 1) _ _ _ _ rfl hb8 Tryd.underlying50 rfl (by rw [List.size_toArray,Array.length_toList];exact hdi)) rfl ⟨ds,rfl,HDS.out,HKX.out.grown Hg8.out HKX.out.size (fun q hq => by injection hq with hq;omega)⟩
 have HM : Hid (M = m):=Lib.hid (HD.out.trans (by repeat (first | rw [if_pos (by omega)] | rw [if_neg (by omega)])))
 have d0 : (m.kind == 0) = false:=by rw [beq_eq_false_iff_ne];omega
 have d2 : (m.kind == 2) = false:=by rw [beq_eq_false_iff_ne];omega
 have d3 : (m.kind == 3) = false:=by rw [beq_eq_false_iff_ne];omega
 have d4 : (m.kind == 4) = false:=by rw [beq_eq_false_iff_ne];omega
 have d5 : (m.kind == 5) = false:=by rw [beq_eq_false_iff_ne];omega
 have d6 : (m.kind == 6) = false:=by rw [beq_eq_false_iff_ne];omega
 have d7 : (m.kind == 7) = false:=by rw [beq_eq_false_iff_ne];omega
 have d8 : (m.kind == 8) = false:=by rw [beq_eq_false_iff_ne];omega
 have d9 : (m.kind == 9) = false:=by rw [beq_eq_false_iff_ne];omega
 have d10 : (m.kind == 10) = false:=by rw [beq_eq_false_iff_ne];omega
 clear HD h0 h2 h3 h4 h5 h6 h7 h8 h9 h10
 go_upto_region 19 with fail
 obtain ⟨wx,hwx⟩ : ∃ wx,wx = w1:=⟨_,rfl⟩
 have HX : Blk wx w.heap.size 50 M.cells:=by rw [hwx,HM.out];exact HB1.out
 have HRX : Hid (Blk wx (w.heap.size + 1) 50 ys.toList):=by rw [hwx];exact HR1
 have HKX : Hid (Keep w wx):=by rw [hwx];exact HK1
 rw [← hwx]
 clear hwx r0
 obtain ⟨ds,hds⟩ : ∃ ds,MsA M ds:=⟨_,MsA.of HOK.out⟩
 have hdz:=hds.z;have hdn:=hds.n;have hdi:=hds.i
 have HDS:=Lib.hid hds
 have HBx : Hid (Blk wx w.heap.size 50 ds.toList):=by rw [HDS.out.l];exact HX
 obtain ⟨w8,hst8,hb8,hg8⟩:=run_store_blk (P:=Tryd.prog) ds.toList HRX.out (by rw [Array.length_toList,Array.length_toList,hdz,HY.out.z]) HDS.out.o
 have Hb8:=Lib.hid hb8;have Hg8:=Lib.hid hg8
 clear hds hb8 hg8 HX HRX HB1 HR1
 go_wp2_with ((with_reducible refine load_arr w.heap.size ds (Eq.trans ?_ rfl) HBx.out _ Tryd.underlying50 rfl hdi ?_);rfl)
 have hb8:=Hb8.out
 exact bodyPost_ret (v:=.agg ds) (results_cell_row Tryd.results36 _ _ (w.heap.size + 1) _ _ _ _ rfl hb8 Tryd.underlying50 rfl (by rw [List.size_toArray,Array.length_toList];exact hdi)) rfl ⟨ds,rfl,HDS.out,HKX.out.grown Hg8.out HKX.out.size (fun q hq => by injection hq with hq;omega)⟩
end Go.Proofs.YtffpanlpbdnafaaDoor
/- wire.nothing. (printed by gen_vu.py) -/
set_option linter.unusedSimpArgs false
set_option linter.unusedVariables false
namespace Go.Proofs.YtffpanlpbdnafaaDoor
open Go.RowKit
attribute [local go_sem ↓] Go.wp_at_zero Go.wp_at_succ
theorem zhead_letterA : ∃ zs : Array Value,HdA zHdr zs∧(∀ w,(zeroValue 42).run Tryd.prog w = .ok (.agg zs) w) :=
 ⟨zhead,by
  have h:=HdA.of (h:=zHdr) ⟨rfl,rfl⟩
  rwa [show zHdr.cells = zhead.toList from zhead_list.symm,Array.toArray_toList] at h,zhead_zero⟩
theorem MsgR.blk_tail {m : MsgR} (h : m.ok) (k : Nat) (hk : k < 3) : m.cells[k + 107]? = [u32v m.total,Value.slice m.sA m.shs.length m.sc,.slice m.fA m.fs.length m.fc][k]?:=by
 rw [show k + 107 = (k + 68) + 39 by omega,MsgR.blk_get h _ (by omega)]
 unfold MsgR.blk
 rw [List.getElem?_append_right (by rw [Hd.len h.b];omega),Hd.len h.b,show k + 68 - 68 = k by omega]
def nothingB (m : MsgR) : Bool:=(((m.proto.toNat : Int) == 0) && ((m.nonce : Int) == 0) && ((m.height.toNat : Int) == 0) && (m.stop == z32)) && (((m.hs.length : Int) == 0) && ((m.ls.length : Int) == 0) && ((m.is.length : Int) == 0)) && (((hdEq m.bh zHdr) && ((m.total.toNat : Int) == 0)) && ((m.shs.length : Int) == 0) && ((m.fs.length : Int) == 0)) && (((m.t.ver.toNat : Int) == 0) && ((m.t.ins.length : Int) == 0) && ((m.t.outs.length : Int) == 0) && ((m.t.lock.toNat : Int) == 0))
set_option maxRecDepth 100000 in
set_option maxHeartbeats 8000000 in
theorem nothing_any (m : MsgR) (cs : Array Value) (hA : MsA m cs) (hk : m.ok) (w : World) :
  Calls Tryd.prog 35 #[.agg cs] w fun e w' => e = .returned (.bool (nothingB m))∧Keep w w':=by
 obtain ⟨zh,hzA,hz0⟩:=zhash_letter32
 obtain ⟨zd,hzD,hd0⟩:=zhead_letterA
 obtain ⟨ss,hss⟩ : ∃ ss,HashA m.stop ss:=⟨_,HashA.of hk.s⟩
 obtain ⟨hv,hhv⟩ : ∃ hv,HdA m.bh hv:=⟨_,HdA.of hk.b⟩
 have hgd1:=hash_guard;have hgd2:=hd_guard
 have hzn:=hzA.n;have hzz:=hzA.z;have hdn:=hzD.n;have hdz:=hzD.z
 have hsn:=hss.n;have hsz:=hss.z;have hsi:=hss.i
 have hvn:=hhv.n;have hvz:=hhv.z;have hvi:=hhv.i
 have HE4 : Hid (∀ w,(Go.binOp .eql 39 (.agg ss) (.agg zh)).run Tryd.prog w = .ok (.bool (m.stop == z32)) w):=Lib.hid fun w => hash_eql hss hzA hk.s rfl w
 have HE8 : Hid (∀ w,(Go.binOp .eql 42 (.agg hv) (.agg zd)).run Tryd.prog w = .ok (.bool (hdEq m.bh zHdr)) w):=Lib.hid fun w => hd_eql hhv hzD hk.b ⟨rfl,rfl⟩ w
 have HS:=Lib.hid hss;have HH:=Lib.hid hhv
 have hcn:=hA.n;have hcz:=hA.z;have hci:=hA.i
 have HA:=Lib.hid hA;have HK:=Lib.hid hk
 clear hA hk hzA hzD hss hhv
 generalize hNB : nothingB m = NB
 have HNB:=Lib.hid hNB.symm
 clear hNB
 unfold nothingB at HNB
 go_enter Tryd.func35,Tryd.ntmps35
 go_upto_region 1 with fail
 obtain ⟨w1,hw1⟩ : ∃ w1,w1 = w.alloc (.cells cs 50):=⟨_,rfl⟩
 have HB1 : Hid (Blk w1 w.heap.size 50 m.cells):=by rw [hw1,← HA.out.l];exact Blk.new w _ cs.toList
 have HK1 : Hid (Keep w w1):=by rw [hw1];exact keep_new _ _
 rw [← hw1]
 clear hw1
 have RS : Hid (w1.rangeAt w.heap.size 6 ss.toList):=Lib.hid (range_of HB1.out 6 ss.toList (by
  rw [HS.out.l,MsgR.cells6,List.drop_left' (show m.hd6.length = 6 from rfl),List.take_left' rfl]))
 have RH : Hid (w1.rangeAt w.heap.size 39 hv.toList):=Lib.hid (range_of HB1.out 39 hv.toList (by
  rw [HH.out.l,MsgR.cells39,List.drop_left' (MsgR.hd39_len HK.out.s)]
  unfold MsgR.blk
  rw [List.append_assoc,List.take_left' rfl]))
 obtain ⟨p1,e1⟩ : ∃ p,((m.proto.toNat : Int) == 0) = p:=⟨_,rfl⟩
 obtain ⟨p2,e2⟩ : ∃ p,((m.nonce : Int) == 0) = p:=⟨_,rfl⟩
 obtain ⟨p3,e3⟩ : ∃ p,((m.height.toNat : Int) == 0) = p:=⟨_,rfl⟩
 obtain ⟨p4,e4⟩ : ∃ p,(m.stop == z32) = p:=⟨_,rfl⟩
 obtain ⟨p5,e5⟩ : ∃ p,((m.hs.length : Int) == 0) = p:=⟨_,rfl⟩
 obtain ⟨p6,e6⟩ : ∃ p,((m.ls.length : Int) == 0) = p:=⟨_,rfl⟩
 obtain ⟨p7,e7⟩ : ∃ p,((m.is.length : Int) == 0) = p:=⟨_,rfl⟩
 obtain ⟨p8,e8⟩ : ∃ p,(hdEq m.bh zHdr) = p:=⟨_,rfl⟩
 obtain ⟨p9,e9⟩ : ∃ p,((m.total.toNat : Int) == 0) = p:=⟨_,rfl⟩
 obtain ⟨p10,e10⟩ : ∃ p,((m.shs.length : Int) == 0) = p:=⟨_,rfl⟩
 obtain ⟨p11,e11⟩ : ∃ p,((m.fs.length : Int) == 0) = p:=⟨_,rfl⟩
 obtain ⟨p12,e12⟩ : ∃ p,((m.t.ver.toNat : Int) == 0) = p:=⟨_,rfl⟩
 obtain ⟨p13,e13⟩ : ∃ p,((m.t.ins.length : Int) == 0) = p:=⟨_,rfl⟩
 obtain ⟨p14,e14⟩ : ∃ p,((m.t.outs.length : Int) == 0) = p:=⟨_,rfl⟩
 obtain ⟨p15,e15⟩ : ∃ p,((m.t.lock.toNat : Int) == 0) = p:=⟨_,rfl⟩
 rw [e1,e2,e3,e4,e5,e6,e7,e8,e9,e10,e11,e12,e13,e14,e15] at HNB
 rw [e4] at HE4
 rw [e8] at HE8
 have EE:=Lib.hid (And.intro e1 (And.intro e2 (And.intro e3 (And.intro e5 (And.intro e6 (And.intro e7 (And.intro e9 (And.intro e10 (And.intro e11 (And.intro e12 (And.intro e13 (And.intro e14 e15))))))))))))
 clear e1 e2 e3 e4 e5 e6 e7 e8 e9 e10 e11 e12 e13 e14 e15
 have r1 : w1.cell? ⟨w.heap.size,1,none⟩ = some (u32v m.proto):=(HB1.out.cell 1).trans rfl
 have g1:=EE.out.1
 have r2 : w1.cell? ⟨w.heap.size,2,none⟩ = some (u64v m.nonce):=(HB1.out.cell 2).trans rfl
 have g2:=EE.out.2.1
 have r3 : w1.cell? ⟨w.heap.size,3,none⟩ = some (u32v m.height):=(HB1.out.cell 3).trans rfl
 have g3:=EE.out.2.2.1
 have g4:=HE4.out
 obtain ⟨q3,hq3⟩ : ∃ q : Bool,q = (p1 && p2 && p3 && p4):=⟨_,rfl⟩
 have Hq3:=Lib.hid hq3
 clear hq3
 go_cut [3] (fun v wx => v = .bool q3∧wx = w1)
 case first =>
  cases p1 with
  | false =>
    have hq:=Hq3.out
    simp only [Bool.false_and,Bool.true_and,Bool.and_false,Bool.and_true] at hq
    subst hq
    clear HNB
    go_wp2_with (first | ((with_reducible refine load_partg w.heap.size 6 ss (Eq.trans ?_ rfl) RS.out _ hash_under rfl hsi (Eq.trans ?_ rfl) ?_);rfl;rfl) | ((with_reducible refine load_partg w.heap.size 6 ss (Eq.trans ?_ rfl) RS.out _ hash_under rfl hsi rfl ?_);rfl))
    go_meet
    exact ⟨rfl,rfl⟩
  | true =>
    cases p2 with
    | false =>
      have hq:=Hq3.out
      simp only [Bool.false_and,Bool.true_and,Bool.and_false,Bool.and_true] at hq
      subst hq
      clear HNB
      go_wp2_with (first | ((with_reducible refine load_partg w.heap.size 6 ss (Eq.trans ?_ rfl) RS.out _ hash_under rfl hsi (Eq.trans ?_ rfl) ?_);rfl;rfl) | ((with_reducible refine load_partg w.heap.size 6 ss (Eq.trans ?_ rfl) RS.out _ hash_under rfl hsi rfl ?_);rfl))
      go_meet
      exact ⟨rfl,rfl⟩
    | true =>
      cases p3 with
      | false =>
        have hq:=Hq3.out
        simp only [Bool.false_and,Bool.true_and,Bool.and_false,Bool.and_true] at hq
        subst hq
        clear HNB
        go_wp2_with (first | ((with_reducible refine load_partg w.heap.size 6 ss (Eq.trans ?_ rfl) RS.out _ hash_under rfl hsi (Eq.trans ?_ rfl) ?_);rfl;rfl) | ((with_reducible refine load_partg w.heap.size 6 ss (Eq.trans ?_ rfl) RS.out _ hash_under rfl hsi rfl ?_);rfl))
        go_meet
        exact ⟨rfl,rfl⟩
      | true =>
        cases p4 with
        | false =>
          have hq:=Hq3.out
          simp only [Bool.false_and,Bool.true_and,Bool.and_false,Bool.and_true] at hq
          subst hq
          clear HNB
          go_wp2_with (first | ((with_reducible refine load_partg w.heap.size 6 ss (Eq.trans ?_ rfl) RS.out _ hash_under rfl hsi (Eq.trans ?_ rfl) ?_);rfl;rfl) | ((with_reducible refine load_partg w.heap.size 6 ss (Eq.trans ?_ rfl) RS.out _ hash_under rfl hsi rfl ?_);rfl))
          go_meet
          exact ⟨rfl,rfl⟩
        | true =>
          have hq:=Hq3.out
          simp only [Bool.false_and,Bool.true_and,Bool.and_false,Bool.and_true] at hq
          subst hq
          clear HNB
          go_wp2_with (first | ((with_reducible refine load_partg w.heap.size 6 ss (Eq.trans ?_ rfl) RS.out _ hash_under rfl hsi (Eq.trans ?_ rfl) ?_);rfl;rfl) | ((with_reducible refine load_partg w.heap.size 6 ss (Eq.trans ?_ rfl) RS.out _ hash_under rfl hsi rfl ?_);rfl))
          go_meet
          exact ⟨rfl,rfl⟩
 obtain ⟨rfl,hwc⟩:=hcut
 obtain rfl:=hwc.symm
 clear r1 g1 r2 g2 r3 g3 g4
 go_upto_region 2 with fail
 have r5 : w1.cell? ⟨w.heap.size,4,none⟩ = some (.slice m.hA m.hs.length m.hc):=(HB1.out.cell 4).trans rfl
 have g5:=EE.out.2.2.2.1
 have r6 : w1.cell? ⟨w.heap.size,5,none⟩ = some (.slice m.lA m.ls.length m.lc):=(HB1.out.cell 5).trans rfl
 have g6:=EE.out.2.2.2.2.1
 have r7 : w1.cell? ⟨w.heap.size,38,none⟩ = some (.slice m.iA m.is.length m.ic):=(HB1.out.cell 38).trans ((MsgR.tail_get HK.out 0).trans rfl)
 have g7:=EE.out.2.2.2.2.2.1
 obtain ⟨q4,hq4⟩ : ∃ q : Bool,q = (p5 && p6 && p7):=⟨_,rfl⟩
 have Hq4:=Lib.hid hq4
 clear hq4
 go_cut [4] (fun v wx => v = .bool q4∧wx = w1)
 case first =>
  cases p5 with
  | false =>
    have hq:=Hq4.out
    simp only [Bool.false_and,Bool.true_and,Bool.and_false,Bool.and_true] at hq
    subst hq
    clear HNB
    go_wp2_with (fail)
    go_meet
    exact ⟨rfl,rfl⟩
  | true =>
    cases p6 with
    | false =>
      have hq:=Hq4.out
      simp only [Bool.false_and,Bool.true_and,Bool.and_false,Bool.and_true] at hq
      subst hq
      clear HNB
      go_wp2_with (fail)
      go_meet
      exact ⟨rfl,rfl⟩
    | true =>
      cases p7 with
      | false =>
        have hq:=Hq4.out
        simp only [Bool.false_and,Bool.true_and,Bool.and_false,Bool.and_true] at hq
        subst hq
        clear HNB
        go_wp2_with (fail)
        go_meet
        exact ⟨rfl,rfl⟩
      | true =>
        have hq:=Hq4.out
        simp only [Bool.false_and,Bool.true_and,Bool.and_false,Bool.and_true] at hq
        subst hq
        clear HNB
        go_wp2_with (fail)
        go_meet
        exact ⟨rfl,rfl⟩
 obtain ⟨rfl,hwc⟩:=hcut
 obtain rfl:=hwc.symm
 clear r5 g5 r6 g6 r7 g7
 go_upto_region 3 with fail
 have g8:=HE8.out
 have r9 : w1.cell? ⟨w.heap.size,107,none⟩ = some (u32v m.total):=(HB1.out.cell 107).trans ((MsgR.blk_tail HK.out 0 (by omega)).trans rfl)
 have g9:=EE.out.2.2.2.2.2.2.1
 obtain ⟨q5,hq5⟩ : ∃ q : Bool,q = (p8 && p9):=⟨_,rfl⟩
 have Hq5:=Lib.hid hq5
 clear hq5
 go_cut [5] (fun v wx => v = .bool q5∧wx = w1)
 case first =>
  cases p8 with
  | false =>
    have hq:=Hq5.out
    simp only [Bool.false_and,Bool.true_and,Bool.and_false,Bool.and_true] at hq
    subst hq
    clear HNB
    go_wp2_with (first | ((with_reducible refine load_partg w.heap.size 39 hv (Eq.trans ?_ rfl) RH.out _ Tryd.underlying42 rfl hvi (Eq.trans ?_ rfl) ?_);rfl;rfl) | ((with_reducible refine load_partg w.heap.size 39 hv (Eq.trans ?_ rfl) RH.out _ Tryd.underlying42 rfl hvi rfl ?_);rfl))
    go_meet
    exact ⟨rfl,rfl⟩
  | true =>
    cases p9 with
    | false =>
      have hq:=Hq5.out
      simp only [Bool.false_and,Bool.true_and,Bool.and_false,Bool.and_true] at hq
      subst hq
      clear HNB
      go_wp2_with (first | ((with_reducible refine load_partg w.heap.size 39 hv (Eq.trans ?_ rfl) RH.out _ Tryd.underlying42 rfl hvi (Eq.trans ?_ rfl) ?_);rfl;rfl) | ((with_reducible refine load_partg w.heap.size 39 hv (Eq.trans ?_ rfl) RH.out _ Tryd.underlying42 rfl hvi rfl ?_);rfl))
      go_meet
      exact ⟨rfl,rfl⟩
    | true =>
      have hq:=Hq5.out
      simp only [Bool.false_and,Bool.true_and,Bool.and_false,Bool.and_true] at hq
      subst hq
      clear HNB
      go_wp2_with (first | ((with_reducible refine load_partg w.heap.size 39 hv (Eq.trans ?_ rfl) RH.out _ Tryd.underlying42 rfl hvi (Eq.trans ?_ rfl) ?_);rfl;rfl) | ((with_reducible refine load_partg w.heap.size 39 hv (Eq.trans ?_ rfl) RH.out _ Tryd.underlying42 rfl hvi rfl ?_);rfl))
      go_meet
      exact ⟨rfl,rfl⟩
 obtain ⟨rfl,hwc⟩:=hcut
 obtain rfl:=hwc.symm
 clear g8 r9 g9
 go_upto_region 4 with fail
 have r10 : w1.cell? ⟨w.heap.size,108,none⟩ = some (.slice m.sA m.shs.length m.sc):=(HB1.out.cell 108).trans ((MsgR.blk_tail HK.out 1 (by omega)).trans rfl)
 have g10:=EE.out.2.2.2.2.2.2.2.1
 have r11 : w1.cell? ⟨w.heap.size,109,none⟩ = some (.slice m.fA m.fs.length m.fc):=(HB1.out.cell 109).trans ((MsgR.blk_tail HK.out 2 (by omega)).trans rfl)
 have g11:=EE.out.2.2.2.2.2.2.2.2.1
 obtain ⟨q6,hq6⟩ : ∃ q : Bool,q = (q5 && p10 && p11):=⟨_,rfl⟩
 have Hq6:=Lib.hid hq6
 clear hq6
 go_cut [6] (fun v wx => v = .bool q6∧wx = w1)
 case first =>
  cases q5 with
  | false =>
    have hq:=Hq6.out
    simp only [Bool.false_and,Bool.true_and,Bool.and_false,Bool.and_true] at hq
    subst hq
    clear HNB
    go_wp2_with (fail)
    go_meet
    exact ⟨rfl,rfl⟩
  | true =>
    cases p10 with
    | false =>
      have hq:=Hq6.out
      simp only [Bool.false_and,Bool.true_and,Bool.and_false,Bool.and_true] at hq
      subst hq
      clear HNB
      go_wp2_with (fail)
      go_meet
      exact ⟨rfl,rfl⟩
    | true =>
      cases p11 with
      | false =>
        have hq:=Hq6.out
        simp only [Bool.false_and,Bool.true_and,Bool.and_false,Bool.and_true] at hq
        subst hq
        clear HNB
        go_wp2_with (fail)
        go_meet
        exact ⟨rfl,rfl⟩
      | true =>
        have hq:=Hq6.out
        simp only [Bool.false_and,Bool.true_and,Bool.and_false,Bool.and_true] at hq
        subst hq
        clear HNB
        go_wp2_with (fail)
        go_meet
        exact ⟨rfl,rfl⟩
 obtain ⟨rfl,hwc⟩:=hcut
 obtain rfl:=hwc.symm
 clear r10 g10 r11 g11
 go_upto_region 5 with fail
 have r12 : w1.cell? ⟨w.heap.size,110,none⟩ = some (u32v m.t.ver):=(HB1.out.cell 110).trans ((MsgR.tx_get HK.out 0).trans rfl)
 have g12:=EE.out.2.2.2.2.2.2.2.2.2.1
 have r13 : w1.cell? ⟨w.heap.size,111,none⟩ = some (.slice m.t.iA m.t.ins.length m.t.ic):=(HB1.out.cell 111).trans ((MsgR.tx_get HK.out 1).trans rfl)
 have g13:=EE.out.2.2.2.2.2.2.2.2.2.2.1
 have r14 : w1.cell? ⟨w.heap.size,112,none⟩ = some (.slice m.t.oA m.t.outs.length m.t.oc):=(HB1.out.cell 112).trans ((MsgR.tx_get HK.out 2).trans rfl)
 have g14:=EE.out.2.2.2.2.2.2.2.2.2.2.2.1
 have r15 : w1.cell? ⟨w.heap.size,113,none⟩ = some (u32v m.t.lock):=(HB1.out.cell 113).trans ((MsgR.tx_get HK.out 3).trans rfl)
 have g15:=EE.out.2.2.2.2.2.2.2.2.2.2.2.2
 obtain ⟨q7,hq7⟩ : ∃ q : Bool,q = (p12 && p13 && p14 && p15):=⟨_,rfl⟩
 have Hq7:=Lib.hid hq7
 clear hq7
 go_cut [7] (fun v wx => v = .bool q7∧wx = w1)
 case first =>
  cases p12 with
  | false =>
    have hq:=Hq7.out
    simp only [Bool.false_and,Bool.true_and,Bool.and_false,Bool.and_true] at hq
    subst hq
    clear HNB
    go_wp2_with (fail)
    go_meet
    exact ⟨rfl,rfl⟩
  | true =>
    cases p13 with
    | false =>
      have hq:=Hq7.out
      simp only [Bool.false_and,Bool.true_and,Bool.and_false,Bool.and_true] at hq
      subst hq
      clear HNB
      go_wp2_with (fail)
      go_meet
      exact ⟨rfl,rfl⟩
    | true =>
      cases p14 with
      | false =>
        have hq:=Hq7.out
        simp only [Bool.false_and,Bool.true_and,Bool.and_false,Bool.and_true] at hq
        subst hq
        clear HNB
        go_wp2_with (fail)
        go_meet
        exact ⟨rfl,rfl⟩
      | true =>
        cases p15 with
        | false =>
          have hq:=Hq7.out
          simp only [Bool.false_and,Bool.true_and,Bool.and_false,Bool.and_true] at hq
          subst hq
          clear HNB
          go_wp2_with (fail)
          go_meet
          exact ⟨rfl,rfl⟩
        | true =>
          have hq:=Hq7.out
          simp only [Bool.false_and,Bool.true_and,Bool.and_false,Bool.and_true] at hq
          subst hq
          clear HNB
          go_wp2_with (fail)
          go_meet
          exact ⟨rfl,rfl⟩
 obtain ⟨rfl,hwc⟩:=hcut
 obtain rfl:=hwc.symm
 clear r12 g12 r13 g13 r14 g14 r15 g15
 go_upto_region 6 with fail
 have hf : NB = (q3 && q4 && q6 && q7):=by rw [HNB.out,Hq3.out,Hq4.out,Hq6.out,Hq5.out,Hq7.out]
 subst hf
 clear HNB Hq3 Hq4 Hq5 Hq6 Hq7 EE HE4 HE8 RS RH
 cases q3 with
 | false =>
   go_wp2
   exact bodyPost_ret (v:=.bool _) (by simp [results,Tryd.results35]) rfl ⟨rfl,HK1.out⟩
 | true =>
   cases q4 with
   | false =>
     go_wp2
     exact bodyPost_ret (v:=.bool _) (by simp [results,Tryd.results35]) rfl ⟨rfl,HK1.out⟩
   | true =>
     cases q6 with
     | false =>
       go_wp2
       exact bodyPost_ret (v:=.bool _) (by simp [results,Tryd.results35]) rfl ⟨rfl,HK1.out⟩
     | true =>
       cases q7 with
       | false =>
         go_wp2
         exact bodyPost_ret (v:=.bool _) (by simp [results,Tryd.results35]) rfl ⟨rfl,HK1.out⟩
       | true =>
         go_wp2
         exact bodyPost_ret (v:=.bool _) (by simp [results,Tryd.results35]) rfl ⟨rfl,HK1.out⟩
end Go.Proofs.YtffpanlpbdnafaaDoor
