/- Texts merged by pack.py: Nr, Ns, NRa, NRb, NRc, Rq, Rk, Rv, NRd. -/
import Derived.Test.YtmbbknjddebhoaaGreatDoorCx9
import Derived.Test.YtmbbknjddebhoaaGreatDoorCx5
import Derived.Test.YtmbbknjddebhoaaGreatDoorCx6
import Derived.Test.YtmbbknjddebhoaaGreatDoorCx8
import Derived.Test.YtmbbknjddebhoaaGreatDoorCx7
import Derived.Test.YtmbbknjddebhoaaGreatDoorCx3
/- florinref05.Meets. (printed by gen_nr.py) -/
set_option linter.unusedSimpArgs false
set_option linter.unusedVariables false
namespace Go.Proofs.YtmbbknjddebhoaaGreatDoor
open Go.RowKit
attribute [local go_sem ↓] Go.wp_at_zero Go.wp_at_succ
set_option maxRecDepth 100000 in
set_option maxHeartbeats 4000000 in
theorem rmeets_any (l : List UInt8) (cs : Array Value) (bits limit : UInt32) (w : World) (hl : l.length = 32) (h : HashA l cs) :
  Calls Tryz.prog 26 #[.agg cs,u32v bits,u32v limit] w fun e w' => e = .returned (.int .i64 (meetN (leN l) bits limit))∧Keep w w':=by
 have hz:=h.z;have hn:=h.n;have hi:=h.i
 have hl256 : leN l < 2 ^ 256:=by have:=leN_lt l;rw [hl] at this;exact this
 have N1 : Hid (∀ y,Calls Tryz.prog 47 #[.agg cs] y fun e w' => e = .returned (uV (leN l))∧Keep y w'):=Lib.hid fun y => rhnum_any l cs y hl h
 have E1 : Hid (∀ y,Calls Tryz.prog 41 #[u32v bits] y fun e w' => e = .returned (.tuple #[uV (expN bits).1,.int .i64 (expN bits).2])∧Keep y w'):=Lib.hid fun y => rexpand_any bits y
 have E2 : Hid (∀ y,Calls Tryz.prog 41 #[u32v limit] y fun e w' => e = .returned (.tuple #[uV (expN limit).1,.int .i64 (expN limit).2])∧Keep y w'):=Lib.hid fun y => rexpand_any limit y
 have b1:=expN_lt bits;have b2:=expN_lt limit
 have v1:=expN_err bits;have v2:=expN_err limit
 have HM : Hid (∀ R,meetN (leN l) bits limit = R → R = if (expN bits).2 ≠ 0 then 7 else if (expN limit).2 ≠ 0 ∨ (expN limit).1 < (expN bits).1 then 7 else if (expN bits).1 < leN l then 6 else 0):=Lib.hid fun R e => by subst e;rfl
 replace HM:=Lib.hid (HM.out _ rfl)
 generalize meetN (leN l) bits limit = R at *
 generalize expN bits = X at *
 generalize expN limit = Y at *
 obtain ⟨T,te⟩:=X
 obtain ⟨L,le⟩:=Y
 simp only at b1 b2 v1 v2
 generalize leN l = M at *
 have C1 : Hid (∀ y,Calls Tryz.prog 46 #[uV T,uV L] y fun e w' => e = .returned (.int .i64 (cmpN T L))∧Keep y w'):=Lib.hid fun y => rcmp_any T L y b1 b2
 have C2 : Hid (∀ y,Calls Tryz.prog 46 #[uV M,uV T] y fun e w' => e = .returned (.int .i64 (cmpN M T))∧Keep y w'):=Lib.hid fun y => rcmp_any M T y hl256 b1
 have g1:=cmpN_gt T L;have g2:=cmpN_gt M T
 generalize cmpN T L = c1 at *
 generalize cmpN M T = c2 at *
 have H:=Lib.hid h
 clear h b1 b2 hl256
 simp only at E1 E2
 go_enter Tryz.func26,Tryz.ntmps26
 go_upto_region 1 with fail
 obtain ⟨w1,hw1⟩ : ∃ w1,w1 = w.alloc (.cells cs 28):=⟨_,rfl⟩
 have HA1 : Hid (Blk w1 w.heap.size 28 cs.toList):=by rw [hw1];exact Blk.new w 28 cs.toList
 have HK1 : Hid (Keep w w1):=by rw [hw1];exact keep_new _ _
 rw [← hw1]
 clear hw1
 obtain ⟨g,hg⟩ : ∃ r,w.heap.size = r:=⟨_,rfl⟩
 rw [hg] at HA1
 simp only [hg]
 clear hg
 go_upto_region 2 with (go_at_call 41;refine (E1.out _).mono ?_;rintro e w2 ⟨rfl,k2⟩;have HA2:=Lib.hid (HA1.out.keep k2);have HK2:=Lib.hid (keep_trans HK1.out k2);clear k2 E1)
 clear HA1 HK1
 obtain ⟨w3,hw3⟩ : ∃ x,x = w2.alloc (.cells #[n64 (limb T 0),n64 (limb T 1),n64 (limb T 2),n64 (limb T 3)] 72):=⟨_,rfl⟩
 have HT3 : Hid (Blk w3 w2.heap.size 72 (uL T)):=by rw [hw3];exact Lib.hid (Blk.new w2 72 (uL T))
 have k3 : Keep w2 w3:=by rw [hw3];exact keep_new _ _
 have HA3:=Lib.hid (HA2.out.keep k3);have HK3:=Lib.hid (keep_trans HK2.out k3)
 have hltB : g < w2.heap.size:=HA2.out.lt
 rw [← hw3]
 clear hw3 k3 HA2 HK2
 obtain ⟨B,hB⟩ : ∃ X,w2.heap.size = X:=⟨_,rfl⟩
 rw [hB] at HT3 hltB
 simp only [hB]
 clear hB
 go_upto_region 3 with (go_at_call 41;refine (E2.out _).mono ?_;rintro e w4 ⟨rfl,k4⟩;have HA4:=Lib.hid (HA3.out.keep k4);have HT4:=Lib.hid (HT3.out.keep k4);have HK4:=Lib.hid (keep_trans HK3.out k4);clear k4 E2)
 clear HA3 HT3 HK3
 obtain ⟨w5,hw5⟩ : ∃ x,x = w4.alloc (.cells #[n64 (limb L 0),n64 (limb L 1),n64 (limb L 2),n64 (limb L 3)] 72):=⟨_,rfl⟩
 have HL5 : Hid (Blk w5 w4.heap.size 72 (uL L)):=by rw [hw5];exact Lib.hid (Blk.new w4 72 (uL L))
 have k5 : Keep w4 w5:=by rw [hw5];exact keep_new _ _
 have HA5:=Lib.hid (HA4.out.keep k5);have HT5:=Lib.hid (HT4.out.keep k5);have HK5:=Lib.hid (keep_trans HK4.out k5)
 have hltD : B < w4.heap.size:=HT4.out.lt
 rw [← hw5]
 clear hw5 k5 HA4 HT4 HK4
 obtain ⟨D,hD⟩ : ∃ X,w4.heap.size = X:=⟨_,rfl⟩
 rw [hD] at HL5 hltD
 simp only [hD]
 clear hD
 by_cases hte : te = 0
 ·subst hte
  have hM:=HM.out
  rw [if_neg (by simp)] at hM
  replace HM:=Lib.hid hM
  clear hM v1
  by_cases hle : le = 0
  ·subst hle
   have t0:=HT5.out.cell 0;have t1:=HT5.out.cell 1;have t2:=HT5.out.cell 2;have t3:=HT5.out.cell 3
   simp only [uL,List.getElem?_cons_succ,List.getElem?_cons_zero] at t0 t1 t2 t3
   have l0:=HL5.out.cell 0;have l1:=HL5.out.cell 1;have l2:=HL5.out.cell 2;have l3:=HL5.out.cell 3
   simp only [uL,List.getElem?_cons_succ,List.getElem?_cons_zero] at l0 l1 l2 l3
   clear v2
   go_upto_region 3 with fail
   by_cases hlt : L < T
   ·have hM:=HM.out
    rw [if_pos (Or.inr hlt)] at hM
    rw [decide_eq_true hlt] at g1
    subst hM
    clear hlt g2 C2 HM
    go_wp2_with (go_at_call 46;refine (C1.out _).mono ?_;rintro e w6 ⟨rfl,k6⟩;have HA6:=Lib.hid (HA5.out.keep k6);have HT6:=Lib.hid (HT5.out.keep k6);have HK6:=Lib.hid (keep_trans HK5.out k6);clear k6 t0 t1 t2 t3 l0 l1 l2 l3)
    exact bodyPost_ret (v:=.int .i64 7) (by simp [results,Tryz.results26]) rfl ⟨rfl,HK6.out⟩
   ·have hM:=HM.out
    rw [if_neg (by intro h;rcases h with h | h;exact h rfl;exact hlt h)] at hM
    rw [decide_eq_false hlt] at g1
    have HM2:=Lib.hid hM
    clear hM hlt HM
    go_upto_region 5 with (go_at_call 46;refine (C1.out _).mono ?_;rintro e w6 ⟨rfl,k6⟩;have HA6:=Lib.hid (HA5.out.keep k6);have HT6:=Lib.hid (HT5.out.keep k6);have HK6:=Lib.hid (keep_trans HK5.out k6);clear k6 t0 t1 t2 t3 l0 l1 l2 l3)
    clear HA5 HT5 HL5 HK5 C1 g1
    refine wp_region_tree (.take [0,2] (.force [1,3] (.take [4] .done))) [] (by kernel_rfl) (by kernel_rfl) (fun w9 k9 => ?_)
    have HT9:=Lib.hid (HT6.out.keep k9);have HA9:=Lib.hid (HA6.out.keep k9);have HK9:=Lib.hid (keep_trans HK6.out k9)
    have hT:=HT9.out
    have t0:=hT.cell 0;have t1:=hT.cell 1;have t2:=hT.cell 2;have t3:=hT.cell 3
    simp only [uL,List.getElem?_cons_zero,List.getElem?_cons_succ] at t0 t1 t2 t3
    have t0':=aft_cell t0;have t1':=aft_cell t1;have t2':=aft_cell t2;have t3':=aft_cell t3
    clear k9 hT t0 t1 t2 t3 HT6 HA6 HK6
    refine mt_take w9 (Below.refl _ _) ?_
    simp only [pick_cons,pick_nil,nth_zero,nth_succ]
    (with_reducible refine wpQuiet_load_partg g 0 cs (Eq.trans ?_ rfl) (range_of HA9.out 0 cs.toList (by rw [List.drop_zero,List.take_of_length_le (Nat.le_refl _)])) (.array 32 5) hash_under (arr_row _ _) hi (Eq.trans ?_ rfl) ?_)
    rfl
    rfl
    simp only [Act.put,Array.set!_eq_setIfInBounds,List.setIfInBounds_toArray,List.set_cons_succ,List.set_cons_zero]
    repeat (go_big_quiet_step (fail))
    refine wpQuiet_nil (mt_force ?_)
    simp only [pick_cons,pick_nil,nth_zero,nth_succ]
    refine fc_step rfl (fun K hK => ?_)
    go_simp
    (with_reducible refine (N1.out _).mono ?_)
    rintro e wa ⟨rfl,ka⟩
    refine hK _ _ ka ?_
    clear hK K t0' t1' t2' t3'
    have HKa:=Lib.hid (keep_trans HK9.out ka)
    clear ka
    refine fc_step rfl (fun K hK => ?_)
    go_simp
    (with_reducible refine (C2.out _).mono ?_)
    rintro e wb ⟨rfl,kb⟩
    refine hK _ _ kb ?_
    clear hK K
    have HKb:=Lib.hid (keep_trans HKa.out kb)
    clear kb
    refine fc_nil (mt_take wb (Below.refl _ _) ?_)
    simp only [pick_cons,pick_nil,nth_zero,nth_succ]
    repeat (go_big_quiet_step (fail))
    refine wpQuiet_nil (mt_end ?_)
    by_cases hw : T < M
    ·have hM:=HM2.out
     rw [if_pos hw] at hM
     have d9 : decide (T < M) = true:=decide_eq_true hw
     subst hM
     clear HM2
     go_wp2
     exact bodyPost_ret (v:=.int .i64 6) (by simp [results,Tryz.results26]) rfl ⟨rfl,HKb.out⟩
    ·have hM:=HM2.out
     rw [if_neg hw] at hM
     have d9 : decide (T < M) = false:=decide_eq_false hw
     subst hM
     clear HM2
     go_wp2
     exact bodyPost_ret (v:=.int .i64 0) (by simp [results,Tryz.results26]) rfl ⟨rfl,HKb.out⟩
  ·have hM:=HM.out
   rw [if_pos (Or.inl hle)] at hM
   subst hM
   have d1 : (le != 0) = true:=by simp [hle]
   clear hle HM v2
   go_wp2
   exact bodyPost_ret (v:=.int .i64 7) (by simp [results,Tryz.results26]) rfl ⟨rfl,HK5.out⟩
 ·have hM:=HM.out
  rw [if_pos hte] at hM
  subst hM
  have d1 : (te != 0) = true:=by simp [hte]
  clear hte HM v1
  go_wp2
  exact bodyPost_ret (v:=.int .i64 7) (by simp [results,Tryz.results26]) rfl ⟨rfl,HK5.out⟩
end Go.Proofs.YtmbbknjddebhoaaGreatDoor
/- florinref05.Scale. (printed by gen_ns.py) -/
set_option linter.unusedSimpArgs false
set_option linter.unusedVariables false
namespace Go.Proofs.YtmbbknjddebhoaaGreatDoor
open Go.RowKit
attribute [local go_sem ↓] Go.wp_at_zero Go.wp_at_succ
theorem sca_q {T num den : Nat} (hd : 0 < den) : T * num / den = T / den * num + T % den * num / den:=by
 have h : T * num = den * (T / den * num) + T % den * num:=by
  have h1:=Nat.div_add_mod T den
  calc T * num = (den * (T / den) + T % den) * num:=by rw [h1]
   _ = den * (T / den * num) + T % den * num:=by rw [Nat.add_mul,Nat.mul_assoc]
 rw [h,Nat.mul_add_div hd]
theorem sca_fin {T L num den A C Q : Nat} {lo ov : Bool} (hd : 0 < den) (hA : T / den * num % 2 ^ 256 = A) (hlo : decide (2 ^ 256 ≤ T / den * num) = lo) (hC : T % den * num / den = C)
  (hQ : (A + C) % 2 ^ 256 = Q) (hov : decide (2 ^ 256 ≤ A + C) = ov) :
  (if 2 ^ 256 ≤ T * num / den ∨ T * num / den = 0 ∨ L < T * num / den then L else T * num / den) = if lo = true ∨ ov = true ∨ Q = 0 ∨ L < Q then L else Q:=by
 rw [sca_q hd,hC]
 by_cases h1 : 2 ^ 256 ≤ T / den * num
 ·rw [decide_eq_true h1] at hlo
  subst hlo
  rw [if_pos (Or.inl (by omega)),if_pos (Or.inl rfl)]
 ·rw [decide_eq_false h1] at hlo
  subst hlo
  rw [Nat.mod_eq_of_lt (Nat.lt_of_not_le h1)] at hA
  rw [hA]
  by_cases h2 : 2 ^ 256 ≤ A + C
  ·rw [decide_eq_true h2] at hov
   subst hov
   rw [if_pos (Or.inl h2),if_pos (Or.inr (Or.inl rfl))]
  ·rw [decide_eq_false h2] at hov
   subst hov
   rw [Nat.mod_eq_of_lt (Nat.lt_of_not_le h2)] at hQ
   rw [hQ] at h2 ⊢
   by_cases h3 : Q = 0 ∨ L < Q
   ·rw [if_pos (Or.inr h3),if_pos (Or.inr (Or.inr h3))]
   ·rw [if_neg (fun h => h.elim h2 h3),if_neg (fun h => h.elim (fun h => by cases h) fun h => h.elim (fun h => by cases h) h3)]
set_option maxRecDepth 100000 in
set_option maxHeartbeats 4000000 in
theorem rscale_any (bits limit : UInt32) (num den : Nat) (w : World) (hn : num < 18446744073709551616) (hd2 : den < 18446744073709551616) :
  Calls Tryz.prog 66 #[u32v bits,n64 num,n64 den,u32v limit] w fun e w' => e = .returned (u32v (scaN bits num den limit))∧Keep w w':=by
 have E1 : Hid (∀ y,Calls Tryz.prog 41 #[u32v bits] y fun e w' => e = .returned (.tuple #[uV (expN bits).1,.int .i64 (expN bits).2])∧Keep y w'):=Lib.hid fun y => rexpand_any bits y
 have E2 : Hid (∀ y,Calls Tryz.prog 41 #[u32v limit] y fun e w' => e = .returned (.tuple #[uV (expN limit).1,.int .i64 (expN limit).2])∧Keep y w'):=Lib.hid fun y => rexpand_any limit y
 have b1:=expN_lt bits;have b2:=expN_lt limit
 have HM : Hid (∀ R,scaN bits num den limit = R → R = if (expN bits).2 ≠ 0 ∨ num = 0 ∨ den = 0 then limit else if (expN limit).2 ≠ 0 then limit else shrN (if 2 ^ 256 ≤ (expN bits).1 * num / den ∨ (expN bits).1 * num / den = 0 ∨ (expN limit).1 < (expN bits).1 * num / den then (expN limit).1 else (expN bits).1 * num / den)):=Lib.hid fun R e => by subst e;rfl
 replace HM:=Lib.hid (HM.out _ rfl)
 generalize scaN bits num den limit = R at *
 generalize expN bits = X at *
 generalize expN limit = Y at *
 obtain ⟨T,te⟩:=X
 obtain ⟨L,le⟩:=Y
 simp only at b1 b2 E1 E2
 have B1:=Lib.hid b1;have B2:=Lib.hid b2
 clear b1 b2
 go_enter Tryz.func66,Tryz.ntmps66
 go_upto_region 2 with (go_at_call 41;refine (E1.out _).mono ?_;rintro e w1 ⟨rfl,k1⟩;have HK1:=Lib.hid k1;clear k1 E1)
 have hg1 : w.heap.size ≤ w1.heap.size:=HK1.out.size
 obtain ⟨g,hg⟩ : ∃ g,w.heap.size = g:=⟨_,rfl⟩
 have HG:=Lib.hid hg
 rw [hg] at hg1
 obtain ⟨w2,hw2⟩ : ∃ x,x = w1.alloc (.cells #[n64 (limb T 0),n64 (limb T 1),n64 (limb T 2),n64 (limb T 3)] 72):=⟨_,rfl⟩
 have HT2 : Hid (Blk w2 w1.heap.size 72 (uL T)):=by rw [hw2];exact Lib.hid (Blk.new w1 72 (uL T))
 have HK2 : Hid (Keep w w2):=by rw [hw2];exact Lib.hid (keep_trans HK1.out (keep_new _ _))
 rw [← hw2]
 clear hw2 HK1 hg
 obtain ⟨B,hB⟩ : ∃ X,w1.heap.size = X:=⟨_,rfl⟩
 rw [hB] at HT2 hg1
 simp only [hB]
 clear hB
 go_upto_region 3 with (go_at_call 41;refine (E2.out _).mono ?_;rintro e w3 ⟨rfl,k3⟩;have HT3:=Lib.hid (HT2.out.keep k3);have HK3:=Lib.hid (keep_trans HK2.out k3);clear k3 E2)
 clear HT2 HK2
 obtain ⟨w4,hw4⟩ : ∃ x,x = w3.alloc (.cells #[n64 (limb L 0),n64 (limb L 1),n64 (limb L 2),n64 (limb L 3)] 72):=⟨_,rfl⟩
 have HL4 : Hid (Blk w4 w3.heap.size 72 (uL L)):=by rw [hw4];exact Lib.hid (Blk.new w3 72 (uL L))
 have k4 : Keep w3 w4:=by rw [hw4];exact keep_new _ _
 have HT4:=Lib.hid (HT3.out.keep k4);have HK4:=Lib.hid (keep_trans HK3.out k4)
 have hltD : B < w3.heap.size:=HT3.out.lt
 rw [← hw4]
 clear hw4 k4 HT3 HK3
 obtain ⟨D,hD⟩ : ∃ X,w3.heap.size = X:=⟨_,rfl⟩
 rw [hD] at HL4 hltD
 simp only [hD]
 clear hD
 by_cases hbad : te ≠ 0 ∨ num = 0 ∨ den = 0
 ·have hM:=HM.out
  rw [if_pos hbad] at hM
  subst hM
  clear HM
  by_cases h1 : te = 0
  ·subst h1
   by_cases hle : le = 0
   ·subst hle
    by_cases h2 : num = 0
    ·subst h2
     clear hbad
     go_wp2
     exact bodyPost_ret (v:=u32v R) (by simp [results,Tryz.results66]) rfl ⟨rfl,HK4.out⟩
    ·have h3 : den = 0:=hbad.resolve_left (by simp) |>.resolve_left h2
     subst h3
     have d1 : (num == 0) = false:=by simp [h2]
     have d2 : ((num : Int) == 0) = false:=by rw [beq_eq_false_iff_ne];omega
     clear hbad h2
     go_wp2
     exact bodyPost_ret (v:=u32v R) (by simp [results,Tryz.results66]) rfl ⟨rfl,HK4.out⟩
   ·have d1 : (le != 0) = true:=by simp [hle]
    clear hbad hle
    go_wp2
    exact bodyPost_ret (v:=u32v R) (by simp [results,Tryz.results66]) rfl ⟨rfl,HK4.out⟩
  ·have d1 : (te != 0) = true:=by simp [h1]
   clear hbad h1
   go_wp2
   exact bodyPost_ret (v:=u32v R) (by simp [results,Tryz.results66]) rfl ⟨rfl,HK4.out⟩
 ·have hM:=HM.out
  rw [if_neg hbad] at hM
  replace HM:=Lib.hid hM
  have h1 : te = 0:=Classical.byContradiction fun e => hbad (Or.inl e)
  have h2 : num ≠ 0:=fun e => hbad (Or.inr (Or.inl e))
  have h3 : den ≠ 0:=fun e => hbad (Or.inr (Or.inr e))
  subst h1
  clear hM hbad
  by_cases hle : le = 0
  ·subst hle
   have hM:=HM.out
   rw [if_neg (by simp)] at hM
   have d1 : (num == 0) = false:=by simp [h2]
   have d2 : ((num : Int) == 0) = false:=by rw [beq_eq_false_iff_ne];omega
   have d3 : (den == 0) = false:=by simp [h3]
   have d4 : ((den : Int) == 0) = false:=by rw [beq_eq_false_iff_ne];omega
   have h64 : (18446744073709551616 : Nat) = 2 ^ 64:=by decide
   have hdp : 0 < den:=by omega
   have hp64 : (2 : Nat) ^ 64 < 2 ^ 256:=by decide
   have hden : den < 2 ^ 256:=by omega
   have hreN : T % den * num < 2 ^ 256:=by
    have q1 : T % den < 2 ^ 64:=by have:=Nat.mod_lt T hdp;omega
    have q2 : T % den * num < 2 ^ 64 * 2 ^ 64:=Nat.mul_lt_mul_of_lt_of_lt q1 (by omega)
    have q3 : (2 : Nat) ^ 64 * 2 ^ 64 ≤ 2 ^ 256:=by decide
    omega
   have O1 : Hid (∀ y,Calls Tryz.prog 60 #[n64 den] y fun e w' => e = .returned (uV den)∧Keep y w'):=Lib.hid fun y => rof_any den y (by omega)
   have D1 : Hid (∀ y,Calls Tryz.prog 83 #[uV T,uV den] y fun e w' => e = .returned (.tuple #[uV (T / den),uV (T % den),.bool true])∧Keep y w'):=Lib.hid fun y => rdiv_any T den y B1.out hden hdp
   have M1 : Hid (∀ y,Calls Tryz.prog 84 #[uV (T / den),n64 num] y fun e w' => e = .returned (.tuple #[uV (T / den * num % 2 ^ 256),.bool (decide (2 ^ 256 ≤ T / den * num))])∧Keep y w'):=Lib.hid fun y => rmul_any (T / den) num y (Nat.lt_of_le_of_lt (Nat.div_le_self _ _) B1.out) (by omega)
   have M2 : Hid (∀ y,Calls Tryz.prog 84 #[uV (T % den),n64 num] y fun e w' => e = .returned (.tuple #[uV (T % den * num),.bool (decide (2 ^ 256 ≤ T % den * num))])∧Keep y w'):=Lib.hid fun y => by
    have q:=rmul_any (T % den) num y (Nat.lt_of_le_of_lt (Nat.mod_le _ _) B1.out) (by omega)
    rwa [Nat.mod_eq_of_lt hreN] at q
   have D2 : Hid (∀ y,Calls Tryz.prog 83 #[uV (T % den * num),uV den] y fun e w' => e = .returned (.tuple #[uV (T % den * num / den),uV (T % den * num % den),.bool true])∧Keep y w'):=Lib.hid fun y => rdiv_any _ den y hreN hden hdp
   have A1 : Hid (∀ y,Calls Tryz.prog 85 #[uV (T / den * num % 2 ^ 256),uV (T % den * num / den)] y fun e w' => e = .returned (.tuple #[uV ((T / den * num % 2 ^ 256 + T % den * num / den) % 2 ^ 256),.bool (decide (2 ^ 256 ≤ T / den * num % 2 ^ 256 + T % den * num / den))])∧Keep y w'):=Lib.hid fun y => radd_any _ _ y (Nat.mod_lt _ (Nat.two_pow_pos _)) (Nat.lt_of_le_of_lt (Nat.div_le_self _ _) hreN)
   rw [sca_fin (L:=L) hdp rfl rfl rfl rfl rfl] at hM
   have HF:=Lib.hid hM
   clear hM HM h64 hp64 hden hreN hdp
   generalize decide (2 ^ 256 ≤ T / den * num % 2 ^ 256 + T % den * num / den) = ov at *
   obtain ⟨Q,hQ⟩ : ∃ Q,(T / den * num % 2 ^ 256 + T % den * num / den) % 2 ^ 256 = Q:=⟨_,rfl⟩
   have hQ2 : Q < 2 ^ 256:=by rw [← hQ];exact Nat.mod_lt _ (Nat.two_pow_pos _)
   have HQ2:=Lib.hid hQ2
   clear hQ2
   rw [hQ] at A1 HF
   clear hQ
   generalize decide (2 ^ 256 ≤ T / den * num) = lo at *
   generalize decide (2 ^ 256 ≤ T % den * num) = l2 at *
   generalize T / den * num % 2 ^ 256 = A at *
   generalize T % den * num / den = C at *
   generalize T % den * num % den = C2 at *
   generalize T % den * num = Z at *
   generalize T / den = wh at *
   generalize T % den = re at *
   have C1 : Hid (∀ y,Calls Tryz.prog 46 #[uV Q,uV L] y fun e w' => e = .returned (.int .i64 (cmpN Q L))∧Keep y w'):=Lib.hid fun y => rcmp_any Q L y HQ2.out B2.out
   have g1:=cmpN_gt Q L
   generalize cmpN Q L = c1 at *
   have HG1:=Lib.hid g1
   clear g1 hn hd2
   have HSR : Hid (∀ y,Calls Tryz.prog 86 #[uV (if lo = true ∨ ov = true ∨ Q = 0 ∨ L < Q then L else Q)] y fun e w' => e = .returned (u32v R)∧Keep y w'):=Lib.hid fun y => by
    rw [HF.out]
    refine rshrink_any _ y ?_
    split
    ·exact B2.out
    ·exact HQ2.out
   clear HF
   go_upto_region 5 with fail
   clear d1 d2 d3 d4 h2 h3
   go_upto_region 6 with (go_at_call 60;refine (O1.out _).mono ?_;rintro e w5 ⟨rfl,k5⟩;have HT5:=Lib.hid (HT4.out.keep k5);have HL5:=Lib.hid (HL4.out.keep k5);have HK5:=Lib.hid (keep_trans HK4.out k5);clear k5 O1)
   clear HT4 HL4 HK4
   obtain ⟨w6,hw6⟩ : ∃ x,x = w5.alloc (.cells #[n64 (limb den 0),n64 (limb den 1),n64 (limb den 2),n64 (limb den 3)] 72):=⟨_,rfl⟩
   have HN6 : Hid (Blk w6 w5.heap.size 72 (uL den)):=by rw [hw6];exact Lib.hid (Blk.new w5 72 (uL den))
   have k6 : Keep w5 w6:=by rw [hw6];exact keep_new _ _
   have HT6:=Lib.hid (HT5.out.keep k6);have HL6:=Lib.hid (HL5.out.keep k6);have HK6:=Lib.hid (keep_trans HK5.out k6)
   have hltE : D < w5.heap.size:=HL5.out.lt
   rw [← hw6]
   clear hw6 k6 HT5 HL5 HK5
   obtain ⟨E,hE⟩ : ∃ X,w5.heap.size = X:=⟨_,rfl⟩
   rw [hE] at HN6 hltE
   simp only [hE]
   clear hE
   have a0:=HT6.out.cell 0;have a1:=HT6.out.cell 1;have a2:=HT6.out.cell 2;have a3:=HT6.out.cell 3
   simp only [uL,List.getElem?_cons_succ,List.getElem?_cons_zero] at a0 a1 a2 a3
   have b0:=HN6.out.cell 0;have b1:=HN6.out.cell 1;have b2:=HN6.out.cell 2;have b3:=HN6.out.cell 3
   simp only [uL,List.getElem?_cons_succ,List.getElem?_cons_zero] at b0 b1 b2 b3
   go_upto_region 7 with (go_at_call 83;refine (D1.out _).mono ?_;rintro e w7 ⟨rfl,k7⟩;have HT7:=Lib.hid (HT6.out.keep k7);have HL7:=Lib.hid (HL6.out.keep k7);have HN7:=Lib.hid (HN6.out.keep k7);have HK7:=Lib.hid (keep_trans HK6.out k7);clear k7 D1 a0 a1 a2 a3 b0 b1 b2 b3)
   clear HT6 HL6 HN6 HK6
   obtain ⟨w8,hw8⟩ : ∃ x,x = (w7.alloc (.cells #[n64 (limb wh 0),n64 (limb wh 1),n64 (limb wh 2),n64 (limb wh 3)] 72)).alloc (.cells #[n64 (limb re 0),n64 (limb re 1),n64 (limb re 2),n64 (limb re 3)] 72):=⟨_,rfl⟩
   have HW8 : Hid (Blk w8 w7.heap.size 72 (uL wh)):=by rw [hw8];exact Lib.hid ((Blk.new w7 72 (uL wh)).alloc _)
   have HY8 : Hid (Blk w8 (w7.heap.size + 1) 72 (uL re)):=by
    rw [hw8]
    have q:=Blk.new (w7.alloc (.cells #[n64 (limb wh 0),n64 (limb wh 1),n64 (limb wh 2),n64 (limb wh 3)] 72)) 72 (uL re)
    rw [World.size_alloc] at q
    exact Lib.hid q
   have k8 : Keep w7 w8:=by rw [hw8];exact keep_trans (keep_new _ _) (keep_new _ _)
   have HT8:=Lib.hid (HT7.out.keep k8);have HL8:=Lib.hid (HL7.out.keep k8);have HN8:=Lib.hid (HN7.out.keep k8);have HK8:=Lib.hid (keep_trans HK7.out k8)
   have hltF1 : E < w7.heap.size:=HN7.out.lt
   rw [← hw8]
   clear hw8 k8 HT7 HL7 HN7 HK7
   obtain ⟨F1,hF1⟩ : ∃ X,w7.heap.size = X:=⟨_,rfl⟩
   obtain ⟨F2,hF2⟩ : ∃ X,F1 + 1 = X:=⟨_,rfl⟩
   rw [hF1] at HW8 HY8 hltF1
   rw [hF2] at HY8
   simp only [hF1,hF2]
   have hltF2 : F1 < F2:=by omega
   clear hF1 hF2
   have a0:=HW8.out.cell 0;have a1:=HW8.out.cell 1;have a2:=HW8.out.cell 2;have a3:=HW8.out.cell 3
   simp only [uL,List.getElem?_cons_succ,List.getElem?_cons_zero] at a0 a1 a2 a3
   go_upto_region 8 with (go_at_call 84;refine (M1.out _).mono ?_;rintro e w9 ⟨rfl,k9⟩;have HL9:=Lib.hid (HL8.out.keep k9);have HN9:=Lib.hid (HN8.out.keep k9);have HW9:=Lib.hid (HW8.out.keep k9);have HY9:=Lib.hid (HY8.out.keep k9);have HK9:=Lib.hid (keep_trans HK8.out k9);clear k9 M1 a0 a1 a2 a3)
   clear HL8 HN8 HW8 HY8 HK8
   obtain ⟨w10,hw10⟩ : ∃ x,x = w9.alloc (.cells #[n64 (limb A 0),n64 (limb A 1),n64 (limb A 2),n64 (limb A 3)] 72):=⟨_,rfl⟩
   have HA10 : Hid (Blk w10 w9.heap.size 72 (uL A)):=by rw [hw10];exact Lib.hid (Blk.new w9 72 (uL A))
   have k10 : Keep w9 w10:=by rw [hw10];exact keep_new _ _
   have HL10:=Lib.hid (HL9.out.keep k10);have HN10:=Lib.hid (HN9.out.keep k10);have HW10:=Lib.hid (HW9.out.keep k10);have HY10:=Lib.hid (HY9.out.keep k10);have HK10:=Lib.hid (keep_trans HK9.out k10)
   have hltF3 : F2 < w9.heap.size:=HY9.out.lt
   rw [← hw10]
   clear hw10 k10 HL9 HN9 HW9 HY9 HK9
   obtain ⟨F3,hF3⟩ : ∃ X,w9.heap.size = X:=⟨_,rfl⟩
   rw [hF3] at HA10 hltF3
   simp only [hF3]
   clear hF3
   have a0:=HY10.out.cell 0;have a1:=HY10.out.cell 1;have a2:=HY10.out.cell 2;have a3:=HY10.out.cell 3
   simp only [uL,List.getElem?_cons_succ,List.getElem?_cons_zero] at a0 a1 a2 a3
   go_upto_region 9 with (go_at_call 84;refine (M2.out _).mono ?_;rintro e w11 ⟨rfl,k11⟩;have HL11:=Lib.hid (HL10.out.keep k11);have HN11:=Lib.hid (HN10.out.keep k11);have HY11:=Lib.hid (HY10.out.keep k11);have HA11:=Lib.hid (HA10.out.keep k11);have HK11:=Lib.hid (keep_trans HK10.out k11);clear k11 M2 a0 a1 a2 a3)
   clear HL10 HN10 HY10 HA10 HK10
   obtain ⟨w12,hw12⟩ : ∃ x,x = w11.alloc (.cells #[n64 (limb Z 0),n64 (limb Z 1),n64 (limb Z 2),n64 (limb Z 3)] 72):=⟨_,rfl⟩
   have HZ12 : Hid (Blk w12 w11.heap.size 72 (uL Z)):=by rw [hw12];exact Lib.hid (Blk.new w11 72 (uL Z))
   have k12 : Keep w11 w12:=by rw [hw12];exact keep_new _ _
   have HL12:=Lib.hid (HL11.out.keep k12);have HN12:=Lib.hid (HN11.out.keep k12);have HY12:=Lib.hid (HY11.out.keep k12);have HA12:=Lib.hid (HA11.out.keep k12);have HK12:=Lib.hid (keep_trans HK11.out k12)
   have hltF4 : F3 < w11.heap.size:=HA11.out.lt
   rw [← hw12]
   clear hw12 k12 HL11 HN11 HY11 HA11 HK11
   obtain ⟨F4,hF4⟩ : ∃ X,w11.heap.size = X:=⟨_,rfl⟩
   rw [hF4] at HZ12 hltF4
   simp only [hF4]
   clear hF4
   have a0:=HZ12.out.cell 0;have a1:=HZ12.out.cell 1;have a2:=HZ12.out.cell 2;have a3:=HZ12.out.cell 3
   simp only [uL,List.getElem?_cons_succ,List.getElem?_cons_zero] at a0 a1 a2 a3
   have b0:=HN12.out.cell 0;have b1:=HN12.out.cell 1;have b2:=HN12.out.cell 2;have b3:=HN12.out.cell 3
   simp only [uL,List.getElem?_cons_succ,List.getElem?_cons_zero] at b0 b1 b2 b3
   go_upto_region 10 with (go_at_call 83;refine (D2.out _).mono ?_;rintro e w13 ⟨rfl,k13⟩;have HL13:=Lib.hid (HL12.out.keep k13);have HN13:=Lib.hid (HN12.out.keep k13);have HA13:=Lib.hid (HA12.out.keep k13);have HZ13:=Lib.hid (HZ12.out.keep k13);have HK13:=Lib.hid (keep_trans HK12.out k13);clear k13 D2 a0 a1 a2 a3 b0 b1 b2 b3)
   clear HL12 HN12 HA12 HZ12 HK12
   obtain ⟨w14,hw14⟩ : ∃ x,x = (w13.alloc (.cells #[n64 (limb C 0),n64 (limb C 1),n64 (limb C 2),n64 (limb C 3)] 72)).alloc (.cells #[n64 (limb C2 0),n64 (limb C2 1),n64 (limb C2 2),n64 (limb C2 3)] 72):=⟨_,rfl⟩
   have HC14 : Hid (Blk w14 w13.heap.size 72 (uL C)):=by rw [hw14];exact Lib.hid ((Blk.new w13 72 (uL C)).alloc _)
   have HV14 : Hid (Blk w14 (w13.heap.size + 1) 72 (uL C2)):=by
    rw [hw14]
    have q:=Blk.new (w13.alloc (.cells #[n64 (limb C 0),n64 (limb C 1),n64 (limb C 2),n64 (limb C 3)] 72)) 72 (uL C2)
    rw [World.size_alloc] at q
    exact Lib.hid q
   have k14 : Keep w13 w14:=by rw [hw14];exact keep_trans (keep_new _ _) (keep_new _ _)
   have HL14:=Lib.hid (HL13.out.keep k14);have HN14:=Lib.hid (HN13.out.keep k14);have HA14:=Lib.hid (HA13.out.keep k14);have HZ14:=Lib.hid (HZ13.out.keep k14);have HK14:=Lib.hid (keep_trans HK13.out k14)
   have hltF5 : F4 < w13.heap.size:=HZ13.out.lt
   rw [← hw14]
   clear hw14 k14 HL13 HN13 HA13 HZ13 HK13
   obtain ⟨F5,hF5⟩ : ∃ X,w13.heap.size = X:=⟨_,rfl⟩
   obtain ⟨F6,hF6⟩ : ∃ X,F5 + 1 = X:=⟨_,rfl⟩
   rw [hF5] at HC14 HV14 hltF5
   rw [hF6] at HV14
   simp only [hF5,hF6]
   have hltF6 : F5 < F6:=by omega
   clear hF5 hF6
   have a0:=HA14.out.cell 0;have a1:=HA14.out.cell 1;have a2:=HA14.out.cell 2;have a3:=HA14.out.cell 3
   simp only [uL,List.getElem?_cons_succ,List.getElem?_cons_zero] at a0 a1 a2 a3
   have b0:=HC14.out.cell 0;have b1:=HC14.out.cell 1;have b2:=HC14.out.cell 2;have b3:=HC14.out.cell 3
   simp only [uL,List.getElem?_cons_succ,List.getElem?_cons_zero] at b0 b1 b2 b3
   go_upto_region 11 with (go_at_call 85;refine (A1.out _).mono ?_;rintro e w15 ⟨rfl,k15⟩;have HL15:=Lib.hid (HL14.out.keep k15);have HA15:=Lib.hid (HA14.out.keep k15);have HC15:=Lib.hid (HC14.out.keep k15);have HK15:=Lib.hid (keep_trans HK14.out k15);clear k15 A1 a0 a1 a2 a3 b0 b1 b2 b3)
   clear HL14 HA14 HC14 HK14
   obtain ⟨w16,hw16⟩ : ∃ x,x = w15.alloc (.cells #[n64 (limb Q 0),n64 (limb Q 1),n64 (limb Q 2),n64 (limb Q 3)] 72):=⟨_,rfl⟩
   have HQ16 : Hid (Blk w16 w15.heap.size 72 (uL Q)):=by rw [hw16];exact Lib.hid (Blk.new w15 72 (uL Q))
   have k16 : Keep w15 w16:=by rw [hw16];exact keep_new _ _
   have HL16:=Lib.hid (HL15.out.keep k16);have HA16:=Lib.hid (HA15.out.keep k16);have HC16:=Lib.hid (HC15.out.keep k16);have HK16:=Lib.hid (keep_trans HK15.out k16)
   have hltF7 : F5 < w15.heap.size:=HC15.out.lt
   rw [← hw16]
   clear hw16 k16 HL15 HA15 HC15 HK15
   obtain ⟨F7,hF7⟩ : ∃ X,w15.heap.size = X:=⟨_,rfl⟩
   rw [hF7] at HQ16 hltF7
   simp only [hF7]
   clear hF7
   have hDF : D < F7:=by omega
   obtain ⟨S,hS⟩ : ∃ S,(if lo = true ∨ ov = true ∨ Q = 0 ∨ L < Q then L else Q) = S:=⟨_,rfl⟩
   rw [hS] at HSR
   have HS:=Lib.hid hS
   clear hS
   go_cut [99] (fun v wx => ∃ b : Bool,v = .bool b∧Hid ((if b = true then L else Q) = S)∧Hid (Blk wx D 72 (uL L))∧Hid (Blk wx F7 72 (uL Q))∧Hid (Keep w wx))
   case first =>
    cases lo with
    | true =>
      go_wp2
      go_meet
      exact ⟨true,rfl,Lib.hid (by rw [← HS.out];simp),HL16,HQ16,HK16⟩
    | false =>
      cases ov with
      | true =>
        go_wp2
        go_meet
        exact ⟨true,rfl,Lib.hid (by rw [← HS.out];simp),HL16,HQ16,HK16⟩
      | false =>
        have heq : (Op.equalIn 10000 72 (.agg #[n64 (limb Q 0),n64 (limb Q 1),n64 (limb Q 2),n64 (limb Q 3)]) (.agg #[.int .u64 0,.int .u64 0,.int .u64 0,.int .u64 0])).run Tryz.prog w16 = .ok (decide (Q = 0)) w16:=rU_eq HQ2.out (Nat.two_pow_pos 256) w16
        have t0:=HQ16.out.cell 0;have t1:=HQ16.out.cell 1;have t2:=HQ16.out.cell 2;have t3:=HQ16.out.cell 3
        simp only [uL,List.getElem?_cons_succ,List.getElem?_cons_zero] at t0 t1 t2 t3
        have a0:=HL16.out.cell 0;have a1:=HL16.out.cell 1;have a2:=HL16.out.cell 2;have a3:=HL16.out.cell 3
        simp only [uL,List.getElem?_cons_succ,List.getElem?_cons_zero] at a0 a1 a2 a3
        by_cases h0 : Q = 0
        ·rw [decide_eq_true h0] at heq
         have HQ0:=Lib.hid h0
         clear h0
         go_wp2
         go_meet
         exact ⟨true,rfl,Lib.hid (by rw [← HS.out];simp [HQ0.out]),HL16,HQ16,HK16⟩
        ·rw [decide_eq_false h0] at heq
         have g1:=HG1.out
         by_cases hlt : L < Q
         ·rw [decide_eq_true hlt] at g1
          have HLT:=Lib.hid (And.intro h0 hlt)
          clear hlt h0
          go_wp2_with (go_at_call 46;refine (C1.out _).mono ?_;rintro e w17 ⟨rfl,k17⟩;have HL17:=Lib.hid (HL16.out.keep k17);have HQ17:=Lib.hid (HQ16.out.keep k17);have HK17:=Lib.hid (keep_trans HK16.out k17);clear k17 t0 t1 t2 t3 a0 a1 a2 a3)
          go_meet
          exact ⟨true,rfl,Lib.hid (by rw [← HS.out];simp [HLT.out.1,HLT.out.2]),HL17,HQ17,HK17⟩
         ·rw [decide_eq_false hlt] at g1
          have HLT:=Lib.hid (And.intro h0 hlt)
          clear hlt h0
          go_wp2_with (go_at_call 46;refine (C1.out _).mono ?_;rintro e w17 ⟨rfl,k17⟩;have HL17:=Lib.hid (HL16.out.keep k17);have HQ17:=Lib.hid (HQ16.out.keep k17);have HK17:=Lib.hid (keep_trans HK16.out k17);clear k17 t0 t1 t2 t3 a0 a1 a2 a3)
          go_meet
          exact ⟨false,rfl,Lib.hid (by rw [← HS.out];simp [HLT.out.1,HLT.out.2]),HL17,HQ17,HK17⟩
   case rest =>
    obtain ⟨b,rfl,HB,HL18,HQ18,HK18⟩:=hcut
    clear HS HL16 HQ16 HK16
    generalize wc = w18 at *
    cases b with
    | true =>
      have hS:=HB.out
      rw [if_pos rfl] at hS
      subst hS
      clear HB
      have a0:=HL18.out.cell 0;have a1:=HL18.out.cell 1;have a2:=HL18.out.cell 2;have a3:=HL18.out.cell 3
      simp only [uL,List.getElem?_cons_succ,List.getElem?_cons_zero] at a0 a1 a2 a3
      have t0:=HQ18.out.cell 0;have t1:=HQ18.out.cell 1;have t2:=HQ18.out.cell 2;have t3:=HQ18.out.cell 3
      simp only [uL,List.getElem?_cons_succ,List.getElem?_cons_zero] at t0 t1 t2 t3
      have f0:=HQ18.out.frozen 0;have f1:=HQ18.out.frozen 1;have f2:=HQ18.out.frozen 2;have f3:=HQ18.out.frozen 3
      go_upto_region 13 with fail
      clear a0 a1 a2 a3 t0 t1 t2 t3 f0 f1 f2 f3
      obtain ⟨w19,hw19⟩ : ∃ x,x = (((w18.setCell ⟨F7,0,none⟩ (n64 (limb L 0))).setCell ⟨F7,1,none⟩ (n64 (limb L 1))).setCell ⟨F7,2,none⟩ (n64 (limb L 2))).setCell ⟨F7,3,none⟩ (n64 (limb L 3)):=⟨_,rfl⟩
      have hgw : w18.grownBy w19 (some F7):=by rw [hw19];exact grown_set (grown_set (grown_set (grown_set (grown_refl _ _))))
      have HQ19 : Hid (Blk w19 F7 72 (uL L)):=by rw [hw19];exact Lib.hid ((((HQ18.out.set_ 0 _).set_ 1 _).set_ 2 _).set_ 3 _)
      have HK19 : Hid (Keep w w19):=Lib.hid (HK18.out.grown hgw HK18.out.size (fun q hq => by have:=Option.some.inj hq;have:=HG.out;omega))
      rw [← hw19]
      clear hw19 hgw HQ18 HK18
      have t0:=HQ19.out.cell 0;have t1:=HQ19.out.cell 1;have t2:=HQ19.out.cell 2;have t3:=HQ19.out.cell 3
      simp only [uL,List.getElem?_cons_succ,List.getElem?_cons_zero] at t0 t1 t2 t3
      go_wp2_with (go_at_call 86;refine (HSR.out _).mono ?_;rintro e w29 ⟨rfl,k29⟩;have HK29:=Lib.hid (keep_trans HK19.out k29);clear k29)
      exact bodyPost_ret (v:=u32v R) (by simp [results,Tryz.results66]) rfl ⟨rfl,HK29.out⟩
    | false =>
      have hS:=HB.out
      rw [if_neg (by simp)] at hS
      subst hS
      clear HB
      have t0:=HQ18.out.cell 0;have t1:=HQ18.out.cell 1;have t2:=HQ18.out.cell 2;have t3:=HQ18.out.cell 3
      simp only [uL,List.getElem?_cons_succ,List.getElem?_cons_zero] at t0 t1 t2 t3
      go_wp2_with (go_at_call 86;refine (HSR.out _).mono ?_;rintro e w29 ⟨rfl,k29⟩;have HK29:=Lib.hid (keep_trans HK18.out k29);clear k29)
      exact bodyPost_ret (v:=u32v R) (by simp [results,Tryz.results66]) rfl ⟨rfl,HK29.out⟩
  ·have hM:=HM.out
   rw [if_pos hle] at hM
   subst hM
   have d1 : (le != 0) = true:=by simp [hle]
   clear hle HM h2 h3
   go_wp2
   exact bodyPost_ret (v:=u32v R) (by simp [results,Tryz.results66]) rfl ⟨rfl,HK4.out⟩
end Go.Proofs.YtmbbknjddebhoaaGreatDoor
/- florinref13: Sane, Clamp, First. (printed by gen_nra.py) -/
set_option linter.unusedSimpArgs false
set_option linter.unusedVariables false
namespace Go.Proofs.YtmbbknjddebhoaaGreatDoor
open Go.RowKit
attribute [local go_sem ↓] Go.wp_at_zero Go.wp_at_succ
theorem saneR_bools (p : Par) : saneR p = (!decide (p.itv < 1) && (!decide (1048576 < p.itv) && (!decide (p.span < 4) && (!decide (1099511627776 < p.span) && (decide ((expN p.limit).2 = 0) && (decide (0 ≤ p.fut) && (decide (p.fut ≤ 4294967296) && (decide (0 ≤ p.idx) && (decide (p.idx ≤ 1048576) && (decide (0 ≤ p.orp) && (decide (p.orp ≤ 1048576) && (decide (p.chks.length ≤ 100))))))))))))):=by
 rw [Bool.eq_iff_iff,saneR_iff]
 simp only [Bool.and_eq_true,Bool.not_eq_true',decide_eq_true_eq,decide_eq_false_iff_not]
 omega
set_option maxRecDepth 100000 in
set_option maxHeartbeats 4000000 in
theorem rsane_any (p : Par) (A : Option Addr) (c : Nat) (w : World) : Calls Tryz.prog 23 #[parV p A c] w fun e w' => e = .returned (.bool (saneR p))∧Keep w w':=by
 have E1 : Hid (∀ y,Calls Tryz.prog 41 #[u32v p.limit] y fun e w' => e = .returned (.tuple #[uV (expN p.limit).1,.int .i64 (expN p.limit).2])∧Keep y w'):=Lib.hid fun y => rexpand_any p.limit y
 rw [saneR_bools]
 unfold parV
 generalize p.limit = limit at *
 generalize p.itv = itv at *
 generalize p.span = span at *
 generalize p.fut = fut at *
 generalize p.idx = idx at *
 generalize p.orp = orp at *
 generalize p.chks.length = n at *
 generalize expN limit = X at *
 obtain ⟨L,le⟩:=X
 simp only at E1 ⊢
 obtain ⟨i1,gi1⟩ : ∃ b,decide (itv < 1) = b:=⟨_,rfl⟩
 obtain ⟨i2,gi2⟩ : ∃ b,decide (1048576 < itv) = b:=⟨_,rfl⟩
 obtain ⟨s1,gs1⟩ : ∃ b,decide (span < 4) = b:=⟨_,rfl⟩
 obtain ⟨s2,gs2⟩ : ∃ b,decide (1099511627776 < span) = b:=⟨_,rfl⟩
 obtain ⟨l1,gl1⟩ : ∃ b,decide (le = 0) = b:=⟨_,rfl⟩
 obtain ⟨f1,gf1⟩ : ∃ b,decide (0 ≤ fut) = b:=⟨_,rfl⟩
 obtain ⟨f2,gf2⟩ : ∃ b,decide (fut ≤ 4294967296) = b:=⟨_,rfl⟩
 obtain ⟨x1,gx1⟩ : ∃ b,decide (0 ≤ idx) = b:=⟨_,rfl⟩
 obtain ⟨x2,gx2⟩ : ∃ b,decide (idx ≤ 1048576) = b:=⟨_,rfl⟩
 obtain ⟨o1,go1⟩ : ∃ b,decide (0 ≤ orp) = b:=⟨_,rfl⟩
 obtain ⟨o2,go2⟩ : ∃ b,decide (orp ≤ 1048576) = b:=⟨_,rfl⟩
 obtain ⟨n1,gn1⟩ : ∃ b,decide (n ≤ 100) = b:=⟨_,rfl⟩
 rw [gi1,gi2,gs1,gs2,gl1,gf1,gf2,gx1,gx2,go1,go2,gn1]
 have gl2 : (le != 0) = !l1:=by rw [← gl1];by_cases h : le = 0 <;> simp [h]
 have gn2 : decide ((n : Int) ≤ 100) = n1:=by rw [← gn1];simp;omega
 clear gl1 gn1
 go_enter Tryz.func23,Tryz.ntmps23
 go_upto_region 1 with fail
 obtain ⟨w1,hw1⟩ : ∃ x,x = w.alloc (.cells #[u32v limit,iv itv,iv span,iv fut,iv idx,iv orp,.slice A n c] 25):=⟨_,rfl⟩
 have HP1 : Hid (Blk w1 w.heap.size 25 [u32v limit,iv itv,iv span,iv fut,iv idx,iv orp,.slice A n c]):=by rw [hw1];exact Lib.hid (Blk.new w 25 [u32v limit,iv itv,iv span,iv fut,iv idx,iv orp,.slice A n c])
 have HK1 : Hid (Keep w w1):=by rw [hw1];exact Lib.hid (keep_new _ _)
 rw [← hw1]
 clear hw1
 have p0:=HP1.out.cell 0
 simp only [List.getElem?_cons_zero] at p0
 go_upto_region 2 with (go_at_call 41;refine (E1.out _).mono ?_;rintro e w2 ⟨rfl,k2⟩;have HP2:=Lib.hid (HP1.out.keep k2);have HK2:=Lib.hid (keep_trans HK1.out k2);clear k2 E1 p0)
 obtain ⟨w3,hw3⟩ : ∃ x,x = w2.alloc (.cells #[n64 (limb L 0),n64 (limb L 1),n64 (limb L 2),n64 (limb L 3)] 72):=⟨_,rfl⟩
 have HP3 : Hid (Blk w3 w.heap.size 25 [u32v limit,iv itv,iv span,iv fut,iv idx,iv orp,.slice A n c]):=by rw [hw3];exact Lib.hid (HP2.out.alloc _)
 have HK3 : Hid (Keep w w3):=by rw [hw3];exact Lib.hid (keep_trans HK2.out (keep_new _ _))
 rw [← hw3]
 clear hw3 HP1 HP2 HK1 HK2
 have p1:=HP3.out.cell 1;have p2:=HP3.out.cell 2;have p3:=HP3.out.cell 3;have p4:=HP3.out.cell 4;have p5:=HP3.out.cell 5;have p6:=HP3.out.cell 6
 simp only [List.getElem?_cons_zero,List.getElem?_cons_succ] at p1 p2 p3 p4 p5 p6
 cases i1 with
 | true =>
   go_wp2
   exact bodyPost_ret (v:=.bool false) (by simp [results,Tryz.results23]) rfl ⟨rfl,HK3.out⟩
 | false =>
   cases i2 with
   | true =>
     go_wp2
     exact bodyPost_ret (v:=.bool false) (by simp [results,Tryz.results23]) rfl ⟨rfl,HK3.out⟩
   | false =>
     cases s1 with
     | true =>
       go_wp2
       exact bodyPost_ret (v:=.bool false) (by simp [results,Tryz.results23]) rfl ⟨rfl,HK3.out⟩
     | false =>
       cases s2 with
       | true =>
         go_wp2
         exact bodyPost_ret (v:=.bool false) (by simp [results,Tryz.results23]) rfl ⟨rfl,HK3.out⟩
       | false =>
         cases l1 with
         | false =>
           go_wp2
           exact bodyPost_ret (v:=.bool false) (by simp [results,Tryz.results23]) rfl ⟨rfl,HK3.out⟩
         | true =>
           cases f1 with
           | false =>
             go_wp2
             exact bodyPost_ret (v:=.bool false) (by simp [results,Tryz.results23]) rfl ⟨rfl,HK3.out⟩
           | true =>
             cases f2 with
             | false =>
               go_wp2
               exact bodyPost_ret (v:=.bool false) (by simp [results,Tryz.results23]) rfl ⟨rfl,HK3.out⟩
             | true =>
               cases x1 with
               | false =>
                 go_wp2
                 exact bodyPost_ret (v:=.bool false) (by simp [results,Tryz.results23]) rfl ⟨rfl,HK3.out⟩
               | true =>
                 cases x2 with
                 | false =>
                   go_wp2
                   exact bodyPost_ret (v:=.bool false) (by simp [results,Tryz.results23]) rfl ⟨rfl,HK3.out⟩
                 | true =>
                   cases o1 with
                   | false =>
                     go_wp2
                     exact bodyPost_ret (v:=.bool false) (by simp [results,Tryz.results23]) rfl ⟨rfl,HK3.out⟩
                   | true =>
                     cases o2 with
                     | false =>
                       go_wp2
                       exact bodyPost_ret (v:=.bool false) (by simp [results,Tryz.results23]) rfl ⟨rfl,HK3.out⟩
                     | true =>
                       cases n1 with
                       | false =>
                         go_wp2
                         exact bodyPost_ret (v:=.bool false) (by simp [results,Tryz.results23]) rfl ⟨rfl,HK3.out⟩
                       | true =>
                         go_wp2
                         exact bodyPost_ret (v:=.bool true) (by simp [results,Tryz.results23]) rfl ⟨rfl,HK3.out⟩
set_option maxHeartbeats 1000000 in
theorem rclamp_any (x s : Int) (w : World) (hs1 : 4 ≤ s) (hs2 : s ≤ 1099511627776) : Calls Tryz.prog 65 #[iv x,iv s] w fun e w' => e = .returned (iv (btw x (s.tdiv 4) (4 * s)))∧w' = w:=by
 have q1 : max 4 (min s 1099511627776) = s:=by omega
 have HQ : Hid (max (s / 4) (min x (4 * s)) = btw x (s.tdiv 4) (4 * s)):=Lib.hid (by rw [Int.tdiv_eq_ediv_of_nonneg (by omega)];unfold btw;omega)
 generalize btw x (s.tdiv 4) (4 * s) = R at *
 go_enter Tryz.func65,Tryz.ntmps65
 go_upto_region 2 with fail
 go_wp2
 exact bodyPost_ret (v:=iv R) (by simp [results,Tryz.results65,HQ.out]) rfl ⟨rfl,rfl⟩
set_option maxHeartbeats 1000000 in
theorem rfirst_any (n i : Int) (w : World) (hn : 0 ≤ n) (hn2 : n ≤ 1000000) : Calls Tryz.prog 45 #[iv n,iv i] w fun e w' => e = .returned (iv (firstI n i))∧w' = w:=by
 have q1 : max 0 n = n:=by omega
 have HF : firstI n i = max 0 (n - max 1 (min i 1048576)):=by unfold firstI btw;split <;> omega
 rw [HF]
 clear HF
 go_enter Tryz.func45,Tryz.ntmps45
 go_wp2
 exact bodyPost_ret (v:=iv (max 0 (n - max 1 (min i 1048576)))) (by simp [results,Tryz.results45]) rfl ⟨rfl,rfl⟩
end Go.Proofs.YtmbbknjddebhoaaGreatDoor
/- florinref13.Next. (out of XRn) -/
set_option linter.unusedSimpArgs false
set_option linter.unusedVariables false
namespace Go.Proofs.YtmbbknjddebhoaaGreatDoor
open Go.RowKit
attribute [local go_sem ↓] Go.wp_at_zero Go.wp_at_succ
set_option maxRecDepth 100000 in
set_option maxHeartbeats 4000000 in
theorem rnext_any (p : Par) (A : Option Addr) (c : Nat) (n : Int) (h : Hd) (cs : Array Value) (f : UInt32) (w : World) (hn : 1 ≤ n) (hn2 : n ≤ 1000000) (hk : h.ok) (hcs : HdA h cs) :
  Calls Tryz.prog 44 #[parV p A c,iv n,.agg cs,u32v f] w fun e w' => e = .returned (u32v (nextR p n h f))∧Keep w w':=by
 have S1 : Hid (∀ y,Calls Tryz.prog 23 #[parV p A c] y fun e w' => e = .returned (.bool (saneR p))∧Keep y w'):=Lib.hid fun y => rsane_any p A c y
 have ht:=hd_time hk;have hbt:=hd_bits hk
 have HI:=Lib.hid (saneR_iff p)
 have HN : Hid (∀ r,nextR p n h f = r → r = if saneR p = false then p.limit else if n.tmod p.itv ≠ 0 then h.bits else scaN h.bits (actR p h f) p.span.toNat p.limit):=Lib.hid fun r e => by subst e;rfl
 replace HN:=Lib.hid (HN.out _ rfl)
 have HA : Hid (actR p h f = (btw ((h.time.toNat : Int) - f.toNat) (p.span.tdiv 4) (4 * p.span)).toNat):=Lib.hid rfl
 generalize nextR p n h f = R at *
 generalize actR p h f = k at *
 unfold parV at *
 generalize saneR p = S at *
 generalize p.limit = limit at *
 generalize p.itv = itv at *
 generalize p.span = span at *
 generalize p.fut = fut at *
 generalize p.idx = idx at *
 generalize p.orp = orp at *
 generalize hm : p.chks.length = m at *
 clear hm
 obtain ⟨tm,htm⟩ : ∃ x,h.time = x:=⟨_,rfl⟩
 obtain ⟨bt,hbi⟩ : ∃ x,h.bits = x:=⟨_,rfl⟩
 rw [htm] at ht HA;rw [hbi] at hbt HN
 have hcz:=hcs.z;have hcn:=hcs.n;have hci:=hcs.i
 rw [← hcs.l] at ht hbt
 have Ht:=Lib.hid ht;have Hbt:=Lib.hid hbt
 clear htm hbi ht hbt hk hcs
 go_enter Tryz.func44,Tryz.ntmps44
 go_upto_region 1 with fail
 obtain ⟨w1,hw1⟩ : ∃ w1,w1 = (w.alloc (.cells #[u32v limit,iv itv,iv span,iv fut,iv idx,iv orp,.slice A m c] 25)).alloc (.cells cs 30):=⟨_,rfl⟩
 have HP1 : Hid (Blk w1 w.heap.size 25 [u32v limit,iv itv,iv span,iv fut,iv idx,iv orp,.slice A m c]):=by rw [hw1];exact Lib.hid ((Blk.new w 25 [u32v limit,iv itv,iv span,iv fut,iv idx,iv orp,.slice A m c]).alloc _)
 have HH1 : Hid (Blk w1 (w.heap.size + 1) 30 cs.toList):=by
  rw [hw1]
  have h2:=Blk.new (w.alloc (.cells #[u32v limit,iv itv,iv span,iv fut,iv idx,iv orp,.slice A m c] 25)) 30 cs.toList
  rw [World.size_alloc] at h2
  exact Lib.hid h2
 have HK1 : Hid (Keep w w1):=by rw [hw1];exact Lib.hid (keep_trans (keep_new _ _) (keep_new _ _))
 rw [← hw1]
 clear hw1
 have p0:=HP1.out.cell 0
 have p1:=HP1.out.cell 1
 have p2:=HP1.out.cell 2
 have p3:=HP1.out.cell 3
 have p4:=HP1.out.cell 4
 have p5:=HP1.out.cell 5
 have p6:=HP1.out.cell 6
 simp only [List.getElem?_cons_succ,List.getElem?_cons_zero] at p0 p1 p2 p3 p4 p5 p6
 go_wp2_with fail
 refine (S1.out _).mono ?_
 clear S1 p0 p1 p2 p3 p4 p5 p6
 rintro e w2 ⟨rfl,k2⟩
 have p0:=(HP1.out.keep k2).cell 0
 have p1:=(HP1.out.keep k2).cell 1
 have p2:=(HP1.out.keep k2).cell 2
 have q0:=(HH1.out.keep k2).cell 65
 have q1:=(HH1.out.keep k2).cell 66
 rw [Ht.out] at q0
 rw [Hbt.out] at q1
 simp only [List.getElem?_cons_succ,List.getElem?_cons_zero] at p0 p1 p2
 have HK2:=Lib.hid (keep_trans HK1.out k2)
 clear k2 HP1 HH1 HK1 Ht Hbt
 cases S with
 | false =>
   have hR:=HN.out
   rw [if_pos rfl] at hR
   subst hR
   clear HN HI
   go_wp2
   exact bodyPost_ret (v:=u32v R) (by simp [results,Tryz.results44]) rfl ⟨rfl,HK2.out⟩
 | true =>
   obtain ⟨⟨i1,i2⟩,⟨s1,s2⟩,-⟩:=HI.out.1 rfl
   clear HI
   have hR:=HN.out
   rw [if_neg (by simp)] at hR
   replace HN:=Lib.hid hR
   clear hR
   have g1 : ¬ n ≤ 0:=by omega
   have g2 : ¬ itv = 0:=by omega
   have g3 : (itv == 0) = false:=by simp [g2]
   have tb1 : 0 ≤ n.tmod itv:=Int.tmod_nonneg _ (by omega)
   have tb2 : n.tmod itv ≤ n:=by rw [Int.tmod_eq_emod_of_nonneg (by omega)];by_cases hq : n < itv;(· rw [Int.emod_eq_of_lt (by omega) hq];omega);(· have:=Int.emod_lt_of_pos n (show 0 < itv by omega);omega)
   have g4 : IntKind.i64.wrap (n.tmod itv) = n.tmod itv:=IntWalk.i64_in _ (by omega)
   clear tb1 tb2
   obtain ⟨x,hx⟩ : ∃ x,n.tmod itv = x:=⟨_,rfl⟩
   rw [hx] at g4 HN
   by_cases h0 : x = 0
   ·subst h0
    have hR:=HN.out
    rw [if_neg (by simp)] at hR
    clear HN g4
    have hd4 : span.tdiv 4 = span / 4:=Int.tdiv_eq_ediv_of_nonneg (by omega)
    have bt1:=tm.toNat_lt
    have bt2:=f.toNat_lt
    have hkb : btw ((tm.toNat : Int) - f.toNat) (span.tdiv 4) (4 * span) = (k : Int)∧k < 18446744073709551616:=by
     have h1:=HA.out
     unfold btw at h1 ⊢
     omega
    have C1 : Hid (∀ y,Calls Tryz.prog 65 #[iv ((tm.toNat : Int) - f.toNat),iv span] y fun e w' => e = .returned (iv k)∧w' = y):=Lib.hid fun y => by
     have h1:=rclamp_any ((tm.toNat : Int) - f.toNat) span y s1 s2
     rw [hkb.1] at h1
     exact h1
    have hk2:=hkb.2
    have v1 : IntKind.i64.wrap (tm.toNat : Int) = tm.toNat:=IntWalk.i64_in _ (by omega)
    have v2 : IntKind.i64.wrap (f.toNat : Int) = f.toNat:=IntWalk.i64_in _ (by omega)
    have v3 : IntKind.i64.wrap ((tm.toNat : Int) - f.toNat) = (tm.toNat : Int) - f.toNat:=IntWalk.i64_in _ (by omega)
    obtain ⟨s,rfl⟩ : ∃ s : Nat,span = s:=⟨span.toNat,by omega⟩
    have hs2 : s < 18446744073709551616:=by omega
    have v4 : IntKind.u64.wrap (k : Int) = k:=IntWalk.u64_in _ (by omega)
    have v5 : IntKind.u64.wrap (s : Int) = s:=IntWalk.u64_in _ (by omega)
    rw [Int.toNat_natCast] at hR
    have C2 : Hid (∀ y,Calls Tryz.prog 66 #[u32v bt,n64 k,n64 s,u32v limit] y fun e w' => e = .returned (u32v R)∧Keep y w'):=Lib.hid fun y => by
     rw [hR]
     exact rscale_any bt limit k s y hk2 hs2
    obtain ⟨d,hd⟩ : ∃ d,(tm.toNat : Int) - f.toNat = d:=⟨_,rfl⟩
    rw [hd] at C1 v3
    clear hR HA hd4 hkb bt1 bt2 hk2 hs2 s1 s2
    go_wp2_with fail
    refine (C1.out _).mono ?_
    clear C1
    rintro e w3 ⟨rfl,rfl⟩
    go_wp2_with fail
    refine (C2.out _).mono ?_
    clear C2
    rintro e w4 ⟨rfl,k4⟩
    go_wp2
    exact bodyPost_ret (v:=u32v R) (by simp [results,Tryz.results44]) rfl ⟨rfl,keep_trans HK2.out k4⟩
   ·have hR:=HN.out
    rw [if_pos h0] at hR
    subst hR
    have g5 : (x != 0) = true:=by simp [h0]
    have g6 : (x == 0) = false:=by simp [h0]
    clear HN
    go_wp2
    exact bodyPost_ret (v:=u32v R) (by simp [results,Tryz.results44]) rfl ⟨rfl,HK2.out⟩
end Go.Proofs.YtmbbknjddebhoaaGreatDoor
/- florinref13.Chain. (printed by gen_nrc.py out of XRm) -/
set_option linter.unusedSimpArgs false
set_option linter.unusedVariables false
namespace Go.Proofs.YtmbbknjddebhoaaGreatDoor
open Go.RowKit
attribute [local go_sem ↓] Go.wp_at_zero Go.wp_at_succ
set_option maxRecDepth 100000 in
set_option maxHeartbeats 4000000 in
theorem rchain_any (p : Par) (A : Option Addr) (c : Nat) (B : Option Addr) (l : List Hd) (d : Nat) (w : World) (hl : l.length ≤ 1000) (hd : l.length ≤ d) (hr : Rd w B (l.flatMap Hd.cells)) (hk : ∀ h ∈ l,h.ok) :
  Calls Tryz.prog 25 #[parV p A c,.slice B l.length d] w fun e w' => e = .returned (u32v (chainR p l))∧Keep w w':=by
 by_cases h0 : l.length = 0
 ·have hR : chainR p l = p.limit:=by unfold chainR;rw [if_pos h0]
  rw [hR,h0]
  clear hR h0 hr hk hl hd
  unfold parV
  generalize p.limit = limit
  generalize hm : p.chks.length = m
  clear hm
  go_enter Tryz.func25,Tryz.ntmps25
  go_wp2
  exact bodyPost_ret (v:=u32v limit) (by simp [results,Tryz.results25]) rfl ⟨rfl,keep_new _ _⟩
 ·have hb : 1 ≤ btw p.itv 1 1048576:=by unfold btw;omega
  obtain ⟨k,hkI,hkl⟩ : ∃ k : Nat,firstI (l.length : Int) p.itv = k∧k < l.length:=by
   refine ⟨(firstI (l.length : Int) p.itv).toNat,?_,?_⟩ <;> (unfold firstI;split <;> omega)
  have hkl2 : l.length - 1 < l.length:=by omega
  have F1 : Hid (∀ y,Calls Tryz.prog 45 #[iv l.length,iv p.itv] y fun e w' => e = .returned (iv k)∧w' = y):=Lib.hid fun y => by
   have h1:=rfirst_any (l.length : Int) p.itv y (by omega) (by omega)
   rw [hkI] at h1
   exact h1
  have hR : chainR p l = nextR p l.length l[l.length - 1] l[k].time:=by
   unfold chainR
   rw [if_neg h0,hkI,Int.toNat_natCast]
   simp only [List.getD_eq_getElem?_getD,List.getElem?_eq_getElem hkl,List.getElem?_eq_getElem hkl2,Option.getD_some]
  have ok1:=hk _ (List.getElem_mem hkl)
  have ok2:=hk _ (List.getElem_mem hkl2)
  obtain ⟨b,off,rfl,hbw,r1⟩:=heads_at hr hk hkl
  obtain ⟨b',off',hB,hbw',r2⟩:=heads_at hr hk hkl2
  cases hB
  have N1 : Hid (∀ y cs,HdA l[l.length - 1] cs → Calls Tryz.prog 44 #[parV p A c,iv l.length,.agg cs,u32v l[k].time] y fun e w' => e = .returned (u32v (chainR p l))∧Keep y w'):=Lib.hid fun y cs hcs => by
   rw [hR]
   exact rnext_any p A c l.length _ cs _ y (by omega) (by omega) ok2 hcs
  have ht:=hd_time ok1
  have hcs1:=HdA.of ok1
  have hcs2:=HdA.of ok2
  rw [← hcs1.l] at r1 ht
  rw [← hcs2.l] at r2
  obtain ⟨c1,hc1⟩ : ∃ x,l[k].cells.toArray = x:=⟨_,rfl⟩
  obtain ⟨c2,hc2⟩ : ∃ x,l[l.length - 1].cells.toArray = x:=⟨_,rfl⟩
  rw [hc1] at hcs1 r1 ht
  rw [hc2] at hcs2 r2
  replace N1:=Lib.hid fun y => N1.out y c2 hcs2
  have i1:=hcs1.i;have i2:=hcs2.i;have z1:=hcs1.z;have n1:=hcs1.n;have o1:=Lib.hid hcs1.o
  have R1:=Lib.hid r1;have R2:=Lib.hid r2;have Ht:=Lib.hid ht
  obtain ⟨tm,htm⟩ : ∃ x,l[k].time = x:=⟨_,rfl⟩
  rw [htm] at N1 Ht
  clear hR hc1 hc2 hcs1 hcs2 r1 r2 ht htm hb hkI hr ok1 ok2 hbw' hk
  generalize chainR p l = R at *
  obtain ⟨n,hnn⟩ : ∃ n,l.length = n:=⟨_,rfl⟩
  rw [hnn] at hl hd h0 hkl hkl2 F1 R2 N1
  rw [hnn]
  clear hnn
  unfold parV at *
  generalize p.limit = limit at *
  generalize p.itv = itv at *
  generalize p.span = span at *
  generalize p.fut = fut at *
  generalize p.idx = idx at *
  generalize p.orp = orp at *
  generalize hm : p.chks.length = m at *
  clear hm
  obtain ⟨zs,hz1,hz2,hz3,-⟩:=zhead_letter
  have g1 : (n == 0) = false:=by simp [h0]
  have g2 : ((n : Int) == 0) = false:=by rw [beq_eq_false_iff_ne];omega
  go_enter Tryz.func25,Tryz.ntmps25
  go_upto_region 3 with fail
  obtain ⟨w1,hw1⟩ : ∃ w1,w1 = w.alloc (.cells #[u32v limit,iv itv,iv span,iv fut,iv idx,iv orp,.slice A m c] 25):=⟨_,rfl⟩
  have HP1 : Hid (Blk w1 w.heap.size 25 [u32v limit,iv itv,iv span,iv fut,iv idx,iv orp,.slice A m c]):=by rw [hw1];exact Lib.hid (Blk.new w 25 [u32v limit,iv itv,iv span,iv fut,iv idx,iv orp,.slice A m c])
  have HK1 : Hid (Keep w w1):=by rw [hw1];exact Lib.hid (keep_new _ _)
  rw [← hw1]
  clear hw1
  clear z1 n1 o1 hz1 hz2 hz3
  obtain ⟨j,hj⟩ : ∃ j,n - 1 = j:=⟨_,rfl⟩
  have hj2 : (n : Int) - 1 = j:=by omega
  rw [hj] at R2 hkl2
  clear hj
  refine wp_region_tree (.take [0,1,2,3,4,5,6,7,8,9,10,11,12,13] (.force [14] (.take [15,16,17] (.force [18] (.take [19] .done))))) [] (by kernel_rfl) (by kernel_rfl) (fun w9 k9 => ?_)
  have HB9:=HP1.out.keep k9
  have HK9:=Lib.hid (keep_trans HK1.out k9)
  have RA : Hid (w9.rangeAt b (off + j * 68) c2.toList):=Lib.hid fun i v hv => keep_cell HK9.out (R2.out i v hv)
  have q0:=aft_cell (HB9.cell 0)
  have q1:=aft_cell (HB9.cell 1)
  have q2:=aft_cell (HB9.cell 2)
  have q3:=aft_cell (HB9.cell 3)
  have q4:=aft_cell (HB9.cell 4)
  have q5:=aft_cell (HB9.cell 5)
  have q6:=aft_cell (HB9.cell 6)
  have Q7:=Lib.hid (aft_cell (keep_cell HK9.out (R1.out 65 _ Ht.out)))
  clear HB9 HP1 HK1 Ht R2 k9 R1
  refine mt_take w9 (Below.refl _ _) ?_
  simp only [pick_cons,pick_nil,nth_zero,nth_succ]
  repeat (first
   | ((with_reducible refine wpQuiet_load_partg b (off + j * 68) c2 (Eq.trans ?_ rfl) RA.out _ Tryz.underlying30 rfl i2 rfl ?_);rfl;simp only [Act.put,Array.set!_eq_setIfInBounds,List.setIfInBounds_toArray,List.set_cons_succ,List.set_cons_zero])
   | go_big_quiet_step (fail))
  refine wpQuiet_nil ?_
  clear q0 q1 q2 q3 q4 q5 q6
  refine mt_force ?_
  simp only [pick_cons,pick_nil,nth_zero,nth_succ]
  refine fc_step rfl (fun K hK => ?_)
  go_simp
  (with_reducible refine (F1.out _).mono ?_)
  rintro e w4 ⟨rfl,rfl⟩
  refine hK _ _ (Below.refl _ _) ?_
  clear hK K
  have q7:=Q7.out
  refine fc_nil (mt_take _ (Below.refl _ _) ?_)
  simp only [pick_cons,pick_nil,nth_zero,nth_succ]
  repeat (go_big_quiet_step (fail))
  refine wpQuiet_nil (mt_force ?_)
  clear q7
  simp only [pick_cons,pick_nil,nth_zero,nth_succ]
  refine fc_step rfl (fun K hK => ?_)
  go_simp
  (with_reducible refine (N1.out _).mono ?_)
  rintro e w4 ⟨rfl,k4⟩
  refine hK _ _ k4 ?_
  clear hK K
  refine fc_nil ?_
  refine mt_take _ (Below.refl _ _) ?_
  simp only [pick_cons,pick_nil,nth_zero,nth_succ]
  repeat (go_big_quiet_step (fail))
  refine wpQuiet_nil ?_
  refine mt_end ?_
  go_wp2
  exact bodyPost_ret (v:=u32v R) (by simp [results,Tryz.results25]) rfl ⟨rfl,keep_trans HK9.out k4⟩
end Go.Proofs.YtmbbknjddebhoaaGreatDoor
/- rules.passes; clock.Times of headers. -/
set_option linter.unusedSimpArgs false
set_option linter.unusedVariables false
namespace Go.Proofs.YtmbbknjddebhoaaGreatDoor
open Go.RowKit
attribute [local go_sem ↓] Go.wp_at_zero Go.wp_at_succ
theorem hash_neq {l m : List UInt8} {cs ds : Array Value} (h : HashA l cs) (g : HashA m ds) (hl : l.length = 32) (hm : m.length = 32) (w : World) :
  (Go.binOp .neq 28 (.agg cs) (.agg ds)).run Tryz.prog w = .ok (.bool (!(l == m))) w:=by
 rw [run_neq_struct,show (10000 : Nat) = 9998 + 2 from rfl,hash_eqIn 9998 h g hl hm]
 rfl
theorem hash_in {l m : List UInt8} {cs ds : Array Value} (h : HashA l cs) (g : HashA m ds) (hl : l.length = 32) (hm : m.length = 32) (w : World) :
  (Op.equalIn 10000 28 (.agg cs) (.agg ds)).run Tryz.prog w = .ok (l == m) w:=by
 rw [show (10000 : Nat) = 9998 + 2 from rfl,hash_eqIn 9998 h g hl hm]
theorem hd_rs (l : List Hd) (hk : ∀ h ∈ l,h.ok) : ∃ rs : List HdR,rs.flatMap HdR.cells = l.flatMap Hd.cells∧rs.map HdR.t = l.map Hd.time∧rs.length = l.length:=by
 induction l with
 | nil => exact ⟨[],rfl,rfl,rfl⟩
 | cons h l ih =>
   obtain ⟨rs,e1,e2,e3⟩:=ih fun x hx => hk x (List.mem_cons_of_mem _ hx)
   have ho:=hk h List.mem_cons_self
   refine ⟨⟨u32v h.ver :: (h.prev.map u8v ++ h.root.map u8v),h.time,[u32v h.bits,u32v h.nonce],by simp [ho.1,ho.2],rfl,?_,?_⟩ :: rs,?_,?_,?_⟩
   ·intro u hu
    exact Hd.one h u (by simp only [Hd.cells,List.mem_cons,List.mem_append] at hu ⊢;rcases hu with rfl | hu | hu <;> simp_all)
   ·intro u hu
    exact Hd.one h u (by simp only [Hd.cells,List.mem_cons,List.mem_append,List.not_mem_nil,or_false] at hu ⊢;rcases hu with rfl | rfl <;> simp)
   ·simp [HdR.cells,Hd.cells,e1]
   ·simp [e2]
   ·simp [e3]
theorem times_hd (A : Option Addr) (l : List Hd) (c : Nat) (w : World) (hl : l.length ≤ 100) (hr : Rd w A (l.flatMap Hd.cells)) (hk : ∀ h ∈ l,h.ok) :
  Calls Tryz.prog 21 #[.slice A l.length c] w (Lasted w.heap.size (l.map Hd.time) w):=by
 obtain ⟨rs,e1,e2,e3⟩:=hd_rs l hk
 rw [← e2,← e3]
 exact times_any A rs c w (by rw [e3];exact hl) (by rw [e1];exact hr)
def passR (p : Par) (n : Int) (id : List UInt8) : Int:=if pointR p n = none ∨ pointR p n = some id then 0 else 11
theorem passR_of (p : Par) (n : Int) (id : List UInt8) : passR p n id = if (pointR p n).isSome = true∧(pointH p n == id) = false then 11 else 0:=by
 unfold passR pointH
 cases pointR p n with
 | none => simp
 | some x => by_cases e : x = id <;> simp [e]
theorem pointH_len {p : Par} (h : ∀ x ∈ p.chks,x.2.length = 32) (n : Int) : (pointH p n).length = 32:=by
 unfold pointH pointR
 cases hf : p.chks.find? fun x => x.1 == n with
 | none => rfl
 | some x => exact h x (List.mem_of_find?_eq_some hf)
set_option maxRecDepth 100000 in
set_option maxHeartbeats 4000000 in
theorem passes_any (p : Par) (A : Option Addr) (c : Nat) (n : Int) (id : List UInt8) (cs : Array Value) (w : World) (hr : Chks p A w) (hl : id.length = 32) (hcs : HashA id cs) :
  Calls Tryz.prog 22 #[parV p A c,iv n,.agg cs] w fun e w' => e = .returned (iv (passR p n id))∧Keep w w':=by
 have P1 : Hid (∀ y,Keep w y → Calls Tryz.prog 7 #[parV p A c,iv n] y fun e w' => ∃ cs,e = .returned (.tuple #[.agg cs,.bool (pointR p n).isSome])∧HashA (pointH p n) cs∧Keep y w'):=Lib.hid fun y hy => point_any p A c n y (hr.keep hy)
 have HL:=Lib.hid (pointH_len hr.2.1 n)
 have HR:=Lib.hid (passR_of p n id)
 obtain ⟨zs,hz1,hz2,hz3,-⟩:=zhash_letter
 have hcz:=hcs.z;have hcn:=hcs.n;have hci:=hcs.i
 have Hcs:=Lib.hid hcs;have Hl:=Lib.hid hl
 clear hr hcs hl
 generalize passR p n id = R at *
 generalize (pointR p n).isSome = is at *
 generalize pointH p n = H at *
 unfold parV at *
 generalize p.limit = limit at *
 generalize p.itv = itv at *
 generalize p.span = span at *
 generalize p.fut = fut at *
 generalize p.idx = idx at *
 generalize p.orp = orp at *
 generalize hm : p.chks.length = m at *
 clear hm
 go_enter Tryz.func22,Tryz.ntmps22
 go_upto_region 1 with fail
 obtain ⟨w1,hw1⟩ : ∃ w1,w1 = (w.alloc (.cells #[u32v limit,iv itv,iv span,iv fut,iv idx,iv orp,.slice A m c] 25)).alloc (.cells cs 28):=⟨_,rfl⟩
 have HP1 : Hid (Blk w1 w.heap.size 25 [u32v limit,iv itv,iv span,iv fut,iv idx,iv orp,.slice A m c]):=by rw [hw1];exact Lib.hid ((Blk.new w 25 [u32v limit,iv itv,iv span,iv fut,iv idx,iv orp,.slice A m c]).alloc _)
 have HI1 : Hid (Blk w1 (w.heap.size + 1) 28 cs.toList):=by
  rw [hw1]
  have h2:=Blk.new (w.alloc (.cells #[u32v limit,iv itv,iv span,iv fut,iv idx,iv orp,.slice A m c] 25)) 28 cs.toList
  rw [World.size_alloc] at h2
  exact Lib.hid h2
 have HK1 : Hid (Keep w w1):=by rw [hw1];exact Lib.hid (keep_trans (keep_new _ _) (keep_new _ _))
 rw [← hw1]
 clear hw1
 have p0:=HP1.out.cell 0
 have p1:=HP1.out.cell 1
 have p2:=HP1.out.cell 2
 have p3:=HP1.out.cell 3
 have p4:=HP1.out.cell 4
 have p5:=HP1.out.cell 5
 have p6:=HP1.out.cell 6
 simp only [List.getElem?_cons_succ,List.getElem?_cons_zero] at p0 p1 p2 p3 p4 p5 p6
 go_wp2_with fail
 refine (P1.out _ HK1.out).mono ?_
 clear P1 p0 p1 p2 p3 p4 p5 p6
 rintro e w2 ⟨ds,rfl,hds,k2⟩
 have HI2:=Lib.hid (HI1.out.keep k2)
 have HK2:=Lib.hid (keep_trans HK1.out k2)
 have hdz:=hds.z;have hdn:=hds.n;have hdi:=hds.i
 have hst : (storeCells ⟨w2.heap.size,0,none⟩ ds.toList 0).run Tryz.prog (w2.alloc (.cells zs 28)) = .ok () (w2.alloc (.cells ds 28)):=run_storeCells_new (P:=Tryz.prog) w2 28 zs ds hdi (hz1.trans hdz.symm) (by have:=all_oneCell_toArray hds.o;rwa [Array.toArray_toList] at this)
 have Hds:=Lib.hid hds
 clear k2 HI1 HK1 HP1 hds
 go_upto_region 2 with fail
 obtain ⟨w3,hw3⟩ : ∃ w3,w3 = w2.alloc (.cells ds 28):=⟨_,rfl⟩
 have HI3 : Hid (Blk w3 (w.heap.size + 1) 28 cs.toList):=by rw [hw3];exact Lib.hid (HI2.out.alloc _)
 have HD3 : Hid (Blk w3 w2.heap.size 28 ds.toList):=by rw [hw3];exact Lib.hid (Blk.new w2 28 ds.toList)
 have HK3 : Hid (Keep w w3):=by rw [hw3];exact Lib.hid (keep_trans HK2.out (keep_new _ _))
 rw [← hw3]
 clear hw3 hst HI2 HK2
 generalize w2.heap.size = g at *
 have q1 : Hid (w3.rangeAt g 0 ds.toList):=Lib.hid (range_of HD3.out 0 ds.toList (by simp [List.take_of_length_le]))
 have q2 : Hid (w3.rangeAt (w.heap.size + 1) 0 cs.toList):=Lib.hid (range_of HI3.out 0 cs.toList (by simp [List.take_of_length_le]))
 have heq:=hash_in Hds.out Hcs.out HL.out Hl.out w3
 have hR:=HR.out
 cases is with
 | false =>
   rw [if_neg (by simp)] at hR
   subst hR
   clear HR heq q1 q2 HD3 HI3
   go_wp2
   exact bodyPost_ret (v:=iv 0) (by simp [results,Tryz.results22]) rfl ⟨rfl,HK3.out⟩
 | true =>
   obtain ⟨b,hb⟩ : ∃ b,(H == id) = b:=⟨_,rfl⟩
   rw [hb] at heq hR
   clear HR hb HD3 HI3 HL
   cases b with
   | true =>
     rw [if_neg (by simp)] at hR
     subst hR
     go_wp2_with (first
      | ((with_reducible refine load_partg g 0 ds (Eq.trans ?_ rfl) q1.out _ Tryz.underlying28 rfl hdi rfl ?_);rfl)
      | ((with_reducible refine load_partg (w.heap.size + 1) 0 cs (Eq.trans ?_ rfl) q2.out _ Tryz.underlying28 rfl hci rfl ?_);rfl))
     exact bodyPost_ret (v:=iv 0) (by simp [results,Tryz.results22]) rfl ⟨rfl,HK3.out⟩
   | false =>
     rw [if_pos ⟨rfl,rfl⟩] at hR
     subst hR
     go_wp2_with (first
      | ((with_reducible refine load_partg g 0 ds (Eq.trans ?_ rfl) q1.out _ Tryz.underlying28 rfl hdi rfl ?_);rfl)
      | ((with_reducible refine load_partg (w.heap.size + 1) 0 cs (Eq.trans ?_ rfl) q2.out _ Tryz.underlying28 rfl hci rfl ?_);rfl))
     exact bodyPost_ret (v:=iv 11) (by simp [results,Tryz.results22]) rfl ⟨rfl,HK3.out⟩
end Go.Proofs.YtmbbknjddebhoaaGreatDoor
/- rules.Check. -/
set_option linter.unusedSimpArgs false
set_option linter.unusedVariables false
namespace Go.Proofs.YtmbbknjddebhoaaGreatDoor
open Go.RowKit
attribute [local go_sem ↓] Go.wp_at_zero Go.wp_at_succ
def lastH (l : List Hd) : Hd:=l.getD (l.length - 1) hd0
def checkR (p : Par) (l : List Hd) (h : Hd) (now : Int) : Int :=
 if saneR p = false ∨ l.length = 0 then 15
 else if (h.prev == idL (lastH l)) = false then 9
 else if (h.bits.toNat == (chainR p l).toNat) = false then 7
 else if meetN (leN (idL h)) h.bits p.limit ≠ 0 then meetN (leN (idL h)) h.bits p.limit
 else if chkI h.time (l.map Hd.time) now p.fut ≠ 0 then chkI h.time (l.map Hd.time) now p.fut
 else passR p l.length (idL h)
theorem hd_prevr {h : Hd} (hk : h.ok) {pv : Array Value} (hp : HashA h.prev pv) {w : World} {g : Nat} {t : TypeId} {cs : Array Value} (hb : Blk w g t cs.toList) (hcs : HdA h cs) : w.rangeAt g 1 pv.toList:=by
 refine range_of hb 1 pv.toList ?_
 rw [hp.l,hcs.l]
 simp [Hd.cells,hk.1]
theorem lastH_eq {l : List Hd} (h : l.length - 1 < l.length) : lastH l = l[l.length - 1]:=by
 unfold lastH
 simp [List.getD_eq_getElem?_getD,List.getElem?_eq_getElem h]
set_option maxRecDepth 100000 in
set_option maxHeartbeats 4000000 in
theorem check_hd (p : Par) (A : Option Addr) (c : Nat) (B : Option Addr) (l : List Hd) (d : Nat) (h : Hd) (cs : Array Value) (now : Int) (w : World) (hS : ShaOk w) (hC : Chks p A w)
  (hl : l.length ≤ 100) (hd : l.length ≤ d) (hdm : d ≤ maxLen) (hr : Rd w B (l.flatMap Hd.cells)) (hk : ∀ h ∈ l,h.ok) (ho : h.ok) (hcs : HdA h cs) :
  Calls Tryz.prog 9 #[parV p A c,.slice B l.length d,.agg cs,iv now] w fun e w' => e = .returned (iv (checkR p l h now))∧Keep w w':=by
 have S1 : Hid (∀ y,Calls Tryz.prog 17 #[parV p A c] y fun e w' => e = .returned (.bool (saneR p))∧Keep y w'):=Lib.hid fun y => sane_any p A c y
 have HR : Hid (∀ r,checkR p l h now = r → r = if saneR p = false ∨ l.length = 0 then 15 else if (h.prev == idL (lastH l)) = false then 9 else if (h.bits.toNat == (chainR p l).toNat) = false then 7 else if meetN (leN (idL h)) h.bits p.limit ≠ 0 then meetN (leN (idL h)) h.bits p.limit else if chkI h.time (l.map Hd.time) now p.fut ≠ 0 then chkI h.time (l.map Hd.time) now p.fut else passR p l.length (idL h)):=Lib.hid fun r e => by subst e;rfl
 replace HR:=Lib.hid (HR.out _ rfl)
 have I1 : Hid (∀ y,Keep w y → ∀ xs,HdA (lastH l) xs → l.length ≠ 0 → Calls Tryz.prog 14 #[.agg xs] y fun e w' => ∃ ds,e = .returned (.agg ds)∧HashA (idL (lastH l)) ds∧Keep y w'):=Lib.hid fun y hy xs hx h0 => id_any _ xs y (hS.keep hy) (by rw [lastH_eq (by omega)];exact hk _ (List.getElem_mem _)) hx
 have HAT : Hid (l.length ≠ 0 → ∃ b off,B = some ⟨b,off,none⟩∧∃ xs,HdA (lastH l) xs∧w.rangeAt b (off + (l.length - 1) * 68) xs.toList):=Lib.hid fun h0 => by
  have hlt : l.length - 1 < l.length:=by omega
  obtain ⟨b,off,h1,-,h2⟩:=heads_at hr hk hlt
  have hx:=HdA.of (hk _ (List.getElem_mem hlt))
  refine ⟨b,off,h1,_,by rw [lastH_eq hlt];exact hx,?_⟩
  exact h2
 have C1 : Hid (∀ y,Keep w y → Calls Tryz.prog 18 #[parV p A c,.slice B l.length d] y fun e w' => e = .returned (u32v (chainR p l))∧Keep y w'):=Lib.hid fun y hy => chain_any p A c B l d y (by omega) hd (hr.keep hy) hk
 have I2 : Hid (∀ y,Keep w y → Calls Tryz.prog 14 #[.agg cs] y fun e w' => ∃ ds,e = .returned (.agg ds)∧HashA (idL h) ds∧Keep y w'):=Lib.hid fun y hy => id_any h cs y (hS.keep hy) ho hcs
 have M1 : Hid (∀ y ds,HashA (idL h) ds → Calls Tryz.prog 19 #[.agg ds,u32v h.bits,u32v p.limit] y fun e w' => e = .returned (iv (meetN (leN (idL h)) h.bits p.limit))∧Keep y w'):=Lib.hid fun y ds hds => meets_any (idL h) ds h.bits p.limit y (idL_len _) hds
 have T1 : Hid (∀ y,Keep w y → Calls Tryz.prog 21 #[.slice B l.length d] y (Lasted y.heap.size (l.map Hd.time) y)):=Lib.hid fun y hy => times_hd B l d y hl (hr.keep hy) hk
 have hml : (l.map Hd.time).length ≤ 100:=by simpa using hl
 have K1 : Hid (∀ y base v,y.ownsRow base 22 1 v (l.map Hd.time).length ((l.map Hd.time).map u32v) → Calls Tryz.prog 20 #[u32v h.time,v,iv now,iv p.fut] y fun e w' => e = .returned (iv (chkI h.time (l.map Hd.time) now p.fut))∧Keep y w'):=Lib.hid fun y base v hv => by
  obtain ⟨Av,cv,rfl,hcv,hmv,hrv⟩:=own_form hv
  exact check_any h.time Av _ cv now p.fut y hcv hmv (own_rd hv)
 have P1 : Hid (∀ y,Keep w y → ∀ ds,HashA (idL h) ds → Calls Tryz.prog 22 #[parV p A c,iv l.length,.agg ds] y fun e w' => e = .returned (iv (passR p l.length (idL h)))∧Keep y w'):=Lib.hid fun y hy ds hds => passes_any p A c l.length (idL h) ds y (hC.keep hy) (idL_len _) hds
 obtain ⟨pv,hpv⟩ : ∃ pv,HashA h.prev pv:=⟨_,HashA.of ho.1⟩
 have HT:=Lib.hid (hd_time ho);have HBt:=Lib.hid (hd_bits ho)
 have HPV : Hid (∀ y g t,Blk y g t cs.toList → y.rangeAt g 1 pv.toList):=Lib.hid fun y g t hb => hd_prevr ho hpv hb hcs
 have HL1:=Lib.hid ho.1
 have HL2 : Hid ((idL (lastH l)).length = 32):=Lib.hid (idL_len _)
 have hcz:=hcs.z;have hcn:=hcs.n;have hci:=hcs.i
 have hpz:=hpv.z;have hpn:=hpv.n;have hpi:=hpv.i
 rw [← hcs.l] at HT HBt
 have Hpv:=Lib.hid hpv
 have HL3 : Hid ((idL h).length = 32):=Lib.hid (idL_len _)
 clear hpv hcs ho hk hr hC hS hml hdm
 generalize checkR p l h now = R at *
 generalize idL h = HI at *
 generalize h.prev = PV at *
 generalize meetN (leN HI) h.bits p.limit = M at *
 generalize passR p l.length HI = PR at *
 generalize chainR p l = CR at *
 generalize idL (lastH l) = LI at *
 generalize lastH l = LH at *
 generalize chkI h.time (l.map Hd.time) now p.fut = CI at *
 generalize l.map Hd.time = ts at *
 generalize l.length = n at *
 generalize h.bits = bits at *
 generalize h.time = tm at *
 generalize saneR p = S at *
 unfold parV at *
 generalize p.limit = limit at *
 generalize p.itv = itv at *
 generalize p.span = span at *
 generalize p.fut = fut at *
 generalize p.idx = idx at *
 generalize p.orp = orp at *
 generalize hm : p.chks.length = m at *
 clear hm
 clear p
 go_enter Tryz.func9,Tryz.ntmps9
 go_upto_region 1 with fail
 obtain ⟨w1,hw1⟩ : ∃ w1,w1 = (w.alloc (.cells #[u32v limit,iv itv,iv span,iv fut,iv idx,iv orp,.slice A m c] 25)).alloc (.cells cs 30):=⟨_,rfl⟩
 have HP1 : Hid (Blk w1 w.heap.size 25 [u32v limit,iv itv,iv span,iv fut,iv idx,iv orp,.slice A m c]):=by rw [hw1];exact Lib.hid ((Blk.new w 25 [u32v limit,iv itv,iv span,iv fut,iv idx,iv orp,.slice A m c]).alloc _)
 have HH1 : Hid (Blk w1 (w.heap.size + 1) 30 cs.toList):=by
  rw [hw1]
  have h2:=Blk.new (w.alloc (.cells #[u32v limit,iv itv,iv span,iv fut,iv idx,iv orp,.slice A m c] 25)) 30 cs.toList
  rw [World.size_alloc] at h2
  exact Lib.hid h2
 have HK1 : Hid (Keep w w1):=by rw [hw1];exact Lib.hid (keep_trans (keep_new _ _) (keep_new _ _))
 rw [← hw1]
 clear hw1
 have p0:=HP1.out.cell 0
 have p1:=HP1.out.cell 1
 have p2:=HP1.out.cell 2
 have p3:=HP1.out.cell 3
 have p4:=HP1.out.cell 4
 have p5:=HP1.out.cell 5
 have p6:=HP1.out.cell 6
 simp only [List.getElem?_cons_succ,List.getElem?_cons_zero] at p0 p1 p2 p3 p4 p5 p6
 go_wp2_with fail
 refine (S1.out _).mono ?_
 clear S1 p0 p1 p2 p3 p4 p5 p6
 rintro e w2 ⟨rfl,k2⟩
 have HP2:=Lib.hid (HP1.out.keep k2)
 have HH2:=Lib.hid (HH1.out.keep k2)
 have HK2:=Lib.hid (keep_trans HK1.out k2)
 clear HP1 HH1 HK1 k2
 by_cases hs0 : S = false ∨ n = 0
 ·have hR:=HR.out
  rw [if_pos hs0] at hR
  subst hR
  clear HR HP2 HH2
  cases S with
  | false =>
    go_wp2
    exact bodyPost_ret (v:=iv 15) (by simp [results,Tryz.results9]) rfl ⟨rfl,HK2.out⟩
  | true =>
    have h0 : n = 0:=hs0.resolve_left (by simp)
    subst h0
    go_wp2
    exact bodyPost_ret (v:=iv 15) (by simp [results,Tryz.results9]) rfl ⟨rfl,HK2.out⟩
 have hR:=HR.out
 rw [if_neg hs0] at hR
 replace HR:=Lib.hid hR
 have hS : S = true:=by cases S with | true => rfl | false => exact absurd (Or.inl rfl) hs0
 have h0 : n ≠ 0:=fun e => hs0 (Or.inr e)
 obtain ⟨b,off,rfl,xs,hxs,hrx⟩:=HAT.out h0
 have Hxs:=Lib.hid hxs
 have hxz:=hxs.z;have hxn:=hxs.n;have hxi:=hxs.i
 have I1' : Hid (∀ y,Keep w y → Calls Tryz.prog 14 #[.agg xs] y fun e w' => ∃ ds,e = .returned (.agg ds)∧HashA LI ds∧Keep y w'):=Lib.hid fun y hy => I1.out y hy xs Hxs.out h0
 obtain ⟨j,hj⟩ : ∃ j,n - 1 = j:=⟨_,rfl⟩
 have hj2 : (n : Int) - 1 = j:=by omega
 have hjn : j < n:=by omega
 rw [hj] at hrx
 have HX:=Lib.hid hrx
 have g1 : (n == 0) = false:=by simp [h0]
 have g2 : ((n : Int) == 0) = false:=by rw [beq_eq_false_iff_ne];omega
 subst hS
 clear hR hs0 hj hrx hxs HAT I1 Hxs
 go_upto_region 3 with fail
 clear g1 g2
 refine wp_region_tree (.take [0,1,2,3,4,5,6,7] (.force [8] (.take [9] .done))) [] (by kernel_rfl) (by kernel_rfl) (fun w3 k3 => ?_)
 have HP3:=Lib.hid (HP2.out.keep k3)
 have HH3:=Lib.hid (HH2.out.keep k3)
 have HK3:=Lib.hid (keep_trans HK2.out k3)
 have RX : Hid (w3.rangeAt b (off + j * 68) xs.toList):=Lib.hid fun i v hv => keep_cell HK3.out (HX.out i v hv)
 have RP : Hid (w3.rangeAt (w.heap.size + 1) 1 pv.toList):=Lib.hid (HPV.out _ _ _ HH3.out)
 clear HP2 HH2 HK2 k3 HX HPV
 refine mt_take w3 (Below.refl _ _) ?_
 simp only [pick_cons,pick_nil,nth_zero,nth_succ]
 repeat (first
  | ((with_reducible refine wpQuiet_load_partg (w.heap.size + 1) 1 pv (Eq.trans ?_ rfl) RP.out _ Tryz.underlying28 rfl hpi rfl ?_);rfl;simp only [Act.put,Array.set!_eq_setIfInBounds,List.setIfInBounds_toArray,List.set_cons_succ,List.set_cons_zero])
  | ((with_reducible refine wpQuiet_load_partg b (off + j * 68) xs (Eq.trans ?_ rfl) RX.out _ Tryz.underlying30 rfl hxi rfl ?_);rfl;simp only [Act.put,Array.set!_eq_setIfInBounds,List.setIfInBounds_toArray,List.set_cons_succ,List.set_cons_zero])
  | go_big_quiet_step (fail))
 refine wpQuiet_nil (mt_force ?_)
 simp only [pick_cons,pick_nil,nth_zero,nth_succ]
 refine fc_step rfl (fun K hK => ?_)
 go_simp
 (with_reducible refine (I1'.out _ HK3.out).mono ?_)
 rintro e w4 ⟨ds,rfl,hds,k4⟩
 refine hK _ _ k4 ?_
 have heq : ∀ x,(Op.equalIn 10000 28 (.agg pv) (.agg ds)).run Tryz.prog (aft w4 x) = .ok (PV == LI) (aft w4 x):=fun x => hash_in Hpv.out hds HL1.out HL2.out _
 have heq2 : ∀ x,(Go.binOp .neq 28 (.agg pv) (.agg ds)).run Tryz.prog (aft w4 x) = .ok (.bool (!(PV == LI))) (aft w4 x):=fun x => hash_neq Hpv.out hds HL1.out HL2.out _
 have hdz:=hds.z;have hdn:=hds.n;have hdi:=hds.i
 have HP4:=Lib.hid (HP3.out.keep k4)
 have HH4:=Lib.hid (HH3.out.keep k4)
 have HK4:=Lib.hid (keep_trans HK3.out k4)
 clear hK K hds k4 HP3 HH3 HK3 RX RP I1' Hpv HL1 HL2
 obtain ⟨b1,hb1⟩ : ∃ b,(PV == LI) = b:=⟨_,rfl⟩
 rw [hb1] at HR heq heq2
 clear hb1
 refine fc_nil (mt_take w4 (Below.refl _ _) ?_)
 simp only [pick_cons,pick_nil,nth_zero,nth_succ]
 repeat (go_big_quiet_step (fail))
 refine wpQuiet_nil (mt_end ?_)
 clear heq heq2
 cases b1 with
 | false =>
   have hR:=HR.out
   rw [if_pos rfl] at hR
   subst hR
   clear HR HP4 HH4
   go_wp2
   exact bodyPost_ret (v:=iv 9) (by simp [results,Tryz.results9]) rfl ⟨rfl,HK4.out⟩
 | true =>
 have hR:=HR.out
 rw [if_neg (by simp)] at hR
 replace HR:=Lib.hid hR
 clear hR
 go_upto_region 5 with fail
 refine wp_region_tree (.take [0,1,2,3] (.force [4] (.take [5] .done))) [] (by kernel_rfl) (by kernel_rfl) (fun w5 k5 => ?_)
 have HP5:=Lib.hid (HP4.out.keep k5)
 have HH5:=Lib.hid (HH4.out.keep k5)
 have HK5:=Lib.hid (keep_trans HK4.out k5)
 have q0:=aft_cell (HP5.out.cell 0)
 have q1:=aft_cell (HP5.out.cell 1)
 have q2:=aft_cell (HP5.out.cell 2)
 have q3:=aft_cell (HP5.out.cell 3)
 have q4:=aft_cell (HP5.out.cell 4)
 have q5:=aft_cell (HP5.out.cell 5)
 have q6:=aft_cell (HP5.out.cell 6)
 have r66:=aft_cell ((HH5.out.cell 66).trans HBt.out)
 clear HP4 HH4 HK4 k5
 refine mt_take w5 (Below.refl _ _) ?_
 simp only [pick_cons,pick_nil,nth_zero,nth_succ]
 repeat (go_big_quiet_step (fail))
 refine wpQuiet_nil (mt_force ?_)
 clear r66 q0 q1 q2 q3 q4 q5 q6
 simp only [pick_cons,pick_nil,nth_zero,nth_succ]
 refine fc_step rfl (fun K hK => ?_)
 go_simp
 (with_reducible refine (C1.out _ HK5.out).mono ?_)
 rintro e w6 ⟨rfl,k6⟩
 refine hK _ _ k6 ?_
 have HP6:=Lib.hid (HP5.out.keep k6)
 have HH6:=Lib.hid (HH5.out.keep k6)
 have HK6:=Lib.hid (keep_trans HK5.out k6)
 clear hK K k6 HP5 HH5 HK5 C1
 refine fc_nil (mt_take w6 (Below.refl _ _) ?_)
 simp only [pick_cons,pick_nil,nth_zero,nth_succ]
 repeat (go_big_quiet_step (fail))
 refine wpQuiet_nil (mt_end ?_)
 obtain ⟨b2,hb2⟩ : ∃ b,(bits.toNat == CR.toNat) = b:=⟨_,rfl⟩
 rw [hb2] at HR
 have hbn : ((bits.toNat : Int) != (CR.toNat : Int)) = !b2:=by
  rw [← hb2,Bool.eq_iff_iff]
  simp
  omega
 rw [hbn]
 clear hb2 hbn
 cases b2 with
 | false =>
   have hR:=HR.out
   rw [if_pos rfl] at hR
   subst hR
   clear HR HP6 HH6
   go_wp2
   exact bodyPost_ret (v:=iv 7) (by simp [results,Tryz.results9]) rfl ⟨rfl,HK6.out⟩
 | true =>
 have hR:=HR.out
 rw [if_neg (by simp)] at hR
 replace HR:=Lib.hid hR
 clear hR
 have rh : Hid (w6.rangeAt (w.heap.size + 1) 0 cs.toList):=Lib.hid (range_of HH6.out 0 cs.toList (by simp [List.take_of_length_le]))
 go_upto_region 7 with fail
 go_wp2_with ((with_reducible refine load_partg (w.heap.size + 1) 0 cs (Eq.trans ?_ rfl) rh.out _ Tryz.underlying30 rfl hci rfl ?_);rfl)
 refine (I2.out _ HK6.out).mono ?_
 clear I2 rh
 rintro e w7 ⟨es,rfl,hes,k7⟩
 have HP7:=Lib.hid (HP6.out.keep k7)
 have HH7:=Lib.hid (HH6.out.keep k7)
 have HK7:=Lib.hid (keep_trans HK6.out k7)
 have hez:=hes.z;have hen:=hes.n;have hei:=hes.i
 obtain ⟨zs,hz1,hz2,hz3,-⟩:=zhash_letter
 have hst : (storeCells ⟨w7.heap.size,0,none⟩ es.toList 0).run Tryz.prog (w7.alloc (.cells zs 28)) = .ok () (w7.alloc (.cells es 28)):=run_storeCells_new (P:=Tryz.prog) w7 28 zs es hei (hz1.trans hez.symm) (by have:=all_oneCell_toArray hes.o;rwa [Array.toArray_toList] at this)
 have Hes:=Lib.hid hes
 clear k7 HP6 HH6 HK6 hes
 go_upto_region 8 with fail
 obtain ⟨w8,hw8⟩ : ∃ w8,w8 = w7.alloc (.cells es 28):=⟨_,rfl⟩
 have HP8 : Hid (Blk w8 w.heap.size 25 [u32v limit,iv itv,iv span,iv fut,iv idx,iv orp,.slice A m c]):=by rw [hw8];exact Lib.hid (HP7.out.alloc _)
 have HH8 : Hid (Blk w8 (w.heap.size + 1) 30 cs.toList):=by rw [hw8];exact Lib.hid (HH7.out.alloc _)
 have HE8 : Hid (Blk w8 w7.heap.size 28 es.toList):=by rw [hw8];exact Lib.hid (Blk.new w7 28 es.toList)
 have HK8 : Hid (Keep w w8):=by rw [hw8];exact Lib.hid (keep_trans HK7.out (keep_new _ _))
 rw [← hw8]
 clear hw8 hst HP7 HH7 HK7 hz1 hz2 hz3 zs
 generalize w7.heap.size = g at *
 have re : Hid (w8.rangeAt g 0 es.toList):=Lib.hid (range_of HE8.out 0 es.toList (by simp [List.take_of_length_le]))
 have p0:=HP8.out.cell 0
 have r66:=(HH8.out.cell 66).trans HBt.out
 simp only [List.getElem?_cons_succ,List.getElem?_cons_zero] at p0
 go_wp2_with ((with_reducible refine load_partg g 0 es (Eq.trans ?_ rfl) re.out _ Tryz.underlying28 rfl hei rfl ?_);rfl)
 refine (M1.out _ es Hes.out).mono ?_
 clear M1 re p0 r66
 rintro e w9 ⟨rfl,k9⟩
 have HP9:=Lib.hid (HP8.out.keep k9)
 have HH9:=Lib.hid (HH8.out.keep k9)
 have HE9:=Lib.hid (HE8.out.keep k9)
 have HK9:=Lib.hid (keep_trans HK8.out k9)
 clear k9 HP8 HH8 HE8 HK8
 go_wp2_with fail
 refine (wrong_any M _).mono ?_
 rintro e wy ⟨rfl,rfl⟩
 by_cases hM0 : M ≠ 0
 ·have hR:=HR.out
  rw [if_pos hM0] at hR
  subst hR
  have d1 : (R != 0) = true:=by simp [hM0]
  clear HR HP9 HH9 HE9 hM0
  go_wp2
  exact bodyPost_ret (v:=iv R) (by simp [results,Tryz.results9]) rfl ⟨rfl,HK9.out⟩
 have hR:=HR.out
 rw [if_neg (by simp [hM0])] at hR
 replace HR:=Lib.hid hR
 obtain rfl : M = 0:=by omega
 have rh : Hid (wy.rangeAt g 0 es.toList):=Lib.hid (range_of HE9.out 0 es.toList (by simp [List.take_of_length_le]))
 clear hR hM0
 go_upto_region 11 with fail
 refine wp_region_tree (.take [0,1,2,4,5,6] (.force [3,7] (.take [8] .done))) [] (by kernel_rfl) (by kernel_rfl) (fun wa ka => ?_)
 have HPa:=Lib.hid (HP9.out.keep ka)
 have HHa:=Lib.hid (HH9.out.keep ka)
 have HEa:=Lib.hid (HE9.out.keep ka)
 have HKa:=Lib.hid (keep_trans HK9.out ka)
 have q3:=aft_cell (HPa.out.cell 3)
 have r65:=aft_cell ((HHa.out.cell 65).trans HT.out)
 clear HP9 HE9 HK9 rh ka
 refine mt_take wa (Below.refl _ _) ?_
 simp only [pick_cons,pick_nil,nth_zero,nth_succ]
 repeat (go_big_quiet_step (fail))
 refine wpQuiet_nil (mt_force ?_)
 clear q3 r65 HHa
 simp only [pick_cons,pick_nil,nth_zero,nth_succ]
 refine fc_step rfl (fun K hK => ?_)
 go_simp
 (with_reducible refine (T1.out _ HKa.out).mono ?_)
 rintro e wb ⟨tv,rfl,htv,kb⟩
 refine hK _ _ kb ?_
 have HTV:=Lib.hid htv
 have HPb:=Lib.hid (HPa.out.keep kb)
 have HEb:=Lib.hid (HEa.out.keep kb)
 have HKb:=Lib.hid (keep_trans HKa.out kb)
 clear hK K T1 htv kb HPa HEa HKa
 refine fc_step rfl (fun K hK => ?_)
 go_simp
 (with_reducible refine (K1.out _ _ _ HTV.out).mono ?_)
 rintro e wc ⟨rfl,kc⟩
 refine hK _ _ kc ?_
 have HPc:=Lib.hid (HPb.out.keep kc)
 have HEc:=Lib.hid (HEb.out.keep kc)
 have HKc:=Lib.hid (keep_trans HKb.out kc)
 clear hK K K1 HTV kc HPb HEb HKb
 refine fc_nil (mt_take wc (Below.refl _ _) ?_)
 simp only [pick_cons,pick_nil,nth_zero,nth_succ]
 repeat (go_big_quiet_step (fail))
 refine wpQuiet_nil (mt_end ?_)
 go_wp2_with fail
 refine (wrong_any CI _).mono ?_
 rintro e wd ⟨rfl,rfl⟩
 by_cases hC0 : CI ≠ 0
 ·have hR:=HR.out
  rw [if_pos hC0] at hR
  subst hR
  have d1 : (R != 0) = true:=by simp [hC0]
  clear HR HPc HEc hC0
  go_wp2
  exact bodyPost_ret (v:=iv R) (by simp [results,Tryz.results9]) rfl ⟨rfl,HKc.out⟩
 have hR:=HR.out
 rw [if_neg hC0] at hR
 subst hR
 obtain rfl : CI = 0:=by omega
 clear HR hC0
 have re : Hid (wd.rangeAt g 0 es.toList):=Lib.hid (range_of HEc.out 0 es.toList (by simp [List.take_of_length_le]))
 go_upto_region 14 with fail
 have p0:=HPc.out.cell 0
 have p1:=HPc.out.cell 1
 have p2:=HPc.out.cell 2
 have p3:=HPc.out.cell 3
 have p4:=HPc.out.cell 4
 have p5:=HPc.out.cell 5
 have p6:=HPc.out.cell 6
 simp only [List.getElem?_cons_succ,List.getElem?_cons_zero] at p0 p1 p2 p3 p4 p5 p6
 go_wp2_with ((with_reducible refine load_partg g 0 es (Eq.trans ?_ rfl) re.out _ Tryz.underlying28 rfl hei rfl ?_);rfl)
 refine (P1.out _ HKc.out es Hes.out).mono ?_
 clear P1 re p0 p1 p2 p3 p4 p5 p6
 rintro e we ⟨rfl,ke⟩
 go_wp2
 exact bodyPost_ret (v:=iv R) (by simp [results,Tryz.results9]) rfl ⟨rfl,keep_trans HKc.out ke⟩
end Go.Proofs.YtmbbknjddebhoaaGreatDoor
/- rules.Begins, Valid. -/
set_option linter.unusedSimpArgs false
set_option linter.unusedVariables false
namespace Go.Proofs.YtmbbknjddebhoaaGreatDoor
open Go.RowKit
attribute [local go_sem ↓] Go.wp_at_zero Go.wp_at_succ
def beginsR (p : Par) (h : Hd) : Int:=if saneR p = false then 15 else passR p 0 (idL h)
set_option maxRecDepth 100000 in
set_option maxHeartbeats 4000000 in
theorem begins_any (p : Par) (A : Option Addr) (c : Nat) (h : Hd) (cs : Array Value) (w : World) (hS : ShaOk w) (hC : Chks p A w) (ho : h.ok) (hcs : HdA h cs) :
  Calls Tryz.prog 11 #[parV p A c,.agg cs] w fun e w' => e = .returned (iv (beginsR p h))∧Keep w w':=by
 have S1 : Hid (∀ y,Calls Tryz.prog 17 #[parV p A c] y fun e w' => e = .returned (.bool (saneR p))∧Keep y w'):=Lib.hid fun y => sane_any p A c y
 have HR : Hid (∀ r,beginsR p h = r → r = if saneR p = false then 15 else passR p 0 (idL h)):=Lib.hid fun r e => by subst e;rfl
 replace HR:=Lib.hid (HR.out _ rfl)
 have I2 : Hid (∀ y,Keep w y → Calls Tryz.prog 14 #[.agg cs] y fun e w' => ∃ ds,e = .returned (.agg ds)∧HashA (idL h) ds∧Keep y w'):=Lib.hid fun y hy => id_any h cs y (hS.keep hy) ho hcs
 have P1 : Hid (∀ y,Keep w y → ∀ ds,HashA (idL h) ds → Calls Tryz.prog 22 #[parV p A c,iv 0,.agg ds] y fun e w' => e = .returned (iv (passR p 0 (idL h)))∧Keep y w'):=Lib.hid fun y hy ds hds => passes_any p A c 0 (idL h) ds y (hC.keep hy) (idL_len _) hds
 have hcz:=hcs.z;have hcn:=hcs.n;have hci:=hcs.i
 clear hcs ho hC hS
 generalize beginsR p h = R at *
 generalize idL h = HI at *
 generalize passR p 0 HI = PR at *
 generalize saneR p = S at *
 unfold parV at *
 generalize p.limit = limit at *
 generalize p.itv = itv at *
 generalize p.span = span at *
 generalize p.fut = fut at *
 generalize p.idx = idx at *
 generalize p.orp = orp at *
 generalize hm : p.chks.length = m at *
 clear hm
 go_enter Tryz.func11,Tryz.ntmps11
 go_upto_region 1 with fail
 obtain ⟨w1,hw1⟩ : ∃ w1,w1 = (w.alloc (.cells #[u32v limit,iv itv,iv span,iv fut,iv idx,iv orp,.slice A m c] 25)).alloc (.cells cs 30):=⟨_,rfl⟩
 have HP1 : Hid (Blk w1 w.heap.size 25 [u32v limit,iv itv,iv span,iv fut,iv idx,iv orp,.slice A m c]):=by rw [hw1];exact Lib.hid ((Blk.new w 25 [u32v limit,iv itv,iv span,iv fut,iv idx,iv orp,.slice A m c]).alloc _)
 have HH1 : Hid (Blk w1 (w.heap.size + 1) 30 cs.toList):=by
  rw [hw1]
  have h2:=Blk.new (w.alloc (.cells #[u32v limit,iv itv,iv span,iv fut,iv idx,iv orp,.slice A m c] 25)) 30 cs.toList
  rw [World.size_alloc] at h2
  exact Lib.hid h2
 have HK1 : Hid (Keep w w1):=by rw [hw1];exact Lib.hid (keep_trans (keep_new _ _) (keep_new _ _))
 rw [← hw1]
 clear hw1
 have p0:=HP1.out.cell 0
 have p1:=HP1.out.cell 1
 have p2:=HP1.out.cell 2
 have p3:=HP1.out.cell 3
 have p4:=HP1.out.cell 4
 have p5:=HP1.out.cell 5
 have p6:=HP1.out.cell 6
 simp only [List.getElem?_cons_succ,List.getElem?_cons_zero] at p0 p1 p2 p3 p4 p5 p6
 go_wp2_with fail
 refine (S1.out _).mono ?_
 clear S1 p0 p1 p2 p3 p4 p5 p6
 rintro e w2 ⟨rfl,k2⟩
 have HP2:=Lib.hid (HP1.out.keep k2)
 have HH2:=Lib.hid (HH1.out.keep k2)
 have HK2:=Lib.hid (keep_trans HK1.out k2)
 clear HP1 HH1 HK1 k2
 have hR:=HR.out
 cases S with
 | false =>
   rw [if_pos rfl] at hR
   subst hR
   clear HR HP2 HH2
   go_wp2
   exact bodyPost_ret (v:=iv 15) (by simp [results,Tryz.results11]) rfl ⟨rfl,HK2.out⟩
 | true =>
   rw [if_neg (by simp)] at hR
   subst hR
   clear HR
   go_upto_region 3 with fail
   refine wp_region_tree (.take [0,1] (.force [2,3] (.take [4] .done))) [] (by kernel_rfl) (by kernel_rfl) (fun w3 k3 => ?_)
   have HP3:=HP2.out.keep k3
   have HH3:=HH2.out.keep k3
   have HK3:=Lib.hid (keep_trans HK2.out k3)
   have rh : Hid (w3.rangeAt (w.heap.size + 1) 0 cs.toList):=Lib.hid (range_of HH3 0 cs.toList (by simp [List.take_of_length_le]))
   have q0:=aft_cell (HP3.cell 0)
   have q1:=aft_cell (HP3.cell 1)
   have q2:=aft_cell (HP3.cell 2)
   have q3:=aft_cell (HP3.cell 3)
   have q4:=aft_cell (HP3.cell 4)
   have q5:=aft_cell (HP3.cell 5)
   have q6:=aft_cell (HP3.cell 6)
   clear HP2 HH2 HK2 k3 HP3 HH3
   refine mt_take w3 (Below.refl _ _) ?_
   simp only [pick_cons,pick_nil,nth_zero,nth_succ]
   repeat (first
    | ((with_reducible refine wpQuiet_load_partg (w.heap.size + 1) 0 cs (Eq.trans ?_ rfl) rh.out _ Tryz.underlying30 rfl hci rfl ?_);rfl;simp only [Act.put,Array.set!_eq_setIfInBounds,List.setIfInBounds_toArray,List.set_cons_succ,List.set_cons_zero])
    | go_big_quiet_step (fail))
   refine wpQuiet_nil (mt_force ?_)
   clear rh q0 q1 q2 q3 q4 q5 q6
   simp only [pick_cons,pick_nil,nth_zero,nth_succ]
   refine fc_step rfl (fun K hK => ?_)
   go_simp
   (with_reducible refine (I2.out _ HK3.out).mono ?_)
   rintro e w4 ⟨ds,rfl,hds,k4⟩
   refine hK _ _ k4 ?_
   have Hds:=Lib.hid hds
   have HK4:=Lib.hid (keep_trans HK3.out k4)
   clear hK K hds k4 HK3
   refine fc_step rfl (fun K hK => ?_)
   go_simp
   (with_reducible refine (P1.out _ HK4.out ds Hds.out).mono ?_)
   rintro e w5 ⟨rfl,k5⟩
   refine hK _ _ k5 ?_
   have HK5:=Lib.hid (keep_trans HK4.out k5)
   clear hK K k5
   refine fc_nil (mt_take _ (Below.refl _ _) ?_)
   simp only [pick_cons,pick_nil,nth_zero,nth_succ]
   repeat (go_big_quiet_step (fail))
   refine wpQuiet_nil (mt_end ?_)
   go_wp2
   exact bodyPost_ret (v:=iv R) (by simp [results,Tryz.results11]) rfl ⟨rfl,HK5.out⟩
def stepR (p : Par) (l : List Hd) (now : Int) (i : Nat) : Int:=if i = 0 then beginsR p (l.getD i hd0) else checkR p (l.take i) (l.getD i hd0) now
def validN (p : Par) (l : List Hd) (now : Int) : Nat:=((List.range l.length).find? fun i => decide (stepR p l now i ≠ 0)).getD l.length
def validE (p : Par) (l : List Hd) (now : Int) : Int:=if validN p l now < l.length then stepR p l now (validN p l now) else 0
theorem valid_stop {p : Par} {l : List Hd} {now : Int} {k : Nat} (hk : k < l.length) (h0 : ∀ j,j < k → stepR p l now j = 0) (h1 : stepR p l now k ≠ 0) : validN p l now = k∧validE p l now = stepR p l now k:=by
 have e : validN p l now = k:=by
  unfold validN
  have h2 : (List.range l.length).find? (fun i => decide (stepR p l now i ≠ 0)) = some k:=by
   rw [List.find?_range_eq_some]
   exact ⟨by simpa using h1,by simpa using hk,fun j hj => by simpa using h0 j hj⟩
  rw [h2];rfl
 refine ⟨e,?_⟩
 unfold validE
 rw [e,if_pos hk]
theorem valid_all {p : Par} {l : List Hd} {now : Int} (h0 : ∀ j,j < l.length → stepR p l now j = 0) : validN p l now = l.length∧validE p l now = 0:=by
 have e : validN p l now = l.length:=by
  unfold validN
  have h2 : (List.range l.length).find? (fun i => decide (stepR p l now i ≠ 0)) = none:=by
   rw [List.find?_eq_none]
   intro j hj
   have:=h0 j (by simpa using hj)
   simpa using this
  rw [h2];rfl
 refine ⟨e,?_⟩
 unfold validE
 rw [e,if_neg (Nat.lt_irrefl _)]
theorem rd_takeH {w : World} {B : Option Addr} {l : List Hd} (h : Rd w B (l.flatMap Hd.cells)) (k : Nat) : Rd w B ((l.take k).flatMap Hd.cells):=by
 have e : l.flatMap Hd.cells = (l.take k).flatMap Hd.cells ++ (l.drop k).flatMap Hd.cells:=by rw [← List.flatMap_append,List.take_append_drop]
 have h2:=h.take ((l.take k).flatMap Hd.cells).length
 rw [e,List.take_left] at h2
 exact h2
end Go.Proofs.YtmbbknjddebhoaaGreatDoor
/- florinref16: Point, point. (printed by gen_nrd.py out of XRp, XRq) -/
set_option linter.unusedSimpArgs false
set_option linter.unusedVariables false
namespace Go.Proofs.YtmbbknjddebhoaaGreatDoor
open Go.RowKit
attribute [local go_sem ↓] Go.wp_at_zero Go.wp_at_succ
set_option maxRecDepth 100000 in
set_option maxHeartbeats 4000000 in
theorem rpoint_any (p : Par) (A : Option Addr) (c : Nat) (n : Int) (w : World) (hr : Chks p A w) :
  Calls Tryz.prog 8 #[parV p A c,iv n] w fun e w' => ∃ cs,e = .returned (.tuple #[.agg cs,.bool (pointR p n).isSome])∧HashA (pointH p n) cs∧Keep w w':=by
 obtain ⟨zs,hzs⟩ : ∃ zs,zs = zhash:=⟨_,rfl⟩
 have hz1 : zs.size = 32:=by rw [hzs];exact zhash_size
 have hz2 : ∀ w,(zeroValue 28).run Tryz.prog w = .ok (.agg zs) w:=fun w => by rw [hzs];exact zhash_zero w
 have hz3 : ¬ zs = #[]:=fun h => by rw [h] at hz1;cases hz1
 have hz4 : Hid (zs.toList = (List.replicate 32 (0 : UInt8)).map u8v):=Lib.hid (by rw [hzs];exact zhash_list)
 have hz5 : Hid (Tryz.prog.built 28 [] = some zs):=Lib.hid (by rw [hzs];exact zhash_Br)
 clear hzs
 have HAT : Hid (∀ k (h : k < p.chks.length),∃ b off,A = some ⟨b,off,none⟩∧w.rangeAt b (off + k * 33) (chkC p.chks[k])∧p.chks[k].2.length = 32):=Lib.hid fun k h => by
  obtain ⟨b,off,h1,-,h2⟩:=chks_at hr h
  exact ⟨b,off,h1,h2,hr.2.1 _ (List.getElem_mem h)⟩
 have hl : p.chks.length ≤ 1000:=hr.2.2
 have HP : Hid (∀ r hsh,(pointR p n).isSome = r → pointH p n = hsh → r = ((p.chks.find? fun x => x.1 == n).map (·.2)).isSome∧hsh = ((p.chks.find? fun x => x.1 == n).map (·.2)).getD (List.replicate 32 0)):=Lib.hid fun r hsh e1 e2 => by subst e1 e2;exact ⟨rfl,rfl⟩
 replace HP:=Lib.hid (HP.out _ _ rfl rfl)
 clear hr
 generalize (pointR p n).isSome = R at *
 generalize pointH p n = H at *
 unfold parV
 generalize p.chks = L at *
 generalize p.limit = limit at *
 generalize p.itv = itv at *
 generalize p.span = span at *
 generalize p.fut = fut at *
 generalize p.idx = idx at *
 generalize p.orp = orp at *
 clear p
 go_enter Tryz.func8,Tryz.ntmps8
 go_upto_region 1 with fail
 obtain ⟨w1,hw1⟩ : ∃ w1,w1 = (w.alloc (.cells #[u32v limit,iv itv,iv span,iv fut,iv idx,iv orp,.slice A L.length c] 25)).alloc (.cells zs 28):=⟨_,rfl⟩
 have HP1 : Hid (Blk w1 w.heap.size 25 [u32v limit,iv itv,iv span,iv fut,iv idx,iv orp,.slice A L.length c]):=by rw [hw1];exact Lib.hid ((Blk.new w 25 [u32v limit,iv itv,iv span,iv fut,iv idx,iv orp,.slice A L.length c]).alloc _)
 have HR1 : Hid (Blk w1 (w.heap.size + 1) 28 zs.toList):=by
  rw [hw1]
  have h2:=Blk.new (w.alloc (.cells #[u32v limit,iv itv,iv span,iv fut,iv idx,iv orp,.slice A L.length c] 25)) 28 zs.toList
  rw [World.size_alloc] at h2
  exact Lib.hid h2
 have HK1 : Hid (Keep w w1):=by rw [hw1];exact Lib.hid (keep_trans (keep_new _ _) (keep_new _ _))
 rw [← hw1]
 clear hw1
 have p6:=HP1.out.cell 6
 simp only [List.getElem?_cons_succ,List.getElem?_cons_zero] at p6
 go_wp2_with fail
 clear p6
 have hgz : w.heap.size ≠ w.heap.size + 1:=by omega
 go_loopw [6] (fun i wr => ∃ k : Nat,k ≤ L.length∧i = .int .i64 k∧Hid ((L.take k).find? (fun x => x.1 == n) = none)∧Hid (Blk wr w.heap.size 25 [u32v limit,iv itv,iv span,iv fut,iv idx,iv orp,.slice A L.length c])∧Hid (Blk wr (w.heap.size + 1) 28 zs.toList)∧Hid (Keep w wr)) (fun i _ => L.length - (intOf i).toNat)
 case atStart => exact ⟨0,Nat.zero_le _,rfl,Lib.hid rfl,HP1,HR1,HK1⟩
 case round =>
  obtain ⟨k,hk,rfl,hno,HPP,HR,HK⟩:=hrel
  clear HP1 HR1 HK1
  have p6:=HPP.out.cell 6
  simp only [List.getElem?_cons_succ,List.getElem?_cons_zero] at p6
  by_cases hlt : k < L.length
  ·obtain ⟨b,off,rfl,hrg,hh⟩:=HAT.out k hlt
   have RA : Hid (wr.rangeAt b (off + k * 33) (chkC L[k]).toArray.toList):=Lib.hid fun j v hv => keep_cell HK.out (hrg j v hv)
   have hone:=chkC_one L[k]
   have hsz:=chkC_len hh
   have hf : (L.take (k + 1)).find? (fun x => x.1 == n) = if L[k].1 = n then some L[k] else none:=by
    rw [List.take_succ_eq_append_getElem hlt,List.find?_append,hno.out,Option.none_or]
    simp only [List.find?_cons,List.find?_nil,beq_iff_eq]
    by_cases e : L[k].1 = n
    ·simp [e]
    ·have e2 : (L[k].1 == n) = false:=by simpa using e
     simp [e,e2]
   have hall : (L.find? fun x => x.1 == n) = (((L.take (k + 1)).find? fun x => x.1 == n).or ((L.drop (k + 1)).find? fun x => x.1 == n)):=by
    rw [← List.find?_append,List.take_append_drop]
   have HF:=Lib.hid hf;have HL:=Lib.hid hall
   clear hf hall hrg
   generalize L[k] = x at *
   obtain ⟨m,hsh⟩:=x
   simp only at hh HF
   have hg1 : w.heap.size + 1 < wr.heap.size:=HR.out.lt
   have hcl : (chkC (m,hsh)).toArray.toList = iv m :: hsh.map u8v:=rfl
   rw [hcl] at RA
   have Hh:=Lib.hid hh
   have c0 : wr.cell? ⟨b,off + k * 33,none⟩ = some (iv m):=RA.out 0 _ rfl
   clear hcl hsz hone hh
   by_cases hmn : m = n
   ·subst hmn
    have hR:=HP.out.1
    have hH:=HP.out.2
    rw [HL.out,HF.out,if_pos rfl] at hR hH
    simp only [Option.some_or,Option.map_some,Option.isSome_some,Option.getD_some] at hR hH
    subst hR hH
    obtain ⟨hv,hhv⟩ : ∃ hv,HashA H hv:=⟨_,HashA.of Hh.out⟩
    have hvz:=hhv.z;have hvn:=hhv.n;have hvi:=hhv.i
    have Hhv:=Lib.hid hhv
    have hrg : Hid (wr.rangeAt b (off + k * 33 + 1) hv.toList):=Lib.hid fun j v hv' => by
     have q:=RA.out (j + 1) v (by rw [List.getElem?_cons_succ,← hhv.l];exact hv')
     rwa [show off + k * 33 + (j + 1) = off + k * 33 + 1 + j by omega] at q
    obtain ⟨w8,hst8,hb8,hg8⟩:=run_store_blk (P:=Tryz.prog) hv.toList HR.out (by simp [hz1,hvz]) hhv.o
    have Hb8:=Lib.hid hb8;have Hg8:=Lib.hid hg8
    clear hb8 hg8 hhv HP HL HF hno HAT RA
    go_wp2_with ((with_reducible refine load_partg b (off + k * 33 + 1) hv (Eq.trans ?_ rfl) hrg.out _ Tryz.underlying28 rfl hvi rfl ?_);rfl)
    have hb8:=Hb8.out
    exact bodyPost_ret (v:=.tuple #[.agg hv,.bool true]) (results_cell_tmp_row Tryz.results8 _ _ (w.heap.size + 1) _ _ _ _ rfl hb8 Tryz.underlying28 rfl (by rw [List.size_toArray,Array.length_toList];exact hvi)) rfl ⟨hv,rfl,Hhv.out,HK.out.grown Hg8.out HK.out.size (fun q hq => by injection hq with hq;omega)⟩
   ·have d1 : (m == n) = false:=by simp [hmn]
    have hno2:=HF.out
    rw [if_neg hmn] at hno2
    have Hno2:=Lib.hid hno2
    clear hno2 HF HL hmn RA
    go_wp2
    go_roundw
    case rel => exact ⟨k + 1,by omega,by go_num,Hno2,HPP,HR,HK⟩
    case measure => simp [intOf];omega
  ·obtain rfl : L.length = k:=by omega
   have hR:=HP.out.1
   have hH:=HP.out.2
   have hno2:=hno.out
   rw [List.take_length] at hno2
   rw [hno2] at hR hH
   simp only [Option.map_none,Option.isSome_none,Option.getD_none] at hR hH
   subst hR hH
   have hzo : ∀ v ∈ zs.toList,v.oneCell' = true:=by rw [hz4.out];exact one_w8 _
   have hzi : (Tryz.prog.info? 28).map (·.size) = some zs.size:=by rw [hz1];kernel_rfl
   obtain ⟨w8,hst8,hb8,hg8⟩:=run_store_blk (P:=Tryz.prog) zs.toList HR.out rfl hzo
   have Hb8:=Lib.hid hb8;have Hg8:=Lib.hid hg8
   have hg1 : w.heap.size + 1 < wr.heap.size:=HR.out.lt
   clear hb8 hg8 hno2 HP hno hzo HAT
   go_wp2_with ((with_reducible refine list_buildr [] zs (Eq.trans ?_ rfl) hz5.out ?_);rfl)
   have hb8:=Hb8.out
   have hza : HashA (List.replicate 32 0) zs:=by
    have h:=HashA.of (h:=List.replicate 32 (0 : UInt8)) rfl
    have e : ((List.replicate 32 (0 : UInt8)).map u8v).toArray = zs:=by rw [← hz4.out,Array.toArray_toList]
    rw [e] at h
    exact h
   exact bodyPost_ret (v:=.tuple #[.agg zs,.bool false]) (results_cell_tmp_row Tryz.results8 _ _ (w.heap.size + 1) _ _ _ _ rfl hb8 Tryz.underlying28 rfl (by rw [List.size_toArray,Array.length_toList];exact hzi)) rfl ⟨zs,rfl,hza,HK.out.grown Hg8.out HK.out.size (fun q hq => by injection hq with hq;omega)⟩
set_option maxRecDepth 100000 in
set_option maxHeartbeats 4000000 in
theorem rpasses_any (p : Par) (A : Option Addr) (c : Nat) (n : Int) (h : Hd) (cs : Array Value) (w : World) (hr : Chks p A w) (ho : h.ok) (hcs : HdA h cs) :
  Calls Tryz.prog 29 #[parV p A c,iv n,.agg cs] w fun e w' => e = .returned (iv (passR p n (idL h)))∧Keep w w':=by
 have P1 : Hid (∀ y,Keep w y → Calls Tryz.prog 8 #[parV p A c,iv n] y fun e w' => ∃ cs,e = .returned (.tuple #[.agg cs,.bool (pointR p n).isSome])∧HashA (pointH p n) cs∧Keep y w'):=Lib.hid fun y hy => rpoint_any p A c n y (hr.keep hy)
 have I1 : Hid (∀ y,Calls Tryz.prog 24 #[.agg cs] y fun e w' => ∃ ds,e = .returned (.agg ds)∧HashA (idL h) ds∧Keep y w'):=Lib.hid fun y => rid_any h cs y ho hcs
 have HL:=Lib.hid (pointH_len hr.2.1 n)
 have HR:=Lib.hid (passR_of p n (idL h))
 obtain ⟨zs,hz1,hz2,hz3,-⟩:=zhash_letter
 have hcz:=hcs.z;have hcn:=hcs.n;have hci:=hcs.i
 have Hl : Hid ((idL h).length = 32):=Lib.hid (idL_len _)
 clear hr hcs ho
 generalize passR p n (idL h) = R at *
 generalize idL h = id at *
 generalize (pointR p n).isSome = is at *
 generalize pointH p n = H at *
 unfold parV at *
 generalize p.limit = limit at *
 generalize p.itv = itv at *
 generalize p.span = span at *
 generalize p.fut = fut at *
 generalize p.idx = idx at *
 generalize p.orp = orp at *
 generalize hm : p.chks.length = m at *
 clear hm
 go_enter Tryz.func29,Tryz.ntmps29
 go_upto_region 1 with fail
 obtain ⟨w1,hw1⟩ : ∃ w1,w1 = (w.alloc (.cells #[u32v limit,iv itv,iv span,iv fut,iv idx,iv orp,.slice A m c] 25)).alloc (.cells cs 30):=⟨_,rfl⟩
 have HP1 : Hid (Blk w1 w.heap.size 25 [u32v limit,iv itv,iv span,iv fut,iv idx,iv orp,.slice A m c]):=by rw [hw1];exact Lib.hid ((Blk.new w 25 [u32v limit,iv itv,iv span,iv fut,iv idx,iv orp,.slice A m c]).alloc _)
 have HI1 : Hid (Blk w1 (w.heap.size + 1) 30 cs.toList):=by
  rw [hw1]
  have h2:=Blk.new (w.alloc (.cells #[u32v limit,iv itv,iv span,iv fut,iv idx,iv orp,.slice A m c] 25)) 30 cs.toList
  rw [World.size_alloc] at h2
  exact Lib.hid h2
 have HK1 : Hid (Keep w w1):=by rw [hw1];exact Lib.hid (keep_trans (keep_new _ _) (keep_new _ _))
 rw [← hw1]
 clear hw1
 have p0:=HP1.out.cell 0
 have p1:=HP1.out.cell 1
 have p2:=HP1.out.cell 2
 have p3:=HP1.out.cell 3
 have p4:=HP1.out.cell 4
 have p5:=HP1.out.cell 5
 have p6:=HP1.out.cell 6
 simp only [List.getElem?_cons_succ,List.getElem?_cons_zero] at p0 p1 p2 p3 p4 p5 p6
 go_wp2_with fail
 refine (P1.out _ HK1.out).mono ?_
 clear P1 p0 p1 p2 p3 p4 p5 p6
 rintro e w2 ⟨ds,rfl,hds,k2⟩
 have HI2:=Lib.hid (HI1.out.keep k2)
 have HK2:=Lib.hid (keep_trans HK1.out k2)
 have hdz:=hds.z;have hdn:=hds.n;have hdi:=hds.i
 have hst : (storeCells ⟨w2.heap.size,0,none⟩ ds.toList 0).run Tryz.prog (w2.alloc (.cells zs 28)) = .ok () (w2.alloc (.cells ds 28)):=run_storeCells_new (P:=Tryz.prog) w2 28 zs ds hdi (hz1.trans hdz.symm) (by have:=all_oneCell_toArray hds.o;rwa [Array.toArray_toList] at this)
 have Hds:=Lib.hid hds
 clear k2 HI1 HK1 HP1 hds
 go_upto_region 2 with fail
 obtain ⟨w3,hw3⟩ : ∃ w3,w3 = w2.alloc (.cells ds 28):=⟨_,rfl⟩
 have HI3 : Hid (Blk w3 (w.heap.size + 1) 30 cs.toList):=by rw [hw3];exact Lib.hid (HI2.out.alloc _)
 have HD3 : Hid (Blk w3 w2.heap.size 28 ds.toList):=by rw [hw3];exact Lib.hid (Blk.new w2 28 ds.toList)
 have HK3 : Hid (Keep w w3):=by rw [hw3];exact Lib.hid (keep_trans HK2.out (keep_new _ _))
 rw [← hw3]
 clear hw3 hst HI2 HK2
 generalize w2.heap.size = g at *
 obtain ⟨x,hx⟩ : ∃ x,w.heap.size + 1 = x:=⟨_,rfl⟩
 rw [hx] at HI3
 simp only [hx]
 clear hx
 have hR:=HR.out
 cases is with
 | false =>
   rw [if_neg (by simp)] at hR
   subst hR
   refine wp_region_tree (.take [0,1,2,3] (.force [4] (.take [5,6] .done))) [] (by kernel_rfl) (by kernel_rfl) (fun w4 k4 => ?_)
   have HK4:=Lib.hid (keep_trans HK3.out k4)
   clear k4
   refine mt_take w4 (Below.refl _ _) ?_
   simp only [pick_cons,pick_nil,nth_zero,nth_succ]
   repeat (go_big_quiet_step (fail))
   refine wpQuiet_nil (mt_force ?_)
   simp only [pick_cons,pick_nil,nth_zero,nth_succ]
   refine fc_skip rfl ?_
   simp only [Act.put,Array.set!_eq_setIfInBounds,List.setIfInBounds_toArray,List.set_cons_succ,List.set_cons_zero]
   refine fc_nil (mt_take w4 (Below.refl _ _) ?_)
   simp only [pick_cons,pick_nil,nth_zero,nth_succ]
   repeat (go_big_quiet_step (fail))
   refine wpQuiet_nil (mt_end ?_)
   clear HR HD3 HI3 HK3
   go_wp2
   exact bodyPost_ret (v:=iv 0) (by simp [results,Tryz.results29]) rfl ⟨rfl,HK4.out⟩
 | true =>
   refine wp_region_tree (.take [0,1,2,3] (.force [4] (.take [5,6] .done))) [] (by kernel_rfl) (by kernel_rfl) (fun w4 k4 => ?_)
   have HK4:=Lib.hid (keep_trans HK3.out k4)
   have q1 : Hid (w4.rangeAt g 0 ds.toList):=Lib.hid (range_of (HD3.out.keep k4) 0 ds.toList (by simp [List.take_of_length_le]))
   have q2 : Hid (w4.rangeAt x 0 cs.toList):=Lib.hid (range_of (HI3.out.keep k4) 0 cs.toList (by simp [List.take_of_length_le]))
   clear k4 HD3 HI3 HK3
   refine mt_take w4 (Below.refl _ _) ?_
   simp only [pick_cons,pick_nil,nth_zero,nth_succ]
   repeat (first
    | ((with_reducible refine wpQuiet_load_partg g 0 ds (Eq.trans ?_ rfl) q1.out _ Tryz.underlying28 rfl hdi (Eq.trans ?_ rfl) ?_);rfl;rfl;simp only [Act.put,Array.set!_eq_setIfInBounds,List.setIfInBounds_toArray,List.set_cons_succ,List.set_cons_zero])
    | ((with_reducible refine wpQuiet_load_partg x 0 cs (Eq.trans ?_ rfl) q2.out _ Tryz.underlying30 rfl hci (Eq.trans ?_ rfl) ?_);rfl;rfl;simp only [Act.put,Array.set!_eq_setIfInBounds,List.setIfInBounds_toArray,List.set_cons_succ,List.set_cons_zero])
    | go_big_quiet_step (fail))
   refine wpQuiet_nil (mt_force ?_)
   simp only [pick_cons,pick_nil,nth_zero,nth_succ]
   refine fc_step rfl (fun K hK => ?_)
   go_simp
   (with_reducible refine (I1.out _).mono ?_)
   rintro e w5 ⟨es,rfl,hes,k5⟩
   refine hK _ _ k5 ?_
   have HK5:=Lib.hid (keep_trans HK4.out k5)
   have heq : ∀ y,(Op.equalIn 10000 28 (.agg ds) (.agg es)).run Tryz.prog (aft w5 y) = .ok (H == id) (aft w5 y):=fun y => hash_in Hds.out hes HL.out Hl.out _
   have heq2 : ∀ y,(Go.binOp .neq 28 (.agg ds) (.agg es)).run Tryz.prog (aft w5 y) = .ok (.bool (!(H == id))) (aft w5 y):=fun y => hash_neq Hds.out hes HL.out Hl.out _
   have hez:=hes.z;have hen:=hes.n;have hei:=hes.i
   clear hK K hes k5 HK4 q1 q2 HL Hl
   obtain ⟨b,hb⟩ : ∃ b,(H == id) = b:=⟨_,rfl⟩
   rw [hb] at heq heq2 hR
   clear hb HR
   refine fc_nil (mt_take w5 (Below.refl _ _) ?_)
   simp only [pick_cons,pick_nil,nth_zero,nth_succ]
   repeat (go_big_quiet_step (fail))
   refine wpQuiet_nil (mt_end ?_)
   clear heq heq2
   cases b with
   | true =>
     rw [if_neg (by simp)] at hR
     subst hR
     go_wp2
     exact bodyPost_ret (v:=iv 0) (by simp [results,Tryz.results29]) rfl ⟨rfl,HK5.out⟩
   | false =>
     rw [if_pos ⟨rfl,rfl⟩] at hR
     subst hR
     go_wp2
     exact bodyPost_ret (v:=iv 11) (by simp [results,Tryz.results29]) rfl ⟨rfl,HK5.out⟩
end Go.Proofs.YtmbbknjddebhoaaGreatDoor
