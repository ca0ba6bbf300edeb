/- Texts merged by pack.py: ClkK, ClkL, ClkM, NRe, Ru, NRf, Rw0, Rw, NRg. -/
import Derived.Test.YtmbbknjddebhoaaGreatDoorCx3
import Derived.Test.YtmbbknjddebhoaaGreatDoorCx10
import Derived.Test.YtmbbknjddebhoaaGreatDoorCx7
/- The document's answers for times: florinref14's Last, Median, Check. -/
set_option linter.unusedSimpArgs false
set_option linter.unusedVariables false
namespace Go.Proofs.YtmbbknjddebhoaaGreatDoor
open Go.RowKit
attribute [local go_sem ↓] Go.wp_at_zero Go.wp_at_succ
def ub (xs : List UInt32) (t : UInt32) : Nat:=(xs.takeWhile fun x => decide (x.toNat ≤ t.toNat)).length
theorem ub_le (xs : List UInt32) (t : UInt32) : ub xs t ≤ xs.length:=(List.takeWhile_prefix _).length_le
theorem ub_stop {xs : List UInt32} {t : UInt32} {k : Nat} (hk : k ≤ xs.length) (h1 : ∀ j (h : j < k),(xs[j]'(by omega)).toNat ≤ t.toNat) (h2 : ∀ h : k < xs.length,¬ xs[k].toNat ≤ t.toNat) : k = ub xs t:=by
 unfold ub
 induction xs generalizing k with
 | nil => simpa using hk
 | cons x xs ih =>
   cases k with
   | zero =>
     have:=h2 (by simp)
     simp only [List.getElem_cons_zero] at this
     rw [List.takeWhile_cons_of_neg (by simpa using this)];rfl
   | succ k =>
     have:=h1 0 (by omega)
     simp only [List.getElem_cons_zero] at this
     rw [List.takeWhile_cons_of_pos (by simpa using this),List.length_cons,← ih (k:=k) (by simpa using hk) (fun j h => by simpa using h1 (j + 1) (by omega)) (fun h => by have h3:=h2 (by simpa using h);simpa only [List.getElem_cons_succ] using h3)]
theorem ub_insert {xs : List UInt32} (t : UInt32) (h : xs.Pairwise le32) : xs.take (ub xs t) ++ t :: xs.drop (ub xs t) = insAt xs t:=by
 refine sorted_unique ?_ (insAt_sorted t h) ((show (xs.take (ub xs t) ++ t :: xs.drop (ub xs t)).Perm (t :: xs) by
  have:=List.perm_middle (a:=t) (l₁:=xs.take (ub xs t)) (l₂:=xs.drop (ub xs t));rwa [List.take_append_drop] at this).trans (insAt_perm xs t).symm)
 have e1 : xs.take (ub xs t) = xs.takeWhile fun x => decide (x.toNat ≤ t.toNat):=by
  unfold ub;exact ((List.prefix_iff_eq_take.1 (List.takeWhile_prefix _)).symm)
 have e2 : xs.drop (ub xs t) = xs.dropWhile fun x => decide (x.toNat ≤ t.toNat):=by
  have:=List.takeWhile_append_dropWhile (p:=fun x : UInt32 => decide (x.toNat ≤ t.toNat)) (l:=xs)
  have h3:=List.take_append_drop (ub xs t) xs
  rw [e1] at h3
  exact List.append_cancel_left (h3.trans this.symm)
 have h1 : ∀ y ∈ xs.take (ub xs t),y.toNat ≤ t.toNat:=fun y hy => by
  rw [e1] at hy;simpa using List.all_eq_true.1 List.all_takeWhile y hy
 have h2 : ∀ y ∈ xs.drop (ub xs t),t.toNat ≤ y.toNat:=fun y hy => by
  have hp : (xs.drop (ub xs t)).Pairwise le32:=h.sublist (List.drop_sublist _ _)
  rw [e2] at hy hp
  have hh:=List.head?_dropWhile_not (fun x : UInt32 => decide (x.toNat ≤ t.toNat)) xs
  cases hd : xs.dropWhile fun x => decide (x.toNat ≤ t.toNat) with
  | nil => rw [hd] at hy;cases hy
  | cons z zs =>
    rw [hd] at hy hh hp
    simp at hh
    rw [List.pairwise_cons] at hp
    rcases List.mem_cons.1 hy with rfl | hy
    ·omega
    ·have:=hp.1 y hy;unfold le32 at this;omega
 rw [List.pairwise_append,List.pairwise_cons]
 refine ⟨h.sublist (List.take_sublist _ _),⟨fun y hy => h2 y hy,h.sublist (List.drop_sublist _ _)⟩,fun a ha b hb => ?_⟩
 have ha1:=h1 a ha
 rcases List.mem_cons.1 hb with rfl | hb
 ·exact ha1
 ·have:=h2 b hb;show _ ≤ _;omega
theorem own_low {w : World} {base base' : Nat} {e : TypeId} {size : Nat} {v : Value} {n : Nat} {xs : List Value} (h : w.ownsRow base e size v n xs) (hb : base' ≤ base) : w.ownsRow base' e size v n xs :=
 ⟨h.1,h.2.imp id fun ⟨g,cap,cur,hv,hg,r⟩ => ⟨g,cap,cur,hv,Nat.le_trans hb hg,r⟩⟩
theorem own_sl {w : World} {base : Nat} {e : TypeId} {size : Nat} {A : Option Addr} {a a' c n : Nat} {xs : List Value} (h : w.ownsRow base e size (.slice A a c) n xs) (ha : a = a') : w.ownsRow base e size (.slice A a' c) n xs:=ha ▸ h
set_option maxRecDepth 100000 in
set_option maxHeartbeats 4000000 in
theorem rlast_any (A : Option Addr) (l : List UInt32) (c : Nat) (w : World) (hc : l.length ≤ c) (hm : c ≤ maxLen) (hr : Rd w A (l.map u32v)) :
  Calls Tryz.prog 69 #[.slice A l.length c] w (Lasted w.heap.size (lasT l) w):=by
 unfold maxLen at hm
 obtain ⟨s,hs⟩ : ∃ s,s = l.length - 11:=⟨_,rfl⟩
 obtain ⟨d,hdd⟩ : ∃ d,d = l.drop s:=⟨_,rfl⟩
 have hdl : d.length = l.length - s:=by rw [hdd];simp
 have Hd:=Lib.hid (show lasT l = sortL d by unfold lasT;rw [hdd,hs])
 have HsD : Hid (∀ k (h : k < d.length) (h2 : s + k < l.length),l[s + k] = d[k]):=Lib.hid (fun k h h2 => by subst hdd;rw [List.getElem_drop])
 have Hdl:=Lib.hid hdl;have Hs:=Lib.hid hs
 have b1 : d.length ≤ 11:=by omega
 have Hr:=Lib.hid hr
 clear hdl hdd hr
 go_enter Tryz.func69,Tryz.ntmps69
 go_upto_region 1 with fail
 go_cut [3] (fun v wx => v = .int .i64 s∧wx = w)
 case first =>
  by_cases h : 11 ≤ l.length
  ·have e : (s : Int) = l.length - 11:=by omega
   clear hs
   go_wp2_with fail
   all_goals go_meet
   all_goals exact ⟨by first | (rw [e];done) | (congr 1;omega),rfl⟩
  ·have e : s = 0:=by omega
   clear hs
   go_wp2_with fail
   all_goals go_meet
   all_goals exact ⟨by first | (congr 1;omega),rfl⟩
 case rest =>
  obtain ⟨rfl,rfl⟩:=hcut
  clear hs
  go_wp2
  go_loopw [4,5] (fun v i wr => ∃ (k : Nat),k ≤ d.length∧i = .int .i64 ((s + k : Nat) : Int)∧wr.ownsRow wc.heap.size 22 1 v k ((sortL (d.take k)).map u32v)∧Keep wc wr) (fun _ i _ => l.length - (intOf i).toNat)
  case atStart => exact ⟨0,Nat.zero_le _,rfl,World.ownsRow_nil _ _ _ _,Below.refl _ _⟩
  case round =>
   obtain ⟨k,hk,rfl,hown,hkr⟩:=hrel
   have hz:=hkr.size
   have hlen : (sortL (d.take k)).length = k:=by rw [sortL_len,List.length_take];omega
   have hsl:=Hdl.out
   by_cases hlt : k < d.length
   ·have hsk : s + k < l.length:=by omega
    obtain ⟨b,off,rfl,hb,F⟩:=Hr.out.at (k:=s + k) (by simpa using hsk)
    have r0:=keep_cell hkr (F (s + k) (by simpa using hsk))
    have hts:=fold_take d k hlt
    simp only [List.getElem_map] at r0
    rw [HsD.out k hlt hsk] at r0
    generalize d[k] = x at r0 hts
    have hsrt:=sortL_sorted (d.take k)
    generalize sortL (d.take k) = ys at *
    subst hlen
    have hxs:=ub_insert x hsrt
    have hub:=ub_le ys x
    rw [← hts] at hxs
    have Hxs:=Lib.hid hxs;have Hown:=Lib.hid hown;have Hts:=Lib.hid hts
    obtain ⟨Av,cv,rfl,hcv,hmv,hrv⟩:=own_form hown
    clear F hts hxs hown hsl
    go_wp2
    obtain ⟨wo,rfl⟩ : ∃ wo : World,wo = wr:=⟨_,rfl⟩
    go_loopw [6] (fun j wr => ∃ q : Nat,q ≤ ys.length∧j = .int .i64 q∧(∀ i (h : i < ys.length),i < q → ys[i].toNat ≤ x.toNat)∧Keep wo wr) (fun j _ => ys.length - (intOf j).toNat)
    case atStart => exact ⟨0,Nat.zero_le _,rfl,fun i h h2 => absurd h2 (by omega),Below.refl _ _⟩
    case round =>
     obtain ⟨q,hq,rfl,hall,hkq⟩:=hrel
     have r0':=keep_cell hkq r0
     have Hall:=Lib.hid hall;clear hall
     by_cases hq2 : q < ys.length
     ·obtain ⟨b2,off2,rfl,hb2,F2⟩:=hrv.at (k:=q) (by simpa using hq2)
      have r1:=keep_cell hkq (F2 q (by simpa using hq2))
      simp only [List.getElem_map] at r1
      have hy : ys[q] = ys[q]:=rfl
      have Hy:=Lib.hid (fun (h : ys[q].toNat ≤ x.toNat) i (hi : i < ys.length) (h2 : i < q + 1) => show ys[i].toNat ≤ x.toNat by
       by_cases e : i = q
       ·subst e;exact h
       ·exact Hall.out i hi (by omega))
      have Hz:=Lib.hid (fun (h : ¬ ys[q].toNat ≤ x.toNat) => ub_stop hq (fun j hj => Hall.out j (by omega) hj) (fun _ => h))
      generalize ys[q] = y at r1 Hy Hz
      have a0:=aft_cell r0';have a1:=aft_cell r1
      clear F2 hy
      by_cases hc : y.toNat ≤ x.toNat
      ·have HH:=Lib.hid (Hy.out hc)
       go_wp2_with fail
       refine wp_region_aft (by kernel_rfl) (by kernel_rfl) wr (Below.refl _ _) ?_
       repeat (go_big_quiet_step (fail))
       refine wpQuiet_nil ?_
       rintro _ ⟨y,rfl⟩
       have hk2:=aft_keep wr y
       generalize aft wr y = w2 at hk2 ⊢
       clear a0 a1
       go_wp2
       go_roundw
       case rel => exact ⟨q + 1,by omega,by go_num,HH.out,keep_trans hkq hk2⟩
       case measure => simp [intOf];omega
      ·have HH:=Lib.hid (Hz.out hc)
       go_wp2_with fail
       refine wp_region_aft (by kernel_rfl) (by kernel_rfl) wr (Below.refl _ _) ?_
       repeat (go_big_quiet_step (fail))
       refine wpQuiet_nil ?_
       rintro _ ⟨y,rfl⟩
       have hk2:=aft_keep wr y
       generalize aft wr y = w2 at hk2 ⊢
       clear a0 a1
       have kx:=keep_trans hkq hk2
       have hX:=Hxs.out
       rw [← HH.out] at hX
       have HX:=Lib.hid hX
       have xo:=keep_cell kx r0
       have hrx:=hrv.keep kx
       clear hX
       by_cases p0 : q = 0
       ·subst p0
        go_upto_region 10 with (at_builtin;refine wpList_app wordT (by rfl) _ _ (by rfl) _ _ 0 [] (by rfl) (own_zero _ _ _) _ 0 _ ((ys.take (0)).map u32v) (by rfl) (by rw [List.length_map,List.length_take];omega) (Rd.nil _ _) (one_words _) (by omega) (by unfold maxLen;omega) (by simp) ?_;intro v3 w3 own3 hg3 hat3;rw [List.nil_append,Nat.zero_add] at own3;have k3:=keep_grown (keep_new _ _) (by simp) hg3 (own_zero _ _ 1);obtain ⟨A3,c3,rfl,hc3,hm3,hrd3⟩:=own_form own3;have Own3:=Lib.hid own3;have x3:=keep_cell k3 xo;have z3:=k3.size;clear own3 hrd3 hg3 hat3)
        go_upto_region 11 with (at_builtin;refine wpList_app wordT (by rfl) _ _ (by rfl) _ _ (0) _ (by rfl) (Own3.out.alloc _) _ 1 1 [u32v x] (by rfl) (by rfl) (Rd.new _ _ _) (by simp [Value.oneCell']) (by omega) (by unfold maxLen;omega) (by simp;omega) ?_;intro v4 w4 own4 hg4 hat4;have k4:=keep_grown (keep_trans k3 (keep_new _ _)) (by simp;omega) hg4 (Own3.out.alloc _);obtain ⟨A4,c4,rfl,hc4,hm4,hrd4⟩:=own_form own4;have Own4:=Lib.hid own4;have z4:=k4.size;clear own4 hrd4 hg4 hat4)
        go_wp2_with (at_builtin;refine wpList_app wordT (by rfl) _ _ (by rfl) _ _ (0 + 1) _ (by rfl) Own4.out _ (ys.length) _ ((ys.drop (0)).map u32v) (by rfl) (by rw [List.length_map,List.length_drop];omega) (by rw [List.drop_zero];exact hrx.keep k4) (one_words _) (by omega) (by unfold maxLen;omega) (by omega) ?_;intro v5 w5 own5 hg5 hat5;have k5:=keep_grown k4 (by omega) hg5 Own4.out;obtain ⟨A5,c5,rfl,hc5,hm5,hrd5⟩:=own_form own5;have Own5:=Lib.hid own5;clear own5 hrd5 hg5 hat5)
        go_roundw
        case rel =>
         refine ⟨ys.length + 1,by omega,by go_num,?_,keep_trans hkr (keep_trans kx k5)⟩
         have h:=own_low Own5.out (base':=wc.heap.size) (by have:=kx.size;omega)
         exact own_sl (own_eq h (by omega) (by rw [← HX.out];simp)) (by omega)
        case measure => simp [intOf];omega
       ·go_upto_region 10 with (at_builtin;refine wpList_app wordT (by rfl) _ _ (by rfl) _ _ 0 [] (by rfl) (own_zero _ _ _) _ q _ ((ys.take (q)).map u32v) (by rfl) (by rw [List.length_map,List.length_take];omega) (by rw [List.map_take];exact (hrx.take q).alloc _) (one_words _) (by omega) (by unfold maxLen;omega) (by simp) ?_;intro v3 w3 own3 hg3 hat3;rw [List.nil_append,Nat.zero_add] at own3;have k3:=keep_grown (keep_new _ _) (by simp) hg3 (own_zero _ _ 1);obtain ⟨A3,c3,rfl,hc3,hm3,hrd3⟩:=own_form own3;have Own3:=Lib.hid own3;have x3:=keep_cell k3 xo;have z3:=k3.size;clear own3 hrd3 hg3 hat3)
        go_upto_region 11 with (at_builtin;refine wpList_app wordT (by rfl) _ _ (by rfl) _ _ (q) _ (by rfl) (Own3.out.alloc _) _ 1 1 [u32v x] (by rfl) (by rfl) (Rd.new _ _ _) (by simp [Value.oneCell']) (by omega) (by unfold maxLen;omega) (by simp;omega) ?_;intro v4 w4 own4 hg4 hat4;have k4:=keep_grown (keep_trans k3 (keep_new _ _)) (by simp;omega) hg4 (Own3.out.alloc _);obtain ⟨A4,c4,rfl,hc4,hm4,hrd4⟩:=own_form own4;have Own4:=Lib.hid own4;have z4:=k4.size;clear own4 hrd4 hg4 hat4)
        go_wp2_with (at_builtin;refine wpList_app wordT (by rfl) _ _ (by rfl) _ _ (q + 1) _ (by rfl) Own4.out _ (ys.length - q) _ ((ys.drop (q)).map u32v) (by rfl) (by rw [List.length_map,List.length_drop];omega) (by have h:=(hrx.keep k4).dropN (k:=q) (by simp;omega);rwa [← List.map_drop,Option.map_some,add_lit0] at h) (one_words _) (by omega) (by unfold maxLen;omega) (by omega) ?_;intro v5 w5 own5 hg5 hat5;have k5:=keep_grown k4 (by omega) hg5 Own4.out;obtain ⟨A5,c5,rfl,hc5,hm5,hrd5⟩:=own_form own5;have Own5:=Lib.hid own5;clear own5 hrd5 hg5 hat5)
        go_roundw
        case rel =>
         refine ⟨ys.length + 1,by omega,by go_num,?_,keep_trans hkr (keep_trans kx k5)⟩
         have h:=own_low Own5.out (base':=wc.heap.size) (by have:=kx.size;omega)
         exact own_sl (own_eq h (by omega) (by rw [← HX.out];simp)) (by omega)
        case measure => simp [intOf];omega
     ·obtain rfl : ys.length = q:=by omega
      have HH:=Lib.hid (ub_stop (Nat.le_refl _) (fun j hj => Hall.out j (by omega) hj) (fun h => absurd h (Nat.lt_irrefl _)))
      have a0:=aft_cell r0'
      go_wp2_with fail
      refine wp_region_aft (by kernel_rfl) (by kernel_rfl) wr (Below.refl _ _) ?_
      repeat (go_big_quiet_step (fail))
      refine wpQuiet_nil ?_
      rintro _ ⟨y,rfl⟩
      have hk2:=aft_keep wr y
      generalize aft wr y = w2 at hk2 ⊢
      clear a0
      have kx:=keep_trans hkq hk2
      have hX:=Hxs.out
      rw [← HH.out] at hX
      have HX:=Lib.hid hX
      have xo:=keep_cell kx r0
      have hrx:=hrv.keep kx
      clear hX
      by_cases p0 : ys.length = 0
      ·rw [p0,Nat.add_zero] at xo
       go_upto_region 10 with (at_builtin;refine wpList_app wordT (by rfl) _ _ (by rfl) _ _ 0 [] (by rfl) (own_zero _ _ _) _ 0 _ ((ys.take (0)).map u32v) (by rfl) (by rw [List.length_map,List.length_take];omega) (Rd.nil _ _) (one_words _) (by omega) (by unfold maxLen;omega) (by simp) ?_;intro v3 w3 own3 hg3 hat3;rw [List.nil_append,Nat.zero_add] at own3;have k3:=keep_grown (keep_new _ _) (by simp) hg3 (own_zero _ _ 1);obtain ⟨A3,c3,rfl,hc3,hm3,hrd3⟩:=own_form own3;have Own3:=Lib.hid own3;have x3:=keep_cell k3 xo;have z3:=k3.size;clear own3 hrd3 hg3 hat3)
       go_upto_region 11 with (at_builtin;refine wpList_app wordT (by rfl) _ _ (by rfl) _ _ (0) _ (by rfl) (Own3.out.alloc _) _ 1 1 [u32v x] (by rfl) (by rfl) (Rd.new _ _ _) (by simp [Value.oneCell']) (by omega) (by unfold maxLen;omega) (by simp;omega) ?_;intro v4 w4 own4 hg4 hat4;have k4:=keep_grown (keep_trans k3 (keep_new _ _)) (by simp;omega) hg4 (Own3.out.alloc _);obtain ⟨A4,c4,rfl,hc4,hm4,hrd4⟩:=own_form own4;have Own4:=Lib.hid own4;have z4:=k4.size;clear own4 hrd4 hg4 hat4)
       go_wp2_with (at_builtin;refine wpList_app wordT (by rfl) _ _ (by rfl) _ _ (0 + 1) _ (by rfl) Own4.out _ (0) _ ((ys.drop (0)).map u32v) (by rfl) (by rw [List.length_map,List.length_drop];omega) (by have e:=List.eq_nil_of_length_eq_zero p0;rw [e];exact Rd.nil _ _) (one_words _) (by omega) (by unfold maxLen;omega) (by omega) ?_;intro v5 w5 own5 hg5 hat5;have k5:=keep_grown k4 (by omega) hg5 Own4.out;obtain ⟨A5,c5,rfl,hc5,hm5,hrd5⟩:=own_form own5;have Own5:=Lib.hid own5;clear own5 hrd5 hg5 hat5)
       go_roundw
       case rel =>
        refine ⟨ys.length + 1,by omega,by go_num,?_,keep_trans hkr (keep_trans kx k5)⟩
        have h:=own_low Own5.out (base':=wc.heap.size) (by have:=kx.size;omega)
        exact own_sl (own_eq h (by omega) (by have e:=List.eq_nil_of_length_eq_zero p0;rw [← HX.out,e];simp)) (by omega)
       case measure => simp [intOf];omega
      ·obtain ⟨b2,off2,rfl,hb2,F2⟩:=hrv.at (k:=0) (by simp;omega)
       clear F2
       go_upto_region 10 with (at_builtin;refine wpList_app wordT (by rfl) _ _ (by rfl) _ _ 0 [] (by rfl) (own_zero _ _ _) _ ys.length _ ((ys.take (ys.length)).map u32v) (by rfl) (by rw [List.length_map,List.length_take];omega) (by rw [List.take_length];exact hrx.alloc _) (one_words _) (by omega) (by unfold maxLen;omega) (by simp) ?_;intro v3 w3 own3 hg3 hat3;rw [List.nil_append,Nat.zero_add] at own3;have k3:=keep_grown (keep_new _ _) (by simp) hg3 (own_zero _ _ 1);obtain ⟨A3,c3,rfl,hc3,hm3,hrd3⟩:=own_form own3;have Own3:=Lib.hid own3;have x3:=keep_cell k3 xo;have z3:=k3.size;clear own3 hrd3 hg3 hat3)
       go_upto_region 11 with (at_builtin;refine wpList_app wordT (by rfl) _ _ (by rfl) _ _ (ys.length) _ (by rfl) (Own3.out.alloc _) _ 1 1 [u32v x] (by rfl) (by rfl) (Rd.new _ _ _) (by simp [Value.oneCell']) (by omega) (by unfold maxLen;omega) (by simp;omega) ?_;intro v4 w4 own4 hg4 hat4;have k4:=keep_grown (keep_trans k3 (keep_new _ _)) (by simp;omega) hg4 (Own3.out.alloc _);obtain ⟨A4,c4,rfl,hc4,hm4,hrd4⟩:=own_form own4;have Own4:=Lib.hid own4;have z4:=k4.size;clear own4 hrd4 hg4 hat4)
       go_wp2_with (at_builtin;refine wpList_app wordT (by rfl) _ _ (by rfl) _ _ (ys.length + 1) _ (by rfl) Own4.out _ (0) _ ((ys.drop (ys.length)).map u32v) (by rfl) (by rw [List.length_map,List.length_drop];omega) (by rw [List.drop_length];exact Rd.nil _ _) (one_words _) (by omega) (by unfold maxLen;omega) (by omega) ?_;intro v5 w5 own5 hg5 hat5;have k5:=keep_grown k4 (by omega) hg5 Own4.out;obtain ⟨A5,c5,rfl,hc5,hm5,hrd5⟩:=own_form own5;have Own5:=Lib.hid own5;clear own5 hrd5 hg5 hat5)
       go_roundw
       case rel =>
        refine ⟨ys.length + 1,by omega,by go_num,?_,keep_trans hkr (keep_trans kx k5)⟩
        have h:=own_low Own5.out (base':=wc.heap.size) (by have:=kx.size;omega)
        exact own_sl (own_eq h (by omega) (by rw [← HX.out];simp)) (by omega)
       case measure => simp [intOf];omega
   ·obtain rfl : d.length = k:=by omega
    rw [List.take_length] at hown
    obtain ⟨Av,cv,rfl,hcv,hmv,hrv⟩:=own_form hown
    clear hrv
    have Hown:=Lib.hid hown;clear hown
    go_wp2
    go_ret
    refine ⟨_,rfl,?_,hkr⟩
    rw [Hd.out,sortL_len]
    exact Hown.out
end Go.Proofs.YtmbbknjddebhoaaGreatDoor
/- The document's Median and Check. -/
set_option linter.unusedSimpArgs false
set_option linter.unusedVariables false
namespace Go.Proofs.YtmbbknjddebhoaaGreatDoor
open Go.RowKit
attribute [local go_sem ↓] Go.wp_at_zero Go.wp_at_succ
set_option maxRecDepth 100000 in
set_option maxHeartbeats 2000000 in
theorem rmedian_any (A : Option Addr) (l : List UInt32) (c : Nat) (w : World) (hc : l.length ≤ c) (hm : c ≤ maxLen) (hr : Rd w A (l.map u32v)) :
  Calls Tryz.prog 48 #[.slice A l.length c] w (Gave (u32v (medL l)) w):=by
 have hlast:=rlast_any A l c w hc hm hr
 have hll:=lasT_len l
 have hmed : medL l = (lasT l).getD ((lasT l).length / 2) 0:=rfl
 unfold maxLen at hm
 generalize medL l = m at hmed ⊢
 generalize lasT l = ys at hlast hll hmed
 have Hmed:=Lib.hid hmed;clear hmed
 have hy : ys.length ≤ 11:=by omega
 clear hll
 go_enter Tryz.func48,Tryz.ntmps48
 go_wp2_with fail
 refine hlast.mono ?_
 rintro e w1 ⟨v,rfl,hown,hk⟩
 obtain ⟨A1,c1,rfl,hc1,hm1,hrd⟩:=own_form hown
 clear hown
 by_cases h0 : ys.length = 0
 ·go_wp2
  go_ret
  refine ⟨?_,hk⟩
  rw [Hmed.out,List.eq_nil_of_length_eq_zero h0];rfl
 ·have hlt : ys.length / 2 < ys.length:=by omega
  obtain ⟨b,off,rfl,hb,F⟩:=hrd.at (k:=ys.length / 2) (by simpa using hlt)
  have hx:=F (ys.length / 2) (by simpa using hlt)
  have he : m = ys[ys.length / 2]:=by rw [Hmed.out,List.getD_eq_getElem?_getD,List.getElem?_eq_getElem hlt];rfl
  simp only [List.getElem_map] at hx
  rw [← he] at hx
  clear F he
  go_wp2
  go_ret
  exact ⟨rfl,hk⟩
set_option maxRecDepth 100000 in
set_option maxHeartbeats 2000000 in
theorem rcheck_any (t : UInt32) (A : Option Addr) (l : List UInt32) (c : Nat) (n f : Int) (w : World) (hc : l.length ≤ c) (hm : c ≤ maxLen) (hr : Rd w A (l.map u32v)) :
  Calls Tryz.prog 27 #[u32v t,.slice A l.length c,.int .i64 n,.int .i64 f] w (Gave (.int .i64 (chkI t l n f)) w):=by
 have hmed:=rmedian_any A l c w hc hm hr
 have Hchk:=Lib.hid (show chkI t l n f = if (l ≠ []∧t.toNat ≤ (medL l).toNat) ∨ clampI n + clampI f < (t.toNat : Int) then 8 else 0 from rfl)
 have ht:=t.toNat_lt
 unfold maxLen at hm
 generalize medL l = m at *
 generalize chkI t l n f = r at *
 go_enter Tryz.func27,Tryz.ntmps27
 by_cases h0 : l.length = 0
 ·have h0' : l = []:=List.eq_nil_of_length_eq_zero h0
  go_wp2_with fail
  all_goals go_ret
  all_goals refine ⟨?_,Below.refl _ _⟩
  all_goals (have hQ:=Hchk.out;rw [hQ];clear hQ Hchk hmed;subst h0';unfold clampI)
  all_goals (split <;> first | rfl | (exfalso;simp at *;omega))
 ·have hne : l ≠ []:=fun h => h0 (by rw [h];rfl)
  go_wp2_with fail
  all_goals (refine hmed.mono ?_;rintro e w2 ⟨rfl,hk2⟩;go_wp2_with fail)
  all_goals go_ret
  all_goals refine ⟨?_,hk2⟩
  all_goals (have hQ:=Hchk.out;rw [hQ];clear hQ Hchk;simp only [hne,not_false_eq_true,true_and,ne_eq];unfold clampI)
  all_goals (split <;> first | rfl | (exfalso;simp at *;omega))
end Go.Proofs.YtmbbknjddebhoaaGreatDoor
/- The times of headers. -/
set_option linter.unusedSimpArgs false
set_option linter.unusedVariables false
namespace Go.Proofs.YtmbbknjddebhoaaGreatDoor
open Go.RowKit
attribute [local go_sem ↓] Go.wp_at_zero Go.wp_at_succ
set_option maxRecDepth 100000 in
set_option maxHeartbeats 4000000 in
theorem rtimes_any (A : Option Addr) (hs : List HdR) (c : Nat) (w : World) (hl : hs.length ≤ 100) (hr : Rd w A (hs.flatMap HdR.cells)) :
  Calls Tryz.prog 28 #[.slice A hs.length c] w (Lasted w.heap.size (hs.map HdR.t) w):=by
 go_enter Tryz.func28,Tryz.ntmps28
 go_wp2
 go_loopw [3,4] (fun v i wr => ∃ k : Nat,k ≤ hs.length∧i = .int .i64 k∧wr.ownsRow w.heap.size 22 1 v k (((hs.take k).map HdR.t).map u32v)∧Keep w wr) (fun _ i _ => hs.length - (intOf i).toNat)
 case atStart => exact ⟨0,Nat.zero_le _,rfl,World.ownsRow_nil _ _ _ _,Below.refl _ _⟩
 case round =>
  obtain ⟨k,hk,rfl,hown,hkr⟩:=hrel
  have hz:=hkr.size
  by_cases hlt : k < hs.length
  ·obtain ⟨b,off,rfl,hb,F⟩:=HdR.at hr hlt
   have r0:=keep_cell hkr ((F 65 (by omega)).trans (HdR.time _))
   have hts:=times_snoc hs k hlt
   generalize hs[k].t = x at r0 hts
   have Hts:=Lib.hid hts
   obtain ⟨Av,cv,rfl,hcv,hmv,hrv⟩:=own_form hown
   have Hown:=Lib.hid hown
   clear F hts hown hrv
   go_wp2_with (at_builtin;refine wpList_app wordT (by rfl) _ _ (by rfl) w.heap.size _ k _ (by rfl) (Hown.out.alloc _) _ 1 1 [u32v x] (by rfl) (by rfl) (Rd.new _ _ _) (by simp [Value.oneCell']) (by omega) (by unfold maxLen;omega) (by simp;omega) ?_;intro v4 w4 own4 hg4 hat4;have k4:=keep_grown (keep_trans hkr (keep_new _ _)) (by simp;omega) hg4 (Hown.out.alloc _);obtain ⟨A4,c4,rfl,hc4,hm4,hrd4⟩:=own_form own4;have Own4:=Lib.hid own4;clear own4 hrd4 hg4 hat4)
   go_roundw
   case rel =>
    refine ⟨k + 1,by omega,by go_num,?_,k4⟩
    rw [Hts.out,List.map_append]
    exact Own4.out
   case measure => simp [intOf];omega
  ·obtain rfl : hs.length = k:=by omega
   rw [List.take_length] at hown
   obtain ⟨Av,cv,rfl,hcv,hmv,hrv⟩:=own_form hown
   have Hown:=Lib.hid hown
   clear hown hrv
   go_wp2
   go_ret
   exact ⟨_,rfl,by rw [List.length_map];exact Hown.out,hkr⟩
end Go.Proofs.YtmbbknjddebhoaaGreatDoor
/- florinref16.Check. (printed by gen_nre.py out of XRk) -/
set_option linter.unusedSimpArgs false
set_option linter.unusedVariables false
namespace Go.Proofs.YtmbbknjddebhoaaGreatDoor
open Go.RowKit
attribute [local go_sem ↓] Go.wp_at_zero Go.wp_at_succ
theorem rtimes_hd (A : Option Addr) (l : List Hd) (c : Nat) (w : World) (hl : l.length ≤ 100) (hr : Rd w A (l.flatMap Hd.cells)) (hk : ∀ h ∈ l,h.ok) :
  Calls Tryz.prog 28 #[.slice A l.length c] w (Lasted w.heap.size (l.map Hd.time) w):=by
 obtain ⟨rs,e1,e2,e3⟩:=hd_rs l hk
 rw [← e2,← e3]
 exact rtimes_any A rs c w (by rw [e3];exact hl) (by rw [e1];exact hr)
set_option maxRecDepth 100000 in
set_option maxHeartbeats 4000000 in
theorem rcheck_hd (p : Par) (A : Option Addr) (c : Nat) (B : Option Addr) (l : List Hd) (d : Nat) (h : Hd) (cs : Array Value) (now : Int) (w : World) (hC : Chks p A w)
  (hl : l.length ≤ 100) (hd : l.length ≤ d) (hdm : d ≤ maxLen) (hr : Rd w B (l.flatMap Hd.cells)) (hk : ∀ h ∈ l,h.ok) (ho : h.ok) (hcs : HdA h cs) :
  Calls Tryz.prog 10 #[parV p A c,.slice B l.length d,.agg cs,iv now] w fun e w' => e = .returned (iv (checkR p l h now))∧Keep w w':=by
 have S1 : Hid (∀ y,Calls Tryz.prog 23 #[parV p A c] y fun e w' => e = .returned (.bool (saneR p))∧Keep y w'):=Lib.hid fun y => rsane_any p A c y
 have HR : Hid (∀ r,checkR p l h now = r → r = if saneR p = false ∨ l.length = 0 then 15 else if (h.prev == idL (lastH l)) = false then 9 else if (h.bits.toNat == (chainR p l).toNat) = false then 7 else if meetN (leN (idL h)) h.bits p.limit ≠ 0 then meetN (leN (idL h)) h.bits p.limit else if chkI h.time (l.map Hd.time) now p.fut ≠ 0 then chkI h.time (l.map Hd.time) now p.fut else passR p l.length (idL h)):=Lib.hid fun r e => by subst e;rfl
 replace HR:=Lib.hid (HR.out _ rfl)
 have I1 : Hid (∀ y,Keep w y → ∀ xs,HdA (lastH l) xs → l.length ≠ 0 → Calls Tryz.prog 24 #[.agg xs] y fun e w' => ∃ ds,e = .returned (.agg ds)∧HashA (idL (lastH l)) ds∧Keep y w'):=Lib.hid fun y hy xs hx h0 => rid_any _ xs y (by rw [lastH_eq (by omega)];exact hk _ (List.getElem_mem _)) hx
 have HAT : Hid (l.length ≠ 0 → ∃ b off,B = some ⟨b,off,none⟩∧∃ xs,HdA (lastH l) xs∧w.rangeAt b (off + (l.length - 1) * 68) xs.toList):=Lib.hid fun h0 => by
  have hlt : l.length - 1 < l.length:=by omega
  obtain ⟨b,off,h1,-,h2⟩:=heads_at hr hk hlt
  have hx:=HdA.of (hk _ (List.getElem_mem hlt))
  refine ⟨b,off,h1,_,by rw [lastH_eq hlt];exact hx,?_⟩
  exact h2
 have C1 : Hid (∀ y,Keep w y → Calls Tryz.prog 25 #[parV p A c,.slice B l.length d] y fun e w' => e = .returned (u32v (chainR p l))∧Keep y w'):=Lib.hid fun y hy => rchain_any p A c B l d y (by omega) hd (hr.keep hy) hk
 have I2 : Hid (∀ y,Keep w y → Calls Tryz.prog 24 #[.agg cs] y fun e w' => ∃ ds,e = .returned (.agg ds)∧HashA (idL h) ds∧Keep y w'):=Lib.hid fun y hy => rid_any h cs y ho hcs
 have M1 : Hid (∀ y ds,HashA (idL h) ds → Calls Tryz.prog 26 #[.agg ds,u32v h.bits,u32v p.limit] y fun e w' => e = .returned (iv (meetN (leN (idL h)) h.bits p.limit))∧Keep y w'):=Lib.hid fun y ds hds => rmeets_any (idL h) ds h.bits p.limit y (idL_len _) hds
 have T1 : Hid (∀ y,Keep w y → Calls Tryz.prog 28 #[.slice B l.length d] y (Lasted y.heap.size (l.map Hd.time) y)):=Lib.hid fun y hy => rtimes_hd B l d y hl (hr.keep hy) hk
 have hml : (l.map Hd.time).length ≤ 100:=by simpa using hl
 have K1 : Hid (∀ y base v,y.ownsRow base 22 1 v (l.map Hd.time).length ((l.map Hd.time).map u32v) → Calls Tryz.prog 27 #[u32v h.time,v,iv now,iv p.fut] y fun e w' => e = .returned (iv (chkI h.time (l.map Hd.time) now p.fut))∧Keep y w'):=Lib.hid fun y base v hv => by
  obtain ⟨Av,cv,rfl,hcv,hmv,hrv⟩:=own_form hv
  exact rcheck_any h.time Av _ cv now p.fut y hcv hmv (own_rd hv)
 have P1 : Hid (∀ y,Keep w y → Calls Tryz.prog 29 #[parV p A c,iv l.length,.agg cs] y fun e w' => e = .returned (iv (passR p l.length (idL h)))∧Keep y w'):=Lib.hid fun y hy => rpasses_any p A c l.length h cs y (hC.keep hy) ho hcs
 obtain ⟨pv,hpv⟩ : ∃ pv,HashA h.prev pv:=⟨_,HashA.of ho.1⟩
 have HT:=Lib.hid (hd_time ho);have HBt:=Lib.hid (hd_bits ho)
 have HPV : Hid (∀ y g t,Blk y g t cs.toList → y.rangeAt g 1 pv.toList):=Lib.hid fun y g t hb => hd_prevr ho hpv hb hcs
 have HL1:=Lib.hid ho.1
 have HL2 : Hid ((idL (lastH l)).length = 32):=Lib.hid (idL_len _)
 have hcz:=hcs.z;have hcn:=hcs.n;have hci:=hcs.i
 have hpz:=hpv.z;have hpn:=hpv.n;have hpi:=hpv.i
 rw [← hcs.l] at HT HBt
 have Hpv:=Lib.hid hpv
 have HL3 : Hid ((idL h).length = 32):=Lib.hid (idL_len _)
 clear hpv hcs ho hk hr hC hml hdm
 generalize checkR p l h now = R at *
 generalize idL h = HI at *
 generalize h.prev = PV at *
 generalize meetN (leN HI) h.bits p.limit = M at *
 generalize passR p l.length HI = PR at *
 generalize chainR p l = CR at *
 generalize idL (lastH l) = LI at *
 generalize lastH l = LH at *
 generalize chkI h.time (l.map Hd.time) now p.fut = CI at *
 generalize l.map Hd.time = ts at *
 generalize l.length = n at *
 generalize h.bits = bits at *
 generalize h.time = tm at *
 generalize saneR p = S at *
 unfold parV at *
 generalize p.limit = limit at *
 generalize p.itv = itv at *
 generalize p.span = span at *
 generalize p.fut = fut at *
 generalize p.idx = idx at *
 generalize p.orp = orp at *
 generalize hm : p.chks.length = m at *
 clear hm
 clear p
 go_enter Tryz.func10,Tryz.ntmps10
 go_upto_region 1 with fail
 obtain ⟨w1,hw1⟩ : ∃ w1,w1 = (w.alloc (.cells #[u32v limit,iv itv,iv span,iv fut,iv idx,iv orp,.slice A m c] 25)).alloc (.cells cs 30):=⟨_,rfl⟩
 have HP1 : Hid (Blk w1 w.heap.size 25 [u32v limit,iv itv,iv span,iv fut,iv idx,iv orp,.slice A m c]):=by rw [hw1];exact Lib.hid ((Blk.new w 25 [u32v limit,iv itv,iv span,iv fut,iv idx,iv orp,.slice A m c]).alloc _)
 have HH1 : Hid (Blk w1 (w.heap.size + 1) 30 cs.toList):=by
  rw [hw1]
  have h2:=Blk.new (w.alloc (.cells #[u32v limit,iv itv,iv span,iv fut,iv idx,iv orp,.slice A m c] 25)) 30 cs.toList
  rw [World.size_alloc] at h2
  exact Lib.hid h2
 have HK1 : Hid (Keep w w1):=by rw [hw1];exact Lib.hid (keep_trans (keep_new _ _) (keep_new _ _))
 rw [← hw1]
 clear hw1
 have p0:=HP1.out.cell 0
 have p1:=HP1.out.cell 1
 have p2:=HP1.out.cell 2
 have p3:=HP1.out.cell 3
 have p4:=HP1.out.cell 4
 have p5:=HP1.out.cell 5
 have p6:=HP1.out.cell 6
 simp only [List.getElem?_cons_succ,List.getElem?_cons_zero] at p0 p1 p2 p3 p4 p5 p6
 go_wp2_with fail
 refine (S1.out _).mono ?_
 clear S1 p0 p1 p2 p3 p4 p5 p6
 rintro e w2 ⟨rfl,k2⟩
 have HP2:=Lib.hid (HP1.out.keep k2)
 have HH2:=Lib.hid (HH1.out.keep k2)
 have HK2:=Lib.hid (keep_trans HK1.out k2)
 clear HP1 HH1 HK1 k2
 by_cases hs0 : S = false ∨ n = 0
 ·have hR:=HR.out
  rw [if_pos hs0] at hR
  subst hR
  clear HR HP2 HH2
  cases S with
  | false =>
    go_wp2
    exact bodyPost_ret (v:=iv 15) (by simp [results,Tryz.results10]) rfl ⟨rfl,HK2.out⟩
  | true =>
    have h0 : n = 0:=hs0.resolve_left (by simp)
    subst h0
    go_wp2
    exact bodyPost_ret (v:=iv 15) (by simp [results,Tryz.results10]) rfl ⟨rfl,HK2.out⟩
 have hR:=HR.out
 rw [if_neg hs0] at hR
 replace HR:=Lib.hid hR
 have hS : S = true:=by cases S with | true => rfl | false => exact absurd (Or.inl rfl) hs0
 have h0 : n ≠ 0:=fun e => hs0 (Or.inr e)
 obtain ⟨b,off,rfl,xs,hxs,hrx⟩:=HAT.out h0
 have Hxs:=Lib.hid hxs
 have hxz:=hxs.z;have hxn:=hxs.n;have hxi:=hxs.i
 have I1' : Hid (∀ y,Keep w y → Calls Tryz.prog 24 #[.agg xs] y fun e w' => ∃ ds,e = .returned (.agg ds)∧HashA LI ds∧Keep y w'):=Lib.hid fun y hy => I1.out y hy xs Hxs.out h0
 obtain ⟨j,hj⟩ : ∃ j,n - 1 = j:=⟨_,rfl⟩
 have hj2 : (n : Int) - 1 = j:=by omega
 have hjn : j < n:=by omega
 rw [hj] at hrx
 have HX:=Lib.hid hrx
 have g1 : (n == 0) = false:=by simp [h0]
 have g2 : ((n : Int) == 0) = false:=by rw [beq_eq_false_iff_ne];omega
 subst hS
 clear hR hs0 hj hrx hxs HAT I1 Hxs
 go_upto_region 3 with fail
 clear g1 g2
 refine wp_region_tree (.take [0,1,2,3,4,5,6,7] (.force [8] (.take [9] .done))) [] (by kernel_rfl) (by kernel_rfl) (fun w3 k3 => ?_)
 have HP3:=Lib.hid (HP2.out.keep k3)
 have HH3:=Lib.hid (HH2.out.keep k3)
 have HK3:=Lib.hid (keep_trans HK2.out k3)
 have RX : Hid (w3.rangeAt b (off + j * 68) xs.toList):=Lib.hid fun i v hv => keep_cell HK3.out (HX.out i v hv)
 have RP : Hid (w3.rangeAt (w.heap.size + 1) 1 pv.toList):=Lib.hid (HPV.out _ _ _ HH3.out)
 clear HP2 HH2 HK2 k3 HX HPV
 refine mt_take w3 (Below.refl _ _) ?_
 simp only [pick_cons,pick_nil,nth_zero,nth_succ]
 repeat (first
  | ((with_reducible refine wpQuiet_load_partg (w.heap.size + 1) 1 pv (Eq.trans ?_ rfl) RP.out _ Tryz.underlying28 rfl hpi rfl ?_);rfl;simp only [Act.put,Array.set!_eq_setIfInBounds,List.setIfInBounds_toArray,List.set_cons_succ,List.set_cons_zero])
  | ((with_reducible refine wpQuiet_load_partg b (off + j * 68) xs (Eq.trans ?_ rfl) RX.out _ Tryz.underlying30 rfl hxi rfl ?_);rfl;simp only [Act.put,Array.set!_eq_setIfInBounds,List.setIfInBounds_toArray,List.set_cons_succ,List.set_cons_zero])
  | go_big_quiet_step (fail))
 refine wpQuiet_nil (mt_force ?_)
 simp only [pick_cons,pick_nil,nth_zero,nth_succ]
 refine fc_step rfl (fun K hK => ?_)
 go_simp
 (with_reducible refine (I1'.out _ HK3.out).mono ?_)
 rintro e w4 ⟨ds,rfl,hds,k4⟩
 refine hK _ _ k4 ?_
 have heq : ∀ x,(Op.equalIn 10000 28 (.agg pv) (.agg ds)).run Tryz.prog (aft w4 x) = .ok (PV == LI) (aft w4 x):=fun x => hash_in Hpv.out hds HL1.out HL2.out _
 have heq2 : ∀ x,(Go.binOp .neq 28 (.agg pv) (.agg ds)).run Tryz.prog (aft w4 x) = .ok (.bool (!(PV == LI))) (aft w4 x):=fun x => hash_neq Hpv.out hds HL1.out HL2.out _
 have hdz:=hds.z;have hdn:=hds.n;have hdi:=hds.i
 have HP4:=Lib.hid (HP3.out.keep k4)
 have HH4:=Lib.hid (HH3.out.keep k4)
 have HK4:=Lib.hid (keep_trans HK3.out k4)
 clear hK K hds k4 HP3 HH3 HK3 RX RP I1' Hpv HL1 HL2
 obtain ⟨b1,hb1⟩ : ∃ b,(PV == LI) = b:=⟨_,rfl⟩
 rw [hb1] at HR heq heq2
 clear hb1
 refine fc_nil (mt_take w4 (Below.refl _ _) ?_)
 simp only [pick_cons,pick_nil,nth_zero,nth_succ]
 repeat (go_big_quiet_step (fail))
 refine wpQuiet_nil (mt_end ?_)
 clear heq heq2
 cases b1 with
 | false =>
   have hR:=HR.out
   rw [if_pos rfl] at hR
   subst hR
   clear HR HP4 HH4
   go_wp2
   exact bodyPost_ret (v:=iv 9) (by simp [results,Tryz.results10]) rfl ⟨rfl,HK4.out⟩
 | true =>
 have hR:=HR.out
 rw [if_neg (by simp)] at hR
 replace HR:=Lib.hid hR
 clear hR
 go_upto_region 5 with fail
 refine wp_region_tree (.take [0,1,2,3] (.force [4] (.take [5] .done))) [] (by kernel_rfl) (by kernel_rfl) (fun w5 k5 => ?_)
 have HP5:=Lib.hid (HP4.out.keep k5)
 have HH5:=Lib.hid (HH4.out.keep k5)
 have HK5:=Lib.hid (keep_trans HK4.out k5)
 have q0:=aft_cell (HP5.out.cell 0)
 have q1:=aft_cell (HP5.out.cell 1)
 have q2:=aft_cell (HP5.out.cell 2)
 have q3:=aft_cell (HP5.out.cell 3)
 have q4:=aft_cell (HP5.out.cell 4)
 have q5:=aft_cell (HP5.out.cell 5)
 have q6:=aft_cell (HP5.out.cell 6)
 have r66:=aft_cell ((HH5.out.cell 66).trans HBt.out)
 clear HP4 HH4 HK4 k5
 refine mt_take w5 (Below.refl _ _) ?_
 simp only [pick_cons,pick_nil,nth_zero,nth_succ]
 repeat (go_big_quiet_step (fail))
 refine wpQuiet_nil (mt_force ?_)
 clear r66 q0 q1 q2 q3 q4 q5 q6
 simp only [pick_cons,pick_nil,nth_zero,nth_succ]
 refine fc_step rfl (fun K hK => ?_)
 go_simp
 (with_reducible refine (C1.out _ HK5.out).mono ?_)
 rintro e w6 ⟨rfl,k6⟩
 refine hK _ _ k6 ?_
 have HP6:=Lib.hid (HP5.out.keep k6)
 have HH6:=Lib.hid (HH5.out.keep k6)
 have HK6:=Lib.hid (keep_trans HK5.out k6)
 clear hK K k6 HP5 HH5 HK5 C1
 refine fc_nil (mt_take w6 (Below.refl _ _) ?_)
 simp only [pick_cons,pick_nil,nth_zero,nth_succ]
 repeat (go_big_quiet_step (fail))
 refine wpQuiet_nil (mt_end ?_)
 obtain ⟨b2,hb2⟩ : ∃ b,(bits.toNat == CR.toNat) = b:=⟨_,rfl⟩
 rw [hb2] at HR
 have hbn : ((bits.toNat : Int) != (CR.toNat : Int)) = !b2:=by
  rw [← hb2,Bool.eq_iff_iff]
  simp
  omega
 rw [hbn]
 clear hb2 hbn
 cases b2 with
 | false =>
   have hR:=HR.out
   rw [if_pos rfl] at hR
   subst hR
   clear HR HP6 HH6
   go_wp2
   exact bodyPost_ret (v:=iv 7) (by simp [results,Tryz.results10]) rfl ⟨rfl,HK6.out⟩
 | true =>
 have hR:=HR.out
 rw [if_neg (by simp)] at hR
 replace HR:=Lib.hid hR
 clear hR
 go_upto_region 7 with fail
 refine wp_region_tree (.take [0,2,3,4,5] (.force [1,6] (.take [7] .done))) [] (by kernel_rfl) (by kernel_rfl) (fun w7 k7 => ?_)
 have HP7:=Lib.hid (HP6.out.keep k7)
 have HH7:=Lib.hid (HH6.out.keep k7)
 have HK7:=Lib.hid (keep_trans HK6.out k7)
 have rh : Hid (w7.rangeAt (w.heap.size + 1) 0 cs.toList):=Lib.hid (range_of HH7.out 0 cs.toList (by simp [List.take_of_length_le]))
 have q0:=aft_cell (HP7.out.cell 0)
 have r66:=aft_cell ((HH7.out.cell 66).trans HBt.out)
 clear HP6 HH6 HK6 k7
 refine mt_take w7 (Below.refl _ _) ?_
 simp only [pick_cons,pick_nil,nth_zero,nth_succ]
 repeat (first
  | ((with_reducible refine wpQuiet_load_partg (w.heap.size + 1) 0 cs (Eq.trans ?_ rfl) rh.out _ Tryz.underlying30 rfl hci rfl ?_);rfl;simp only [Act.put,Array.set!_eq_setIfInBounds,List.setIfInBounds_toArray,List.set_cons_succ,List.set_cons_zero])
  | go_big_quiet_step (fail))
 refine wpQuiet_nil (mt_force ?_)
 clear q0 r66 rh
 simp only [pick_cons,pick_nil,nth_zero,nth_succ]
 refine fc_step rfl (fun K hK => ?_)
 go_simp
 (with_reducible refine (I2.out _ HK7.out).mono ?_)
 rintro e w8 ⟨es,rfl,hes,k8⟩
 refine hK _ _ k8 ?_
 have Hes:=Lib.hid hes
 have HP8:=Lib.hid (HP7.out.keep k8)
 have HH8:=Lib.hid (HH7.out.keep k8)
 have HK8:=Lib.hid (keep_trans HK7.out k8)
 clear hK K hes k8 HP7 HH7 HK7 I2
 refine fc_step rfl (fun K hK => ?_)
 go_simp
 (with_reducible refine (M1.out _ es Hes.out).mono ?_)
 rintro e w9 ⟨rfl,k9⟩
 refine hK _ _ k9 ?_
 have HP9:=Lib.hid (HP8.out.keep k9)
 have HH9:=Lib.hid (HH8.out.keep k9)
 have HK9:=Lib.hid (keep_trans HK8.out k9)
 clear hK K k9 HP8 HH8 HK8 M1 Hes
 refine fc_nil (mt_take w9 (Below.refl _ _) ?_)
 simp only [pick_cons,pick_nil,nth_zero,nth_succ]
 repeat (go_big_quiet_step (fail))
 refine wpQuiet_nil (mt_end ?_)
 by_cases hM0 : M ≠ 0
 ·have hR:=HR.out
  rw [if_pos hM0] at hR
  subst hR
  have d1 : (R != 0) = true:=by simp [hM0]
  clear HR HP9 HH9 hM0
  go_wp2
  exact bodyPost_ret (v:=iv R) (by simp [results,Tryz.results10]) rfl ⟨rfl,HK9.out⟩
 have hR:=HR.out
 rw [if_neg (by simp [hM0])] at hR
 replace HR:=Lib.hid hR
 obtain rfl : M = 0:=by omega
 clear hR hM0
 go_upto_region 10 with fail
 refine wp_region_tree (.take [0,1,2,4,5,6] (.force [3,7] (.take [8] .done))) [] (by kernel_rfl) (by kernel_rfl) (fun wa ka => ?_)
 have HPa:=Lib.hid (HP9.out.keep ka)
 have HHa:=Lib.hid (HH9.out.keep ka)
 have HKa:=Lib.hid (keep_trans HK9.out ka)
 have q3:=aft_cell (HPa.out.cell 3)
 have r65:=aft_cell ((HHa.out.cell 65).trans HT.out)
 clear HP9 HH9 HK9 ka
 refine mt_take wa (Below.refl _ _) ?_
 simp only [pick_cons,pick_nil,nth_zero,nth_succ]
 repeat (go_big_quiet_step (fail))
 refine wpQuiet_nil (mt_force ?_)
 clear q3 r65
 simp only [pick_cons,pick_nil,nth_zero,nth_succ]
 refine fc_step rfl (fun K hK => ?_)
 go_simp
 (with_reducible refine (T1.out _ HKa.out).mono ?_)
 rintro e wb ⟨tv,rfl,htv,kb⟩
 refine hK _ _ kb ?_
 have HTV:=Lib.hid htv
 have HPb:=Lib.hid (HPa.out.keep kb)
 have HHb:=Lib.hid (HHa.out.keep kb)
 have HKb:=Lib.hid (keep_trans HKa.out kb)
 clear hK K T1 htv kb HPa HHa HKa
 refine fc_step rfl (fun K hK => ?_)
 go_simp
 (with_reducible refine (K1.out _ _ _ HTV.out).mono ?_)
 rintro e wc ⟨rfl,kc⟩
 refine hK _ _ kc ?_
 have HPc:=Lib.hid (HPb.out.keep kc)
 have HHc:=Lib.hid (HHb.out.keep kc)
 have HKc:=Lib.hid (keep_trans HKb.out kc)
 clear hK K K1 HTV kc HPb HHb HKb
 refine fc_nil (mt_take wc (Below.refl _ _) ?_)
 simp only [pick_cons,pick_nil,nth_zero,nth_succ]
 repeat (go_big_quiet_step (fail))
 refine wpQuiet_nil (mt_end ?_)
 by_cases hC0 : CI ≠ 0
 ·have hR:=HR.out
  rw [if_pos hC0] at hR
  subst hR
  have d1 : (R != 0) = true:=by simp [hC0]
  clear HR HPc HHc hC0
  go_wp2
  exact bodyPost_ret (v:=iv R) (by simp [results,Tryz.results10]) rfl ⟨rfl,HKc.out⟩
 have hR:=HR.out
 rw [if_neg hC0] at hR
 subst hR
 obtain rfl : CI = 0:=by omega
 clear HR hC0
 have rh : Hid (wc.rangeAt (w.heap.size + 1) 0 cs.toList):=Lib.hid (range_of HHc.out 0 cs.toList (by simp [List.take_of_length_le]))
 go_upto_region 13 with fail
 have p0:=HPc.out.cell 0
 have p1:=HPc.out.cell 1
 have p2:=HPc.out.cell 2
 have p3:=HPc.out.cell 3
 have p4:=HPc.out.cell 4
 have p5:=HPc.out.cell 5
 have p6:=HPc.out.cell 6
 simp only [List.getElem?_cons_succ,List.getElem?_cons_zero] at p0 p1 p2 p3 p4 p5 p6
 go_wp2_with ((with_reducible refine load_partg (w.heap.size + 1) 0 cs (Eq.trans ?_ rfl) rh.out _ Tryz.underlying30 rfl hci rfl ?_);rfl)
 refine (P1.out _ HKc.out).mono ?_
 clear P1 rh p0 p1 p2 p3 p4 p5 p6
 rintro e we ⟨rfl,ke⟩
 go_wp2
 exact bodyPost_ret (v:=iv R) (by simp [results,Tryz.results10]) rfl ⟨rfl,keep_trans HKc.out ke⟩
end Go.Proofs.YtmbbknjddebhoaaGreatDoor
/- rules.Valid. -/
set_option linter.unusedSimpArgs false
set_option linter.unusedVariables false
namespace Go.Proofs.YtmbbknjddebhoaaGreatDoor
open Go.RowKit
attribute [local go_sem ↓] Go.wp_at_zero Go.wp_at_succ
set_option maxRecDepth 100000 in
set_option maxHeartbeats 4000000 in
theorem valid_any (p : Par) (A : Option Addr) (c : Nat) (B : Option Addr) (l : List Hd) (d : Nat) (now : Int) (w : World) (hS : ShaOk w) (hC : Chks p A w)
  (hl : l.length ≤ 100) (hd : l.length ≤ d) (hdm : d ≤ maxLen) (hr : Rd w B (l.flatMap Hd.cells)) (hk : ∀ h ∈ l,h.ok) :
  Calls Tryz.prog 5 #[parV p A c,.slice B l.length d,iv now] w fun e w' => e = .returned (.tuple #[iv (validN p l now),iv (validE p l now)])∧Keep w w':=by
 have STOP : Hid (∀ k ev,k < l.length → (∀ j,j < k → stepR p l now j = 0) → stepR p l now k = ev → ev ≠ 0 → k = validN p l now∧ev = validE p l now):=Lib.hid fun k ev h1 h2 h3 h4 => by
  subst h3
  obtain ⟨a,b⟩:=valid_stop h1 h2 h4
  exact ⟨a.symm,b.symm⟩
 have ALL : Hid ((∀ j,j < l.length → stepR p l now j = 0) → l.length = validN p l now∧0 = validE p l now):=Lib.hid fun h => by
  obtain ⟨a,b⟩:=valid_all h
  exact ⟨a.symm,b.symm⟩
 have HAT : Hid (∀ k,k < l.length → ∃ b off,B = some ⟨b,off,none⟩∧∃ xs,HdA (l.getD k hd0) xs∧w.rangeAt b (off + k * 68) xs.toList):=Lib.hid fun k hlt => by
  obtain ⟨b,off,h1,-,h2⟩:=heads_at hr hk hlt
  have hx:=HdA.of (hk _ (List.getElem_mem hlt))
  have e : l.getD k hd0 = l[k]:=by simp [List.getD_eq_getElem?_getD,List.getElem?_eq_getElem hlt]
  refine ⟨b,off,h1,_,by rw [e];exact hx,?_⟩
  exact h2
 have HOK : ∀ k,k < l.length → (l.getD k hd0).ok:=fun k hlt => by
  have e : l.getD k hd0 = l[k]:=by simp [List.getD_eq_getElem?_getD,List.getElem?_eq_getElem hlt]
  rw [e];exact hk _ (List.getElem_mem hlt)
 have B1 : Hid (∀ y xs,Keep w y → 0 < l.length → HdA (l.getD 0 hd0) xs → Calls Tryz.prog 11 #[parV p A c,.agg xs] y fun e w' => e = .returned (iv (stepR p l now 0))∧Keep y w'):=Lib.hid fun y xs hy h0 hx =>
  begins_any p A c _ xs y (hS.keep hy) (hC.keep hy) (HOK 0 h0) hx
 have C1 : Hid (∀ k y xs,Keep w y → k < l.length → k ≠ 0 → HdA (l.getD k hd0) xs → Calls Tryz.prog 9 #[parV p A c,.slice B k d,.agg xs,iv now] y fun e w' => e = .returned (iv (stepR p l now k))∧Keep y w'):=Lib.hid fun k y xs hy h0 hne hx => by
  have e : (l.take k).length = k:=by simp;omega
  have h1:=check_hd p A c B (l.take k) d _ xs now y (hS.keep hy) (hC.keep hy) (by omega) (by omega) hdm (rd_takeH (hr.keep hy) k) (fun h hh => hk h (List.mem_of_mem_take hh)) (HOK k h0) hx
  rw [e] at h1
  unfold stepR
  rw [if_neg hne]
  exact h1
 obtain ⟨zs,hz1,hz2,hz3,-⟩:=zhead_letter
 clear hr hC hS HOK hk
 generalize validN p l now = N at *
 generalize validE p l now = E at *
 have Hlen:=Lib.hid (show l.length = l.length from rfl)
 unfold parV at *
 generalize p.limit = limit at *
 generalize p.itv = itv at *
 generalize p.span = span at *
 generalize p.fut = fut at *
 generalize p.idx = idx at *
 generalize p.orp = orp at *
 generalize hm : p.chks.length = m at *
 clear hm Hlen
 generalize l.length = n at *
 go_enter Tryz.func5,Tryz.ntmps5
 go_upto_region 1 with fail
 obtain ⟨w1,hw1⟩ : ∃ w1,w1 = w.alloc (.cells #[u32v limit,iv itv,iv span,iv fut,iv idx,iv orp,.slice A m c] 25):=⟨_,rfl⟩
 have HP1 : Hid (Blk w1 w.heap.size 25 [u32v limit,iv itv,iv span,iv fut,iv idx,iv orp,.slice A m c]):=by rw [hw1];exact Lib.hid (Blk.new w 25 [u32v limit,iv itv,iv span,iv fut,iv idx,iv orp,.slice A m c])
 have HK1 : Hid (Keep w w1):=by rw [hw1];exact Lib.hid (keep_new _ _)
 rw [← hw1]
 clear hw1
 go_wp2_with fail
 go_loopw [13] (fun i wr => ∃ k : Nat,k ≤ n∧i = .int .i64 k∧Hid (∀ j,j < k → stepR p l now j = 0)∧Hid (Blk wr w.heap.size 25 [u32v limit,iv itv,iv span,iv fut,iv idx,iv orp,.slice A m c])∧Hid (Keep w wr)) (fun i _ => n - (intOf i).toNat)
 case atStart => exact ⟨0,Nat.zero_le _,rfl,Lib.hid (fun j hj => absurd hj (Nat.not_lt_zero _)),HP1,HK1⟩
 case round =>
  obtain ⟨k,hk,rfl,hz,HP,HK⟩:=hrel
  by_cases hlt : k < n
  ·obtain ⟨b,off,rfl,xs,hxs,hrx⟩:=HAT.out k hlt
   have RX : Hid (wr.rangeAt b (off + k * 68) xs.toList):=Lib.hid fun i v hv => keep_cell HK.out (hrx i v hv)
   have hxz:=hxs.z;have hxn:=hxs.n;have hxi:=hxs.i
   have hst : (storeCells ⟨wr.heap.size,0,none⟩ xs.toList 0).run Tryz.prog (wr.alloc (.cells zs 30)) = .ok () (wr.alloc (.cells xs 30)):=run_storeCells_new (P:=Tryz.prog) wr 30 zs xs hxi (hz1.trans hxz.symm) (by have:=all_oneCell_toArray hxs.o;rwa [Array.toArray_toList] at this)
   have Hxs:=Lib.hid hxs
   clear hxs hrx
   go_upto_region 4 with ((with_reducible refine load_partg b (off + k * 68) xs (Eq.trans ?_ rfl) RX.out _ Tryz.underlying30 rfl hxi rfl ?_);rfl)
   obtain ⟨w3,hw3⟩ : ∃ w3,w3 = wr.alloc (.cells xs 30):=⟨_,rfl⟩
   have HP3 : Hid (Blk w3 w.heap.size 25 [u32v limit,iv itv,iv span,iv fut,iv idx,iv orp,.slice A m c]):=by rw [hw3];exact Lib.hid (HP.out.alloc _)
   have HX3 : Hid (Blk w3 wr.heap.size 30 xs.toList):=by rw [hw3];exact Lib.hid (Blk.new wr 30 xs.toList)
   have HK3 : Hid (Keep w w3):=by rw [hw3];exact Lib.hid (keep_trans HK.out (keep_new _ _))
   rw [← hw3]
   clear hw3 hst RX HP HK HAT
   generalize wr.heap.size = g at *
   have rx : Hid (w3.rangeAt g 0 xs.toList):=Lib.hid (range_of HX3.out 0 xs.toList (by simp [List.take_of_length_le]))
   by_cases hk0 : k = 0
   ·subst hk0
    have B2:=Lib.hid (B1.out w3 xs HK3.out hlt Hxs.out)
    clear B1 C1
    have p0:=HP3.out.cell 0
    have p1:=HP3.out.cell 1
    have p2:=HP3.out.cell 2
    have p3:=HP3.out.cell 3
    have p4:=HP3.out.cell 4
    have p5:=HP3.out.cell 5
    have p6:=HP3.out.cell 6
    simp only [List.getElem?_cons_succ,List.getElem?_cons_zero] at p0 p1 p2 p3 p4 p5 p6
    obtain ⟨ev,hev0⟩ : ∃ ev,stepR p l now 0 = ev:=⟨_,rfl⟩
    rw [hev0] at B2
    have Hev:=Lib.hid hev0
    clear hev0
    go_wp2_with ((with_reducible refine load_partg g 0 xs (Eq.trans ?_ rfl) rx.out _ Tryz.underlying30 rfl hxi rfl ?_);rfl)
    refine B2.out.mono ?_
    clear B2 p0 p1 p2 p3 p4 p5 p6 rx
    rintro e w4 ⟨rfl,k4⟩
    have HP4:=Lib.hid (HP3.out.keep k4)
    have HK4:=Lib.hid (keep_trans HK3.out k4)
    clear k4 HP3 HK3 HX3
    go_wp2_with fail
    refine (wrong_any ev _).mono ?_
    rintro e wz ⟨rfl,rfl⟩
    by_cases hev : ev = 0
    ·subst hev
     have hnext : Hid (∀ j,j < 1 → stepR p l now j = 0):=Lib.hid fun j hj => by
      by_cases e : j < 0
      ·exact absurd e (Nat.not_lt_zero _)
      ·obtain rfl : j = 0:=by omega
       exact Hev.out
     clear hz Hev
     go_wp2
     go_roundw
     case rel => exact ⟨1,by omega,by go_num,hnext,HP4,HK4⟩
     case measure => simp [intOf];omega
    ·have d1 : (ev != 0) = true:=by simp [hev]
     obtain ⟨hN,hE⟩:=STOP.out 0 _ hlt hz.out Hev.out hev
     subst hN hE
     clear STOP ALL hz Hev hev HP4
     go_wp2
     exact bodyPost_ret (v:=.tuple #[iv ((0 : Nat) : Int),iv ev]) (by simp [results,Tryz.results5]) rfl ⟨rfl,HK4.out⟩
   ·have C2 : Hid (∀ y,Keep w3 y → Calls Tryz.prog 9 #[.agg #[u32v limit,iv itv,iv span,iv fut,iv idx,iv orp,.slice A m c],.slice (some ⟨b,off,none⟩) k d,.agg xs,iv now] y fun e w' => e = .returned (iv (stepR p l now k))∧Keep y w'):=Lib.hid fun y hy => C1.out k y xs (keep_trans HK3.out hy) hlt hk0 Hxs.out
    clear B1 C1
    obtain ⟨ev,hev0⟩ : ∃ ev,stepR p l now k = ev:=⟨_,rfl⟩
    rw [hev0] at C2
    have Hev:=Lib.hid hev0
    clear hev0
    have d0 : (k == 0) = false:=by simp [hk0]
    have d00 : ((k : Int) == 0) = false:=by rw [beq_eq_false_iff_ne];omega
    go_upto_region 7 with fail
    refine wp_region_tree (.take [0,1,2,3,4,5] (.force [6] (.take [7] .done))) [] (by kernel_rfl) (by kernel_rfl) (fun w9 k9 => ?_)
    have HP9:=Lib.hid (HP3.out.keep k9)
    have HX9:=HX3.out.keep k9
    have HK9:=Lib.hid (keep_trans HK3.out k9)
    have C3:=Lib.hid (C2.out w9 k9)
    have rx9 : Hid (w9.rangeAt g 0 xs.toList):=Lib.hid (range_of HX9 0 xs.toList (by simp [List.take_of_length_le]))
    have q0:=aft_cell (HP9.out.cell 0)
    have q1:=aft_cell (HP9.out.cell 1)
    have q2:=aft_cell (HP9.out.cell 2)
    have q3:=aft_cell (HP9.out.cell 3)
    have q4:=aft_cell (HP9.out.cell 4)
    have q5:=aft_cell (HP9.out.cell 5)
    have q6:=aft_cell (HP9.out.cell 6)
    clear HP3 HX3 HK3 HX9 C2 rx k9
    refine mt_take w9 (Below.refl _ _) ?_
    simp only [pick_cons,pick_nil,nth_zero,nth_succ]
    repeat (first
     | ((with_reducible refine wpQuiet_load_partg g 0 xs (Eq.trans ?_ rfl) rx9.out _ Tryz.underlying30 rfl hxi rfl ?_);rfl;simp only [Act.put,Array.set!_eq_setIfInBounds,List.setIfInBounds_toArray,List.set_cons_succ,List.set_cons_zero])
     | go_big_quiet_step (fail))
    refine wpQuiet_nil (mt_force ?_)
    clear rx9 q0 q1 q2 q3 q4 q5 q6
    simp only [pick_cons,pick_nil,nth_zero,nth_succ]
    refine fc_step rfl (fun K hK => ?_)
    go_simp
    (with_reducible refine (C3.out).mono ?_)
    rintro e w4 ⟨rfl,k4⟩
    refine hK _ _ k4 ?_
    have HP4:=Lib.hid (HP9.out.keep k4)
    have HK4:=Lib.hid (keep_trans HK9.out k4)
    clear hK K k4 C3 HP9 HK9
    refine fc_nil (mt_take w4 (Below.refl _ _) ?_)
    simp only [pick_cons,pick_nil,nth_zero,nth_succ]
    repeat (go_big_quiet_step (fail))
    refine wpQuiet_nil (mt_end ?_)
    go_wp2_with fail
    refine (wrong_any ev _).mono ?_
    rintro e wz ⟨rfl,rfl⟩
    by_cases hev : ev = 0
    ·subst hev
     have hnext : Hid (∀ j,j < k + 1 → stepR p l now j = 0):=Lib.hid fun j hj => by
      by_cases e : j < k
      ·exact hz.out j e
      ·obtain rfl : j = k:=by omega
       exact Hev.out
     clear hz Hev
     go_wp2
     go_roundw
     case rel => exact ⟨k + 1,by omega,by go_num,hnext,HP4,HK4⟩
     case measure => simp [intOf];omega
    ·have d1 : (ev != 0) = true:=by simp [hev]
     obtain ⟨hN,hE⟩:=STOP.out k _ hlt hz.out Hev.out hev
     subst hN hE
     clear STOP ALL hz Hev hev HP4
     go_wp2
     exact bodyPost_ret (v:=.tuple #[iv k,iv ev]) (by simp [results,Tryz.results5]) rfl ⟨rfl,HK4.out⟩
  ·obtain rfl : n = k:=by omega
   obtain ⟨hN,hE⟩:=ALL.out hz.out
   subst hN hE
   clear STOP ALL hz HAT B1 C1 HP
   go_wp2
   exact bodyPost_ret (v:=.tuple #[iv n,iv 0]) (by simp [results,Tryz.results5]) rfl ⟨rfl,HK.out⟩
end Go.Proofs.YtmbbknjddebhoaaGreatDoor
/- florinref16: Begins, Valid. (printed by gen_nrf.py out of XRv, XRu) -/
set_option linter.unusedSimpArgs false
set_option linter.unusedVariables false
namespace Go.Proofs.YtmbbknjddebhoaaGreatDoor
open Go.RowKit
attribute [local go_sem ↓] Go.wp_at_zero Go.wp_at_succ
set_option maxRecDepth 100000 in
set_option maxHeartbeats 4000000 in
theorem rbegins_any (p : Par) (A : Option Addr) (c : Nat) (h : Hd) (cs : Array Value) (w : World) (hC : Chks p A w) (ho : h.ok) (hcs : HdA h cs) :
  Calls Tryz.prog 12 #[parV p A c,.agg cs] w fun e w' => e = .returned (iv (beginsR p h))∧Keep w w':=by
 have S1 : Hid (∀ y,Calls Tryz.prog 23 #[parV p A c] y fun e w' => e = .returned (.bool (saneR p))∧Keep y w'):=Lib.hid fun y => rsane_any p A c y
 have HR : Hid (∀ r,beginsR p h = r → r = if saneR p = false then 15 else passR p 0 (idL h)):=Lib.hid fun r e => by subst e;rfl
 replace HR:=Lib.hid (HR.out _ rfl)
 have P1 : Hid (∀ y,Keep w y → Calls Tryz.prog 29 #[parV p A c,iv 0,.agg cs] y fun e w' => e = .returned (iv (passR p 0 (idL h)))∧Keep y w'):=Lib.hid fun y hy => rpasses_any p A c 0 h cs y (hC.keep hy) ho hcs
 have hcz:=hcs.z;have hcn:=hcs.n;have hci:=hcs.i
 clear hcs ho hC
 generalize beginsR p h = R at *
 generalize idL h = HI at *
 generalize passR p 0 HI = PR at *
 generalize saneR p = S at *
 unfold parV at *
 generalize p.limit = limit at *
 generalize p.itv = itv at *
 generalize p.span = span at *
 generalize p.fut = fut at *
 generalize p.idx = idx at *
 generalize p.orp = orp at *
 generalize hm : p.chks.length = m at *
 clear hm
 go_enter Tryz.func12,Tryz.ntmps12
 go_upto_region 1 with fail
 obtain ⟨w1,hw1⟩ : ∃ w1,w1 = (w.alloc (.cells #[u32v limit,iv itv,iv span,iv fut,iv idx,iv orp,.slice A m c] 25)).alloc (.cells cs 30):=⟨_,rfl⟩
 have HP1 : Hid (Blk w1 w.heap.size 25 [u32v limit,iv itv,iv span,iv fut,iv idx,iv orp,.slice A m c]):=by rw [hw1];exact Lib.hid ((Blk.new w 25 [u32v limit,iv itv,iv span,iv fut,iv idx,iv orp,.slice A m c]).alloc _)
 have HH1 : Hid (Blk w1 (w.heap.size + 1) 30 cs.toList):=by
  rw [hw1]
  have h2:=Blk.new (w.alloc (.cells #[u32v limit,iv itv,iv span,iv fut,iv idx,iv orp,.slice A m c] 25)) 30 cs.toList
  rw [World.size_alloc] at h2
  exact Lib.hid h2
 have HK1 : Hid (Keep w w1):=by rw [hw1];exact Lib.hid (keep_trans (keep_new _ _) (keep_new _ _))
 rw [← hw1]
 clear hw1
 have p0:=HP1.out.cell 0
 have p1:=HP1.out.cell 1
 have p2:=HP1.out.cell 2
 have p3:=HP1.out.cell 3
 have p4:=HP1.out.cell 4
 have p5:=HP1.out.cell 5
 have p6:=HP1.out.cell 6
 simp only [List.getElem?_cons_succ,List.getElem?_cons_zero] at p0 p1 p2 p3 p4 p5 p6
 go_wp2_with fail
 refine (S1.out _).mono ?_
 clear S1 p0 p1 p2 p3 p4 p5 p6
 rintro e w2 ⟨rfl,k2⟩
 have HP2:=Lib.hid (HP1.out.keep k2)
 have HH2:=Lib.hid (HH1.out.keep k2)
 have HK2:=Lib.hid (keep_trans HK1.out k2)
 clear HP1 HH1 HK1 k2
 have hR:=HR.out
 cases S with
 | false =>
   rw [if_pos rfl] at hR
   subst hR
   clear HR HP2 HH2
   go_wp2
   exact bodyPost_ret (v:=iv 15) (by simp [results,Tryz.results12]) rfl ⟨rfl,HK2.out⟩
 | true =>
   rw [if_neg (by simp)] at hR
   subst hR
   clear HR
   have rh : Hid (w2.rangeAt (w.heap.size + 1) 0 cs.toList):=Lib.hid (range_of HH2.out 0 cs.toList (by simp [List.take_of_length_le]))
   have p0:=HP2.out.cell 0
   have p1:=HP2.out.cell 1
   have p2:=HP2.out.cell 2
   have p3:=HP2.out.cell 3
   have p4:=HP2.out.cell 4
   have p5:=HP2.out.cell 5
   have p6:=HP2.out.cell 6
   simp only [List.getElem?_cons_succ,List.getElem?_cons_zero] at p0 p1 p2 p3 p4 p5 p6
   go_wp2_with ((with_reducible refine load_partg (w.heap.size + 1) 0 cs (Eq.trans ?_ rfl) rh.out _ Tryz.underlying30 rfl hci rfl ?_);rfl)
   refine (P1.out _ HK2.out).mono ?_
   clear P1 p0 p1 p2 p3 p4 p5 p6 rh HP2 HH2
   rintro e w3 ⟨rfl,k3⟩
   go_wp2
   exact bodyPost_ret (v:=iv R) (by simp [results,Tryz.results12]) rfl ⟨rfl,keep_trans HK2.out k3⟩
set_option maxRecDepth 100000 in
set_option maxHeartbeats 4000000 in
theorem rvalid_any (p : Par) (A : Option Addr) (c : Nat) (B : Option Addr) (l : List Hd) (d : Nat) (now : Int) (w : World) (hC : Chks p A w)
  (hl : l.length ≤ 100) (hd : l.length ≤ d) (hdm : d ≤ maxLen) (hr : Rd w B (l.flatMap Hd.cells)) (hk : ∀ h ∈ l,h.ok) :
  Calls Tryz.prog 6 #[parV p A c,.slice B l.length d,iv now] w fun e w' => e = .returned (.tuple #[iv (validN p l now),iv (validE p l now)])∧Keep w w':=by
 have STOP : Hid (∀ k ev,k < l.length → (∀ j,j < k → stepR p l now j = 0) → stepR p l now k = ev → ev ≠ 0 → k = validN p l now∧ev = validE p l now):=Lib.hid fun k ev h1 h2 h3 h4 => by
  subst h3
  obtain ⟨a,b⟩:=valid_stop h1 h2 h4
  exact ⟨a.symm,b.symm⟩
 have ALL : Hid ((∀ j,j < l.length → stepR p l now j = 0) → l.length = validN p l now∧0 = validE p l now):=Lib.hid fun h => by
  obtain ⟨a,b⟩:=valid_all h
  exact ⟨a.symm,b.symm⟩
 have HAT : Hid (∀ k,k < l.length → ∃ b off,B = some ⟨b,off,none⟩∧∃ xs,HdA (l.getD k hd0) xs∧w.rangeAt b (off + k * 68) xs.toList):=Lib.hid fun k hlt => by
  obtain ⟨b,off,h1,-,h2⟩:=heads_at hr hk hlt
  have hx:=HdA.of (hk _ (List.getElem_mem hlt))
  have e : l.getD k hd0 = l[k]:=by simp [List.getD_eq_getElem?_getD,List.getElem?_eq_getElem hlt]
  refine ⟨b,off,h1,_,by rw [e];exact hx,?_⟩
  exact h2
 have HOK : ∀ k,k < l.length → (l.getD k hd0).ok:=fun k hlt => by
  have e : l.getD k hd0 = l[k]:=by simp [List.getD_eq_getElem?_getD,List.getElem?_eq_getElem hlt]
  rw [e];exact hk _ (List.getElem_mem hlt)
 have B1 : Hid (∀ y xs,Keep w y → 0 < l.length → HdA (l.getD 0 hd0) xs → Calls Tryz.prog 12 #[parV p A c,.agg xs] y fun e w' => e = .returned (iv (stepR p l now 0))∧Keep y w'):=Lib.hid fun y xs hy h0 hx =>
  rbegins_any p A c _ xs y (hC.keep hy) (HOK 0 h0) hx
 have C1 : Hid (∀ k y xs,Keep w y → k < l.length → HdA (l.getD k hd0) xs → Calls Tryz.prog 10 #[parV p A c,.slice B k d,.agg xs,iv now] y fun e w' => e = .returned (iv (checkR p (l.take k) (l.getD k hd0) now))∧Keep y w'):=Lib.hid fun k y xs hy h0 hx => by
  have e : (l.take k).length = k:=by simp;omega
  have h1:=rcheck_hd p A c B (l.take k) d _ xs now y (hC.keep hy) (by omega) (by omega) hdm (rd_takeH (hr.keep hy) k) (fun h hh => hk h (List.mem_of_mem_take hh)) (HOK k h0) hx
  rw [e] at h1
  exact h1
 have CS : Hid (∀ k,k ≠ 0 → checkR p (l.take k) (l.getD k hd0) now = stepR p l now k):=Lib.hid fun k hne => by unfold stepR;rw [if_neg hne]
 clear hr hC HOK hk
 generalize validN p l now = N at *
 generalize validE p l now = E at *
 have Hlen:=Lib.hid (show l.length = l.length from rfl)
 unfold parV at *
 generalize p.limit = limit at *
 generalize p.itv = itv at *
 generalize p.span = span at *
 generalize p.fut = fut at *
 generalize p.idx = idx at *
 generalize p.orp = orp at *
 generalize hm : p.chks.length = m at *
 clear hm Hlen
 generalize l.length = n at *
 go_enter Tryz.func6,Tryz.ntmps6
 go_upto_region 1 with fail
 obtain ⟨w1,hw1⟩ : ∃ w1,w1 = w.alloc (.cells #[u32v limit,iv itv,iv span,iv fut,iv idx,iv orp,.slice A m c] 25):=⟨_,rfl⟩
 have HP1 : Hid (Blk w1 w.heap.size 25 [u32v limit,iv itv,iv span,iv fut,iv idx,iv orp,.slice A m c]):=by rw [hw1];exact Lib.hid (Blk.new w 25 [u32v limit,iv itv,iv span,iv fut,iv idx,iv orp,.slice A m c])
 have HK1 : Hid (Keep w w1):=by rw [hw1];exact Lib.hid (keep_new _ _)
 rw [← hw1]
 clear hw1
 go_wp2_with fail
 go_loopw [8] (fun i wr => ∃ k : Nat,k ≤ n∧i = .int .i64 k∧Hid (∀ j,j < k → stepR p l now j = 0)∧Hid (Blk wr w.heap.size 25 [u32v limit,iv itv,iv span,iv fut,iv idx,iv orp,.slice A m c])∧Hid (Keep w wr)) (fun i _ => n - (intOf i).toNat)
 case atStart => exact ⟨0,Nat.zero_le _,rfl,Lib.hid (fun j hj => absurd hj (Nat.not_lt_zero _)),HP1,HK1⟩
 case round =>
  obtain ⟨k,hk,rfl,hz,HP,HK⟩:=hrel
  by_cases hlt : k < n
  ·obtain ⟨b,off,rfl,xs,hxs,hrx⟩:=HAT.out k hlt
   have RX : Hid (wr.rangeAt b (off + k * 68) xs.toList):=Lib.hid fun i v hv => keep_cell HK.out (hrx i v hv)
   have hxz:=hxs.z;have hxn:=hxs.n;have hxi:=hxs.i
   have Hxs:=Lib.hid hxs
   clear hxs hrx
   by_cases hk0 : k = 0
   ·have C2 : Hid (∀ y,Keep wr y → Calls Tryz.prog 10 #[.agg #[u32v limit,iv itv,iv span,iv fut,iv idx,iv orp,.slice A m c],.slice (some ⟨b,off,none⟩) k d,.agg xs,iv now] y fun e w' => e = .returned (iv (checkR p (l.take k) (l.getD k hd0) now))∧Keep y w'):=Lib.hid fun y hy => C1.out k y xs (keep_trans HK.out hy) hlt Hxs.out
    subst hk0
    have B2 : Hid (∀ y,Keep w y → Calls Tryz.prog 12 #[.agg #[u32v limit,iv itv,iv span,iv fut,iv idx,iv orp,.slice A m c],.agg xs] y fun e w' => e = .returned (iv (stepR p l now 0))∧Keep y w'):=Lib.hid fun y hy => B1.out y xs hy hlt Hxs.out
    have e0 : off + 0 * 68 = off:=by omega
    rw [e0] at RX
    clear B1 C1 HAT CS e0
    generalize checkR p (l.take 0) (l.getD 0 hd0) now = cv at *
    obtain ⟨ev,hev0⟩ : ∃ ev,stepR p l now 0 = ev:=⟨_,rfl⟩
    rw [hev0] at B2
    have Hev:=Lib.hid hev0
    clear hev0
    go_upto_region 4 with fail
    refine wp_region_tree (.take [0,1,2,3,4,5,6,7,8] (.force [9] (.take [10] .done))) [] (by kernel_rfl) (by kernel_rfl) (fun w9 k9 => ?_)
    have HP9:=Lib.hid (HP.out.keep k9)
    have HK9:=Lib.hid (keep_trans HK.out k9)
    have rx9 : Hid (w9.rangeAt b (off) xs.toList):=Lib.hid fun i v hv => keep_cell k9 (RX.out i v hv)
    have C3:=Lib.hid (C2.out w9 k9)
    have q0:=aft_cell (HP9.out.cell 0)
    have q1:=aft_cell (HP9.out.cell 1)
    have q2:=aft_cell (HP9.out.cell 2)
    have q3:=aft_cell (HP9.out.cell 3)
    have q4:=aft_cell (HP9.out.cell 4)
    have q5:=aft_cell (HP9.out.cell 5)
    have q6:=aft_cell (HP9.out.cell 6)
    clear HP HK k9 C2 RX
    refine mt_take w9 (Below.refl _ _) ?_
    simp only [pick_cons,pick_nil,nth_zero,nth_succ]
    repeat (first
     | ((with_reducible refine wpQuiet_load_partg b (off) xs (Eq.trans ?_ rfl) rx9.out _ Tryz.underlying30 rfl hxi rfl ?_);rfl;simp only [Act.put,Array.set!_eq_setIfInBounds,List.setIfInBounds_toArray,List.set_cons_succ,List.set_cons_zero])
     | go_big_quiet_step (fail))
    refine wpQuiet_nil (mt_force ?_)
    clear q0 q1 q2 q3 q4 q5 q6
    simp only [pick_cons,pick_nil,nth_zero,nth_succ]
    refine fc_step rfl (fun K hK => ?_)
    go_simp
    (with_reducible refine (C3.out).mono ?_)
    rintro e w4 ⟨rfl,k4⟩
    refine hK _ _ k4 ?_
    have HP4:=Lib.hid (HP9.out.keep k4)
    have HK4:=Lib.hid (keep_trans HK9.out k4)
    have RX4 : Hid (w4.rangeAt b (off) xs.toList):=Lib.hid fun i v hv => keep_cell k4 (rx9.out i v hv)
    clear hK K k4 C3 HP9 HK9 rx9
    refine fc_nil (mt_take w4 (Below.refl _ _) ?_)
    simp only [pick_cons,pick_nil,nth_zero,nth_succ]
    repeat (go_big_quiet_step (fail))
    refine wpQuiet_nil (mt_end ?_)
    go_upto_region 6 with fail
    refine wp_region_tree (.take [0,1,2,3] (.force [4] (.take [5] .done))) [] (by kernel_rfl) (by kernel_rfl) (fun w9 k9 => ?_)
    have HP9:=Lib.hid (HP4.out.keep k9)
    have HK9:=Lib.hid (keep_trans HK4.out k9)
    have rx9 : Hid (w9.rangeAt b off xs.toList):=Lib.hid fun i v hv => keep_cell k9 (RX4.out i v hv)
    have q0:=aft_cell (HP9.out.cell 0)
    have q1:=aft_cell (HP9.out.cell 1)
    have q2:=aft_cell (HP9.out.cell 2)
    have q3:=aft_cell (HP9.out.cell 3)
    have q4:=aft_cell (HP9.out.cell 4)
    have q5:=aft_cell (HP9.out.cell 5)
    have q6:=aft_cell (HP9.out.cell 6)
    clear HP4 HK4 k9 RX4
    refine mt_take w9 (Below.refl _ _) ?_
    simp only [pick_cons,pick_nil,nth_zero,nth_succ]
    repeat (first
     | ((with_reducible refine wpQuiet_load_partg b (off) xs (Eq.trans ?_ rfl) rx9.out _ Tryz.underlying30 rfl hxi rfl ?_);rfl;simp only [Act.put,Array.set!_eq_setIfInBounds,List.setIfInBounds_toArray,List.set_cons_succ,List.set_cons_zero])
     | go_big_quiet_step (fail))
    refine wpQuiet_nil (mt_force ?_)
    clear q0 q1 q2 q3 q4 q5 q6
    simp only [pick_cons,pick_nil,nth_zero,nth_succ]
    refine fc_step rfl (fun K hK => ?_)
    go_simp
    (with_reducible refine (B2.out _ HK9.out).mono ?_)
    rintro e w5 ⟨rfl,k5⟩
    refine hK _ _ k5 ?_
    have HP5:=Lib.hid (HP9.out.keep k5)
    have HK5:=Lib.hid (keep_trans HK9.out k5)
    clear hK K k5 B2 HP9 HK9 rx9
    refine fc_nil (mt_take w5 (Below.refl _ _) ?_)
    simp only [pick_cons,pick_nil,nth_zero,nth_succ]
    repeat (go_big_quiet_step (fail))
    refine wpQuiet_nil (mt_end ?_)
    by_cases hev : ev = 0
    ·subst hev
     have hnext : Hid (∀ j,j < 0 + 1 → stepR p l now j = 0):=Lib.hid fun j hj => by
      by_cases e : j < 0
      ·exact hz.out j e
      ·obtain rfl : j = 0:=by omega
       exact Hev.out
     clear hz Hev
     go_wp2
     go_roundw
     case rel => exact ⟨0 + 1,by omega,by go_num,hnext,HP5,HK5⟩
     case measure => simp [intOf] <;> omega
    ·have d1 : (ev != 0) = true:=by simp [hev]
     obtain ⟨hN,hE⟩:=STOP.out 0 _ hlt hz.out Hev.out hev
     subst hN hE
     clear STOP ALL hz Hev hev HP5
     go_wp2
     exact bodyPost_ret (v:=.tuple #[iv ((0 : Nat) : Int),iv ev]) (by simp [results,Tryz.results6]) rfl ⟨rfl,HK5.out⟩
   ·have C2 : Hid (∀ y,Keep wr y → Calls Tryz.prog 10 #[.agg #[u32v limit,iv itv,iv span,iv fut,iv idx,iv orp,.slice A m c],.slice (some ⟨b,off,none⟩) k d,.agg xs,iv now] y fun e w' => e = .returned (iv (stepR p l now k))∧Keep y w'):=Lib.hid fun y hy => by
     rw [← CS.out k hk0]
     exact C1.out k y xs (keep_trans HK.out hy) hlt Hxs.out
    clear B1 C1 HAT CS
    obtain ⟨ev,hev0⟩ : ∃ ev,stepR p l now k = ev:=⟨_,rfl⟩
    rw [hev0] at C2
    have Hev:=Lib.hid hev0
    clear hev0
    have d0 : (k == 0) = false:=by simp [hk0]
    have d00 : ((k : Int) == 0) = false:=by rw [beq_eq_false_iff_ne];omega
    go_upto_region 4 with fail
    refine wp_region_tree (.take [0,1,2,3,4,5,6,7,8] (.force [9] (.take [10] .done))) [] (by kernel_rfl) (by kernel_rfl) (fun w9 k9 => ?_)
    have HP9:=Lib.hid (HP.out.keep k9)
    have HK9:=Lib.hid (keep_trans HK.out k9)
    have rx9 : Hid (w9.rangeAt b (off + k * 68) xs.toList):=Lib.hid fun i v hv => keep_cell k9 (RX.out i v hv)
    have C3:=Lib.hid (C2.out w9 k9)
    have q0:=aft_cell (HP9.out.cell 0)
    have q1:=aft_cell (HP9.out.cell 1)
    have q2:=aft_cell (HP9.out.cell 2)
    have q3:=aft_cell (HP9.out.cell 3)
    have q4:=aft_cell (HP9.out.cell 4)
    have q5:=aft_cell (HP9.out.cell 5)
    have q6:=aft_cell (HP9.out.cell 6)
    clear HP HK k9 C2 RX
    refine mt_take w9 (Below.refl _ _) ?_
    simp only [pick_cons,pick_nil,nth_zero,nth_succ]
    repeat (first
     | ((with_reducible refine wpQuiet_load_partg b (off + k * 68) xs (Eq.trans ?_ rfl) rx9.out _ Tryz.underlying30 rfl hxi rfl ?_);rfl;simp only [Act.put,Array.set!_eq_setIfInBounds,List.setIfInBounds_toArray,List.set_cons_succ,List.set_cons_zero])
     | go_big_quiet_step (fail))
    refine wpQuiet_nil (mt_force ?_)
    clear q0 q1 q2 q3 q4 q5 q6
    simp only [pick_cons,pick_nil,nth_zero,nth_succ]
    refine fc_step rfl (fun K hK => ?_)
    go_simp
    (with_reducible refine (C3.out).mono ?_)
    rintro e w4 ⟨rfl,k4⟩
    refine hK _ _ k4 ?_
    have HP4:=Lib.hid (HP9.out.keep k4)
    have HK4:=Lib.hid (keep_trans HK9.out k4)
    have RX4 : Hid (w4.rangeAt b (off + k * 68) xs.toList):=Lib.hid fun i v hv => keep_cell k4 (rx9.out i v hv)
    clear hK K k4 C3 HP9 HK9 rx9
    refine fc_nil (mt_take w4 (Below.refl _ _) ?_)
    simp only [pick_cons,pick_nil,nth_zero,nth_succ]
    repeat (go_big_quiet_step (fail))
    refine wpQuiet_nil (mt_end ?_)
    by_cases hev : ev = 0
    ·subst hev
     have hnext : Hid (∀ j,j < k + 1 → stepR p l now j = 0):=Lib.hid fun j hj => by
      by_cases e : j < k
      ·exact hz.out j e
      ·obtain rfl : j = k:=by omega
       exact Hev.out
     clear hz Hev
     go_wp2
     go_roundw
     case rel => exact ⟨k + 1,by omega,by go_num,hnext,HP4,HK4⟩
     case measure => simp [intOf] <;> omega
    ·have d1 : (ev != 0) = true:=by simp [hev]
     obtain ⟨hN,hE⟩:=STOP.out k _ hlt hz.out Hev.out hev
     subst hN hE
     clear STOP ALL hz Hev hev HP4
     go_wp2
     exact bodyPost_ret (v:=.tuple #[iv ((k : Nat) : Int),iv ev]) (by simp [results,Tryz.results6]) rfl ⟨rfl,HK4.out⟩
  ·obtain rfl : n = k:=by omega
   obtain ⟨hN,hE⟩:=ALL.out hz.out
   subst hN hE
   clear STOP ALL hz HAT B1 C1 CS HP
   go_wp2
   exact bodyPost_ret (v:=.tuple #[iv n,iv 0]) (by simp [results,Tryz.results6]) rfl ⟨rfl,HK.out⟩
end Go.Proofs.YtmbbknjddebhoaaGreatDoor
/- The document's example (plain). -/
set_option linter.unusedSimpArgs false
set_option linter.unusedVariables false
namespace Go.Proofs.YtmbbknjddebhoaaGreatDoor
open Go.RowKit
def exR : Par:=⟨545259519,9,90,10,0,0,[]⟩
def exA : Hd:=⟨0,List.replicate 32 0,List.replicate 32 0,5,545259519,0⟩
def mkH (L : List UInt8) : Hd:=⟨0,L,List.replicate 32 0,6,545259519,0⟩
theorem mkH_ok (L : List UInt8) (h : L.length = 32) : (mkH L).ok:=⟨h,rfl⟩
abbrev exH : Hd:=mkH (idL exA)
theorem exH_ok : exH.ok:=mkH_ok _ (idL_len _)
theorem exA_ok : exA.ok:=⟨rfl,rfl⟩
theorem ex_meet : meetN (leN (idL exH)) 545259519 545259519 = 0:=by decide +kernel
theorem ex_sane : saneR exR = true:=by decide +kernel
theorem ex_check (now : Int) (h : chkI 6 [5] now 10 = 0) : checkR exR [exA] exH now = 0:=by
 have e1 : (exH.prev == idL (lastH [exA])) = true:=beq_self_eq_true _
 have e2 : (exH.bits.toNat == (chainR exR [exA]).toNat) = true:=by decide +kernel
 have e3 : passR exR 1 (idL exH) = 0:=rfl
 unfold checkR
 rw [ex_sane,e1,e2,show exH.bits = 545259519 from rfl,show exR.limit = 545259519 from rfl,ex_meet]
 rw [if_neg (by simp),if_neg (by simp),if_neg (by simp),if_neg (by simp)]
 rw [show exH.time = 6 from rfl,show [exA].map Hd.time = [5] from rfl,show exR.fut = 10 from rfl,h,if_neg (by simp)]
 exact e3
theorem ex_c1 : checkR exR [exA] exH 6 = 0:=ex_check 6 (by decide +kernel)
theorem ex_c2 : checkR exR [exA] exH (-5) = 0:=ex_check (-5) (by decide +kernel)
theorem ex_c3 : checkR exR [] exH 6 = 15:=by unfold checkR;rw [if_pos (show saneR exR = false ∨ ([] : List Hd).length = 0 from Or.inr rfl)]
theorem ex_b : beginsR exR exA = 0:=by unfold beginsR;rw [ex_sane,if_neg (by simp)];rfl
theorem ex_meet2 : meetN (leN (idL (exH.bump 0))) exH.bits 545259519 = 0:=by
 rw [bump_zero]
 have e : exH.bits = 545259519:=rfl
 rw [e]
 exact ex_meet
end Go.Proofs.YtmbbknjddebhoaaGreatDoor
/- florinlaw16's example walked. (printed by gen_rw.py) -/
set_option linter.unusedSimpArgs false
set_option linter.unusedVariables false
namespace Go.Proofs.YtmbbknjddebhoaaGreatDoor
open Go.RowKit
attribute [local go_sem ↓] Go.wp_at_zero Go.wp_at_succ
theorem ru_B : Tryz.prog.built 25 [(0,.int .u32 545259519),(1,.int .i64 9),(2,.int .i64 90),(3,.int .i64 10)] = some #[u32v 545259519,iv 9,iv 90,iv 10,iv 0,iv 0,.slice none 0 0]:=by kernel_rfl
theorem par_info : (Tryz.prog.info? 25).map (·.size) = some 7:=by kernel_rfl
set_option maxRecDepth 100000 in
theorem rule_any (w : World) : Calls Tryz.prog 15 #[] w fun e w' => e = .returned (parV exR none 0)∧Keep w w':=by
 have hB:=ru_B
 go_enter Tryz.func15,Tryz.ntmps15
 go_wp2
 exact bodyPost_ret (v:=parV exR none 0) (results_cell_row Tryz.results15 _ _ w.heap.size _ _ _ _ rfl (heap_alloc_new w _) Tryz.underlying25 rfl par_info) rfl ⟨rfl,keep_new _ _⟩
theorem exA_built : Tryz.prog.built 30 [(3,.int .u32 5),(4,.int .u32 545259519)] = some exA.cells.toArray:=by kernel_rfl
theorem exH_built (l : List UInt8) (ds : Array Value) (hl : l.length = 32) (hd : HashA l ds) : Tryz.prog.built 30 [(1,.agg ds),(3,.int .u32 6),(4,.int .u32 545259519)] = some (mkH l).cells.toArray:=by
 obtain rfl:=hd.e
 obtain ⟨a0,a1,a2,a3,a4,a5,a6,a7,a8,a9,b0,b1,b2,b3,b4,b5,b6,b7,b8,b9,c0,c1,c2,c3,c4,c5,c6,c7,c8,c9,d0,d1,rfl⟩:=list32b hl
 kernel_rfl
set_option maxRecDepth 100000 in
set_option maxHeartbeats 4000000 in
theorem awake_any (w : World) (hS : ShaOk w) : Calls Tryz.prog 4 #[] w fun e w' => e = .returned (.bool true)∧Keep w w':=by
 obtain ⟨av,hav⟩ : ∃ av,HdA exA av∧exA.cells.toArray = av:=⟨_,HdA.of exA_ok,rfl⟩
 have oH : exH.ok:=exH_ok
 obtain ⟨hv,hhv⟩ : ∃ hv,HdA exH hv∧exH.cells.toArray = hv:=⟨_,HdA.of oH,rfl⟩
 have BA : Hid (Tryz.prog.built 30 [(3,.int .u32 5),(4,.int .u32 545259519)] = some av):=Lib.hid (by rw [← hav.2];exact exA_built)
 have BH : Hid (∀ ds,HashA (idL exA) ds → Tryz.prog.built 30 [(1,.agg ds),(3,.int .u32 6),(4,.int .u32 545259519)] = some hv):=Lib.hid fun ds hd => by rw [← hhv.2];exact exH_built _ ds (idL_len _) hd
 have RU : Hid (∀ y,Calls Tryz.prog 15 #[] y fun e w' => e = .returned (parV exR none 0)∧Keep y w'):=Lib.hid rule_any
 have I1 : Hid (∀ y,Keep w y → Calls Tryz.prog 14 #[.agg av] y fun e w' => ∃ ds,e = .returned (.agg ds)∧HashA (idL exA) ds∧Keep y w'):=Lib.hid fun y hy => id_any exA av y (hS.keep hy) exA_ok hav.1
 have MI : Hid (∀ y,Keep w y → Calls Tryz.prog 13 #[.agg hv,.int .u32 545259519,.int .i64 200] y fun e w' => ∃ ds,e = .returned (.tuple #[.agg ds,.bool true])∧ds = hv∧Keep y w'):=Lib.hid fun y hy => by
  refine (mine_any exH hv 545259519 200 0 y (hS.keep hy) oH hhv.1 (by decide) (by decide) (fun j hj => absurd hj (Nat.not_lt_zero _)) ex_meet2).mono ?_
  rintro e w' ⟨ds,h1,h2,h3⟩
  rw [bump_zero] at h2
  exact ⟨ds,h1,by rw [← hhv.2,← h2.l,Array.toArray_toList],h3⟩
 have CK : ∀ (now : Int) y g,Keep w y → checkR exR [exA] exH now = 0 → Blk y g 30 av.toList → Calls Tryz.prog 9 #[parV exR none 0,.slice (some ⟨g,0,none⟩) 1 1,.agg hv,iv now] y fun e w' => e = .returned (iv 0)∧Keep y w':=fun now y g hy h0 hb => by
  have h1:=check_hd exR none 0 (some ⟨g,0,none⟩) [exA] 1 exH hv now y (hS.keep hy) ⟨Rd.nil _ _,(fun x hx => absurd hx List.not_mem_nil),by decide⟩ (by decide) (by decide) (by decide) (by rw [List.flatMap_cons,List.flatMap_nil,List.append_nil,← hav.1.l];exact hb.rd) (fun h hh => by rw [List.mem_singleton.1 hh];exact exA_ok) oH hhv.1
  rw [h0] at h1
  exact h1
 have C6 : Hid (∀ y g,Keep w y → Blk y g 30 av.toList → Calls Tryz.prog 9 #[parV exR none 0,.slice (some ⟨g,0,none⟩) 1 1,.agg hv,iv 6] y fun e w' => e = .returned (iv 0)∧Keep y w'):=Lib.hid fun y g hy hb => CK 6 y g hy ex_c1 hb
 have C14 : Hid (∀ y g,Keep w y → Blk y g 30 av.toList → Calls Tryz.prog 9 #[parV exR none 0,.slice (some ⟨g,0,none⟩) 1 1,.agg hv,iv (-5)] y fun e w' => e = .returned (iv 0)∧Keep y w'):=Lib.hid fun y g hy hb => CK (-5) y g hy ex_c2 hb
 have C20 : Hid (∀ y,Keep w y → Calls Tryz.prog 9 #[parV exR none 0,.slice none 0 0,.agg hv,iv 6] y fun e w' => e = .returned (iv 15)∧Keep y w'):=Lib.hid fun y hy => by
  have h1:=check_hd exR none 0 none [] 0 exH hv 6 y (hS.keep hy) ⟨Rd.nil _ _,(fun x hx => absurd hx List.not_mem_nil),by decide⟩ (by decide) (by decide) (by decide) (Rd.nil _ _) (fun h hh => absurd hh List.not_mem_nil) oH hhv.1
  rw [ex_c3] at h1
  exact h1
 have C26 : Hid (∀ y,Keep w y → Calls Tryz.prog 11 #[parV exR none 0,.agg av] y fun e w' => e = .returned (iv 0)∧Keep y w'):=Lib.hid fun y hy => by
  have h1:=begins_any exR none 0 exA av y (hS.keep hy) ⟨Rd.nil _ _,(fun x hx => absurd hx List.not_mem_nil),by decide⟩ exA_ok hav.1
  rw [ex_b] at h1
  exact h1
 have avz:=hav.1.z;have avn:=hav.1.n;have avi:=hav.1.i;have avo:=Lib.hid hav.1.o
 have hvz:=hhv.1.z;have hvn:=hhv.1.n;have hvi:=hhv.1.i;have hvo:=Lib.hid hhv.1.o
 have Ht:=Lib.hid (hd_time oH)
 rw [← hhv.1.l] at Ht
 clear hav hhv CK oH hS
 generalize idL exA = LA at *
 generalize parV exR none 0 = PV at *
 obtain ⟨zs,hz1,hz2,hz3,-⟩:=zhead_letter
 go_enter Tryz.func4,Tryz.ntmps4
 have hsA : (storeCells ⟨w.heap.size,0,none⟩ av.toList 0).run Tryz.prog (w.alloc (.cells zs 30)) = .ok () (w.alloc (.cells av 30)):=run_storeCells_new (P:=Tryz.prog) w 30 zs av avi (hz1.trans avz.symm) (by have:=all_oneCell_toArray avo.out;rwa [Array.toArray_toList] at this)
 go_upto_region 2 with ((with_reducible refine list_buildr [(3,.int .u32 5),(4,.int .u32 545259519)] av (Eq.trans ?_ rfl) BA.out ?_);rfl)
 obtain ⟨w1,hw1⟩ : ∃ w1,w1 = w.alloc (.cells av 30):=⟨_,rfl⟩
 have FA1 : Hid (Blk w1 w.heap.size 30 av.toList):=by rw [hw1];exact Lib.hid (Blk.new w 30 av.toList)
 have HK1 : Hid (Keep w w1):=by rw [hw1];exact Lib.hid (keep_new _ _)
 rw [← hw1]
 clear hw1 hsA BA
 have hga : w.heap.size ≤ w.heap.size:=Nat.le_refl _
 obtain ⟨ga,hgae⟩ : ∃ g,w.heap.size = g:=⟨_,rfl⟩
 rw [hgae] at FA1 ⊢
 have r1 : Hid (w1.rangeAt ga 0 av.toList):=Lib.hid (range_of FA1.out 0 av.toList (by simp [List.take_of_length_le]))
 go_wp2_with ((with_reducible refine load_partg ga 0 av (Eq.trans ?_ rfl) r1.out _ Tryz.underlying30 rfl avi rfl ?_);rfl)
 refine (I1.out _ HK1.out).mono ?_
 clear I1 r1
 rintro e w2 ⟨ds,rfl,hds,k2⟩
 have BH2:=Lib.hid (BH.out ds hds)
 have FA2:=Lib.hid (FA1.out.keep k2)
 have HK2:=Lib.hid (keep_trans HK1.out k2)
 clear hds k2 FA1 HK1 BH
 go_wp2_with ((with_reducible refine list_buildr [(1,.agg ds),(3,.int .u32 6),(4,.int .u32 545259519)] hv (Eq.trans ?_ rfl) BH2.out ?_);rfl)
 refine (MI.out _ HK2.out).mono ?_
 clear MI BH2
 rintro e w3 ⟨es,rfl,hes,k3⟩
 subst hes
 have FA3:=Lib.hid (FA2.out.keep k3)
 have HK3:=Lib.hid (keep_trans HK2.out k3)
 clear k3 FA2 HK2
 have hsB : (storeCells ⟨w3.heap.size,0,none⟩ es.toList 0).run Tryz.prog (w3.alloc (.cells zs 30)) = .ok () (w3.alloc (.cells es 30)):=run_storeCells_new (P:=Tryz.prog) w3 30 zs es hvi (hz1.trans hvz.symm) (by have:=all_oneCell_toArray hvo.out;rwa [Array.toArray_toList] at this)
 go_upto_region 3 with fail
 obtain ⟨w4,hw4⟩ : ∃ w4,w4 = w3.alloc (.cells es 30):=⟨_,rfl⟩
 have FA4 : Hid (Blk w4 ga 30 av.toList):=by rw [hw4];exact Lib.hid (FA3.out.alloc _)
 have FH4 : Hid (Blk w4 w3.heap.size 30 es.toList):=by rw [hw4];exact Lib.hid (Blk.new w3 30 es.toList)
 have HK4 : Hid (Keep w w4):=by rw [hw4];exact Lib.hid (keep_trans HK3.out (keep_new _ _))
 rw [← hw4]
 clear hw4 hsB FA3
 have hgh : w.heap.size ≤ w3.heap.size:=HK3.out.size
 clear HK3
 generalize w3.heap.size = gh at *
 have r1 : Hid (w4.rangeAt gh 0 es.toList):=Lib.hid (range_of FH4.out 0 es.toList (by simp [List.take_of_length_le]))
 have hsC : (storeCells ⟨w4.heap.size,0,none⟩ es.toList 0).run Tryz.prog (w4.alloc (.cells zs 30)) = .ok () (w4.alloc (.cells es 30)):=run_storeCells_new (P:=Tryz.prog) w4 30 zs es hvi (hz1.trans hvz.symm) (by have:=all_oneCell_toArray hvo.out;rwa [Array.toArray_toList] at this)
 go_upto_region 4 with ((with_reducible refine load_partg gh 0 es (Eq.trans ?_ rfl) r1.out _ Tryz.underlying30 rfl hvi rfl ?_);rfl)
 obtain ⟨w6,hw6⟩ : ∃ w6,w6 = w4.alloc (.cells es 30):=⟨_,rfl⟩
 have FA6 : Hid (Blk w6 ga 30 av.toList):=by rw [hw6];exact Lib.hid (FA4.out.alloc _)
 have FH6 : Hid (Blk w6 gh 30 es.toList):=by rw [hw6];exact Lib.hid (FH4.out.alloc _)
 have FB6 : Hid (Blk w6 w4.heap.size 30 es.toList):=by rw [hw6];exact Lib.hid (Blk.new w4 30 es.toList)
 have HK6 : Hid (Keep w w6):=by rw [hw6];exact Lib.hid (keep_trans HK4.out (keep_new _ _))
 rw [← hw6]
 have ha1 : ga < w4.heap.size:=FA4.out.lt
 have ha2 : gh < w4.heap.size:=FH4.out.lt
 have ha3 : w.heap.size ≤ w4.heap.size:=HK4.out.size
 clear hw6 hsC FA4 FH4 r1 HK4
 generalize w4.heap.size = gb at *
 have c65:=(FB6.out.cell 65).trans Ht.out
 have f65:=FB6.out.frozen 65
 go_upto_region 5 with fail
 clear c65 f65
 obtain ⟨w5,hw5⟩ : ∃ w5,w5 = w6.setCell ⟨gb,65,none⟩ (.int .u32 17):=⟨_,rfl⟩
 have FA : Hid (Blk w5 ga 30 av.toList):=by rw [hw5];exact Lib.hid (FA6.out.far (by simp;omega) _)
 have FH : Hid (Blk w5 gh 30 es.toList):=by rw [hw5];exact Lib.hid (FH6.out.far (by simp;omega) _)
 have HK5 : Hid (Keep w w5):=by rw [hw5];exact Lib.hid (Below.setCell HK6.out (by simp;omega) _)
 rw [← hw5]
 clear hw5 FA6 FH6 FB6 HK6 Ht
 obtain ⟨hv,hve⟩ : ∃ hv,es = hv:=⟨_,rfl⟩
 subst hve
 replace C6 : Hid (∀ y g,Keep w5 y → Blk y g 30 av.toList → Calls Tryz.prog 9 #[PV,.slice (some ⟨g,0,none⟩) 1 1,.agg es,iv 6] y fun e w' => e = .returned (iv 0)∧Keep y w'):=Lib.hid fun y g hy hb => C6.out y g (keep_trans HK5.out hy) hb
 replace C14 : Hid (∀ y g,Keep w5 y → Blk y g 30 av.toList → Calls Tryz.prog 9 #[PV,.slice (some ⟨g,0,none⟩) 1 1,.agg es,iv (-5)] y fun e w' => e = .returned (iv 0)∧Keep y w'):=Lib.hid fun y g hy hb => C14.out y g (keep_trans HK5.out hy) hb
 replace C20 : Hid (∀ y,Keep w5 y → Calls Tryz.prog 9 #[PV,.slice none 0 0,.agg es,iv 6] y fun e w' => e = .returned (iv 15)∧Keep y w'):=Lib.hid fun y hy => C20.out y (keep_trans HK5.out hy)
 replace C26 : Hid (∀ y,Keep w5 y → Calls Tryz.prog 11 #[PV,.agg av] y fun e w' => e = .returned (iv 0)∧Keep y w'):=Lib.hid fun y hy => C26.out y (keep_trans HK5.out hy)
 clear hgae hga hgh ha1 ha2 ha3 hz1 hz2 hz3
 refine wp_region_tree (.take [0,1,3,5] (.fork 2 (.force [4,6] (.take [7,8,9,11,13] (.fork 10 (.force [12,14] (.take [15,16,17,19] (.force [18,20] (.take [21,22,23,25] (.force [24,26] (.take [27,28,29] .done)))))) 12 (.force [10,14] (.take [15,16,17,19] (.force [18,20] (.take [21,22,23,25] (.force [24,26] (.take [27,28,29] .done))))))))) 4 (.force [2,6] (.take [7,8,9,11,13] (.fork 10 (.force [12,14] (.take [15,16,17,19] (.force [18,20] (.take [21,22,23,25] (.force [24,26] (.take [27,28,29] .done)))))) 12 (.force [10,14] (.take [15,16,17,19] (.force [18,20] (.take [21,22,23,25] (.force [24,26] (.take [27,28,29] .done))))))))))) [] (by kernel_rfl) (by kernel_rfl) (fun y0 hk => ?_)
 have Q:=Lib.hid hk
 have FA:=Lib.hid (FA.out.keep hk)
 have FH:=Lib.hid (FH.out.keep hk)
 clear hk
 refine mt_take y0 (Below.refl _ _) ?_
 simp only [pick_cons,pick_nil,nth_zero,nth_succ]
 have hA0 : Hid (y0.rangeAt ga 0 av.toList):=Lib.hid (range_of FA.out 0 av.toList (by simp [List.take_of_length_le]))
 have hH0 : Hid (y0.rangeAt gh 0 es.toList):=Lib.hid (range_of FH.out 0 es.toList (by simp [List.take_of_length_le]))
 repeat (first
  | ((with_reducible refine wpQuiet_load_partg ga 0 av (Eq.trans ?_ rfl) hA0.out _ Tryz.underlying30 rfl avi (Eq.trans ?_ rfl) ?_);rfl;rfl;simp only [Act.put,Array.set!_eq_setIfInBounds,List.setIfInBounds_toArray,List.set_cons_succ,List.set_cons_zero])
  | ((with_reducible refine wpQuiet_load_partg gh 0 es (Eq.trans ?_ rfl) hH0.out _ Tryz.underlying30 rfl hvi (Eq.trans ?_ rfl) ?_);rfl;rfl;simp only [Act.put,Array.set!_eq_setIfInBounds,List.setIfInBounds_toArray,List.set_cons_succ,List.set_cons_zero])
  | go_big_quiet_step (fail))
 clear hA0 hH0
 refine wpQuiet_nil (mt_fork ?_ ?_)
 ·simp only [pick_cons,pick_nil,nth_zero,nth_succ]
  refine fc_step rfl (fun K hK => ?_)
  go_simp
  (with_reducible refine (RU.out _).mono ?_)
  rintro e y1 ⟨rfl,hk⟩
  refine hK _ _ hk ?_
  clear hK K
  have HQ2 : w5.heap.size ≤ y0.heap.size:=Q.out.size
  have Hprev:=Q
  replace Q:=Lib.hid (keep_trans Q.out hk)
  have hs_y1 : y0.heap.size ≤ y1.heap.size:=hk.size
  replace FA:=Lib.hid (FA.out.keep hk)
  replace FH:=Lib.hid (FH.out.keep hk)
  clear hk
  refine fc_nil (mt_force ?_)
  simp only [pick_cons,pick_nil,nth_zero,nth_succ]
  refine fc_step rfl (fun K hK => ?_)
  refine wp_build1b headTb _ (by rfl) av avz (by omega) (by rfl) ?_
  refine hK _ _ (keep_new _ _) ?_
  clear hK K
  obtain ⟨y2,hy⟩ : ∃ y2,y2 = y1.alloc (.cells av 30):=⟨_,rfl⟩
  have F4 : Hid (Blk y2 y1.heap.size 30 av.toList):=by rw [hy];exact Blk.new y1 _ av.toList
  have hk : Keep y1 y2:=by rw [hy];exact keep_new _ _
  rw [← hy]
  clear hy
  have F4s : y1.heap.size < y2.heap.size:=F4.out.lt
  have F4n:=Q.out.size
  replace Q:=Lib.hid (keep_trans Q.out hk)
  have hs_y2 : y1.heap.size ≤ y2.heap.size:=hk.size
  replace FA:=Lib.hid (FA.out.keep hk)
  replace FH:=Lib.hid (FH.out.keep hk)
  clear hk
  generalize hp : y1.heap.size = g4 at *
  have F4a : y1.heap.size ≤ g4:=Nat.le_of_eq hp
  have F4b : g4 ≤ y1.heap.size:=Nat.le_of_eq hp.symm
  clear hp
  refine fc_step rfl (fun K hK => ?_)
  go_simp
  (with_reducible refine (C6.out _ g4 Q.out F4.out).mono ?_)
  rintro e y3 ⟨rfl,hk⟩
  refine hK _ _ hk ?_
  clear hK K
  have HQ6 : w5.heap.size ≤ y2.heap.size:=Q.out.size
  have Hprev:=Q
  replace Q:=Lib.hid (keep_trans Q.out hk)
  have hs_y3 : y2.heap.size ≤ y3.heap.size:=hk.size
  replace FA:=Lib.hid (FA.out.keep hk)
  replace FH:=Lib.hid (FH.out.keep hk)
  replace F4:=Lib.hid (F4.out.keep hk)
  clear hk
  refine fc_nil (mt_take y3 (Below.refl _ _) ?_)
  simp only [pick_cons,pick_nil,nth_zero,nth_succ]
  have hA0 : Hid (y3.rangeAt ga 0 av.toList):=Lib.hid (range_of FA.out 0 av.toList (by simp [List.take_of_length_le]))
  have hH0 : Hid (y3.rangeAt gh 0 es.toList):=Lib.hid (range_of FH.out 0 es.toList (by simp [List.take_of_length_le]))
  repeat (first
   | ((with_reducible refine wpQuiet_load_partg ga 0 av (Eq.trans ?_ rfl) hA0.out _ Tryz.underlying30 rfl avi (Eq.trans ?_ rfl) ?_);rfl;rfl;simp only [Act.put,Array.set!_eq_setIfInBounds,List.setIfInBounds_toArray,List.set_cons_succ,List.set_cons_zero])
   | ((with_reducible refine wpQuiet_load_partg gh 0 es (Eq.trans ?_ rfl) hH0.out _ Tryz.underlying30 rfl hvi (Eq.trans ?_ rfl) ?_);rfl;rfl;simp only [Act.put,Array.set!_eq_setIfInBounds,List.setIfInBounds_toArray,List.set_cons_succ,List.set_cons_zero])
   | go_big_quiet_step (fail))
  clear hA0 hH0
  refine wpQuiet_nil (mt_fork ?_ ?_)
  ·simp only [pick_cons,pick_nil,nth_zero,nth_succ]
   refine fc_step rfl (fun K hK => ?_)
   go_simp
   (with_reducible refine (RU.out _).mono ?_)
   rintro e y4 ⟨rfl,hk⟩
   refine hK _ _ hk ?_
   clear hK K
   have HQ10 : w5.heap.size ≤ y3.heap.size:=Q.out.size
   have Hprev:=Q
   replace Q:=Lib.hid (keep_trans Q.out hk)
   have hs_y4 : y3.heap.size ≤ y4.heap.size:=hk.size
   replace FA:=Lib.hid (FA.out.keep hk)
   replace FH:=Lib.hid (FH.out.keep hk)
   replace F4:=Lib.hid (F4.out.keep hk)
   clear hk
   refine fc_nil (mt_force ?_)
   simp only [pick_cons,pick_nil,nth_zero,nth_succ]
   refine fc_step rfl (fun K hK => ?_)
   refine wp_build1b headTb _ (by rfl) av avz (by omega) (by rfl) ?_
   refine hK _ _ (keep_new _ _) ?_
   clear hK K
   obtain ⟨y5,hy⟩ : ∃ y5,y5 = y4.alloc (.cells av 30):=⟨_,rfl⟩
   have F12 : Hid (Blk y5 y4.heap.size 30 av.toList):=by rw [hy];exact Blk.new y4 _ av.toList
   have hk : Keep y4 y5:=by rw [hy];exact keep_new _ _
   rw [← hy]
   clear hy
   have F12s : y4.heap.size < y5.heap.size:=F12.out.lt
   have F12n:=Q.out.size
   replace Q:=Lib.hid (keep_trans Q.out hk)
   have hs_y5 : y4.heap.size ≤ y5.heap.size:=hk.size
   replace FA:=Lib.hid (FA.out.keep hk)
   replace FH:=Lib.hid (FH.out.keep hk)
   replace F4:=Lib.hid (F4.out.keep hk)
   clear hk
   generalize hp : y4.heap.size = g12 at *
   have F12a : y4.heap.size ≤ g12:=Nat.le_of_eq hp
   have F12b : g12 ≤ y4.heap.size:=Nat.le_of_eq hp.symm
   clear hp
   refine fc_step rfl (fun K hK => ?_)
   go_simp
   (with_reducible refine (C14.out _ g12 Q.out F12.out).mono ?_)
   rintro e y6 ⟨rfl,hk⟩
   refine hK _ _ hk ?_
   clear hK K
   have HQ14 : w5.heap.size ≤ y5.heap.size:=Q.out.size
   have Hprev:=Q
   replace Q:=Lib.hid (keep_trans Q.out hk)
   have hs_y6 : y5.heap.size ≤ y6.heap.size:=hk.size
   replace FA:=Lib.hid (FA.out.keep hk)
   replace FH:=Lib.hid (FH.out.keep hk)
   replace F4:=Lib.hid (F4.out.keep hk)
   replace F12:=Lib.hid (F12.out.keep hk)
   clear hk
   refine fc_nil (mt_take y6 (Below.refl _ _) ?_)
   simp only [pick_cons,pick_nil,nth_zero,nth_succ]
   have hA0 : Hid (y6.rangeAt ga 0 av.toList):=Lib.hid (range_of FA.out 0 av.toList (by simp [List.take_of_length_le]))
   have hH0 : Hid (y6.rangeAt gh 0 es.toList):=Lib.hid (range_of FH.out 0 es.toList (by simp [List.take_of_length_le]))
   repeat (first
    | ((with_reducible refine wpQuiet_load_partg ga 0 av (Eq.trans ?_ rfl) hA0.out _ Tryz.underlying30 rfl avi (Eq.trans ?_ rfl) ?_);rfl;rfl;simp only [Act.put,Array.set!_eq_setIfInBounds,List.setIfInBounds_toArray,List.set_cons_succ,List.set_cons_zero])
    | ((with_reducible refine wpQuiet_load_partg gh 0 es (Eq.trans ?_ rfl) hH0.out _ Tryz.underlying30 rfl hvi (Eq.trans ?_ rfl) ?_);rfl;rfl;simp only [Act.put,Array.set!_eq_setIfInBounds,List.setIfInBounds_toArray,List.set_cons_succ,List.set_cons_zero])
    | go_big_quiet_step (fail))
   clear hA0 hH0
   refine wpQuiet_nil (mt_force ?_)
   simp only [pick_cons,pick_nil,nth_zero,nth_succ]
   refine fc_step rfl (fun K hK => ?_)
   go_simp
   (with_reducible refine (RU.out _).mono ?_)
   rintro e y7 ⟨rfl,hk⟩
   refine hK _ _ hk ?_
   clear hK K
   have HQ18 : w5.heap.size ≤ y6.heap.size:=Q.out.size
   have Hprev:=Q
   replace Q:=Lib.hid (keep_trans Q.out hk)
   have hs_y7 : y6.heap.size ≤ y7.heap.size:=hk.size
   replace FA:=Lib.hid (FA.out.keep hk)
   replace FH:=Lib.hid (FH.out.keep hk)
   replace F4:=Lib.hid (F4.out.keep hk)
   replace F12:=Lib.hid (F12.out.keep hk)
   clear hk
   refine fc_step rfl (fun K hK => ?_)
   go_simp
   (with_reducible refine (C20.out _ Q.out).mono ?_)
   rintro e y8 ⟨rfl,hk⟩
   refine hK _ _ hk ?_
   clear hK K
   have HQ20 : w5.heap.size ≤ y7.heap.size:=Q.out.size
   have Hprev:=Q
   replace Q:=Lib.hid (keep_trans Q.out hk)
   have hs_y8 : y7.heap.size ≤ y8.heap.size:=hk.size
   replace FA:=Lib.hid (FA.out.keep hk)
   replace FH:=Lib.hid (FH.out.keep hk)
   replace F4:=Lib.hid (F4.out.keep hk)
   replace F12:=Lib.hid (F12.out.keep hk)
   clear hk
   refine fc_nil (mt_take y8 (Below.refl _ _) ?_)
   simp only [pick_cons,pick_nil,nth_zero,nth_succ]
   have hA0 : Hid (y8.rangeAt ga 0 av.toList):=Lib.hid (range_of FA.out 0 av.toList (by simp [List.take_of_length_le]))
   have hH0 : Hid (y8.rangeAt gh 0 es.toList):=Lib.hid (range_of FH.out 0 es.toList (by simp [List.take_of_length_le]))
   repeat (first
    | ((with_reducible refine wpQuiet_load_partg ga 0 av (Eq.trans ?_ rfl) hA0.out _ Tryz.underlying30 rfl avi (Eq.trans ?_ rfl) ?_);rfl;rfl;simp only [Act.put,Array.set!_eq_setIfInBounds,List.setIfInBounds_toArray,List.set_cons_succ,List.set_cons_zero])
    | ((with_reducible refine wpQuiet_load_partg gh 0 es (Eq.trans ?_ rfl) hH0.out _ Tryz.underlying30 rfl hvi (Eq.trans ?_ rfl) ?_);rfl;rfl;simp only [Act.put,Array.set!_eq_setIfInBounds,List.setIfInBounds_toArray,List.set_cons_succ,List.set_cons_zero])
    | go_big_quiet_step (fail))
   clear hA0 hH0
   refine wpQuiet_nil (mt_force ?_)
   simp only [pick_cons,pick_nil,nth_zero,nth_succ]
   refine fc_step rfl (fun K hK => ?_)
   go_simp
   (with_reducible refine (RU.out _).mono ?_)
   rintro e y9 ⟨rfl,hk⟩
   refine hK _ _ hk ?_
   clear hK K
   have HQ24 : w5.heap.size ≤ y8.heap.size:=Q.out.size
   have Hprev:=Q
   replace Q:=Lib.hid (keep_trans Q.out hk)
   have hs_y9 : y8.heap.size ≤ y9.heap.size:=hk.size
   replace FA:=Lib.hid (FA.out.keep hk)
   replace FH:=Lib.hid (FH.out.keep hk)
   replace F4:=Lib.hid (F4.out.keep hk)
   replace F12:=Lib.hid (F12.out.keep hk)
   clear hk
   refine fc_step rfl (fun K hK => ?_)
   go_simp
   (with_reducible refine (C26.out _ Q.out).mono ?_)
   rintro e y10 ⟨rfl,hk⟩
   refine hK _ _ hk ?_
   clear hK K
   have HQ26 : w5.heap.size ≤ y9.heap.size:=Q.out.size
   have Hprev:=Q
   replace Q:=Lib.hid (keep_trans Q.out hk)
   have hs_y10 : y9.heap.size ≤ y10.heap.size:=hk.size
   replace FA:=Lib.hid (FA.out.keep hk)
   replace FH:=Lib.hid (FH.out.keep hk)
   replace F4:=Lib.hid (F4.out.keep hk)
   replace F12:=Lib.hid (F12.out.keep hk)
   clear hk
   refine fc_nil (mt_take y10 (Below.refl _ _) ?_)
   simp only [pick_cons,pick_nil,nth_zero,nth_succ]
   have hA0 : Hid (y10.rangeAt ga 0 av.toList):=Lib.hid (range_of FA.out 0 av.toList (by simp [List.take_of_length_le]))
   have hH0 : Hid (y10.rangeAt gh 0 es.toList):=Lib.hid (range_of FH.out 0 es.toList (by simp [List.take_of_length_le]))
   repeat (first
    | ((with_reducible refine wpQuiet_load_partg ga 0 av (Eq.trans ?_ rfl) hA0.out _ Tryz.underlying30 rfl avi (Eq.trans ?_ rfl) ?_);rfl;rfl;simp only [Act.put,Array.set!_eq_setIfInBounds,List.setIfInBounds_toArray,List.set_cons_succ,List.set_cons_zero])
    | ((with_reducible refine wpQuiet_load_partg gh 0 es (Eq.trans ?_ rfl) hH0.out _ Tryz.underlying30 rfl hvi (Eq.trans ?_ rfl) ?_);rfl;rfl;simp only [Act.put,Array.set!_eq_setIfInBounds,List.setIfInBounds_toArray,List.set_cons_succ,List.set_cons_zero])
    | go_big_quiet_step (fail))
   clear hA0 hH0
   refine wpQuiet_nil (mt_end ?_)
   go_wp2
   exact bodyPost_ret (v:=.bool true) (by simp [results,Tryz.results4]) rfl ⟨rfl,keep_trans HK5.out Q.out⟩
  ·simp only [pick_cons,pick_nil,nth_zero,nth_succ]
   refine fc_step rfl (fun K hK => ?_)
   refine wp_build1b headTb _ (by rfl) av avz (by omega) (by rfl) ?_
   refine hK _ _ (keep_new _ _) ?_
   clear hK K
   obtain ⟨y11,hy⟩ : ∃ y11,y11 = y3.alloc (.cells av 30):=⟨_,rfl⟩
   have F12 : Hid (Blk y11 y3.heap.size 30 av.toList):=by rw [hy];exact Blk.new y3 _ av.toList
   have hk : Keep y3 y11:=by rw [hy];exact keep_new _ _
   rw [← hy]
   clear hy
   have F12s : y3.heap.size < y11.heap.size:=F12.out.lt
   have F12n:=Q.out.size
   replace Q:=Lib.hid (keep_trans Q.out hk)
   have hs_y11 : y3.heap.size ≤ y11.heap.size:=hk.size
   replace FA:=Lib.hid (FA.out.keep hk)
   replace FH:=Lib.hid (FH.out.keep hk)
   replace F4:=Lib.hid (F4.out.keep hk)
   clear hk
   generalize hp : y3.heap.size = g12 at *
   have F12a : y3.heap.size ≤ g12:=Nat.le_of_eq hp
   have F12b : g12 ≤ y3.heap.size:=Nat.le_of_eq hp.symm
   clear hp
   refine fc_nil (mt_force ?_)
   simp only [pick_cons,pick_nil,nth_zero,nth_succ]
   refine fc_step rfl (fun K hK => ?_)
   go_simp
   (with_reducible refine (RU.out _).mono ?_)
   rintro e y12 ⟨rfl,hk⟩
   refine hK _ _ hk ?_
   clear hK K
   have HQ10 : w5.heap.size ≤ y11.heap.size:=Q.out.size
   have Hprev:=Q
   replace Q:=Lib.hid (keep_trans Q.out hk)
   have hs_y12 : y11.heap.size ≤ y12.heap.size:=hk.size
   replace FA:=Lib.hid (FA.out.keep hk)
   replace FH:=Lib.hid (FH.out.keep hk)
   replace F4:=Lib.hid (F4.out.keep hk)
   replace F12:=Lib.hid (F12.out.keep hk)
   clear hk
   refine fc_step rfl (fun K hK => ?_)
   go_simp
   (with_reducible refine (C14.out _ g12 Q.out F12.out).mono ?_)
   rintro e y13 ⟨rfl,hk⟩
   refine hK _ _ hk ?_
   clear hK K
   have HQ14 : w5.heap.size ≤ y12.heap.size:=Q.out.size
   have Hprev:=Q
   replace Q:=Lib.hid (keep_trans Q.out hk)
   have hs_y13 : y12.heap.size ≤ y13.heap.size:=hk.size
   replace FA:=Lib.hid (FA.out.keep hk)
   replace FH:=Lib.hid (FH.out.keep hk)
   replace F4:=Lib.hid (F4.out.keep hk)
   replace F12:=Lib.hid (F12.out.keep hk)
   clear hk
   refine fc_nil (mt_take y13 (Below.refl _ _) ?_)
   simp only [pick_cons,pick_nil,nth_zero,nth_succ]
   have hA0 : Hid (y13.rangeAt ga 0 av.toList):=Lib.hid (range_of FA.out 0 av.toList (by simp [List.take_of_length_le]))
   have hH0 : Hid (y13.rangeAt gh 0 es.toList):=Lib.hid (range_of FH.out 0 es.toList (by simp [List.take_of_length_le]))
   repeat (first
    | ((with_reducible refine wpQuiet_load_partg ga 0 av (Eq.trans ?_ rfl) hA0.out _ Tryz.underlying30 rfl avi (Eq.trans ?_ rfl) ?_);rfl;rfl;simp only [Act.put,Array.set!_eq_setIfInBounds,List.setIfInBounds_toArray,List.set_cons_succ,List.set_cons_zero])
    | ((with_reducible refine wpQuiet_load_partg gh 0 es (Eq.trans ?_ rfl) hH0.out _ Tryz.underlying30 rfl hvi (Eq.trans ?_ rfl) ?_);rfl;rfl;simp only [Act.put,Array.set!_eq_setIfInBounds,List.setIfInBounds_toArray,List.set_cons_succ,List.set_cons_zero])
    | go_big_quiet_step (fail))
   clear hA0 hH0
   refine wpQuiet_nil (mt_force ?_)
   simp only [pick_cons,pick_nil,nth_zero,nth_succ]
   refine fc_step rfl (fun K hK => ?_)
   go_simp
   (with_reducible refine (RU.out _).mono ?_)
   rintro e y14 ⟨rfl,hk⟩
   refine hK _ _ hk ?_
   clear hK K
   have HQ18 : w5.heap.size ≤ y13.heap.size:=Q.out.size
   have Hprev:=Q
   replace Q:=Lib.hid (keep_trans Q.out hk)
   have hs_y14 : y13.heap.size ≤ y14.heap.size:=hk.size
   replace FA:=Lib.hid (FA.out.keep hk)
   replace FH:=Lib.hid (FH.out.keep hk)
   replace F4:=Lib.hid (F4.out.keep hk)
   replace F12:=Lib.hid (F12.out.keep hk)
   clear hk
   refine fc_step rfl (fun K hK => ?_)
   go_simp
   (with_reducible refine (C20.out _ Q.out).mono ?_)
   rintro e y15 ⟨rfl,hk⟩
   refine hK _ _ hk ?_
   clear hK K
   have HQ20 : w5.heap.size ≤ y14.heap.size:=Q.out.size
   have Hprev:=Q
   replace Q:=Lib.hid (keep_trans Q.out hk)
   have hs_y15 : y14.heap.size ≤ y15.heap.size:=hk.size
   replace FA:=Lib.hid (FA.out.keep hk)
   replace FH:=Lib.hid (FH.out.keep hk)
   replace F4:=Lib.hid (F4.out.keep hk)
   replace F12:=Lib.hid (F12.out.keep hk)
   clear hk
   refine fc_nil (mt_take y15 (Below.refl _ _) ?_)
   simp only [pick_cons,pick_nil,nth_zero,nth_succ]
   have hA0 : Hid (y15.rangeAt ga 0 av.toList):=Lib.hid (range_of FA.out 0 av.toList (by simp [List.take_of_length_le]))
   have hH0 : Hid (y15.rangeAt gh 0 es.toList):=Lib.hid (range_of FH.out 0 es.toList (by simp [List.take_of_length_le]))
   repeat (first
    | ((with_reducible refine wpQuiet_load_partg ga 0 av (Eq.trans ?_ rfl) hA0.out _ Tryz.underlying30 rfl avi (Eq.trans ?_ rfl) ?_);rfl;rfl;simp only [Act.put,Array.set!_eq_setIfInBounds,List.setIfInBounds_toArray,List.set_cons_succ,List.set_cons_zero])
    | ((with_reducible refine wpQuiet_load_partg gh 0 es (Eq.trans ?_ rfl) hH0.out _ Tryz.underlying30 rfl hvi (Eq.trans ?_ rfl) ?_);rfl;rfl;simp only [Act.put,Array.set!_eq_setIfInBounds,List.setIfInBounds_toArray,List.set_cons_succ,List.set_cons_zero])
    | go_big_quiet_step (fail))
   clear hA0 hH0
   refine wpQuiet_nil (mt_force ?_)
   simp only [pick_cons,pick_nil,nth_zero,nth_succ]
   refine fc_step rfl (fun K hK => ?_)
   go_simp
   (with_reducible refine (RU.out _).mono ?_)
   rintro e y16 ⟨rfl,hk⟩
   refine hK _ _ hk ?_
   clear hK K
   have HQ24 : w5.heap.size ≤ y15.heap.size:=Q.out.size
   have Hprev:=Q
   replace Q:=Lib.hid (keep_trans Q.out hk)
   have hs_y16 : y15.heap.size ≤ y16.heap.size:=hk.size
   replace FA:=Lib.hid (FA.out.keep hk)
   replace FH:=Lib.hid (FH.out.keep hk)
   replace F4:=Lib.hid (F4.out.keep hk)
   replace F12:=Lib.hid (F12.out.keep hk)
   clear hk
   refine fc_step rfl (fun K hK => ?_)
   go_simp
   (with_reducible refine (C26.out _ Q.out).mono ?_)
   rintro e y17 ⟨rfl,hk⟩
   refine hK _ _ hk ?_
   clear hK K
   have HQ26 : w5.heap.size ≤ y16.heap.size:=Q.out.size
   have Hprev:=Q
   replace Q:=Lib.hid (keep_trans Q.out hk)
   have hs_y17 : y16.heap.size ≤ y17.heap.size:=hk.size
   replace FA:=Lib.hid (FA.out.keep hk)
   replace FH:=Lib.hid (FH.out.keep hk)
   replace F4:=Lib.hid (F4.out.keep hk)
   replace F12:=Lib.hid (F12.out.keep hk)
   clear hk
   refine fc_nil (mt_take y17 (Below.refl _ _) ?_)
   simp only [pick_cons,pick_nil,nth_zero,nth_succ]
   have hA0 : Hid (y17.rangeAt ga 0 av.toList):=Lib.hid (range_of FA.out 0 av.toList (by simp [List.take_of_length_le]))
   have hH0 : Hid (y17.rangeAt gh 0 es.toList):=Lib.hid (range_of FH.out 0 es.toList (by simp [List.take_of_length_le]))
   repeat (first
    | ((with_reducible refine wpQuiet_load_partg ga 0 av (Eq.trans ?_ rfl) hA0.out _ Tryz.underlying30 rfl avi (Eq.trans ?_ rfl) ?_);rfl;rfl;simp only [Act.put,Array.set!_eq_setIfInBounds,List.setIfInBounds_toArray,List.set_cons_succ,List.set_cons_zero])
    | ((with_reducible refine wpQuiet_load_partg gh 0 es (Eq.trans ?_ rfl) hH0.out _ Tryz.underlying30 rfl hvi (Eq.trans ?_ rfl) ?_);rfl;rfl;simp only [Act.put,Array.set!_eq_setIfInBounds,List.setIfInBounds_toArray,List.set_cons_succ,List.set_cons_zero])
    | go_big_quiet_step (fail))
   clear hA0 hH0
   refine wpQuiet_nil (mt_end ?_)
   go_wp2
   exact bodyPost_ret (v:=.bool true) (by simp [results,Tryz.results4]) rfl ⟨rfl,keep_trans HK5.out Q.out⟩
 ·simp only [pick_cons,pick_nil,nth_zero,nth_succ]
  refine fc_step rfl (fun K hK => ?_)
  refine wp_build1b headTb _ (by rfl) av avz (by omega) (by rfl) ?_
  refine hK _ _ (keep_new _ _) ?_
  clear hK K
  obtain ⟨y18,hy⟩ : ∃ y18,y18 = y0.alloc (.cells av 30):=⟨_,rfl⟩
  have F4 : Hid (Blk y18 y0.heap.size 30 av.toList):=by rw [hy];exact Blk.new y0 _ av.toList
  have hk : Keep y0 y18:=by rw [hy];exact keep_new _ _
  rw [← hy]
  clear hy
  have F4s : y0.heap.size < y18.heap.size:=F4.out.lt
  have F4n:=Q.out.size
  replace Q:=Lib.hid (keep_trans Q.out hk)
  have hs_y18 : y0.heap.size ≤ y18.heap.size:=hk.size
  replace FA:=Lib.hid (FA.out.keep hk)
  replace FH:=Lib.hid (FH.out.keep hk)
  clear hk
  generalize hp : y0.heap.size = g4 at *
  have F4a : y0.heap.size ≤ g4:=Nat.le_of_eq hp
  have F4b : g4 ≤ y0.heap.size:=Nat.le_of_eq hp.symm
  clear hp
  refine fc_nil (mt_force ?_)
  simp only [pick_cons,pick_nil,nth_zero,nth_succ]
  refine fc_step rfl (fun K hK => ?_)
  go_simp
  (with_reducible refine (RU.out _).mono ?_)
  rintro e y19 ⟨rfl,hk⟩
  refine hK _ _ hk ?_
  clear hK K
  have HQ2 : w5.heap.size ≤ y18.heap.size:=Q.out.size
  have Hprev:=Q
  replace Q:=Lib.hid (keep_trans Q.out hk)
  have hs_y19 : y18.heap.size ≤ y19.heap.size:=hk.size
  replace FA:=Lib.hid (FA.out.keep hk)
  replace FH:=Lib.hid (FH.out.keep hk)
  replace F4:=Lib.hid (F4.out.keep hk)
  clear hk
  refine fc_step rfl (fun K hK => ?_)
  go_simp
  (with_reducible refine (C6.out _ g4 Q.out F4.out).mono ?_)
  rintro e y20 ⟨rfl,hk⟩
  refine hK _ _ hk ?_
  clear hK K
  have HQ6 : w5.heap.size ≤ y19.heap.size:=Q.out.size
  have Hprev:=Q
  replace Q:=Lib.hid (keep_trans Q.out hk)
  have hs_y20 : y19.heap.size ≤ y20.heap.size:=hk.size
  replace FA:=Lib.hid (FA.out.keep hk)
  replace FH:=Lib.hid (FH.out.keep hk)
  replace F4:=Lib.hid (F4.out.keep hk)
  clear hk
  refine fc_nil (mt_take y20 (Below.refl _ _) ?_)
  simp only [pick_cons,pick_nil,nth_zero,nth_succ]
  have hA0 : Hid (y20.rangeAt ga 0 av.toList):=Lib.hid (range_of FA.out 0 av.toList (by simp [List.take_of_length_le]))
  have hH0 : Hid (y20.rangeAt gh 0 es.toList):=Lib.hid (range_of FH.out 0 es.toList (by simp [List.take_of_length_le]))
  repeat (first
   | ((with_reducible refine wpQuiet_load_partg ga 0 av (Eq.trans ?_ rfl) hA0.out _ Tryz.underlying30 rfl avi (Eq.trans ?_ rfl) ?_);rfl;rfl;simp only [Act.put,Array.set!_eq_setIfInBounds,List.setIfInBounds_toArray,List.set_cons_succ,List.set_cons_zero])
   | ((with_reducible refine wpQuiet_load_partg gh 0 es (Eq.trans ?_ rfl) hH0.out _ Tryz.underlying30 rfl hvi (Eq.trans ?_ rfl) ?_);rfl;rfl;simp only [Act.put,Array.set!_eq_setIfInBounds,List.setIfInBounds_toArray,List.set_cons_succ,List.set_cons_zero])
   | go_big_quiet_step (fail))
  clear hA0 hH0
  refine wpQuiet_nil (mt_fork ?_ ?_)
  ·simp only [pick_cons,pick_nil,nth_zero,nth_succ]
   refine fc_step rfl (fun K hK => ?_)
   go_simp
   (with_reducible refine (RU.out _).mono ?_)
   rintro e y21 ⟨rfl,hk⟩
   refine hK _ _ hk ?_
   clear hK K
   have HQ10 : w5.heap.size ≤ y20.heap.size:=Q.out.size
   have Hprev:=Q
   replace Q:=Lib.hid (keep_trans Q.out hk)
   have hs_y21 : y20.heap.size ≤ y21.heap.size:=hk.size
   replace FA:=Lib.hid (FA.out.keep hk)
   replace FH:=Lib.hid (FH.out.keep hk)
   replace F4:=Lib.hid (F4.out.keep hk)
   clear hk
   refine fc_nil (mt_force ?_)
   simp only [pick_cons,pick_nil,nth_zero,nth_succ]
   refine fc_step rfl (fun K hK => ?_)
   refine wp_build1b headTb _ (by rfl) av avz (by omega) (by rfl) ?_
   refine hK _ _ (keep_new _ _) ?_
   clear hK K
   obtain ⟨y22,hy⟩ : ∃ y22,y22 = y21.alloc (.cells av 30):=⟨_,rfl⟩
   have F12 : Hid (Blk y22 y21.heap.size 30 av.toList):=by rw [hy];exact Blk.new y21 _ av.toList
   have hk : Keep y21 y22:=by rw [hy];exact keep_new _ _
   rw [← hy]
   clear hy
   have F12s : y21.heap.size < y22.heap.size:=F12.out.lt
   have F12n:=Q.out.size
   replace Q:=Lib.hid (keep_trans Q.out hk)
   have hs_y22 : y21.heap.size ≤ y22.heap.size:=hk.size
   replace FA:=Lib.hid (FA.out.keep hk)
   replace FH:=Lib.hid (FH.out.keep hk)
   replace F4:=Lib.hid (F4.out.keep hk)
   clear hk
   generalize hp : y21.heap.size = g12 at *
   have F12a : y21.heap.size ≤ g12:=Nat.le_of_eq hp
   have F12b : g12 ≤ y21.heap.size:=Nat.le_of_eq hp.symm
   clear hp
   refine fc_step rfl (fun K hK => ?_)
   go_simp
   (with_reducible refine (C14.out _ g12 Q.out F12.out).mono ?_)
   rintro e y23 ⟨rfl,hk⟩
   refine hK _ _ hk ?_
   clear hK K
   have HQ14 : w5.heap.size ≤ y22.heap.size:=Q.out.size
   have Hprev:=Q
   replace Q:=Lib.hid (keep_trans Q.out hk)
   have hs_y23 : y22.heap.size ≤ y23.heap.size:=hk.size
   replace FA:=Lib.hid (FA.out.keep hk)
   replace FH:=Lib.hid (FH.out.keep hk)
   replace F4:=Lib.hid (F4.out.keep hk)
   replace F12:=Lib.hid (F12.out.keep hk)
   clear hk
   refine fc_nil (mt_take y23 (Below.refl _ _) ?_)
   simp only [pick_cons,pick_nil,nth_zero,nth_succ]
   have hA0 : Hid (y23.rangeAt ga 0 av.toList):=Lib.hid (range_of FA.out 0 av.toList (by simp [List.take_of_length_le]))
   have hH0 : Hid (y23.rangeAt gh 0 es.toList):=Lib.hid (range_of FH.out 0 es.toList (by simp [List.take_of_length_le]))
   repeat (first
    | ((with_reducible refine wpQuiet_load_partg ga 0 av (Eq.trans ?_ rfl) hA0.out _ Tryz.underlying30 rfl avi (Eq.trans ?_ rfl) ?_);rfl;rfl;simp only [Act.put,Array.set!_eq_setIfInBounds,List.setIfInBounds_toArray,List.set_cons_succ,List.set_cons_zero])
    | ((with_reducible refine wpQuiet_load_partg gh 0 es (Eq.trans ?_ rfl) hH0.out _ Tryz.underlying30 rfl hvi (Eq.trans ?_ rfl) ?_);rfl;rfl;simp only [Act.put,Array.set!_eq_setIfInBounds,List.setIfInBounds_toArray,List.set_cons_succ,List.set_cons_zero])
    | go_big_quiet_step (fail))
   clear hA0 hH0
   refine wpQuiet_nil (mt_force ?_)
   simp only [pick_cons,pick_nil,nth_zero,nth_succ]
   refine fc_step rfl (fun K hK => ?_)
   go_simp
   (with_reducible refine (RU.out _).mono ?_)
   rintro e y24 ⟨rfl,hk⟩
   refine hK _ _ hk ?_
   clear hK K
   have HQ18 : w5.heap.size ≤ y23.heap.size:=Q.out.size
   have Hprev:=Q
   replace Q:=Lib.hid (keep_trans Q.out hk)
   have hs_y24 : y23.heap.size ≤ y24.heap.size:=hk.size
   replace FA:=Lib.hid (FA.out.keep hk)
   replace FH:=Lib.hid (FH.out.keep hk)
   replace F4:=Lib.hid (F4.out.keep hk)
   replace F12:=Lib.hid (F12.out.keep hk)
   clear hk
   refine fc_step rfl (fun K hK => ?_)
   go_simp
   (with_reducible refine (C20.out _ Q.out).mono ?_)
   rintro e y25 ⟨rfl,hk⟩
   refine hK _ _ hk ?_
   clear hK K
   have HQ20 : w5.heap.size ≤ y24.heap.size:=Q.out.size
   have Hprev:=Q
   replace Q:=Lib.hid (keep_trans Q.out hk)
   have hs_y25 : y24.heap.size ≤ y25.heap.size:=hk.size
   replace FA:=Lib.hid (FA.out.keep hk)
   replace FH:=Lib.hid (FH.out.keep hk)
   replace F4:=Lib.hid (F4.out.keep hk)
   replace F12:=Lib.hid (F12.out.keep hk)
   clear hk
   refine fc_nil (mt_take y25 (Below.refl _ _) ?_)
   simp only [pick_cons,pick_nil,nth_zero,nth_succ]
   have hA0 : Hid (y25.rangeAt ga 0 av.toList):=Lib.hid (range_of FA.out 0 av.toList (by simp [List.take_of_length_le]))
   have hH0 : Hid (y25.rangeAt gh 0 es.toList):=Lib.hid (range_of FH.out 0 es.toList (by simp [List.take_of_length_le]))
   repeat (first
    | ((with_reducible refine wpQuiet_load_partg ga 0 av (Eq.trans ?_ rfl) hA0.out _ Tryz.underlying30 rfl avi (Eq.trans ?_ rfl) ?_);rfl;rfl;simp only [Act.put,Array.set!_eq_setIfInBounds,List.setIfInBounds_toArray,List.set_cons_succ,List.set_cons_zero])
    | ((with_reducible refine wpQuiet_load_partg gh 0 es (Eq.trans ?_ rfl) hH0.out _ Tryz.underlying30 rfl hvi (Eq.trans ?_ rfl) ?_);rfl;rfl;simp only [Act.put,Array.set!_eq_setIfInBounds,List.setIfInBounds_toArray,List.set_cons_succ,List.set_cons_zero])
    | go_big_quiet_step (fail))
   clear hA0 hH0
   refine wpQuiet_nil (mt_force ?_)
   simp only [pick_cons,pick_nil,nth_zero,nth_succ]
   refine fc_step rfl (fun K hK => ?_)
   go_simp
   (with_reducible refine (RU.out _).mono ?_)
   rintro e y26 ⟨rfl,hk⟩
   refine hK _ _ hk ?_
   clear hK K
   have HQ24 : w5.heap.size ≤ y25.heap.size:=Q.out.size
   have Hprev:=Q
   replace Q:=Lib.hid (keep_trans Q.out hk)
   have hs_y26 : y25.heap.size ≤ y26.heap.size:=hk.size
   replace FA:=Lib.hid (FA.out.keep hk)
   replace FH:=Lib.hid (FH.out.keep hk)
   replace F4:=Lib.hid (F4.out.keep hk)
   replace F12:=Lib.hid (F12.out.keep hk)
   clear hk
   refine fc_step rfl (fun K hK => ?_)
   go_simp
   (with_reducible refine (C26.out _ Q.out).mono ?_)
   rintro e y27 ⟨rfl,hk⟩
   refine hK _ _ hk ?_
   clear hK K
   have HQ26 : w5.heap.size ≤ y26.heap.size:=Q.out.size
   have Hprev:=Q
   replace Q:=Lib.hid (keep_trans Q.out hk)
   have hs_y27 : y26.heap.size ≤ y27.heap.size:=hk.size
   replace FA:=Lib.hid (FA.out.keep hk)
   replace FH:=Lib.hid (FH.out.keep hk)
   replace F4:=Lib.hid (F4.out.keep hk)
   replace F12:=Lib.hid (F12.out.keep hk)
   clear hk
   refine fc_nil (mt_take y27 (Below.refl _ _) ?_)
   simp only [pick_cons,pick_nil,nth_zero,nth_succ]
   have hA0 : Hid (y27.rangeAt ga 0 av.toList):=Lib.hid (range_of FA.out 0 av.toList (by simp [List.take_of_length_le]))
   have hH0 : Hid (y27.rangeAt gh 0 es.toList):=Lib.hid (range_of FH.out 0 es.toList (by simp [List.take_of_length_le]))
   repeat (first
    | ((with_reducible refine wpQuiet_load_partg ga 0 av (Eq.trans ?_ rfl) hA0.out _ Tryz.underlying30 rfl avi (Eq.trans ?_ rfl) ?_);rfl;rfl;simp only [Act.put,Array.set!_eq_setIfInBounds,List.setIfInBounds_toArray,List.set_cons_succ,List.set_cons_zero])
    | ((with_reducible refine wpQuiet_load_partg gh 0 es (Eq.trans ?_ rfl) hH0.out _ Tryz.underlying30 rfl hvi (Eq.trans ?_ rfl) ?_);rfl;rfl;simp only [Act.put,Array.set!_eq_setIfInBounds,List.setIfInBounds_toArray,List.set_cons_succ,List.set_cons_zero])
    | go_big_quiet_step (fail))
   clear hA0 hH0
   refine wpQuiet_nil (mt_end ?_)
   go_wp2
   exact bodyPost_ret (v:=.bool true) (by simp [results,Tryz.results4]) rfl ⟨rfl,keep_trans HK5.out Q.out⟩
  ·simp only [pick_cons,pick_nil,nth_zero,nth_succ]
   refine fc_step rfl (fun K hK => ?_)
   refine wp_build1b headTb _ (by rfl) av avz (by omega) (by rfl) ?_
   refine hK _ _ (keep_new _ _) ?_
   clear hK K
   obtain ⟨y28,hy⟩ : ∃ y28,y28 = y20.alloc (.cells av 30):=⟨_,rfl⟩
   have F12 : Hid (Blk y28 y20.heap.size 30 av.toList):=by rw [hy];exact Blk.new y20 _ av.toList
   have hk : Keep y20 y28:=by rw [hy];exact keep_new _ _
   rw [← hy]
   clear hy
   have F12s : y20.heap.size < y28.heap.size:=F12.out.lt
   have F12n:=Q.out.size
   replace Q:=Lib.hid (keep_trans Q.out hk)
   have hs_y28 : y20.heap.size ≤ y28.heap.size:=hk.size
   replace FA:=Lib.hid (FA.out.keep hk)
   replace FH:=Lib.hid (FH.out.keep hk)
   replace F4:=Lib.hid (F4.out.keep hk)
   clear hk
   generalize hp : y20.heap.size = g12 at *
   have F12a : y20.heap.size ≤ g12:=Nat.le_of_eq hp
   have F12b : g12 ≤ y20.heap.size:=Nat.le_of_eq hp.symm
   clear hp
   refine fc_nil (mt_force ?_)
   simp only [pick_cons,pick_nil,nth_zero,nth_succ]
   refine fc_step rfl (fun K hK => ?_)
   go_simp
   (with_reducible refine (RU.out _).mono ?_)
   rintro e y29 ⟨rfl,hk⟩
   refine hK _ _ hk ?_
   clear hK K
   have HQ10 : w5.heap.size ≤ y28.heap.size:=Q.out.size
   have Hprev:=Q
   replace Q:=Lib.hid (keep_trans Q.out hk)
   have hs_y29 : y28.heap.size ≤ y29.heap.size:=hk.size
   replace FA:=Lib.hid (FA.out.keep hk)
   replace FH:=Lib.hid (FH.out.keep hk)
   replace F4:=Lib.hid (F4.out.keep hk)
   replace F12:=Lib.hid (F12.out.keep hk)
   clear hk
   refine fc_step rfl (fun K hK => ?_)
   go_simp
   (with_reducible refine (C14.out _ g12 Q.out F12.out).mono ?_)
   rintro e y30 ⟨rfl,hk⟩
   refine hK _ _ hk ?_
   clear hK K
   have HQ14 : w5.heap.size ≤ y29.heap.size:=Q.out.size
   have Hprev:=Q
   replace Q:=Lib.hid (keep_trans Q.out hk)
   have hs_y30 : y29.heap.size ≤ y30.heap.size:=hk.size
   replace FA:=Lib.hid (FA.out.keep hk)
   replace FH:=Lib.hid (FH.out.keep hk)
   replace F4:=Lib.hid (F4.out.keep hk)
   replace F12:=Lib.hid (F12.out.keep hk)
   clear hk
   refine fc_nil (mt_take y30 (Below.refl _ _) ?_)
   simp only [pick_cons,pick_nil,nth_zero,nth_succ]
   have hA0 : Hid (y30.rangeAt ga 0 av.toList):=Lib.hid (range_of FA.out 0 av.toList (by simp [List.take_of_length_le]))
   have hH0 : Hid (y30.rangeAt gh 0 es.toList):=Lib.hid (range_of FH.out 0 es.toList (by simp [List.take_of_length_le]))
   repeat (first
    | ((with_reducible refine wpQuiet_load_partg ga 0 av (Eq.trans ?_ rfl) hA0.out _ Tryz.underlying30 rfl avi (Eq.trans ?_ rfl) ?_);rfl;rfl;simp only [Act.put,Array.set!_eq_setIfInBounds,List.setIfInBounds_toArray,List.set_cons_succ,List.set_cons_zero])
    | ((with_reducible refine wpQuiet_load_partg gh 0 es (Eq.trans ?_ rfl) hH0.out _ Tryz.underlying30 rfl hvi (Eq.trans ?_ rfl) ?_);rfl;rfl;simp only [Act.put,Array.set!_eq_setIfInBounds,List.setIfInBounds_toArray,List.set_cons_succ,List.set_cons_zero])
    | go_big_quiet_step (fail))
   clear hA0 hH0
   refine wpQuiet_nil (mt_force ?_)
   simp only [pick_cons,pick_nil,nth_zero,nth_succ]
   refine fc_step rfl (fun K hK => ?_)
   go_simp
   (with_reducible refine (RU.out _).mono ?_)
   rintro e y31 ⟨rfl,hk⟩
   refine hK _ _ hk ?_
   clear hK K
   have HQ18 : w5.heap.size ≤ y30.heap.size:=Q.out.size
   have Hprev:=Q
   replace Q:=Lib.hid (keep_trans Q.out hk)
   have hs_y31 : y30.heap.size ≤ y31.heap.size:=hk.size
   replace FA:=Lib.hid (FA.out.keep hk)
   replace FH:=Lib.hid (FH.out.keep hk)
   replace F4:=Lib.hid (F4.out.keep hk)
   replace F12:=Lib.hid (F12.out.keep hk)
   clear hk
   refine fc_step rfl (fun K hK => ?_)
   go_simp
   (with_reducible refine (C20.out _ Q.out).mono ?_)
   rintro e y32 ⟨rfl,hk⟩
   refine hK _ _ hk ?_
   clear hK K
   have HQ20 : w5.heap.size ≤ y31.heap.size:=Q.out.size
   have Hprev:=Q
   replace Q:=Lib.hid (keep_trans Q.out hk)
   have hs_y32 : y31.heap.size ≤ y32.heap.size:=hk.size
   replace FA:=Lib.hid (FA.out.keep hk)
   replace FH:=Lib.hid (FH.out.keep hk)
   replace F4:=Lib.hid (F4.out.keep hk)
   replace F12:=Lib.hid (F12.out.keep hk)
   clear hk
   refine fc_nil (mt_take y32 (Below.refl _ _) ?_)
   simp only [pick_cons,pick_nil,nth_zero,nth_succ]
   have hA0 : Hid (y32.rangeAt ga 0 av.toList):=Lib.hid (range_of FA.out 0 av.toList (by simp [List.take_of_length_le]))
   have hH0 : Hid (y32.rangeAt gh 0 es.toList):=Lib.hid (range_of FH.out 0 es.toList (by simp [List.take_of_length_le]))
   repeat (first
    | ((with_reducible refine wpQuiet_load_partg ga 0 av (Eq.trans ?_ rfl) hA0.out _ Tryz.underlying30 rfl avi (Eq.trans ?_ rfl) ?_);rfl;rfl;simp only [Act.put,Array.set!_eq_setIfInBounds,List.setIfInBounds_toArray,List.set_cons_succ,List.set_cons_zero])
    | ((with_reducible refine wpQuiet_load_partg gh 0 es (Eq.trans ?_ rfl) hH0.out _ Tryz.underlying30 rfl hvi (Eq.trans ?_ rfl) ?_);rfl;rfl;simp only [Act.put,Array.set!_eq_setIfInBounds,List.setIfInBounds_toArray,List.set_cons_succ,List.set_cons_zero])
    | go_big_quiet_step (fail))
   clear hA0 hH0
   refine wpQuiet_nil (mt_force ?_)
   simp only [pick_cons,pick_nil,nth_zero,nth_succ]
   refine fc_step rfl (fun K hK => ?_)
   go_simp
   (with_reducible refine (RU.out _).mono ?_)
   rintro e y33 ⟨rfl,hk⟩
   refine hK _ _ hk ?_
   clear hK K
   have HQ24 : w5.heap.size ≤ y32.heap.size:=Q.out.size
   have Hprev:=Q
   replace Q:=Lib.hid (keep_trans Q.out hk)
   have hs_y33 : y32.heap.size ≤ y33.heap.size:=hk.size
   replace FA:=Lib.hid (FA.out.keep hk)
   replace FH:=Lib.hid (FH.out.keep hk)
   replace F4:=Lib.hid (F4.out.keep hk)
   replace F12:=Lib.hid (F12.out.keep hk)
   clear hk
   refine fc_step rfl (fun K hK => ?_)
   go_simp
   (with_reducible refine (C26.out _ Q.out).mono ?_)
   rintro e y34 ⟨rfl,hk⟩
   refine hK _ _ hk ?_
   clear hK K
   have HQ26 : w5.heap.size ≤ y33.heap.size:=Q.out.size
   have Hprev:=Q
   replace Q:=Lib.hid (keep_trans Q.out hk)
   have hs_y34 : y33.heap.size ≤ y34.heap.size:=hk.size
   replace FA:=Lib.hid (FA.out.keep hk)
   replace FH:=Lib.hid (FH.out.keep hk)
   replace F4:=Lib.hid (F4.out.keep hk)
   replace F12:=Lib.hid (F12.out.keep hk)
   clear hk
   refine fc_nil (mt_take y34 (Below.refl _ _) ?_)
   simp only [pick_cons,pick_nil,nth_zero,nth_succ]
   have hA0 : Hid (y34.rangeAt ga 0 av.toList):=Lib.hid (range_of FA.out 0 av.toList (by simp [List.take_of_length_le]))
   have hH0 : Hid (y34.rangeAt gh 0 es.toList):=Lib.hid (range_of FH.out 0 es.toList (by simp [List.take_of_length_le]))
   repeat (first
    | ((with_reducible refine wpQuiet_load_partg ga 0 av (Eq.trans ?_ rfl) hA0.out _ Tryz.underlying30 rfl avi (Eq.trans ?_ rfl) ?_);rfl;rfl;simp only [Act.put,Array.set!_eq_setIfInBounds,List.setIfInBounds_toArray,List.set_cons_succ,List.set_cons_zero])
    | ((with_reducible refine wpQuiet_load_partg gh 0 es (Eq.trans ?_ rfl) hH0.out _ Tryz.underlying30 rfl hvi (Eq.trans ?_ rfl) ?_);rfl;rfl;simp only [Act.put,Array.set!_eq_setIfInBounds,List.setIfInBounds_toArray,List.set_cons_succ,List.set_cons_zero])
    | go_big_quiet_step (fail))
   clear hA0 hH0
   refine wpQuiet_nil (mt_end ?_)
   go_wp2
   exact bodyPost_ret (v:=.bool true) (by simp [results,Tryz.results4]) rfl ⟨rfl,keep_trans HK5.out Q.out⟩
end Go.Proofs.YtmbbknjddebhoaaGreatDoor
/- RulesAre: the walk. (printed by gen_nrg.py) -/
set_option linter.unusedSimpArgs false
set_option linter.unusedVariables false
namespace Go.Proofs.YtmbbknjddebhoaaGreatDoor
open Go.RowKit
attribute [local go_sem ↓] Go.wp_at_zero Go.wp_at_succ
set_option maxRecDepth 100000 in
set_option maxHeartbeats 8000000 in
theorem are_walk (p : Par) (A : Option Addr) (c : Nat) (B : Option Addr) (l : List Hd) (d : Nat) (h : Hd) (cs : Array Value) (now height : Int) (w : World) (hS : ShaOk w) (hC : Rd w A (p.chks.flatMap chkC)∧∀ x ∈ p.chks,x.2.length = 32)
  (hd : l.length ≤ d) (hdm : d ≤ maxLen) (hr : Rd w B (l.flatMap Hd.cells)) (hk : ∀ h ∈ l,h.ok) (ho : h.ok) (hcs : HdA h cs) :
  Calls Tryz.prog 3 #[parV p A c,.slice B l.length d,.agg cs,iv now,iv height] w fun e w' => e = .returned (.bool true)∧Keep w w':=by
 have AW : Hid (∀ y,Keep w y → Calls Tryz.prog 4 #[] y fun e w' => e = .returned (.bool true)∧Keep y w'):=Lib.hid fun y hy => awake_any y (hS.keep hy)
 have VA : Hid (∀ y,Keep w y → l.length ≤ 20 → p.chks.length ≤ 120 → Calls Tryz.prog 5 #[parV p A c,.slice B l.length d,iv now] y fun e w' => e = .returned (.tuple #[iv (validN p l now),iv (validE p l now)])∧Keep y w'):=Lib.hid fun y hy h1 h2 => valid_any p A c B l d now y (hS.keep hy) ⟨hC.1.keep hy,hC.2,by omega⟩ (by omega) hd hdm (hr.keep hy) hk
 have RV : Hid (∀ y,Keep w y → l.length ≤ 20 → p.chks.length ≤ 120 → Calls Tryz.prog 6 #[parV p A c,.slice B l.length d,iv now] y fun e w' => e = .returned (.tuple #[iv (validN p l now),iv (validE p l now)])∧Keep y w'):=Lib.hid fun y hy h1 h2 => rvalid_any p A c B l d now y ⟨hC.1.keep hy,hC.2,by omega⟩ (by omega) hd hdm (hr.keep hy) hk
 have PT : Hid (∀ y,Keep w y → l.length ≤ 20 → p.chks.length ≤ 120 → Calls Tryz.prog 7 #[parV p A c,iv height] y fun e w' => ∃ xs,e = .returned (.tuple #[.agg xs,.bool (pointR p height).isSome])∧HashA (pointH p height) xs∧Keep y w'):=Lib.hid fun y hy h1 h2 => point_any p A c height y ⟨hC.1.keep hy,hC.2,by omega⟩
 have RP : Hid (∀ y,Keep w y → l.length ≤ 20 → p.chks.length ≤ 120 → Calls Tryz.prog 8 #[parV p A c,iv height] y fun e w' => ∃ xs,e = .returned (.tuple #[.agg xs,.bool (pointR p height).isSome])∧HashA (pointH p height) xs∧Keep y w'):=Lib.hid fun y hy h1 h2 => rpoint_any p A c height y ⟨hC.1.keep hy,hC.2,by omega⟩
 have CK : Hid (∀ y,Keep w y → l.length ≤ 20 → p.chks.length ≤ 120 → Calls Tryz.prog 9 #[parV p A c,.slice B l.length d,.agg cs,iv now] y fun e w' => e = .returned (iv (checkR p l h now))∧Keep y w'):=Lib.hid fun y hy h1 h2 => check_hd p A c B l d h cs now y (hS.keep hy) ⟨hC.1.keep hy,hC.2,by omega⟩ (by omega) hd hdm (hr.keep hy) hk ho hcs
 have RC : Hid (∀ y,Keep w y → l.length ≤ 20 → p.chks.length ≤ 120 → Calls Tryz.prog 10 #[parV p A c,.slice B l.length d,.agg cs,iv now] y fun e w' => e = .returned (iv (checkR p l h now))∧Keep y w'):=Lib.hid fun y hy h1 h2 => rcheck_hd p A c B l d h cs now y ⟨hC.1.keep hy,hC.2,by omega⟩ (by omega) hd hdm (hr.keep hy) hk ho hcs
 have BG : Hid (∀ y,Keep w y → l.length ≤ 20 → p.chks.length ≤ 120 → Calls Tryz.prog 11 #[parV p A c,.agg cs] y fun e w' => e = .returned (iv (beginsR p h))∧Keep y w'):=Lib.hid fun y hy h1 h2 => begins_any p A c h cs y (hS.keep hy) ⟨hC.1.keep hy,hC.2,by omega⟩ ho hcs
 have RB : Hid (∀ y,Keep w y → l.length ≤ 20 → p.chks.length ≤ 120 → Calls Tryz.prog 12 #[parV p A c,.agg cs] y fun e w' => e = .returned (iv (beginsR p h))∧Keep y w'):=Lib.hid fun y hy h1 h2 => rbegins_any p A c h cs y ⟨hC.1.keep hy,hC.2,by omega⟩ ho hcs
 have HPL : Hid ((pointH p height).length = 32):=Lib.hid (pointH_len hC.2 height)
 have hcz:=hcs.z;have hcn:=hcs.n;have hci:=hcs.i
 clear hcs ho hk hr hC hS hdm hd
 generalize validN p l now = vn at *
 generalize validE p l now = ve at *
 generalize checkR p l h now = R at *
 generalize beginsR p h = bg at *
 generalize (pointR p height).isSome = is at *
 generalize pointH p height = PH at *
 generalize l.length = n at *
 unfold parV at *
 generalize p.limit = limit at *
 generalize p.itv = itv at *
 generalize p.span = span at *
 generalize p.fut = fut at *
 generalize p.idx = idx at *
 generalize p.orp = orp at *
 generalize p.chks.length = m at *
 clear p
 obtain ⟨zs,hz1,hz2,hz3,-⟩:=zhash_letter
 go_enter Tryz.func3,Tryz.ntmps3
 go_upto_region 1 with fail
 obtain ⟨w1,hw1⟩ : ∃ w1,w1 = (w.alloc (.cells #[u32v limit,iv itv,iv span,iv fut,iv idx,iv orp,.slice A m c] 25)).alloc (.cells cs 30):=⟨_,rfl⟩
 have HP1 : Hid (Blk w1 w.heap.size 25 [u32v limit,iv itv,iv span,iv fut,iv idx,iv orp,.slice A m c]):=by rw [hw1];exact Lib.hid ((Blk.new w 25 [u32v limit,iv itv,iv span,iv fut,iv idx,iv orp,.slice A m c]).alloc _)
 have HH1 : Hid (Blk w1 (w.heap.size + 1) 30 cs.toList):=by
  rw [hw1]
  have h2:=Blk.new (w.alloc (.cells #[u32v limit,iv itv,iv span,iv fut,iv idx,iv orp,.slice A m c] 25)) 30 cs.toList
  rw [World.size_alloc] at h2
  exact Lib.hid h2
 have HK1 : Hid (Keep w w1):=by rw [hw1];exact Lib.hid (keep_trans (keep_new _ _) (keep_new _ _))
 rw [← hw1]
 clear hw1
 obtain ⟨gp,hgp⟩ : ∃ g,w.heap.size = g:=⟨_,rfl⟩
 rw [hgp] at HP1 HH1
 obtain ⟨gh,hgh⟩ : ∃ g,gp + 1 = g:=⟨_,rfl⟩
 rw [hgh] at HH1
 simp only [hgp,hgh]
 clear hgp hgh
 go_wp2_with fail
 refine (AW.out _ HK1.out).mono ?_
 clear AW
 rintro e w2 ⟨rfl,k2⟩
 have HP2:=Lib.hid (HP1.out.keep k2)
 have HH2:=Lib.hid (HH1.out.keep k2)
 have HK2:=Lib.hid (keep_trans HK1.out k2)
 clear k2 HP1 HH1 HK1
 have p6:=HP2.out.cell 6
 simp only [List.getElem?_cons_succ,List.getElem?_cons_zero] at p6
 by_cases hn : 20 < n
 ·have d1 : (20 : Int) < n:=by omega
  clear VA RV PT RP CK RC BG RB
  go_wp2
  exact bodyPost_ret (v:=.bool true) (by simp [results,Tryz.results3]) rfl ⟨rfl,HK2.out⟩
 by_cases hm : 120 < m
 ·have d1 : ¬ (20 : Int) < n:=by omega
  have d2 : (120 : Int) < m:=by omega
  clear VA RV PT RP CK RC BG RB
  go_wp2
  exact bodyPost_ret (v:=.bool true) (by simp [results,Tryz.results3]) rfl ⟨rfl,HK2.out⟩
 have d1 : ¬ (20 : Int) < n:=by omega
 have d2 : ¬ (120 : Int) < m:=by omega
 go_upto_region 4 with fail
 clear d1 d2 p6
 replace hn : n ≤ 20:=by omega
 replace hm : m ≤ 120:=by omega
 replace VA:=Lib.hid fun y hy => VA.out y hy hn hm
 replace RV:=Lib.hid fun y hy => RV.out y hy hn hm
 replace PT:=Lib.hid fun y hy => PT.out y hy hn hm
 replace RP:=Lib.hid fun y hy => RP.out y hy hn hm
 replace CK:=Lib.hid fun y hy => CK.out y hy hn hm
 replace RC:=Lib.hid fun y hy => RC.out y hy hn hm
 replace BG:=Lib.hid fun y hy => BG.out y hy hn hm
 replace RB:=Lib.hid fun y hy => RB.out y hy hn hm
 clear hn hm
 have p0:=HP2.out.cell 0
 have p1:=HP2.out.cell 1
 have p2:=HP2.out.cell 2
 have p3:=HP2.out.cell 3
 have p4:=HP2.out.cell 4
 have p5:=HP2.out.cell 5
 have p6:=HP2.out.cell 6
 simp only [List.getElem?_cons_succ,List.getElem?_cons_zero] at p0 p1 p2 p3 p4 p5 p6
 go_upto_region 5 with (go_at_call 5;refine (VA.out _ HK2.out).mono ?_;rintro e w3 ⟨rfl,k3⟩;have HP3:=Lib.hid (HP2.out.keep k3);have HH3:=Lib.hid (HH2.out.keep k3);have HK3:=Lib.hid (keep_trans HK2.out k3);clear k3 VA p0 p1 p2 p3 p4 p5 p6)
 clear HP2 HH2 HK2
 have p0:=HP3.out.cell 0
 have p1:=HP3.out.cell 1
 have p2:=HP3.out.cell 2
 have p3:=HP3.out.cell 3
 have p4:=HP3.out.cell 4
 have p5:=HP3.out.cell 5
 have p6:=HP3.out.cell 6
 simp only [List.getElem?_cons_succ,List.getElem?_cons_zero] at p0 p1 p2 p3 p4 p5 p6
 go_upto_region 6 with (go_at_call 6;refine (RV.out _ HK3.out).mono ?_;rintro e w4 ⟨rfl,k4⟩;have HP4:=Lib.hid (HP3.out.keep k4);have HH4:=Lib.hid (HH3.out.keep k4);have HK4:=Lib.hid (keep_trans HK3.out k4);clear k4 RV p0 p1 p2 p3 p4 p5 p6)
 clear HP3 HH3 HK3
 have p0:=HP4.out.cell 0
 have p1:=HP4.out.cell 1
 have p2:=HP4.out.cell 2
 have p3:=HP4.out.cell 3
 have p4:=HP4.out.cell 4
 have p5:=HP4.out.cell 5
 have p6:=HP4.out.cell 6
 simp only [List.getElem?_cons_succ,List.getElem?_cons_zero] at p0 p1 p2 p3 p4 p5 p6
 go_upto_region 7 with (go_at_call 7;refine (PT.out _ HK4.out).mono ?_;rintro e w5 ⟨xs,rfl,hxxs,k5⟩;have HP5:=Lib.hid (HP4.out.keep k5);have HH5:=Lib.hid (HH4.out.keep k5);have HK5:=Lib.hid (keep_trans HK4.out k5);have hzxs:=hxxs.z;have hnxs:=hxxs.n;have hixs:=hxxs.i;have HXxs:=Lib.hid hxxs;have hst:=run_storeCells_new (P:=Tryz.prog) w5 28 zs xs hxxs.i (hz1.trans hxxs.z.symm) (by have:=all_oneCell_toArray hxxs.o;rwa [Array.toArray_toList] at this);clear k5 PT hxxs p0 p1 p2 p3 p4 p5 p6)
 clear HP4 HH4 HK4
 obtain ⟨w6,hw6⟩ : ∃ x,x = w5.alloc (.cells xs 28):=⟨_,rfl⟩
 have FX6 : Hid (Blk w6 w5.heap.size 28 xs.toList):=by rw [hw6];exact Lib.hid (Blk.new w5 _ xs.toList)
 have k6 : Keep w5 w6:=by rw [hw6];exact keep_new _ _
 have HP6:=Lib.hid (HP5.out.keep k6);have HH6:=Lib.hid (HH5.out.keep k6);have HK6:=Lib.hid (keep_trans HK5.out k6)
 rw [← hw6]
 clear hw6 hst k6 HP5 HH5 HK5
 generalize w5.heap.size = gx at *
 have p0:=HP6.out.cell 0
 have p1:=HP6.out.cell 1
 have p2:=HP6.out.cell 2
 have p3:=HP6.out.cell 3
 have p4:=HP6.out.cell 4
 have p5:=HP6.out.cell 5
 have p6:=HP6.out.cell 6
 simp only [List.getElem?_cons_succ,List.getElem?_cons_zero] at p0 p1 p2 p3 p4 p5 p6
 go_upto_region 8 with (go_at_call 8;refine (RP.out _ HK6.out).mono ?_;rintro e w7 ⟨ys,rfl,hxys,k7⟩;have HP7:=Lib.hid (HP6.out.keep k7);have HH7:=Lib.hid (HH6.out.keep k7);have HK7:=Lib.hid (keep_trans HK6.out k7);have FX7:=Lib.hid (FX6.out.keep k7);clear FX6;have hzys:=hxys.z;have hnys:=hxys.n;have hiys:=hxys.i;have HXys:=Lib.hid hxys;have hst:=run_storeCells_new (P:=Tryz.prog) w7 28 zs ys hxys.i (hz1.trans hxys.z.symm) (by have:=all_oneCell_toArray hxys.o;rwa [Array.toArray_toList] at this);clear k7 RP hxys p0 p1 p2 p3 p4 p5 p6)
 clear HP6 HH6 HK6
 obtain ⟨w8,hw8⟩ : ∃ x,x = w7.alloc (.cells ys 28):=⟨_,rfl⟩
 have FY8 : Hid (Blk w8 w7.heap.size 28 ys.toList):=by rw [hw8];exact Lib.hid (Blk.new w7 _ ys.toList)
 have k8 : Keep w7 w8:=by rw [hw8];exact keep_new _ _
 have HP8:=Lib.hid (HP7.out.keep k8);have HH8:=Lib.hid (HH7.out.keep k8);have HK8:=Lib.hid (keep_trans HK7.out k8);have FX8:=Lib.hid (FX7.out.keep k8);clear FX7
 rw [← hw8]
 clear hw8 hst k8 HP7 HH7 HK7
 generalize w7.heap.size = gy at *
 have e1:=HXxs.out.e
 have e2:=HXys.out.e
 obtain rfl : xs = ys:=e1.symm.trans e2
 have heq : ∀ W0,(Op.equalIn 10000 28 (.agg xs) (.agg xs)).run Tryz.prog W0 = .ok true W0:=fun W0 => by
  have q:=hash_in HXxs.out HXxs.out HPL.out HPL.out W0
  rwa [beq_self_eq_true] at q
 have heq2 : ∀ W0,(Go.binOp .eql 28 (.agg xs) (.agg xs)).run Tryz.prog W0 = .ok (.bool true) W0:=fun W0 => by
  have q:=hash_eql HXxs.out HXxs.out HPL.out HPL.out W0
  rwa [beq_self_eq_true] at q
 have HEQ:=Lib.hid heq;have HEQ2:=Lib.hid heq2
 clear heq heq2 e1 e2 hz1 hz2 hz3
 have HPc:=HP8;have HHc:=HH8;have FXc:=FX8;have FYc:=FY8
 refine wp_region_tree (.take [0,1,2,3,4,5,7,8,9,10] (.force [6,11] (.take [12,13,14,15,16,18,19] (.force [17,20] (.take [21,22,23,24,25,26,27,28,29,30,31,32,33,34,35,36,37,38,39,40,41,42,43] .done))))) [] (by kernel_rfl) (by kernel_rfl) (fun y0 hk => ?_)
 have Q:=Lib.hid hk
 have HPc:=Lib.hid (HPc.out.keep hk)
 have HHc:=Lib.hid (HHc.out.keep hk)
 have FXc:=Lib.hid (FXc.out.keep hk)
 have FYc:=Lib.hid (FYc.out.keep hk)
 clear hk
 refine mt_take y0 (Below.refl _ _) ?_
 simp only [pick_cons,pick_nil,nth_zero,nth_succ]
 have rh : Hid (y0.rangeAt gh 0 cs.toList):=Lib.hid (range_of HHc.out 0 cs.toList (by simp [List.take_of_length_le]))
 have rx : Hid (y0.rangeAt gx 0 xs.toList):=Lib.hid (range_of FXc.out 0 xs.toList (by simp [List.take_of_length_le]))
 have ry : Hid (y0.rangeAt gy 0 xs.toList):=Lib.hid (range_of FYc.out 0 xs.toList (by simp [List.take_of_length_le]))
 have q0:=aft_cell (HPc.out.cell 0)
 have q1:=aft_cell (HPc.out.cell 1)
 have q2:=aft_cell (HPc.out.cell 2)
 have q3:=aft_cell (HPc.out.cell 3)
 have q4:=aft_cell (HPc.out.cell 4)
 have q5:=aft_cell (HPc.out.cell 5)
 have q6:=aft_cell (HPc.out.cell 6)
 repeat (first
  | ((with_reducible refine wpQuiet_load_partg gh 0 cs (Eq.trans ?_ rfl) rh.out _ Tryz.underlying30 rfl hci (Eq.trans ?_ rfl) ?_);rfl;rfl;simp only [Act.put,Array.set!_eq_setIfInBounds,List.setIfInBounds_toArray,List.set_cons_succ,List.set_cons_zero])
  | ((with_reducible refine wpQuiet_load_partg gx 0 xs (Eq.trans ?_ rfl) rx.out _ Tryz.underlying28 rfl hixs (Eq.trans ?_ rfl) ?_);rfl;rfl;simp only [Act.put,Array.set!_eq_setIfInBounds,List.setIfInBounds_toArray,List.set_cons_succ,List.set_cons_zero])
  | ((with_reducible refine wpQuiet_load_partg gy 0 xs (Eq.trans ?_ rfl) ry.out _ Tryz.underlying28 rfl hixs (Eq.trans ?_ rfl) ?_);rfl;rfl;simp only [Act.put,Array.set!_eq_setIfInBounds,List.setIfInBounds_toArray,List.set_cons_succ,List.set_cons_zero])
  | go_big_quiet_step (fail))
 clear rh rx ry q0 q1 q2 q3 q4 q5 q6
 refine wpQuiet_nil (mt_force ?_)
 simp only [pick_cons,pick_nil,nth_zero,nth_succ]
 refine fc_step rfl (fun K hK => ?_)
 go_simp
 (with_reducible refine (CK.out _ (keep_trans HK8.out Q.out)).mono ?_)
 rintro e y1 ⟨rfl,hk⟩
 refine hK _ _ hk ?_
 clear hK K
 have HQ6 : w8.heap.size ≤ y0.heap.size:=Q.out.size
 have Hprev:=Q
 replace Q:=Lib.hid (keep_trans Q.out hk)
 have hs_y1 : y0.heap.size ≤ y1.heap.size:=hk.size
 replace HPc:=Lib.hid (HPc.out.keep hk)
 replace HHc:=Lib.hid (HHc.out.keep hk)
 replace FXc:=Lib.hid (FXc.out.keep hk)
 replace FYc:=Lib.hid (FYc.out.keep hk)
 clear hk
 refine fc_step rfl (fun K hK => ?_)
 go_simp
 (with_reducible refine (RC.out _ (keep_trans HK8.out Q.out)).mono ?_)
 rintro e y2 ⟨rfl,hk⟩
 refine hK _ _ hk ?_
 clear hK K
 have HQ11 : w8.heap.size ≤ y1.heap.size:=Q.out.size
 have Hprev:=Q
 replace Q:=Lib.hid (keep_trans Q.out hk)
 have hs_y2 : y1.heap.size ≤ y2.heap.size:=hk.size
 replace HPc:=Lib.hid (HPc.out.keep hk)
 replace HHc:=Lib.hid (HHc.out.keep hk)
 replace FXc:=Lib.hid (FXc.out.keep hk)
 replace FYc:=Lib.hid (FYc.out.keep hk)
 clear hk
 refine fc_nil (mt_take y2 (Below.refl _ _) ?_)
 simp only [pick_cons,pick_nil,nth_zero,nth_succ]
 have rh : Hid (y2.rangeAt gh 0 cs.toList):=Lib.hid (range_of HHc.out 0 cs.toList (by simp [List.take_of_length_le]))
 have rx : Hid (y2.rangeAt gx 0 xs.toList):=Lib.hid (range_of FXc.out 0 xs.toList (by simp [List.take_of_length_le]))
 have ry : Hid (y2.rangeAt gy 0 xs.toList):=Lib.hid (range_of FYc.out 0 xs.toList (by simp [List.take_of_length_le]))
 have q0:=aft_cell (HPc.out.cell 0)
 have q1:=aft_cell (HPc.out.cell 1)
 have q2:=aft_cell (HPc.out.cell 2)
 have q3:=aft_cell (HPc.out.cell 3)
 have q4:=aft_cell (HPc.out.cell 4)
 have q5:=aft_cell (HPc.out.cell 5)
 have q6:=aft_cell (HPc.out.cell 6)
 repeat (first
  | ((with_reducible refine wpQuiet_load_partg gh 0 cs (Eq.trans ?_ rfl) rh.out _ Tryz.underlying30 rfl hci (Eq.trans ?_ rfl) ?_);rfl;rfl;simp only [Act.put,Array.set!_eq_setIfInBounds,List.setIfInBounds_toArray,List.set_cons_succ,List.set_cons_zero])
  | ((with_reducible refine wpQuiet_load_partg gx 0 xs (Eq.trans ?_ rfl) rx.out _ Tryz.underlying28 rfl hixs (Eq.trans ?_ rfl) ?_);rfl;rfl;simp only [Act.put,Array.set!_eq_setIfInBounds,List.setIfInBounds_toArray,List.set_cons_succ,List.set_cons_zero])
  | ((with_reducible refine wpQuiet_load_partg gy 0 xs (Eq.trans ?_ rfl) ry.out _ Tryz.underlying28 rfl hixs (Eq.trans ?_ rfl) ?_);rfl;rfl;simp only [Act.put,Array.set!_eq_setIfInBounds,List.setIfInBounds_toArray,List.set_cons_succ,List.set_cons_zero])
  | go_big_quiet_step (fail))
 clear rh rx ry q0 q1 q2 q3 q4 q5 q6
 refine wpQuiet_nil (mt_force ?_)
 simp only [pick_cons,pick_nil,nth_zero,nth_succ]
 refine fc_step rfl (fun K hK => ?_)
 go_simp
 (with_reducible refine (BG.out _ (keep_trans HK8.out Q.out)).mono ?_)
 rintro e y3 ⟨rfl,hk⟩
 refine hK _ _ hk ?_
 clear hK K
 have HQ17 : w8.heap.size ≤ y2.heap.size:=Q.out.size
 have Hprev:=Q
 replace Q:=Lib.hid (keep_trans Q.out hk)
 have hs_y3 : y2.heap.size ≤ y3.heap.size:=hk.size
 replace HPc:=Lib.hid (HPc.out.keep hk)
 replace HHc:=Lib.hid (HHc.out.keep hk)
 replace FXc:=Lib.hid (FXc.out.keep hk)
 replace FYc:=Lib.hid (FYc.out.keep hk)
 clear hk
 refine fc_step rfl (fun K hK => ?_)
 go_simp
 (with_reducible refine (RB.out _ (keep_trans HK8.out Q.out)).mono ?_)
 rintro e y4 ⟨rfl,hk⟩
 refine hK _ _ hk ?_
 clear hK K
 have HQ20 : w8.heap.size ≤ y3.heap.size:=Q.out.size
 have Hprev:=Q
 replace Q:=Lib.hid (keep_trans Q.out hk)
 have hs_y4 : y3.heap.size ≤ y4.heap.size:=hk.size
 replace HPc:=Lib.hid (HPc.out.keep hk)
 replace HHc:=Lib.hid (HHc.out.keep hk)
 replace FXc:=Lib.hid (FXc.out.keep hk)
 replace FYc:=Lib.hid (FYc.out.keep hk)
 clear hk
 refine fc_nil (mt_take y4 (Below.refl _ _) ?_)
 simp only [pick_cons,pick_nil,nth_zero,nth_succ]
 have rh : Hid (y4.rangeAt gh 0 cs.toList):=Lib.hid (range_of HHc.out 0 cs.toList (by simp [List.take_of_length_le]))
 have rx : Hid (y4.rangeAt gx 0 xs.toList):=Lib.hid (range_of FXc.out 0 xs.toList (by simp [List.take_of_length_le]))
 have ry : Hid (y4.rangeAt gy 0 xs.toList):=Lib.hid (range_of FYc.out 0 xs.toList (by simp [List.take_of_length_le]))
 have q0:=aft_cell (HPc.out.cell 0)
 have q1:=aft_cell (HPc.out.cell 1)
 have q2:=aft_cell (HPc.out.cell 2)
 have q3:=aft_cell (HPc.out.cell 3)
 have q4:=aft_cell (HPc.out.cell 4)
 have q5:=aft_cell (HPc.out.cell 5)
 have q6:=aft_cell (HPc.out.cell 6)
 have heq:=fun z => HEQ.out (aft y4 z);have heq2:=fun z => HEQ2.out (aft y4 z)
 repeat (first
  | ((with_reducible refine wpQuiet_load_partg gh 0 cs (Eq.trans ?_ rfl) rh.out _ Tryz.underlying30 rfl hci (Eq.trans ?_ rfl) ?_);rfl;rfl;simp only [Act.put,Array.set!_eq_setIfInBounds,List.setIfInBounds_toArray,List.set_cons_succ,List.set_cons_zero])
  | ((with_reducible refine wpQuiet_load_partg gx 0 xs (Eq.trans ?_ rfl) rx.out _ Tryz.underlying28 rfl hixs (Eq.trans ?_ rfl) ?_);rfl;rfl;simp only [Act.put,Array.set!_eq_setIfInBounds,List.setIfInBounds_toArray,List.set_cons_succ,List.set_cons_zero])
  | ((with_reducible refine wpQuiet_load_partg gy 0 xs (Eq.trans ?_ rfl) ry.out _ Tryz.underlying28 rfl hixs (Eq.trans ?_ rfl) ?_);rfl;rfl;simp only [Act.put,Array.set!_eq_setIfInBounds,List.setIfInBounds_toArray,List.set_cons_succ,List.set_cons_zero])
  | go_big_quiet_step (fail))
 clear rh rx ry q0 q1 q2 q3 q4 q5 q6 heq heq2
 refine wpQuiet_nil (mt_end ?_)
 go_wp2
 exact bodyPost_ret (v:=.bool true) (by simp [results,Tryz.results3]) rfl ⟨rfl,keep_trans HK8.out Q.out⟩
end Go.Proofs.YtmbbknjddebhoaaGreatDoor
