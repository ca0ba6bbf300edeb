/- Texts merged by pack.py: Nh, Ni, Nj, Nk, Nl, No, Nm, Np, Nq. -/
import Derived.Test.YtmbbknjddebhoaaGreatDoorCx8
import Derived.Test.YtmbbknjddebhoaaGreatDoorCx4
import Derived.Test.YtmbbknjddebhoaaGreatDoorCx5
import Derived.Test.YtmbbknjddebhoaaGreatDoorCx6
/- florinref01: Len, Shl, Shr. (printed by gen_ne.py) -/
set_option linter.unusedSimpArgs false
set_option linter.unusedVariables false
namespace Go.Proofs.YtmbbknjddebhoaaGreatDoor
open Go.RowKit
attribute [local go_sem ↓] Go.wp_at_zero Go.wp_at_succ
set_option maxRecDepth 100000 in
set_option maxHeartbeats 4000000 in
theorem rlen_any (N : Nat) (w : World) (hN : N < 2 ^ 256) : Calls Tryz.prog 104 #[uV N] w fun e w' => e = .returned (.int .i64 (lenN N : Nat))∧Keep w w':=by
 have HCM : Hid (∀ k,N / 2 ^ (k + 1) = 0 → bitN N k = 1 → lenN N = k + 1):=Lib.hid fun k h1 h2 => by
  have h3:=div_bit N k
  have h4 : N / 2 ^ k = 1:=by omega
  refine lenN_of ?_ ?_
  ·have:=Nat.div_mul_le_self N (2 ^ k);rw [h4] at this;omega
  ·rcases Nat.div_eq_zero_iff.1 h1 with q | q
   ·have:=Nat.two_pow_pos (k + 1);omega
   ·exact q
 have HC0 : Hid (N = 0 → lenN N = 0):=Lib.hid fun h => by rw [h];rfl
 have S0 : Hid (N / 2 ^ 256 = 0):=Lib.hid (Nat.div_eq_of_lt hN)
 generalize lenN N = c at *
 clear hN
 have DG:=Lib.hid (fun N y => rdig_any N y)
 obtain ⟨zs,hz2,hzA⟩:=zdig_letter
 have hz1:=hzA.z;have hz3:=hzA.n
 have HZ:=Lib.hid hzA
 clear hzA
 go_enter Tryz.func104,Tryz.ntmps104
 go_upto_region 1 with fail
 obtain ⟨w1,hw1⟩ : ∃ w1,w1 = (w.alloc (.cells #[n64 (limb N 0),n64 (limb N 1),n64 (limb N 2),n64 (limb N 3)] 72)):=⟨_,rfl⟩
 have HA1 : Hid (Blk w1 w.heap.size 72 (uL N)):=by rw [hw1];exact Lib.hid ((Blk.new w 72 (uL N)))
 have HK1 : Hid (Keep w w1):=by rw [hw1];exact Lib.hid ((keep_new _ _))
 rw [← hw1]
 clear hw1
 obtain ⟨g,hg⟩ : ∃ g,w.heap.size = g:=⟨_,rfl⟩
 have HG:=Lib.hid hg
 rw [hg] at HA1
 simp only [hg]
 clear hg
 have a0:=HA1.out.cell 0;have a1:=HA1.out.cell 1;have a2:=HA1.out.cell 2;have a3:=HA1.out.cell 3
 simp only [uL,List.getElem?_cons_succ,List.getElem?_cons_zero] at a0 a1 a2 a3
 go_wp2_with fail
 refine (DG.out N _).mono ?_
 rintro e w2 ⟨cs,rfl,hcA,hk2⟩
 have HC:=Lib.hid hcA
 have hst : ∀ y : World,(storeCells ⟨y.heap.size,0,none⟩ cs.toList 0).run Tryz.prog (y.alloc (.cells zs 100)) = .ok () (y.alloc (.cells cs 100)):=fun y => run_storeCells_new (P:=Tryz.prog) y 100 zs cs hcA.i (hz1.trans hcA.z.symm) (by have:=all_oneCell_toArray hcA.o;simpa using this)
 have hc3:=hcA.n;have hc1:=hcA.z
 have HA2:=Lib.hid (HA1.out.keep hk2);have HK2:=Lib.hid (keep_trans HK1.out hk2)
 clear hcA hk2 HA1 HK1 a0 a1 a2 a3 DG
 go_upto_region 2 with fail
 obtain ⟨w3,hw3⟩ : ∃ x,x = w2.alloc (.cells cs 100):=⟨_,rfl⟩
 have HX3 : Hid (Blk w3 w2.heap.size 100 (dgl (bitN N))):=by rw [hw3,← HC.out.l];exact Lib.hid (Blk.new w2 _ cs.toList)
 have k3 : Keep w2 w3:=by rw [hw3];exact keep_new _ _
 have HA3:=Lib.hid (HA2.out.keep k3);have HK3:=Lib.hid (keep_trans HK2.out k3)
 have hX1 : g < w2.heap.size:=HA2.out.lt
 rw [← hw3]
 clear hw3 k3 hst HA2 HK2 hc3 hc1 HA3
 obtain ⟨X,hX⟩ : ∃ X,w2.heap.size = X:=⟨_,rfl⟩
 rw [hX] at HX3 hX1
 simp only [hX]
 clear hX
 go_wp2_with fail
 go_loopw [4] (fun x wr => ∃ k : Nat,k ≤ 256∧x = .int .i64 ((k : Int) - 1)∧Hid (N / 2 ^ k = 0)∧Hid (Blk wr X 100 (dgl (bitN N)))∧Hid (Keep w wr)) (fun x _ => (intOf x + 1).toNat)
 case atStart => exact ⟨256,Nat.le_refl _,rfl,S0,HX3,HK3⟩
 case round =>
  obtain ⟨k,hk,rfl,HS,HX,HK⟩:=hrel
  clear HX3 HK3 S0
  cases k with
  | zero =>
    have hc:=HC0.out (by have:=HS.out;rwa [Nat.pow_zero,Nat.div_one] at this)
    subst hc
    clear HCM HC0 HS HX
    go_wp2
    exact bodyPost_ret (v:=.int .i64 ((0 : Nat) : Int)) (by simp [results,Tryz.results104]) rfl ⟨rfl,HK.out⟩
  | succ k =>
    have hi : ((k + 1 : Nat) : Int) - 1 = (k : Int):=by omega
    simp only [hi]
    have hlt : k < 256:=by omega
    have d1 : (0 : Int) ≤ (k : Int):=by omega
    have c0:=HX.out.cell k
    rw [dgl_get _ hlt] at c0
    by_cases h1 : bitN N k = 1
    ·have hc:=HCM.out k HS.out h1
     have h1' : ((bitN N k : Int) == 1) = true:=by rw [h1];rfl
     subst hc
     clear HCM HC0 HS HX h1
     go_wp2
     exact bodyPost_ret (v:=.int .i64 ((k + 1 : Nat) : Int)) (by simp [results,Tryz.results104]) rfl ⟨rfl,HK.out⟩
    ·have h1' : ((bitN N k : Int) == 1) = false:=by rw [beq_eq_false_iff_ne];omega
     have HS2 : Hid (N / 2 ^ k = 0):=Lib.hid (by have:=div_bit N k;have:=bitN_lt N k;have:=HS.out;omega)
     clear HS h1
     go_wp2_with fail
     go_roundw
     case rel => exact ⟨k,by omega,by go_num,HS2,HX,HK⟩
     case measure => simp [intOf] <;> omega
end Go.Proofs.YtmbbknjddebhoaaGreatDoor
/- florinref01: Shr. (printed by gen_ne.py) -/
set_option linter.unusedSimpArgs false
set_option linter.unusedVariables false
namespace Go.Proofs.YtmbbknjddebhoaaGreatDoor
open Go.RowKit
attribute [local go_sem ↓] Go.wp_at_zero Go.wp_at_succ
set_option maxRecDepth 100000 in
set_option maxHeartbeats 4000000 in
theorem rshr_any (N : Nat) (n : Int) (w : World) (hN : N < 2 ^ 256) (hn : n ≤ 9223372036854775807) : Calls Tryz.prog 61 #[uV N,.int .i64 n] w fun e w' => e = .returned (uV (N / 2 ^ n.toNat))∧Keep w w':=by
 obtain ⟨m,hm⟩ : ∃ m : Nat,n.toNat = m:=⟨_,rfl⟩
 have hmx : n = (m : Int) ∨ n < 0∧m = 0:=by omega
 have hmb : m ≤ 9223372036854775807:=by omega
 rw [hm]
 have HB : Hid (∀ t,bitN N (t + m) = bitN (N / 2 ^ m) t):=Lib.hid fun t => shr_bit.symm
 have HZB : Hid (∀ t,256 ≤ t + m → bitN (N / 2 ^ m) t = 0):=Lib.hid fun t h => by rw [shr_bit];exact bitN_of_lt (Nat.lt_of_lt_of_le hN (Nat.pow_le_pow_right (by decide) h))
 have HR256 : Hid (N / 2 ^ m % 2 ^ 256 = N / 2 ^ m):=Lib.hid (Nat.mod_eq_of_lt (Nat.lt_of_le_of_lt (Nat.div_le_self _ _) hN))
 generalize N / 2 ^ m = R at *
 clear hN hm hn
 have DG:=Lib.hid (fun N y => rdig_any N y)
 obtain ⟨zs,hz2,hzA⟩:=zdig_letter
 have hz1:=hzA.z;have hz3:=hzA.n
 have HZ:=Lib.hid hzA
 clear hzA
 go_enter Tryz.func61,Tryz.ntmps61
 go_upto_region 1 with fail
 obtain ⟨w1,hw1⟩ : ∃ w1,w1 = (w.alloc (.cells #[n64 (limb N 0),n64 (limb N 1),n64 (limb N 2),n64 (limb N 3)] 72)).alloc (.cells #[.int .u64 0,.int .u64 0,.int .u64 0,.int .u64 0] 72):=⟨_,rfl⟩
 have HA1 : Hid (Blk w1 w.heap.size 72 (uL N)):=by rw [hw1];exact Lib.hid ((Blk.new w 72 (uL N)).alloc _)
 have HR1 : Hid (Blk w1 (w.heap.size + 1) 72 (uL 0)):=by
  rw [hw1]
  have q:=Blk.new (w.alloc (.cells #[n64 (limb N 0),n64 (limb N 1),n64 (limb N 2),n64 (limb N 3)] 72)) 72 (uL 0)
  rw [World.size_alloc] at q
  exact Lib.hid q
 have HK1 : Hid (Keep w w1):=by rw [hw1];exact Lib.hid (keep_trans (keep_new _ _) (keep_new _ _))
 rw [← hw1]
 clear hw1
 obtain ⟨g,hg⟩ : ∃ g,w.heap.size = g:=⟨_,rfl⟩
 have HG:=Lib.hid hg
 rw [hg] at HA1 HR1
 obtain ⟨r,hr⟩ : ∃ r,g + 1 = r:=⟨_,rfl⟩
 rw [hr] at HR1
 have hgr : g < r:=by omega
 simp only [hg,hr]
 clear hg hr
 go_cut [1] (fun v wx => v = .int .i64 (m : Int)∧Hid (Blk wx g 72 (uL N))∧Hid (Blk wx r 72 (uL 0))∧Hid (Keep w wx))
 case first =>
  rcases hmx with rfl | ⟨hneg,rfl⟩
  ·have h0 : ¬ (m : Int) < 0:=by omega
   have h0' : (0 : Int) ≤ (m : Int):=by omega
   go_wp2_with fail
   go_meet
   exact ⟨rfl,HA1,HR1,HK1⟩
  ·have h0 : ¬ (0 : Int) ≤ n:=by omega
   go_wp2_with fail
   go_meet
   exact ⟨by first | rfl | (rw [show max n 0 = 0 by omega];rfl),HA1,HR1,HK1⟩
 obtain ⟨rfl,HA1,HR1,HK1⟩:=hcut
 clear hmx
 have a0:=HA1.out.cell 0;have a1:=HA1.out.cell 1;have a2:=HA1.out.cell 2;have a3:=HA1.out.cell 3
 simp only [uL,List.getElem?_cons_succ,List.getElem?_cons_zero] at a0 a1 a2 a3
 go_wp2_with fail
 refine (DG.out N _).mono ?_
 rintro e w2 ⟨cs,rfl,hcA,hk2⟩
 have HC:=Lib.hid hcA
 have hst : ∀ y : World,(storeCells ⟨y.heap.size,0,none⟩ cs.toList 0).run Tryz.prog (y.alloc (.cells zs 100)) = .ok () (y.alloc (.cells cs 100)):=fun y => run_storeCells_new (P:=Tryz.prog) y 100 zs cs hcA.i (hz1.trans hcA.z.symm) (by have:=all_oneCell_toArray hcA.o;simpa using this)
 have hc3:=hcA.n;have hc1:=hcA.z
 have HA2:=Lib.hid (HA1.out.keep hk2);have HR2:=Lib.hid (HR1.out.keep hk2);have HK2:=Lib.hid (keep_trans HK1.out hk2)
 clear hcA hk2 HA1 HR1 HK1 a0 a1 a2 a3 DG
 go_upto_region 4 with fail
 obtain ⟨w3,hw3⟩ : ∃ x,x = w2.alloc (.cells cs 100):=⟨_,rfl⟩
 have HX3 : Hid (Blk w3 w2.heap.size 100 (dgl (bitN N))):=by rw [hw3,← HC.out.l];exact Lib.hid (Blk.new w2 _ cs.toList)
 have k3 : Keep w2 w3:=by rw [hw3];exact keep_new _ _
 have HA3:=Lib.hid (HA2.out.keep k3);have HR3:=Lib.hid (HR2.out.keep k3);have HK3:=Lib.hid (keep_trans HK2.out k3)
 have hX1 : g < w2.heap.size:=HA2.out.lt
 have hX2 : r < w2.heap.size:=HR2.out.lt
 obtain ⟨w4,hw4⟩ : ∃ x,x = w3.alloc (.cells zs 100):=⟨_,rfl⟩
 have hs3 : w3.heap.size = w2.heap.size + 1:=by rw [hw3];exact World.size_alloc ..
 have HY4 : Hid (Blk w4 (w2.heap.size + 1) 100 (dgl fun _ => 0)):=by rw [hw4,← HZ.out.l,← hs3];exact Lib.hid (Blk.new w3 _ zs.toList)
 have k4 : Keep w3 w4:=by rw [hw4];exact keep_new _ _
 have HX4:=Lib.hid (HX3.out.keep k4);have HR4:=Lib.hid (HR3.out.keep k4);have HK4:=Lib.hid (keep_trans HK3.out k4)
 rw [← hw3,← hw4]
 clear hw3 k3 hst HA2 HR2 HK2 hc3 hc1 HA3 hw4 hs3 k4 HX3 HK3 HR3
 obtain ⟨X,hX⟩ : ∃ X,w2.heap.size = X:=⟨_,rfl⟩
 rw [hX] at HX4 HY4 hX1 hX2
 obtain ⟨Y,hY⟩ : ∃ Y,X + 1 = Y:=⟨_,rfl⟩
 rw [hY] at HY4
 have hXY : X < Y:=by omega
 simp only [hX,hY]
 clear hX hY
 have HA0 : Hid (Blk w4 Y 100 (dgl fun t => if t < 0 then bitN R t else 0)):=by rw [dgl_ext (f:=fun t => if t < 0 then bitN R t else 0) (g:=fun _ => 0) fun i _ => if_neg (by omega)];exact HY4
 clear HY4
 go_wp2_with fail
 go_loopw [7] (fun x wr => ∃ j : Nat,j ≤ 256∧x = .int .i64 j∧Hid (Blk wr X 100 (dgl (bitN N)))∧Hid (Blk wr Y 100 (dgl fun t => if t < j then bitN R t else 0))∧Hid (Blk wr r 72 (uL 0))∧Hid (Keep w wr)) (fun x _ => 256 - (intOf x).toNat)
 case atStart => exact ⟨0,Nat.zero_le _,rfl,HX4,HA0,HR4,HK4⟩
 case round =>
  obtain ⟨j,hj,rfl,HX,HY,HR,HK⟩:=hrel
  clear HX4 HR4 HK4
  by_cases hlt : j < 256
  ·have d1 : (j : Int) < 256:=by omega
   by_cases hm256 : m < 256
   ·have d2 : (m : Int) < 256:=by omega
    have c1:=HY.out.cell j
    have f1:=HY.out.frozen j
    rw [dgl_get _ hlt] at c1
    by_cases hin : j + m < 256
    ·have d3 : (j : Int) + (m : Int) < 256:=by omega
     have c0:=HX.out.cell (j + m)
     rw [dgl_get _ hin,HB.out] at c0
     go_upto_region 6 with fail
     obtain ⟨w6,hw6⟩ : ∃ x,x = wr.setCell ⟨Y,j,none⟩ (.int .i64 ((bitN R j : Nat) : Int)):=⟨_,rfl⟩
     have hgw : wr.grownBy w6 (some Y):=by rw [hw6];exact grown_set (grown_refl _ _)
     have HX6:=Lib.hid (HX.out.grown hgw (fun q => by have:=Option.some.inj q;omega));have HR6:=Lib.hid (HR.out.grown hgw (fun q => by have:=Option.some.inj q;omega))
     have HY6 : Hid (Blk w6 Y 100 (dgl fun t => if t < j + 1 then bitN R t else 0)):=by
      rw [hw6,dgl_ext (f:=fun t => if t < j + 1 then bitN R t else 0) (g:=fun t => if t = j then bitN R j else if t < j then bitN R t else 0) (fun i _ => by
       by_cases e : i = j
       ·subst e;rw [if_pos (by omega),if_pos rfl]
       ·by_cases e2 : i < j
        ·rw [if_pos (by omega),if_neg e,if_pos e2]
        ·rw [if_neg (by omega),if_neg e,if_neg e2]),← dgl_set]
      exact Lib.hid (HY.out.set_ j _)
     have HK6 : Hid (Keep w w6):=Lib.hid (HK.out.grown hgw HK.out.size (fun q hq => by have:=Option.some.inj hq;have:=HG.out;omega))
     rw [← hw6]
     clear hw6 hgw HX HR HY HK c0 c1 f1
     go_wp2_with fail
     go_roundw
     case rel => exact ⟨j + 1,by omega,by go_num,HX6,HY6,HR6,HK6⟩
     case measure => simp [intOf] <;> omega
    ·have d3 : ¬ (j : Int) + (m : Int) < 256:=by omega
     have hz:=HZB.out j (by omega)
     go_upto_region 6 with fail
     have HY6 : Hid (Blk wr Y 100 (dgl fun t => if t < j + 1 then bitN R t else 0)):=by
      rw [dgl_ext (f:=fun t => if t < j + 1 then bitN R t else 0) (g:=fun t => if t < j then bitN R t else 0) (fun i _ => by
       by_cases e : i = j
       ·subst e;rw [if_pos (by omega),if_neg (by omega)];exact hz
       ·by_cases e2 : i < j
        ·rw [if_pos (by omega),if_pos e2]
        ·rw [if_neg (by omega),if_neg e2])]
      exact HY
     clear HY c1 f1 hz
     go_wp2_with fail
     go_roundw
     case rel => exact ⟨j + 1,by omega,by go_num,HX,HY6,HR,HK⟩
     case measure => simp [intOf] <;> omega
   ·have d2 : ¬ (m : Int) < 256:=by omega
    have hE : dgl (fun t => if t < j then bitN R t else 0) = dgl (bitN R):=dgl_ext fun i _ => by
     by_cases e : i < j
     ·rw [if_pos e]
     ·rw [if_neg e,HZB.out i (by omega)]
    obtain ⟨fs,hfs⟩ : ∃ fs,DgA (bitN R) fs:=⟨_,DgA.of _⟩
    have NB:=Lib.hid (fun y => rnumb_any (bitN R) fs y hfs fun i _ => bitN_lt R i)
    rw [numT_bit,HR256.out] at NB
    have hfi:=hfs.i;have hfn:=hfs.n
    have HYf : Hid (Blk wr Y 100 fs.toList):=by rw [hfs.l,← hE];exact HY
    clear hfs hE HX HY HB HZB HA0
    go_wp2_with (first | ((with_reducible refine load_arr Y fs (Eq.trans ?_ rfl) HYf.out _ Tryz.underlying100 rfl hfi ?_);rfl) | (go_at_call 79;refine (NB.out _).mono ?_;rintro e w9 ⟨rfl,k9⟩;have HR9:=Lib.hid (HR.out.keep k9);have HK9:=Lib.hid (keep_trans HK.out k9);clear k9;have y0:=HR9.out.cell 0;have y1:=HR9.out.cell 1;have y2:=HR9.out.cell 2;have y3:=HR9.out.cell 3;have z0:=HR9.out.frozen 0;have z1:=HR9.out.frozen 1;have z2:=HR9.out.frozen 2;have z3:=HR9.out.frozen 3;simp only [uL,List.getElem?_cons_succ,List.getElem?_cons_zero] at y0 y1 y2 y3))
    exact bodyPost_ret (v:=uV R) (results_cell_row Tryz.results61 _ _ r _ _ _ _ rfl (show Blk _ r 72 (uL R) from (((HR9.out.set_ 0 _).set_ 1 _).set_ 2 _).set_ 3 _) Tryz.underlying72 rfl (by kernel_rfl)) rfl ⟨rfl,HK9.out.grown (grown_set (grown_set (grown_set (grown_set (grown_refl _ _))))) HK9.out.size (fun q hq => by injection hq with hq;have:=HG.out;omega)⟩
  ·obtain rfl : j = 256:=by omega
   have d1 : ¬ ((256 : Nat) : Int) < 256:=by omega
   have hE : dgl (fun t => if t < 256 then bitN R t else 0) = dgl (bitN R):=dgl_ext fun i h => if_pos h
   obtain ⟨fs,hfs⟩ : ∃ fs,DgA (bitN R) fs:=⟨_,DgA.of _⟩
   have NB:=Lib.hid (fun y => rnumb_any (bitN R) fs y hfs fun i _ => bitN_lt R i)
   rw [numT_bit,HR256.out] at NB
   have hfi:=hfs.i;have hfn:=hfs.n
   have HYf : Hid (Blk wr Y 100 fs.toList):=by rw [hfs.l,← hE];exact HY
   clear hfs hE HX HY HB HZB HA0
   go_wp2_with (first | ((with_reducible refine load_arr Y fs (Eq.trans ?_ rfl) HYf.out _ Tryz.underlying100 rfl hfi ?_);rfl) | (go_at_call 79;refine (NB.out _).mono ?_;rintro e w9 ⟨rfl,k9⟩;have HR9:=Lib.hid (HR.out.keep k9);have HK9:=Lib.hid (keep_trans HK.out k9);clear k9;have y0:=HR9.out.cell 0;have y1:=HR9.out.cell 1;have y2:=HR9.out.cell 2;have y3:=HR9.out.cell 3;have z0:=HR9.out.frozen 0;have z1:=HR9.out.frozen 1;have z2:=HR9.out.frozen 2;have z3:=HR9.out.frozen 3;simp only [uL,List.getElem?_cons_succ,List.getElem?_cons_zero] at y0 y1 y2 y3))
   exact bodyPost_ret (v:=uV R) (results_cell_row Tryz.results61 _ _ r _ _ _ _ rfl (show Blk _ r 72 (uL R) from (((HR9.out.set_ 0 _).set_ 1 _).set_ 2 _).set_ 3 _) Tryz.underlying72 rfl (by kernel_rfl)) rfl ⟨rfl,HK9.out.grown (grown_set (grown_set (grown_set (grown_set (grown_refl _ _))))) HK9.out.size (fun q hq => by injection hq with hq;have:=HG.out;omega)⟩
end Go.Proofs.YtmbbknjddebhoaaGreatDoor
/- florinref01: Shl. (printed by gen_ne.py) -/
set_option linter.unusedSimpArgs false
set_option linter.unusedVariables false
namespace Go.Proofs.YtmbbknjddebhoaaGreatDoor
open Go.RowKit
attribute [local go_sem ↓] Go.wp_at_zero Go.wp_at_succ
set_option maxRecDepth 100000 in
set_option maxHeartbeats 4000000 in
theorem rshl_any (N : Nat) (n : Int) (w : World) (hN : N < 2 ^ 256) (hn : n ≤ 9223372036854775807) : Calls Tryz.prog 62 #[uV N,.int .i64 n] w fun e w' => e = .returned (.tuple #[uV (N * 2 ^ n.toNat % 2 ^ 256),.bool (decide (2 ^ 256 ≤ N * 2 ^ n.toNat))])∧Keep w w':=by
 obtain ⟨m,hm⟩ : ∃ m : Nat,n.toNat = m:=⟨_,rfl⟩
 have hmx : n = (m : Int) ∨ n < 0∧m = 0:=by omega
 have hmb : m ≤ 9223372036854775807:=by omega
 rw [hm]
 obtain ⟨K,hK1,hK2,hKe,hKl⟩ : ∃ K,(m < 256 → K = m)∧(256 ≤ m → K = 256)∧N * 2 ^ K % 2 ^ 256 = N * 2 ^ m % 2 ^ 256∧decide (2 ^ 256 ≤ N * 2 ^ K) = decide (2 ^ 256 ≤ N * 2 ^ m):=by
  by_cases h : m < 256
  ·exact ⟨m,fun _ => rfl,fun q => by omega,rfl,rfl⟩
  ·refine ⟨256,fun q => by omega,fun _ => rfl,?_,?_⟩
   ·have e : N * 2 ^ m = N * 2 ^ (m - 256) * 2 ^ 256:=by rw [Nat.mul_assoc,← Nat.pow_add,show m - 256 + 256 = m by omega]
    rw [e,Nat.mul_mod_left,Nat.mul_mod_left]
   ·refine decide_eq_decide.2 ?_
    by_cases h0 : N = 0
    ·subst h0;rw [Nat.zero_mul,Nat.zero_mul]
    ·have q1 : 2 ^ 256 ≤ 2 ^ m:=Nat.pow_le_pow_right (by decide) (by omega)
     have q2 : 2 ^ 256 ≤ N * 2 ^ 256:=Nat.le_mul_of_pos_left _ (by omega)
     have q3 : 2 ^ m ≤ N * 2 ^ m:=Nat.le_mul_of_pos_left _ (by omega)
     exact ⟨fun _ => Nat.le_trans q1 q3,fun _ => q2⟩
 rw [← hKe,← hKl]
 have HKM : Hid ((m < 256 → K = m)∧(256 ≤ m → K = 256)):=Lib.hid ⟨hK1,hK2⟩
 obtain ⟨Lo,hLo⟩ : ∃ Lo : Nat → Bool,Lo = fun j => decide (2 ^ 256 ≤ N % 2 ^ j * 2 ^ K):=⟨_,rfl⟩
 have HLO0 : Hid (Lo 0 = false):=Lib.hid (by rw [hLo];refine decide_eq_false ?_;rw [Nat.pow_zero,Nat.mod_one,Nat.zero_mul];exact Nat.not_le.2 (Nat.two_pow_pos _))
 have HLN0 : ∀ j,Lo (j + 1) = (Lo j || (decide (256 ≤ j + K) && decide (bitN N j = 1))):=fun j => by rw [hLo];exact shl_lost
 have HLI : Hid (∀ j,j + K < 256 → Lo (j + 1) = Lo j):=Lib.hid fun j h => by rw [HLN0,decide_eq_false (by omega),Bool.false_and,Bool.or_false]
 have HLN : Hid (∀ j,256 ≤ j + K → Lo (j + 1) = (Lo j || decide (bitN N j = 1))):=Lib.hid fun j h => by rw [HLN0,decide_eq_true h,Bool.true_and]
 obtain ⟨R,hR⟩ : ∃ R,N * 2 ^ K % 2 ^ 256 = R:=⟨_,rfl⟩
 obtain ⟨L,hL⟩ : ∃ L,decide (2 ^ 256 ≤ N * 2 ^ K) = L:=⟨_,rfl⟩
 have HRK:=Lib.hid hR
 have HLE : Hid (Lo 256 = L):=Lib.hid (by rw [hLo,← hL];show decide _ = _;rw [Nat.mod_eq_of_lt hN])
 rw [hR,hL]
 clear hN hm hn hK1 hK2 hKe hKl hLo HLN0 hR hL
 have DG:=Lib.hid (fun N y => rdig_any N y)
 obtain ⟨zs,hz2,hzA⟩:=zdig_letter
 have hz1:=hzA.z;have hz3:=hzA.n
 have HZ:=Lib.hid hzA
 clear hzA
 go_enter Tryz.func62,Tryz.ntmps62
 go_upto_region 1 with fail
 obtain ⟨w1,hw1⟩ : ∃ w1,w1 = (w.alloc (.cells #[n64 (limb N 0),n64 (limb N 1),n64 (limb N 2),n64 (limb N 3)] 72)).alloc (.cells #[.int .u64 0,.int .u64 0,.int .u64 0,.int .u64 0] 72):=⟨_,rfl⟩
 have HA1 : Hid (Blk w1 w.heap.size 72 (uL N)):=by rw [hw1];exact Lib.hid ((Blk.new w 72 (uL N)).alloc _)
 have HR1 : Hid (Blk w1 (w.heap.size + 1) 72 (uL 0)):=by
  rw [hw1]
  have q:=Blk.new (w.alloc (.cells #[n64 (limb N 0),n64 (limb N 1),n64 (limb N 2),n64 (limb N 3)] 72)) 72 (uL 0)
  rw [World.size_alloc] at q
  exact Lib.hid q
 have HK1 : Hid (Keep w w1):=by rw [hw1];exact Lib.hid (keep_trans (keep_new _ _) (keep_new _ _))
 rw [← hw1]
 clear hw1
 obtain ⟨g,hg⟩ : ∃ g,w.heap.size = g:=⟨_,rfl⟩
 have HG:=Lib.hid hg
 rw [hg] at HA1 HR1
 obtain ⟨r,hr⟩ : ∃ r,g + 1 = r:=⟨_,rfl⟩
 rw [hr] at HR1
 have hgr : g < r:=by omega
 simp only [hg,hr]
 clear hg hr
 go_cut [1] (fun v wx => v = .int .i64 (m : Int)∧Hid (Blk wx g 72 (uL N))∧Hid (Blk wx r 72 (uL 0))∧Hid (Keep w wx))
 case first =>
  rcases hmx with rfl | ⟨hneg,rfl⟩
  ·have h0 : ¬ (m : Int) < 0:=by omega
   have h0' : (0 : Int) ≤ (m : Int):=by omega
   go_wp2_with fail
   go_meet
   exact ⟨rfl,HA1,HR1,HK1⟩
  ·have h0 : ¬ (0 : Int) ≤ n:=by omega
   go_wp2_with fail
   go_meet
   exact ⟨by first | rfl | (rw [show max n 0 = 0 by omega];rfl),HA1,HR1,HK1⟩
 obtain ⟨rfl,HA1,HR1,HK1⟩:=hcut
 clear hmx
 have a0:=HA1.out.cell 0;have a1:=HA1.out.cell 1;have a2:=HA1.out.cell 2;have a3:=HA1.out.cell 3
 simp only [uL,List.getElem?_cons_succ,List.getElem?_cons_zero] at a0 a1 a2 a3
 go_wp2_with fail
 refine (DG.out N _).mono ?_
 rintro e w2 ⟨cs,rfl,hcA,hk2⟩
 have HC:=Lib.hid hcA
 have hst : ∀ y : World,(storeCells ⟨y.heap.size,0,none⟩ cs.toList 0).run Tryz.prog (y.alloc (.cells zs 100)) = .ok () (y.alloc (.cells cs 100)):=fun y => run_storeCells_new (P:=Tryz.prog) y 100 zs cs hcA.i (hz1.trans hcA.z.symm) (by have:=all_oneCell_toArray hcA.o;simpa using this)
 have hc3:=hcA.n;have hc1:=hcA.z
 have HA2:=Lib.hid (HA1.out.keep hk2);have HR2:=Lib.hid (HR1.out.keep hk2);have HK2:=Lib.hid (keep_trans HK1.out hk2)
 clear hcA hk2 HA1 HR1 HK1 a0 a1 a2 a3 DG
 go_upto_region 4 with fail
 obtain ⟨w3,hw3⟩ : ∃ x,x = w2.alloc (.cells cs 100):=⟨_,rfl⟩
 have HX3 : Hid (Blk w3 w2.heap.size 100 (dgl (bitN N))):=by rw [hw3,← HC.out.l];exact Lib.hid (Blk.new w2 _ cs.toList)
 have k3 : Keep w2 w3:=by rw [hw3];exact keep_new _ _
 have HA3:=Lib.hid (HA2.out.keep k3);have HR3:=Lib.hid (HR2.out.keep k3);have HK3:=Lib.hid (keep_trans HK2.out k3)
 have hX1 : g < w2.heap.size:=HA2.out.lt
 have hX2 : r < w2.heap.size:=HR2.out.lt
 obtain ⟨w4,hw4⟩ : ∃ x,x = w3.alloc (.cells zs 100):=⟨_,rfl⟩
 have hs3 : w3.heap.size = w2.heap.size + 1:=by rw [hw3];exact World.size_alloc ..
 have HY4 : Hid (Blk w4 (w2.heap.size + 1) 100 (dgl fun _ => 0)):=by rw [hw4,← HZ.out.l,← hs3];exact Lib.hid (Blk.new w3 _ zs.toList)
 have k4 : Keep w3 w4:=by rw [hw4];exact keep_new _ _
 have HX4:=Lib.hid (HX3.out.keep k4);have HR4:=Lib.hid (HR3.out.keep k4);have HK4:=Lib.hid (keep_trans HK3.out k4)
 rw [← hw3,← hw4]
 clear hw3 k3 hst HA2 HR2 HK2 hc3 hc1 HA3 hw4 hs3 k4 HX3 HK3 HR3
 obtain ⟨X,hX⟩ : ∃ X,w2.heap.size = X:=⟨_,rfl⟩
 rw [hX] at HX4 HY4 hX1 hX2
 obtain ⟨Y,hY⟩ : ∃ Y,X + 1 = Y:=⟨_,rfl⟩
 rw [hY] at HY4
 have hXY : X < Y:=by omega
 simp only [hX,hY]
 clear hX hY
 have HA0 : Hid (Blk w4 Y 100 (dgl (fun t => if K ≤ t∧t - K < 0 then bitN N (t - K) else 0))):=by rw [dgl_ext (f:=(fun t => if K ≤ t∧t - K < 0 then bitN N (t - K) else 0)) (g:=fun _ => 0) fun i _ => if_neg (by omega)];exact HY4
 clear HY4
 go_wp2_with fail
 go_loopw [8,9] (fun vl x wr => ∃ j : Nat,j ≤ 256∧vl = .bool (Lo j)∧x = .int .i64 j∧Hid (Blk wr X 100 (dgl (bitN N)))∧Hid (Blk wr Y 100 (dgl (fun t => if K ≤ t∧t - K < j then bitN N (t - K) else 0)))∧Hid (Blk wr r 72 (uL 0))∧Hid (Keep w wr)) (fun _ x _ => 256 - (intOf x).toNat)
 case atStart => exact ⟨0,Nat.zero_le _,by rw [HLO0.out],rfl,HX4,HA0,HR4,HK4⟩
 case round =>
  obtain ⟨j,hj,rfl,rfl,HX,HY,HR,HK⟩:=hrel
  clear HX4 HR4 HK4 HLO0
  by_cases hlt : j < 256
  ·have d1 : (j : Int) < 256:=by omega
   have c0:=HX.out.cell j
   rw [dgl_get _ hlt] at c0
   by_cases hin : j + K < 256
   ·have hKm : K = m:=HKM.out.1 (by have:=HKM.out.2;omega)
    have d2 : (m : Int) < 256:=by omega
    have d3 : (j : Int) + (m : Int) < 256:=by omega
    have hlo:=HLI.out j hin
    have c1:=HY.out.cell (j + m)
    have f1:=HY.out.frozen (j + m)
    rw [dgl_get _ (by omega)] at c1
    go_upto_region 7 with fail
    obtain ⟨w6,hw6⟩ : ∃ x,x = wr.setCell ⟨Y,j + m,none⟩ (.int .i64 ((bitN N j : Nat) : Int)):=⟨_,rfl⟩
    have hgw : wr.grownBy w6 (some Y):=by rw [hw6];exact grown_set (grown_refl _ _)
    have HX6:=Lib.hid (HX.out.grown hgw (fun q => by have:=Option.some.inj q;omega));have HR6:=Lib.hid (HR.out.grown hgw (fun q => by have:=Option.some.inj q;omega))
    have HY6 : Hid (Blk w6 Y 100 (dgl (fun t => if K ≤ t∧t - K < j + 1 then bitN N (t - K) else 0))):=by
     rw [hw6,dgl_ext (f:=(fun t => if K ≤ t∧t - K < j + 1 then bitN N (t - K) else 0)) (g:=fun t => if t = j + m then bitN N j else (fun t => if K ≤ t∧t - K < j then bitN N (t - K) else 0) t) (fun i _ => by
      by_cases e : i = j + m
      ·subst e;rw [if_pos (by omega),if_pos rfl,hKm,Nat.add_sub_cancel]
      ·rw [if_neg e]
       by_cases e2 : K ≤ i∧i - K < j
       ·rw [if_pos (by omega)];show _ = if _ then _ else _;rw [if_pos e2]
       ·rw [if_neg (by omega)];show _ = if _ then _ else _;rw [if_neg e2]),← dgl_set]
     exact Lib.hid (HY.out.set_ (j + m) _)
    have HK6 : Hid (Keep w w6):=Lib.hid (HK.out.grown hgw HK.out.size (fun q hq => by have:=Option.some.inj hq;have:=HG.out;omega))
    rw [← hw6]
    clear hw6 hgw HX HR HY HK c0 c1 f1 d2 d3 hKm
    go_wp2_with fail
    go_roundw
    case rel => exact ⟨j + 1,by omega,by rw [hlo],by go_num,HX6,HY6,HR6,HK6⟩
    case measure => simp [intOf] <;> omega
   ·have HY6 : Hid (Blk wr Y 100 (dgl (fun t => if K ≤ t∧t - K < j + 1 then bitN N (t - K) else 0))):=by
     rw [dgl_ext (f:=(fun t => if K ≤ t∧t - K < j + 1 then bitN N (t - K) else 0)) (g:=(fun t => if K ≤ t∧t - K < j then bitN N (t - K) else 0)) (fun i hi => by
      by_cases e2 : K ≤ i∧i - K < j
      ·rw [if_pos (by omega)];show _ = if _ then _ else _;rw [if_pos e2]
      ·rw [if_neg (by omega)];show _ = if _ then _ else _;rw [if_neg e2])]
     exact HY
    clear HY
    by_cases hmm : m < 256
    ·have d2 : (m : Int) < 256:=by omega
     have d3 : ¬ (j : Int) + (m : Int) < 256:=by have:=HKM.out.1 hmm;omega
     have hjK : 256 ≤ j + K:=by omega
     cases hl : Lo j with
     | true =>
       have hlo : Lo (j + 1) = true:=by rw [HLN.out j (by omega),hl];rfl
       clear hl c0
       go_upto_region 7 with fail
       clear d2
       go_wp2_with fail
       go_roundw
       case rel => exact ⟨j + 1,by omega,by rw [hlo],by go_num,HX,HY6,HR,HK⟩
       case measure => simp [intOf] <;> omega
     | false =>
       by_cases h1 : bitN N j = 1
       ·have h1' : ((bitN N j : Int) == 1) = true:=by rw [h1];rfl
        have hlo : Lo (j + 1) = true:=by rw [HLN.out j (by omega),hl,decide_eq_true h1];rfl
        clear hl h1
        go_upto_region 7 with fail
        clear d2
        go_wp2_with fail
        go_roundw
        case rel => exact ⟨j + 1,by omega,by rw [hlo],by go_num,HX,HY6,HR,HK⟩
        case measure => simp [intOf] <;> omega
       ·have h1' : ((bitN N j : Int) == 1) = false:=by rw [beq_eq_false_iff_ne];omega
        have hlo : Lo (j + 1) = false:=by rw [HLN.out j (by omega),hl,decide_eq_false h1];rfl
        clear hl h1
        go_upto_region 7 with fail
        clear d2
        go_wp2_with fail
        go_roundw
        case rel => exact ⟨j + 1,by omega,by rw [hlo],by go_num,HX,HY6,HR,HK⟩
        case measure => simp [intOf] <;> omega
    ·have d2 : ¬ (m : Int) < 256:=by omega
     have hjK : 256 ≤ j + K:=by omega
     cases hl : Lo j with
     | true =>
       have hlo : Lo (j + 1) = true:=by rw [HLN.out j (by omega),hl];rfl
       clear hl c0
       go_upto_region 7 with fail
       clear d2
       go_wp2_with fail
       go_roundw
       case rel => exact ⟨j + 1,by omega,by rw [hlo],by go_num,HX,HY6,HR,HK⟩
       case measure => simp [intOf] <;> omega
     | false =>
       by_cases h1 : bitN N j = 1
       ·have h1' : ((bitN N j : Int) == 1) = true:=by rw [h1];rfl
        have hlo : Lo (j + 1) = true:=by rw [HLN.out j (by omega),hl,decide_eq_true h1];rfl
        clear hl h1
        go_upto_region 7 with fail
        clear d2
        go_wp2_with fail
        go_roundw
        case rel => exact ⟨j + 1,by omega,by rw [hlo],by go_num,HX,HY6,HR,HK⟩
        case measure => simp [intOf] <;> omega
       ·have h1' : ((bitN N j : Int) == 1) = false:=by rw [beq_eq_false_iff_ne];omega
        have hlo : Lo (j + 1) = false:=by rw [HLN.out j (by omega),hl,decide_eq_false h1];rfl
        clear hl h1
        go_upto_region 7 with fail
        clear d2
        go_wp2_with fail
        go_roundw
        case rel => exact ⟨j + 1,by omega,by rw [hlo],by go_num,HX,HY6,HR,HK⟩
        case measure => simp [intOf] <;> omega
  ·obtain rfl : j = 256:=by omega
   have d1 : ¬ ((256 : Nat) : Int) < 256:=by omega
   have hE : dgl (fun t => if K ≤ t∧t - K < 256 then bitN N (t - K) else 0) = dgl (bitN (N * 2 ^ K)):=dgl_ext fun i h => by
    rw [shl_bit]
    by_cases e : i < K
    ·rw [if_pos e,if_neg (by omega)]
    ·rw [if_neg e,if_pos (by omega)]
   obtain ⟨fs,hfs⟩ : ∃ fs,DgA (bitN (N * 2 ^ K)) fs:=⟨_,DgA.of _⟩
   have NB:=Lib.hid (fun y => rnumb_any (bitN (N * 2 ^ K)) fs y hfs fun i _ => bitN_lt _ i)
   rw [numT_bit,HRK.out] at NB
   have hfi:=hfs.i;have hfn:=hfs.n
   have HYf : Hid (Blk wr Y 100 fs.toList):=by rw [hfs.l,← hE];exact HY
   have hL:=HLE.out
   rw [hL] at *
   clear hfs hE HX HY HKM HLN HA0 hL
   go_wp2_with (first | ((with_reducible refine load_arr Y fs (Eq.trans ?_ rfl) HYf.out _ Tryz.underlying100 rfl hfi ?_);rfl) | (go_at_call 79;refine (NB.out _).mono ?_;rintro e w9 ⟨rfl,k9⟩;have HR9:=Lib.hid (HR.out.keep k9);have HK9:=Lib.hid (keep_trans HK.out k9);clear k9;have y0:=HR9.out.cell 0;have y1:=HR9.out.cell 1;have y2:=HR9.out.cell 2;have y3:=HR9.out.cell 3;have z0:=HR9.out.frozen 0;have z1:=HR9.out.frozen 1;have z2:=HR9.out.frozen 2;have z3:=HR9.out.frozen 3;simp only [uL,List.getElem?_cons_succ,List.getElem?_cons_zero] at y0 y1 y2 y3))
   exact bodyPost_ret (v:=.tuple #[uV R,.bool L]) (results_cell_tmp_row Tryz.results62 _ _ r _ _ _ _ rfl (show Blk _ r 72 (uL R) from (((HR9.out.set_ 0 _).set_ 1 _).set_ 2 _).set_ 3 _) Tryz.underlying72 rfl (by kernel_rfl)) rfl ⟨rfl,HK9.out.grown (grown_set (grown_set (grown_set (grown_set (grown_refl _ _))))) HK9.out.size (fun q hq => by injection hq with hq;have:=HG.out;omega)⟩
end Go.Proofs.YtmbbknjddebhoaaGreatDoor
/- florinref01: Of, Mul. (printed by gen_ne.py) -/
set_option linter.unusedSimpArgs false
set_option linter.unusedVariables false
namespace Go.Proofs.YtmbbknjddebhoaaGreatDoor
open Go.RowKit
attribute [local go_sem ↓] Go.wp_at_zero Go.wp_at_succ
set_option maxRecDepth 100000 in
set_option maxHeartbeats 4000000 in
theorem rof_any (n : Nat) (w : World) (hn : n < 2 ^ 64) : Calls Tryz.prog 60 #[n64 n] w fun e w' => e = .returned (uV n)∧Keep w w':=by
 have e0 : uL n = [n64 n,.int .u64 0,.int .u64 0,.int .u64 0]:=by
  unfold uL
  rw [limb_small hn,limb_small hn,limb_small hn,limb_small hn]
  rfl
 have HE:=Lib.hid e0
 have hv : uV n = .agg (uL n).toArray:=rfl
 rw [hv,e0]
 clear e0 hn hv
 go_enter Tryz.func60,Tryz.ntmps60
 go_wp2_with fail
 exact bodyPost_ret (v:=.agg #[n64 n,.int .u64 0,.int .u64 0,.int .u64 0]) (results_cell_row Tryz.results60 _ _ w.heap.size _ _ _ _ rfl (show Blk _ w.heap.size 72 [n64 n,.int .u64 0,.int .u64 0,.int .u64 0] from Blk.new w 72 [n64 n,.int .u64 0,.int .u64 0,.int .u64 0]) Tryz.underlying72 rfl (by kernel_rfl)) rfl ⟨rfl,keep_new _ _⟩
theorem mul_more {P X : Nat} : decide (2 ^ 256 ≤ P + X) = (decide (2 ^ 256 ≤ P) || decide (2 ^ 256 ≤ X) || decide (2 ^ 256 ≤ P % 2 ^ 256 + X % 2 ^ 256)):=by
 by_cases h1 : 2 ^ 256 ≤ P
 ·rw [decide_eq_true h1,Bool.true_or,Bool.true_or];exact decide_eq_true (by omega)
 ·by_cases h2 : 2 ^ 256 ≤ X
  ·rw [decide_eq_true h2,Bool.or_true,Bool.true_or];exact decide_eq_true (by omega)
  ·rw [decide_eq_false h1,decide_eq_false h2,Bool.false_or,Bool.false_or,Nat.mod_eq_of_lt (by omega),Nat.mod_eq_of_lt (by omega)]
theorem bit_val (k j : Nat) (hk : k < 2 ^ 64) : bits BinOp.and IntKind.u64 ((k : Int) / (2 : Int) ^ j) 1 = ((bitN k j : Nat) : Int):=by
 have e : (k : Int) / (2 : Int) ^ j = ((k / 2 ^ j : Nat) : Int):=by
  rw [Int.natCast_ediv,Int.natCast_pow];rfl
 rw [e,and1N _ (Nat.lt_of_le_of_lt (Nat.div_le_self _ _) hk)]
 rfl
set_option maxRecDepth 100000 in
set_option maxHeartbeats 4000000 in
theorem rmul_any (N k : Nat) (w : World) (hN : N < 2 ^ 256) (hk : k < 2 ^ 64) : Calls Tryz.prog 84 #[uV N,n64 k] w fun e w' => e = .returned (.tuple #[uV (N * k % 2 ^ 256),.bool (decide (2 ^ 256 ≤ N * k))])∧Keep w w':=by
 have SH : Hid (∀ (j : Nat) (y : World),j < 64 → Calls Tryz.prog 62 #[uV N,.int .i64 (j : Int)] y fun e w' => e = .returned (.tuple #[uV (N * 2 ^ j % 2 ^ 256),.bool (decide (2 ^ 256 ≤ N * 2 ^ j))])∧Keep y w'):=Lib.hid fun j y hj => by
  have q:=rshl_any N (j : Int) y hN (by omega)
  rwa [Int.toNat_natCast] at q
 have AD : Hid (∀ (P X : Nat) (y : World),Calls Tryz.prog 85 #[uV (P % 2 ^ 256),uV (X % 2 ^ 256)] y fun e w' => e = .returned (.tuple #[uV ((P + X) % 2 ^ 256),.bool (decide (2 ^ 256 ≤ P % 2 ^ 256 + X % 2 ^ 256))])∧Keep y w'):=Lib.hid fun P X y => by
  have q:=radd_any (P % 2 ^ 256) (X % 2 ^ 256) y (Nat.mod_lt _ (Nat.two_pow_pos _)) (Nat.mod_lt _ (Nat.two_pow_pos _))
  rwa [← Nat.add_mod] at q
 have HB0 : Hid (∀ j,bits BinOp.and IntKind.u64 ((k : Int) / (2 : Int) ^ j) 1 = ((bitN k j : Nat) : Int)):=Lib.hid fun j => bit_val k j hk
 have HKE : Hid (k % 2 ^ 64 = k):=Lib.hid (Nat.mod_eq_of_lt hk)
 obtain ⟨Pj,hPj⟩ : ∃ Pj : Nat → Nat,Pj = fun j => N * (k % 2 ^ j):=⟨_,rfl⟩
 have HP0 : Hid (Pj 0 = 0):=Lib.hid (by rw [hPj];show N * (k % 2 ^ 0) = 0;rw [Nat.pow_zero,Nat.mod_one,Nat.mul_zero])
 have HPS : Hid (∀ j,Pj (j + 1) = if bitN k j = 1 then Pj j + N * 2 ^ j else Pj j):=Lib.hid fun j => by
  have hb:=bitN_lt k j
  rw [hPj]
  show N * (k % 2 ^ (j + 1)) = if _ then N * (k % 2 ^ j) + N * 2 ^ j else N * (k % 2 ^ j)
  rw [mod_succ]
  by_cases h : bitN k j = 1
  ·rw [if_pos h,h,Nat.one_mul,Nat.mul_add]
  ·rw [if_neg h,show bitN k j = 0 by omega,Nat.zero_mul,Nat.add_zero]
 have HP64 : Hid (Pj 64 = N * k):=Lib.hid (by rw [hPj];show N * (k % 2 ^ 64) = _;rw [HKE.out])
 obtain ⟨T,hT⟩ : ∃ T,N * k = T:=⟨_,rfl⟩
 rw [hT] at HP64 ⊢
 obtain ⟨RM,hRM⟩ : ∃ R,T % 2 ^ 256 = R:=⟨_,rfl⟩
 obtain ⟨RL,hRL⟩ : ∃ L,decide (2 ^ 256 ≤ T) = L:=⟨_,rfl⟩
 have HRM:=Lib.hid hRM;have HRL:=Lib.hid hRL
 rw [hRM,hRL]
 clear hRM hRL
 clear hN hk hPj HKE hT
 go_enter Tryz.func84,Tryz.ntmps84
 go_upto_region 2 with fail
 obtain ⟨w1,hw1⟩ : ∃ w1,w1 = ((w.alloc (.cells #[n64 (limb N 0),n64 (limb N 1),n64 (limb N 2),n64 (limb N 3)] 72)).alloc (.cells #[.int .u64 0,.int .u64 0,.int .u64 0,.int .u64 0] 72)).alloc (.cells #[.int .u64 0,.int .u64 0,.int .u64 0,.int .u64 0] 72):=⟨_,rfl⟩
 have HA1 : Hid (Blk w1 w.heap.size 72 (uL N)):=by rw [hw1];exact Lib.hid (((Blk.new w 72 (uL N)).alloc _).alloc _)
 have HR1 : Hid (Blk w1 (w.heap.size + 1) 72 (uL 0)):=by
  rw [hw1]
  have q:=Blk.new (w.alloc (.cells #[n64 (limb N 0),n64 (limb N 1),n64 (limb N 2),n64 (limb N 3)] 72)) 72 (uL 0)
  rw [World.size_alloc] at q
  exact Lib.hid (q.alloc _)
 have HS1 : Hid (Blk w1 (w.heap.size + 2) 72 (uL 0)):=by
  rw [hw1]
  have q:=Blk.new ((w.alloc (.cells #[n64 (limb N 0),n64 (limb N 1),n64 (limb N 2),n64 (limb N 3)] 72)).alloc (.cells #[.int .u64 0,.int .u64 0,.int .u64 0,.int .u64 0] 72)) 72 (uL 0)
  rw [World.size_alloc,World.size_alloc] at q
  exact Lib.hid q
 have HK1 : Hid (Keep w w1):=by rw [hw1];exact Lib.hid (keep_trans (keep_trans (keep_new _ _) (keep_new _ _)) (keep_new _ _))
 rw [← hw1]
 clear hw1
 obtain ⟨g,hg⟩ : ∃ g,w.heap.size = g:=⟨_,rfl⟩
 have HG:=Lib.hid hg
 rw [hg] at HA1 HR1 HS1
 obtain ⟨r,hr⟩ : ∃ r,g + 1 = r:=⟨_,rfl⟩
 obtain ⟨S,hS⟩ : ∃ S,r + 1 = S:=⟨_,rfl⟩
 rw [hr] at HR1;rw [show g + 2 = S by omega] at HS1
 simp only [hg,hr,hS]
 have hgr : g < r:=by omega
 have hrS : r < S:=by omega
 clear hg hr hS
 have L0 : Hid (decide (2 ^ 256 ≤ Pj 0) = false):=Lib.hid (decide_eq_false (by rw [HP0.out];exact Nat.not_le.2 (Nat.two_pow_pos _)))
 have HS0 : Hid (Blk w1 S 72 (uL (Pj 0 % 2 ^ 256))):=by rw [HP0.out];exact HS1
 clear HS1 HP0
 go_wp2_with fail
 go_loopw [7,8] (fun vl x wr => ∃ (j : Nat) (lo : Bool),j ≤ 64∧vl = .bool lo∧x = .int .i64 j∧Hid (decide (2 ^ 256 ≤ Pj j) = lo)∧Hid (Blk wr g 72 (uL N))∧Hid (Blk wr r 72 (uL 0))∧Hid (Blk wr S 72 (uL (Pj j % 2 ^ 256)))∧Hid (Keep w wr)) (fun _ x _ => 64 - (intOf x).toNat)
 case atStart => exact ⟨0,false,Nat.zero_le _,rfl,rfl,L0,HA1,HR1,HS0,HK1⟩
 case round =>
  obtain ⟨j,lo,hj,rfl,rfl,HL,HA,HR,HS,HK⟩:=hrel
  clear HA1 HR1 HS0 HK1 L0
  by_cases hlt : j < 64
  ·have d1 : (j : Int) < 64:=by omega
   have hbv:=HB0.out j
   have HPJ:=Lib.hid (HPS.out j)
   by_cases hb : bitN k j = 1
   ·have h1 : (((bitN k j : Nat) : Int) == 1) = true:=by rw [hb];rfl
    rw [if_pos hb] at HPJ
    have SHj:=Lib.hid fun y => SH.out j y hlt
    have HMM:=Lib.hid (mul_more (P:=Pj j) (X:=N * 2 ^ j))
    clear hb HP64
    obtain ⟨P,hP⟩ : ∃ P,Pj j = P:=⟨_,rfl⟩
    obtain ⟨XX,hXX⟩ : ∃ X,N * 2 ^ j = X:=⟨_,rfl⟩
    rw [hP] at HS HL HPJ HMM
    rw [hXX] at HPJ SHj HMM
    clear hP hXX
    have ADX:=Lib.hid fun y => AD.out P XX y
    rw [← HPJ.out] at ADX HMM
    obtain ⟨ov,hov⟩ : ∃ o,decide (2 ^ 256 ≤ XX) = o:=⟨_,rfl⟩
    obtain ⟨ca,hca⟩ : ∃ o,decide (2 ^ 256 ≤ P % 2 ^ 256 + XX % 2 ^ 256) = o:=⟨_,rfl⟩
    rw [hov] at SHj HMM
    rw [hca] at ADX HMM
    rw [HL.out] at HMM
    clear hov hca HPJ HL
    obtain ⟨M1,hM1⟩ : ∃ M,XX % 2 ^ 256 = M:=⟨_,rfl⟩
    obtain ⟨M2,hM2⟩ : ∃ M,P % 2 ^ 256 = M:=⟨_,rfl⟩
    obtain ⟨M3,hM3⟩ : ∃ M,Pj (j + 1) % 2 ^ 256 = M:=⟨_,rfl⟩
    have HM3:=Lib.hid hM3
    rw [hM1] at SHj ADX
    rw [hM2] at HS ADX
    rw [hM3] at ADX
    clear hM1 hM2 hM3 SH AD HPS HB0
    have a0:=HA.out.cell 0;have a1:=HA.out.cell 1;have a2:=HA.out.cell 2;have a3:=HA.out.cell 3
    simp only [uL,List.getElem?_cons_succ,List.getElem?_cons_zero] at a0 a1 a2 a3
    go_upto_region 8 with (go_at_call 62;refine (SHj.out _).mono ?_;rintro e w2 ⟨rfl,k2⟩;have HA2:=Lib.hid (HA.out.keep k2);have HR2:=Lib.hid (HR.out.keep k2);have HS2:=Lib.hid (HS.out.keep k2);have HK2:=Lib.hid (keep_trans HK.out k2);clear k2 a0 a1 a2 a3)
    obtain ⟨w3,hw3⟩ : ∃ x,x = w2.alloc (.cells #[n64 (limb M1 0),n64 (limb M1 1),n64 (limb M1 2),n64 (limb M1 3)] 72):=⟨_,rfl⟩
    have HX3 : Hid (Blk w3 w2.heap.size 72 (uL M1)):=by rw [hw3];exact Lib.hid (Blk.new w2 72 (uL M1))
    have k3 : Keep w2 w3:=by rw [hw3];exact keep_new _ _
    have HA3:=Lib.hid (HA2.out.keep k3);have HR3:=Lib.hid (HR2.out.keep k3);have HS3:=Lib.hid (HS2.out.keep k3);have HK3:=Lib.hid (keep_trans HK2.out k3)
    rw [← hw3]
    clear hw3 k3 HA2 HR2 HS2 HK2 HA HR HS HK
    obtain ⟨X,hX⟩ : ∃ X,w2.heap.size = X:=⟨_,rfl⟩
    rw [hX] at HX3
    simp only [hX]
    clear hX
    have a0:=HS3.out.cell 0;have a1:=HS3.out.cell 1;have a2:=HS3.out.cell 2;have a3:=HS3.out.cell 3
    have b0:=HX3.out.cell 0;have b1:=HX3.out.cell 1;have b2:=HX3.out.cell 2;have b3:=HX3.out.cell 3
    simp only [uL,List.getElem?_cons_succ,List.getElem?_cons_zero] at a0 a1 a2 a3 b0 b1 b2 b3
    go_upto_region 9 with (go_at_call 85;refine (ADX.out _).mono ?_;rintro e w4 ⟨rfl,k4⟩;have HA4:=Lib.hid (HA3.out.keep k4);have HR4:=Lib.hid (HR3.out.keep k4);have HS4:=Lib.hid (HS3.out.keep k4);have HK4:=Lib.hid (keep_trans HK3.out k4);clear k4 a0 a1 a2 a3 b0 b1 b2 b3)
    obtain ⟨w5,hw5⟩ : ∃ x,x = w4.alloc (.cells #[n64 (limb M3 0),n64 (limb M3 1),n64 (limb M3 2),n64 (limb M3 3)] 72):=⟨_,rfl⟩
    have HY5 : Hid (Blk w5 w4.heap.size 72 (uL M3)):=by rw [hw5];exact Lib.hid (Blk.new w4 72 (uL M3))
    have k5 : Keep w4 w5:=by rw [hw5];exact keep_new _ _
    have HA5:=Lib.hid (HA4.out.keep k5);have HR5:=Lib.hid (HR4.out.keep k5);have HS5:=Lib.hid (HS4.out.keep k5);have HK5:=Lib.hid (keep_trans HK4.out k5)
    have hSY : S < w4.heap.size:=HS4.out.lt
    rw [← hw5]
    clear hw5 k5 HA4 HR4 HS4 HK4 HX3 HA3 HR3 HS3 HK3
    obtain ⟨Y,hY⟩ : ∃ Y,w4.heap.size = Y:=⟨_,rfl⟩
    rw [hY] at HY5 hSY
    simp only [hY]
    clear hY
    have a0:=HY5.out.cell 0;have a1:=HY5.out.cell 1;have a2:=HY5.out.cell 2;have a3:=HY5.out.cell 3
    have b0:=HS5.out.cell 0;have b1:=HS5.out.cell 1;have b2:=HS5.out.cell 2;have b3:=HS5.out.cell 3
    have f0:=HS5.out.frozen 0;have f1:=HS5.out.frozen 1;have f2:=HS5.out.frozen 2;have f3:=HS5.out.frozen 3
    simp only [uL,List.getElem?_cons_succ,List.getElem?_cons_zero] at a0 a1 a2 a3 b0 b1 b2 b3
    go_upto_region 10 with fail
    clear a0 a1 a2 a3 b0 b1 b2 b3 f0 f1 f2 f3
    obtain ⟨w6,hw6⟩ : ∃ x,x = (((w5.setCell ⟨S,0,none⟩ (n64 (limb M3 0))).setCell ⟨S,1,none⟩ (n64 (limb M3 1))).setCell ⟨S,2,none⟩ (n64 (limb M3 2))).setCell ⟨S,3,none⟩ (n64 (limb M3 3)):=⟨_,rfl⟩
    have hgw : w5.grownBy w6 (some S):=by rw [hw6];exact grown_set (grown_set (grown_set (grown_set (grown_refl _ _))))
    have HS6 : Hid (Blk w6 S 72 (uL M3)):=by rw [hw6];exact Lib.hid ((((HS5.out.set_ 0 _).set_ 1 _).set_ 2 _).set_ 3 _)
    have HA6:=Lib.hid (HA5.out.grown hgw (fun q => by have:=Option.some.inj q;omega));have HR6:=Lib.hid (HR5.out.grown hgw (fun q => by have:=Option.some.inj q;omega))
    have HK6 : Hid (Keep w w6):=Lib.hid (HK5.out.grown hgw HK5.out.size (fun q hq => by have:=Option.some.inj hq;have:=HG.out;omega))
    rw [← hw6]
    clear hw6 hgw HA5 HR5 HS5 HK5 HY5
    rw [← HM3.out] at HS6
    clear HM3
    cases lo <;> cases ov <;> cases ca <;> (
     go_wp2_with fail
     go_roundw
     case rel => exact ⟨j + 1,_,by omega,rfl,by go_num,HMM,HA6,HR6,HS6,HK6⟩
     case measure => simp [intOf] <;> omega)
   ·have h1 : (((bitN k j : Nat) : Int) == 1) = false:=by rw [beq_eq_false_iff_ne];omega
    rw [if_neg hb] at HPJ
    rw [← HPJ.out] at HL HS
    clear hb HPJ
    go_wp2_with fail
    go_roundw
    case rel => exact ⟨j + 1,lo,by omega,rfl,by go_num,HL,HA,HR,HS,HK⟩
    case measure => simp [intOf] <;> omega
  ·obtain rfl : j = 64:=by omega
   have d1 : ¬ ((64 : Nat) : Int) < 64:=by omega
   rw [HP64.out] at HS HL
   rw [HRM.out] at HS
   have hlo : RL = lo:=by rw [← HRL.out,HL.out]
   subst hlo
   clear HL HP64 HRM HRL
   have a0:=HS.out.cell 0;have a1:=HS.out.cell 1;have a2:=HS.out.cell 2;have a3:=HS.out.cell 3
   have y0:=HR.out.cell 0;have y1:=HR.out.cell 1;have y2:=HR.out.cell 2;have y3:=HR.out.cell 3
   have z0:=HR.out.frozen 0;have z1:=HR.out.frozen 1;have z2:=HR.out.frozen 2;have z3:=HR.out.frozen 3
   simp only [uL,List.getElem?_cons_succ,List.getElem?_cons_zero] at a0 a1 a2 a3 y0 y1 y2 y3
   go_wp2_with fail
   exact bodyPost_ret (v:=.tuple #[uV RM,.bool RL]) (results_cell_tmp_row Tryz.results84 _ _ r _ _ _ _ rfl (show Blk _ r 72 (uL RM) from (((HR.out.set_ 0 _).set_ 1 _).set_ 2 _).set_ 3 _) Tryz.underlying72 rfl (by kernel_rfl)) rfl ⟨rfl,HK.out.grown (grown_set (grown_set (grown_set (grown_set (grown_refl _ _))))) HK.out.size (fun q hq => by injection hq with hq;have:=HG.out;omega)⟩
end Go.Proofs.YtmbbknjddebhoaaGreatDoor
/- florinref01: FromBytes. (printed by gen_ne.py) -/
set_option linter.unusedSimpArgs false
set_option linter.unusedVariables false
namespace Go.Proofs.YtmbbknjddebhoaaGreatDoor
open Go.RowKit
attribute [local go_sem ↓] Go.wp_at_zero Go.wp_at_succ
set_option maxRecDepth 100000 in
set_option maxHeartbeats 4000000 in
theorem limb_or (a b i : Nat) : limb (a ||| b) i = limb a i ||| limb b i:=by
 apply Nat.eq_of_testBit_eq
 intro j
 rw [Nat.testBit_or,limb_bit,limb_bit,limb_bit,Nat.testBit_or]
 cases decide (j < 64) <;> simp
theorem uL_low {X x e : Nat} (hX : X % 2 ^ e = 0) (hx : x < 2 ^ e) (he : e ≤ 8) : (uL X).set 0 (n64 (limb X 0 ||| x)) = uL (X + x):=by
 have h1 : 2 ^ e ≤ 2 ^ 8:=Nat.pow_le_pow_right (by decide) he
 have hx64 : x < 2 ^ 64:=Nat.lt_of_lt_of_le hx (Nat.le_trans h1 (by decide))
 have e1 : X + x = X ||| x:=by
  have q:=Nat.two_pow_add_eq_or_of_lt hx (X / 2 ^ e)
  rwa [Nat.mul_div_cancel' (Nat.dvd_of_mod_eq_zero hX)] at q
 unfold uL
 rw [e1,limb_or,limb_or,limb_or,limb_or,limb_small hx64,limb_small hx64,limb_small hx64,limb_small hx64]
 simp
theorem low_val (L x : Nat) (hL : L < 2 ^ 64) (hx : x < 2 ^ 64) : bits BinOp.or IntKind.u64 (L : Int) (x : Int) = ((L ||| x : Nat) : Int):=bits_or_u64_nat _ _ hL hx
theorem le_more {b : List UInt8} {i : Nat} (h : i < b.length) : leN (b.take (i + 1)).reverse = leN (b.take i).reverse * 2 ^ 8 + b[i].toNat:=by
 rw [List.take_succ_eq_append_getElem h,List.reverse_append,List.reverse_singleton,List.singleton_append,leN]
 omega
set_option maxRecDepth 100000 in
set_option maxHeartbeats 4000000 in
theorem rfromb_any (A : Option Addr) (b : List UInt8) (c : Nat) (w : World) (hl : b.length ≤ 32) (hr : Rd w A (b.map u8v)) : Calls Tryz.prog 68 #[.slice A b.length c] w fun e w' => e = .returned (.tuple #[uV (leN b.reverse),.int .i64 0])∧Keep w w':=by
 have SH : Hid (∀ (N : Nat) (y : World),N * 2 ^ 8 < 2 ^ 256 → Calls Tryz.prog 62 #[uV N,.int .i64 8] y fun e w' => e = .returned (.tuple #[uV (N * 2 ^ 8),.bool (decide (2 ^ 256 ≤ N * 2 ^ 8))])∧Keep y w'):=Lib.hid fun N y hN => by
  have q:=rshl_any N 8 y (Nat.lt_of_le_of_lt (Nat.le_mul_of_pos_right _ (by decide)) hN) (by omega)
  rw [show (8 : Int).toNat = 8 from rfl,Nat.mod_eq_of_lt hN] at q
  exact q
 obtain ⟨Tk,hTk⟩ : ∃ Tk : Nat → Nat,Tk = fun i => leN (b.take i).reverse:=⟨_,rfl⟩
 have HT0 : Hid (Tk 0 = 0):=Lib.hid (by rw [hTk];rfl)
 have HTS : Hid (∀ i (h : i < b.length),Tk (i + 1) = Tk i * 2 ^ 8 + b[i].toNat):=Lib.hid fun i h => by rw [hTk];exact le_more h
 have HTL : Hid (∀ i,i < b.length → Tk i * 2 ^ 8 < 2 ^ 256):=Lib.hid fun i h => by
  have h1:=leN_lt (b.take i).reverse
  rw [List.length_reverse,List.length_take] at h1
  have h2 : 2 ^ (8 * min i b.length) ≤ 2 ^ 248:=Nat.pow_le_pow_right (by decide) (by omega)
  have h3 : Tk i < 2 ^ 248:=by rw [hTk];exact Nat.lt_of_lt_of_le h1 h2
  omega
 have HTE : Hid (Tk b.length = leN b.reverse):=Lib.hid (by rw [hTk];show leN (b.take b.length).reverse = _;rw [List.take_length])
 generalize leN b.reverse = R at *
 have HRD:=Lib.hid hr
 have HLL : Hid (b.length ≤ 32):=Lib.hid hl
 have d0 : ¬ (32 : Int) < (b.length : Int):=by omega
 clear hr hl hTk
 go_enter Tryz.func68,Tryz.ntmps68
 go_upto_region 4 with fail
 obtain ⟨w1,hw1⟩ : ∃ w1,w1 = (w.alloc (.cells #[.int .u64 0,.int .u64 0,.int .u64 0,.int .u64 0] 72)).alloc (.cells #[.int .u64 0,.int .u64 0,.int .u64 0,.int .u64 0] 72):=⟨_,rfl⟩
 have HR1 : Hid (Blk w1 w.heap.size 72 (uL 0)):=by rw [hw1];exact Lib.hid ((Blk.new w 72 (uL 0)).alloc _)
 have HS1 : Hid (Blk w1 (w.heap.size + 1) 72 (uL (Tk 0))):=by
  rw [hw1,HT0.out]
  have q:=Blk.new (w.alloc (.cells #[.int .u64 0,.int .u64 0,.int .u64 0,.int .u64 0] 72)) 72 (uL 0)
  rw [World.size_alloc] at q
  exact Lib.hid q
 have HK1 : Hid (Keep w w1):=by rw [hw1];exact Lib.hid (keep_trans (keep_new _ _) (keep_new _ _))
 rw [← hw1]
 clear hw1 HT0
 obtain ⟨r,hr⟩ : ∃ r,w.heap.size = r:=⟨_,rfl⟩
 have HG:=Lib.hid hr
 rw [hr] at HR1 HS1
 obtain ⟨S,hS⟩ : ∃ S,r + 1 = S:=⟨_,rfl⟩
 rw [hS] at HS1
 simp only [hr,hS]
 have hrS : r < S:=by omega
 clear hr hS
 go_wp2_with fail
 go_loopw [5] (fun x wr => ∃ j : Nat,j ≤ b.length∧x = .int .i64 j∧Hid (Blk wr r 72 (uL 0))∧Hid (Blk wr S 72 (uL (Tk j)))∧Hid (Keep w wr)) (fun x _ => b.length - (intOf x).toNat)
 case atStart => exact ⟨0,Nat.zero_le _,rfl,HR1,HS1,HK1⟩
 case round =>
  obtain ⟨j,hj,rfl,HR,HS,HK⟩:=hrel
  clear HR1 HS1 HK1
  by_cases hlt : j < b.length
  ·have d1 : (j : Int) < (b.length : Int):=by omega
   have HTJ:=Lib.hid (HTS.out j hlt)
   have hX0 : Tk j * 2 ^ 8 % 2 ^ 8 = 0:=Nat.mul_mod_left _ _
   have SHj:=Lib.hid fun y => SH.out (Tk j) y (HTL.out j hlt)
   obtain ⟨gb,off,hA',-,FF⟩:=(HRD.out.keep HK.out).at (k:=j) (by rw [List.length_map];exact hlt)
   have cb : wr.cell? ⟨gb,off + j,none⟩ = some (u8v b[j]):=by rw [FF j (by rw [List.length_map];exact hlt),List.getElem_map]
   have hx:=b[j].toNat_lt
   subst hA'
   clear FF
   obtain ⟨x,hxe⟩ : ∃ x,b[j] = x:=⟨_,rfl⟩
   rw [hxe] at cb HTJ hx
   obtain ⟨X,hXe⟩ : ∃ X,Tk j * 2 ^ 8 = X:=⟨_,rfl⟩
   rw [hXe] at HTJ hX0 SHj
   obtain ⟨N,hNe⟩ : ∃ N,Tk j = N:=⟨_,rfl⟩
   rw [hNe] at HS SHj
   obtain ⟨ov,hov⟩ : ∃ o,decide (2 ^ 256 ≤ X) = o:=⟨_,rfl⟩
   rw [hov] at SHj
   have HX0:=Lib.hid hX0
   clear hxe hXe hNe hov hX0
   have a0:=HS.out.cell 0;have a1:=HS.out.cell 1;have a2:=HS.out.cell 2;have a3:=HS.out.cell 3
   simp only [uL,List.getElem?_cons_succ,List.getElem?_cons_zero] at a0 a1 a2 a3
   go_upto_region 8 with (go_at_call 62;refine (SHj.out _).mono ?_;rintro e w2 ⟨rfl,k2⟩;have HR2:=Lib.hid (HR.out.keep k2);have HS2:=Lib.hid (HS.out.keep k2);have HK2:=Lib.hid (keep_trans HK.out k2);have CB2:=Lib.hid (keep_cell k2 cb);clear k2 a0 a1 a2 a3 cb)
   obtain ⟨w3,hw3⟩ : ∃ x,x = w2.alloc (.cells #[n64 (limb X 0),n64 (limb X 1),n64 (limb X 2),n64 (limb X 3)] 72):=⟨_,rfl⟩
   have HX3 : Hid (Blk w3 w2.heap.size 72 (uL X)):=by rw [hw3];exact Lib.hid (Blk.new w2 72 (uL X))
   have k3 : Keep w2 w3:=by rw [hw3];exact keep_new _ _
   have HR3:=Lib.hid (HR2.out.keep k3);have HS3:=Lib.hid (HS2.out.keep k3);have HK3:=Lib.hid (keep_trans HK2.out k3);have CB3:=Lib.hid (keep_cell k3 CB2.out)
   have hSX : S < w2.heap.size:=HS2.out.lt
   rw [← hw3]
   clear hw3 k3 HR2 HS2 HK2 HR HS HK CB2
   obtain ⟨T,hT⟩ : ∃ X,w2.heap.size = X:=⟨_,rfl⟩
   rw [hT] at HX3 hSX
   simp only [hT]
   clear hT
   refine wp_region_tree (.take [0,1,2,3,4,5,6,7,8] .done) [9] (by kernel_rfl) (by kernel_rfl) (fun wa ka => ?_)
   have HXa:=Lib.hid (HX3.out.keep ka);have HRa:=Lib.hid (HR3.out.keep ka);have HSa:=Lib.hid (HS3.out.keep ka);have HKa:=Lib.hid (keep_trans HK3.out ka)
   have c0:=HXa.out.cell 0
   have f0:=HXa.out.frozen 0
   have c1:=keep_cell ka CB3.out
   simp only [uL,List.getElem?_cons_zero] at c0
   have a0:=aft_cell c0;have a1:=aft_cell c1
   clear ka HX3 HR3 HS3 HK3 CB3
   refine mt_take wa (Below.refl _ _) ?_
   simp only [pick_cons,pick_nil,nth_zero,nth_succ]
   repeat (go_big_quiet_step (fail))
   refine wpQuiet_nil (mt_end ?_)
   go_upto_region 9 with fail
   have hv:=low_val (limb X 0) x.toNat (limb_lt _ _) (by omega)
   rw [hv]
   obtain ⟨w4,hw4⟩ : ∃ x',x' = wa.setCell ⟨T,0,none⟩ (n64 (limb X 0 ||| x.toNat)):=⟨_,rfl⟩
   have hgw : wa.grownBy w4 (some T):=by rw [hw4];exact grown_set (grown_refl _ _)
   have HX4 : Hid (Blk w4 T 72 (uL (X + x.toNat))):=by rw [hw4,← uL_low (e:=8) HX0.out hx (by omega)];exact Lib.hid (HXa.out.set_ 0 _)
   have HR4:=Lib.hid (HRa.out.grown hgw (fun q => by have:=Option.some.inj q;omega));have HS4:=Lib.hid (HSa.out.grown hgw (fun q => by have:=Option.some.inj q;omega))
   have HK4 : Hid (Keep w w4):=Lib.hid (HKa.out.grown hgw HKa.out.size (fun q hq => by have:=Option.some.inj hq;have:=HG.out;omega))
   rw [← hw4]
   rw [← HTJ.out] at HX4
   clear hw4 hgw hv c0 f0 c1 HXa HRa HSa HKa HX0 HTJ
   obtain ⟨V,hV⟩ : ∃ V,Tk (j + 1) = V:=⟨_,rfl⟩
   have HV:=Lib.hid hV
   rw [hV] at HX4
   clear hV
   have a0:=HX4.out.cell 0;have a1:=HX4.out.cell 1;have a2:=HX4.out.cell 2;have a3:=HX4.out.cell 3
   have b0:=HS4.out.cell 0;have b1:=HS4.out.cell 1;have b2:=HS4.out.cell 2;have b3:=HS4.out.cell 3
   have f0:=HS4.out.frozen 0;have f1:=HS4.out.frozen 1;have f2:=HS4.out.frozen 2;have f3:=HS4.out.frozen 3
   simp only [uL,List.getElem?_cons_succ,List.getElem?_cons_zero] at a0 a1 a2 a3 b0 b1 b2 b3
   go_upto_region 6 with fail
   clear a0 a1 a2 a3 b0 b1 b2 b3 f0 f1 f2 f3
   obtain ⟨w6,hw6⟩ : ∃ x,x = (((w4.setCell ⟨S,0,none⟩ (n64 (limb V 0))).setCell ⟨S,1,none⟩ (n64 (limb V 1))).setCell ⟨S,2,none⟩ (n64 (limb V 2))).setCell ⟨S,3,none⟩ (n64 (limb V 3)):=⟨_,rfl⟩
   have hgw : w4.grownBy w6 (some S):=by rw [hw6];exact grown_set (grown_set (grown_set (grown_set (grown_refl _ _))))
   have HS6 : Hid (Blk w6 S 72 (uL (Tk (j + 1)))):=by rw [hw6,HV.out];exact Lib.hid ((((HS4.out.set_ 0 _).set_ 1 _).set_ 2 _).set_ 3 _)
   have HR6:=Lib.hid (HR4.out.grown hgw (fun q => by have:=Option.some.inj q;omega))
   have HK6 : Hid (Keep w w6):=Lib.hid (HK4.out.grown hgw HK4.out.size (fun q hq => by have:=Option.some.inj hq;have:=HG.out;omega))
   rw [← hw6]
   clear hw6 hgw HX4 HR4 HS4 HK4 HV
   go_wp2_with fail
   go_roundw
   case rel => exact ⟨j + 1,by omega,by go_num,HR6,HS6,HK6⟩
   case measure => simp [intOf] <;> omega
  ·obtain rfl : j = b.length:=by omega
   have d1 : ¬ (b.length : Int) < (b.length : Int):=by omega
   rw [HTE.out] at HS
   have a0:=HS.out.cell 0;have a1:=HS.out.cell 1;have a2:=HS.out.cell 2;have a3:=HS.out.cell 3
   have y0:=HR.out.cell 0;have y1:=HR.out.cell 1;have y2:=HR.out.cell 2;have y3:=HR.out.cell 3
   have z0:=HR.out.frozen 0;have z1:=HR.out.frozen 1;have z2:=HR.out.frozen 2;have z3:=HR.out.frozen 3
   simp only [uL,List.getElem?_cons_succ,List.getElem?_cons_zero] at a0 a1 a2 a3 y0 y1 y2 y3
   go_wp2_with fail
   exact bodyPost_ret (v:=.tuple #[uV R,.int .i64 0]) (results_cell_tmp_row Tryz.results68 _ _ r _ _ _ _ rfl (show Blk _ r 72 (uL R) from (((HR.out.set_ 0 _).set_ 1 _).set_ 2 _).set_ 3 _) Tryz.underlying72 rfl (by kernel_rfl)) rfl ⟨rfl,HK.out.grown (grown_set (grown_set (grown_set (grown_set (grown_refl _ _))))) HK.out.size (fun q hq => by injection hq with hq;have:=HG.out;omega)⟩
end Go.Proofs.YtmbbknjddebhoaaGreatDoor
/- florinref03: Number. (printed by gen_no.py) -/
set_option linter.unusedSimpArgs false
set_option linter.unusedVariables false
namespace Go.Proofs.YtmbbknjddebhoaaGreatDoor
open Go.RowKit
attribute [local go_sem ↓] Go.wp_at_zero Go.wp_at_succ
set_option maxRecDepth 100000 in
set_option maxHeartbeats 4000000 in
theorem rhnum_any (l : List UInt8) (cs : Array Value) (w : World) (hl : l.length = 32) (h : HashA l cs) : Calls Tryz.prog 47 #[.agg cs] w fun e w' => e = .returned (uV (leN l))∧Keep w w':=by
 have hcn:=h.n;have hcz:=h.z;have hci:=h.i
 have HC:=Lib.hid h
 have HL:=Lib.hid hl
 have FB : Hid (∀ (A : Option Addr) (c : Nat) (y : World),Rd y A (l.reverse.map u8v) → Calls Tryz.prog 68 #[.slice A l.reverse.length c] y fun e w' => e = .returned (.tuple #[uV (leN l),.int .i64 0])∧Keep y w'):=Lib.hid fun A c y hy => by
  have q:=rfromb_any A l.reverse c y (by rw [List.length_reverse,HL.out];omega) hy
  rwa [List.reverse_reverse] at q
 clear h hl
 generalize leN l = R at *
 go_enter Tryz.func47,Tryz.ntmps47
 go_upto_region 1 with fail
 obtain ⟨w1,hw1⟩ : ∃ w1,w1 = (w.alloc (.cells cs 28)).alloc (.cells #[.int .u64 0,.int .u64 0,.int .u64 0,.int .u64 0] 72):=⟨_,rfl⟩
 have HA1 : Hid (Blk w1 w.heap.size 28 (l.map u8v)):=by rw [hw1,← HC.out.l];exact Lib.hid ((Blk.new w 28 cs.toList).alloc _)
 have HR1 : Hid (Blk w1 (w.heap.size + 1) 72 (uL 0)):=by
  rw [hw1]
  have q:=Blk.new (w.alloc (.cells cs 28)) 72 (uL 0)
  rw [World.size_alloc] at q
  exact Lib.hid q
 have HK1 : Hid (Keep w w1):=by rw [hw1];exact Lib.hid (keep_trans (keep_new _ _) (keep_new _ _))
 rw [← hw1]
 clear hw1
 obtain ⟨g,hg⟩ : ∃ g,w.heap.size = g:=⟨_,rfl⟩
 have HG:=Lib.hid hg
 rw [hg] at HA1 HR1
 obtain ⟨r,hr⟩ : ∃ r,g + 1 = r:=⟨_,rfl⟩
 rw [hr] at HR1
 simp only [hg,hr]
 have hgr : g < r:=by omega
 clear hg hr
 have Z0 : Hid (([] : List UInt8) = (l.drop 32).reverse):=Lib.hid (by rw [List.drop_eq_nil_of_le (by rw [HL.out];omega)];rfl)
 have B0 : Hid (Bf w1 w1 none 0 []):=Lib.hid (Bf.nil (Below.refl _ _))
 go_wp2_with fail
 go_loopw [3,4] (fun v x wr => ∃ (k : Nat) (A : Option Addr) (c : Nat) (z : List UInt8),k ≤ 32∧v = .slice A z.length c∧x = .int .i64 ((k : Int) - 1)∧Hid (z = (l.drop k).reverse)∧Hid (Bf w1 wr A c z)) (fun _ x _ => (intOf x + 1).toNat)
 case atStart => exact ⟨32,none,0,[],by omega,rfl,rfl,Z0,B0⟩
 case round =>
  obtain ⟨k,A,c,z,hk,rfl,rfl,HZ,HB⟩:=hrel
  clear Z0 B0
  cases k with
  | zero =>
    have HZ2 : Hid (l.reverse = z):=Lib.hid (by rw [HZ.out,List.drop_zero])
    rw [HZ2.out] at FB
    have FBz:=Lib.hid (FB.out A c _ HB.out.rd)
    have HR:=Lib.hid (HR1.out.keep HB.out.k)
    have HK:=Lib.hid (keep_trans HK1.out HB.out.k)
    clear FB HZ HZ2 HB HA1 HR1 HK1
    go_upto_region 7 with (go_at_call 68;refine FBz.out.mono ?_;rintro e w2 ⟨rfl,k2⟩;have HR2:=Lib.hid (HR.out.keep k2);have HK2:=Lib.hid (keep_trans HK.out k2);clear k2)
    obtain ⟨w3,hw3⟩ : ∃ x,x = w2.alloc (.cells #[n64 (limb R 0),n64 (limb R 1),n64 (limb R 2),n64 (limb R 3)] 72):=⟨_,rfl⟩
    have HT3 : Hid (Blk w3 w2.heap.size 72 (uL R)):=by rw [hw3];exact Lib.hid (Blk.new w2 72 (uL R))
    have k3 : Keep w2 w3:=by rw [hw3];exact keep_new _ _
    have HR3:=Lib.hid (HR2.out.keep k3);have HK3:=Lib.hid (keep_trans HK2.out k3)
    rw [← hw3]
    clear hw3 k3 HR2 HK2
    have a0:=HT3.out.cell 0;have a1:=HT3.out.cell 1;have a2:=HT3.out.cell 2;have a3:=HT3.out.cell 3
    have y0:=HR3.out.cell 0;have y1:=HR3.out.cell 1;have y2:=HR3.out.cell 2;have y3:=HR3.out.cell 3
    have z0:=HR3.out.frozen 0;have z1:=HR3.out.frozen 1;have z2:=HR3.out.frozen 2;have z3:=HR3.out.frozen 3
    simp only [uL,List.getElem?_cons_succ,List.getElem?_cons_zero] at a0 a1 a2 a3 y0 y1 y2 y3
    go_wp2_with fail
    exact bodyPost_ret (v:=uV R) (results_cell_row Tryz.results47 _ _ r _ _ _ _ rfl (show Blk _ r 72 (uL R) from (((HR3.out.set_ 0 _).set_ 1 _).set_ 2 _).set_ 3 _) Tryz.underlying72 rfl (by kernel_rfl)) rfl ⟨rfl,HK3.out.grown (grown_set (grown_set (grown_set (grown_set (grown_refl _ _))))) HK3.out.size (fun q hq => by injection hq with hq;have:=HG.out;omega)⟩
  | succ k =>
    have hi : ((k + 1 : Nat) : Int) - 1 = (k : Int):=by omega
    simp only [hi]
    have d1 : (0 : Int) ≤ (k : Int):=by omega
    have hlt : k < l.length:=by rw [HL.out];omega
    have HA:=Lib.hid (HA1.out.keep HB.out.k)
    have c0:=HA.out.cell k
    rw [List.getElem?_map,List.getElem?_eq_getElem hlt] at c0
    have HZ2 : Hid (z ++ [l[k]] = (l.drop k).reverse):=Lib.hid (by rw [List.drop_eq_getElem_cons hlt,List.reverse_cons,HZ.out])
    have hzl : z.length ≤ 32:=by rw [HZ.out,List.length_reverse,List.length_drop,HL.out];omega
    obtain ⟨x,hx⟩ : ∃ x,l[k] = x:=⟨_,rfl⟩
    rw [hx] at c0 HZ2
    clear hx HZ hlt
    go_upto_region 4 with (at_builtin;refine wpList_bf (by rfl) _ _ (by rfl) (HB.out.alloc _) (by rfl) _ 1 1 [x] (by rfl) rfl (Rd.new _ _ _) (by omega) ?_;rintro z2 A2 c2 w2 E2 b2 -)
    have HB2:=Lib.hid b2
    have HZ3 : Hid (z2 = (l.drop k).reverse):=Lib.hid (by rw [E2.out,HZ2.out])
    clear b2 E2 HZ2 HA c0 HB hzl
    go_wp2_with fail
    go_roundw
    case rel => exact ⟨k,A2,c2,z2,by omega,rfl,by go_num,HZ3,HB2⟩
    case measure => simp [intOf] <;> omega
end Go.Proofs.YtmbbknjddebhoaaGreatDoor
/- florinref01: Div. (printed by gen_ne.py) -/
set_option linter.unusedSimpArgs false
set_option linter.unusedVariables false
namespace Go.Proofs.YtmbbknjddebhoaaGreatDoor
open Go.RowKit
attribute [local go_sem ↓] Go.wp_at_zero Go.wp_at_succ
namespace G
theorem wpQuiet_load_partgN [MM : Mk] {P : Program} {w0 : World} {ops : Array Oper} {rest : List Oper} {a : Act} {Q : Act → Prop} {x : Operand} {dst : Option Tmp} {ty ty' : TypeId} {pos : String} {af : Array Edge}
  (g off : Nat) (cs : Array Value) (hx : a.eval x = .pointer (some ⟨g,off,none⟩)) (hr : w0.rangeAt g off cs.toList) (hne : MM.m ≠ some g) (d : TypeDesc) (hu : P.underlying ty = some d) (hd : d.isRow = true) (hi : (P.info? ty).map (·.size) = some cs.size)
  (h : wpQuiet P ops (fun w' => ∃ x,w' = aftG w0 x) Q rest (a.put dst (.agg cs))) :
  wpQuiet P ops (fun w' => ∃ x,w' = aftG w0 x) Q ({ dst:=dst,op:=.load ty x,type:=ty',pos:=pos,after:=af,guard:=none } :: rest) a:=by
 refine BigFrame.wpQuiet_want (by simp [Region.wanted]) fun K hK => ⟨.agg cs,fun w hw => ?_,hK _ h⟩
 obtain ⟨y,rfl⟩:=hw
 unfold Oper.quietAt execOp
 have hl:=run_loadVar_mid (P:=P) (aftG w0 y) g off ty cs.toList d (fun j v hv => aftG_cell (hr j v hv) hne y) hu hd (by simpa using hi)
 simp only [hx,Instr.loadAt,Instr.sureAddr,Sem.run_bind,Sem.run_pure,Result.andThen_ok,hl,Array.toArray_toList]
 exact ⟨rfl,rfl⟩
end G
theorem results_cct {P : Program} {fn : Func} {p1 p2 u : Tmp} {ty : TypeId} (h : fn.results = #[.cell p1 ty,.cell p2 ty,.tmp u]) (tmps : Array Value) (w : World) (g1 g2 : Nat) (t1 t2 : TypeId) (c1 c2 : Array Value) (f1 f2 : Nat × Nat) (d : TypeDesc)
  (h1 : tmps.getD p1 undef = .pointer (some ⟨g1,0,none⟩)) (h2 : tmps.getD p2 undef = .pointer (some ⟨g2,0,none⟩)) (hg1 : w.heap[g1]? = some (.cells c1 t1 f1)) (hg2 : w.heap[g2]? = some (.cells c2 t2 f2))
  (hu : P.underlying ty = some d) (hd : (match d with | .struct _ | .array _ _ => true | _ => false) = true) (hi1 : (P.info? ty).map (·.size) = some c1.size) (hi2 : (P.info? ty).map (·.size) = some c2.size) :
  (results fn tmps).run P w = .ok (.tuple #[.agg c1,.agg c2,tmps.getD u undef]) w:=by
 have h1' : tmps[p1]?.getD undef = .pointer (some ⟨g1,0,none⟩):=by simpa using h1
 have h2' : tmps[p2]?.getD undef = .pointer (some ⟨g2,0,none⟩):=by simpa using h2
 simp [results,h,h1',h2',asAddr,run_loadVar_row w g1 t1 ty c1 f1 d hg1 hu hd hi1,run_loadVar_row w g2 t2 ty c2 f2 d hg2 hu hd hi2]
theorem rU_under : Tryz.prog.underlying 72 = some (.array 4 60):=by kernel_rfl
theorem rU_eq {N M : Nat} (hN : N < 2 ^ 256) (hM : M < 2 ^ 256) (w : World) : (Op.equalIn 10000 72 (uV N) (uV M)).run Tryz.prog w = .ok (decide (N = M)) w:=by
 rw [show (10000 : Nat) = 9998 + 2 from rfl]
 have h:=run_equalIn_words (P:=Tryz.prog) w 9998 72 60 4 rU_under Tryz.underlying60 u64_size [limb N 0,limb N 1,limb N 2,limb N 3] [limb M 0,limb M 1,limb M 2,limb M 3] rfl rfl
 rw [words_eq hN hM] at h
 exact h
set_option maxRecDepth 100000 in
set_option maxHeartbeats 4000000 in
theorem rdiv_any (N M : Nat) (w : World) (hN : N < 2 ^ 256) (hM : M < 2 ^ 256) (h0 : 0 < M) : Calls Tryz.prog 83 #[uV N,uV M] w fun e w' => e = .returned (.tuple #[uV (N / M),uV (N % M),.bool true])∧Keep w w':=by
 have DG:=Lib.hid (fun N y => rdig_any N y)
 obtain ⟨zs,hz2,hzA⟩:=zdig_letter
 have hz1:=hzA.z;have hz3:=hzA.n
 have HZ:=Lib.hid hzA
 clear hzA
 go_enter Tryz.func83,Tryz.ntmps83
 go_upto_region 1 with fail
 obtain ⟨w1,hw1⟩ : ∃ w1,w1 = (((w.alloc (.cells #[n64 (limb N 0),n64 (limb N 1),n64 (limb N 2),n64 (limb N 3)] 72)).alloc (.cells #[n64 (limb M 0),n64 (limb M 1),n64 (limb M 2),n64 (limb M 3)] 72)).alloc (.cells #[.int .u64 0,.int .u64 0,.int .u64 0,.int .u64 0] 72)).alloc (.cells #[.int .u64 0,.int .u64 0,.int .u64 0,.int .u64 0] 72):=⟨_,rfl⟩
 have HA1 : Hid (Blk w1 w.heap.size 72 (uL N)):=by rw [hw1];exact Lib.hid ((((Blk.new w 72 (uL N)).alloc _).alloc _).alloc _)
 have HB1 : Hid (Blk w1 (w.heap.size + 1) 72 (uL M)):=by
  rw [hw1]
  have q:=Blk.new (w.alloc (.cells #[n64 (limb N 0),n64 (limb N 1),n64 (limb N 2),n64 (limb N 3)] 72)) 72 (uL M)
  rw [World.size_alloc] at q
  exact Lib.hid ((q.alloc _).alloc _)
 have HQ1 : Hid (Blk w1 (w.heap.size + 2) 72 (uL 0)):=by
  rw [hw1]
  have q:=Blk.new ((w.alloc (.cells #[n64 (limb N 0),n64 (limb N 1),n64 (limb N 2),n64 (limb N 3)] 72)).alloc (.cells #[n64 (limb M 0),n64 (limb M 1),n64 (limb M 2),n64 (limb M 3)] 72)) 72 (uL 0)
  rw [World.size_alloc,World.size_alloc] at q
  exact Lib.hid (q.alloc _)
 have HP1 : Hid (Blk w1 (w.heap.size + 3) 72 (uL 0)):=by
  rw [hw1]
  have q:=Blk.new (((w.alloc (.cells #[n64 (limb N 0),n64 (limb N 1),n64 (limb N 2),n64 (limb N 3)] 72)).alloc (.cells #[n64 (limb M 0),n64 (limb M 1),n64 (limb M 2),n64 (limb M 3)] 72)).alloc (.cells #[.int .u64 0,.int .u64 0,.int .u64 0,.int .u64 0] 72)) 72 (uL 0)
  rw [World.size_alloc,World.size_alloc,World.size_alloc] at q
  exact Lib.hid q
 have HK1 : Hid (Keep w w1):=by rw [hw1];exact Lib.hid (keep_trans (keep_trans (keep_trans (keep_new _ _) (keep_new _ _)) (keep_new _ _)) (keep_new _ _))
 rw [← hw1]
 clear hw1
 obtain ⟨g,hg⟩ : ∃ g,w.heap.size = g:=⟨_,rfl⟩
 have HG:=Lib.hid hg
 rw [hg] at HA1 HB1 HQ1 HP1
 obtain ⟨h,hh⟩ : ∃ h,g + 1 = h:=⟨_,rfl⟩
 obtain ⟨q,hq⟩ : ∃ q,h + 1 = q:=⟨_,rfl⟩
 obtain ⟨p,hp⟩ : ∃ p,q + 1 = p:=⟨_,rfl⟩
 rw [hh] at HB1
 rw [show g + 2 = q by omega] at HQ1
 rw [show g + 3 = p by omega] at HP1
 simp only [hg,hh,hq,hp]
 have hgh : g < h∧h < q∧q < p:=by omega
 clear hg hh hq hp
 have b0:=HB1.out.cell 0;have b1:=HB1.out.cell 1;have b2:=HB1.out.cell 2;have b3:=HB1.out.cell 3
 have a0:=HA1.out.cell 0;have a1:=HA1.out.cell 1;have a2:=HA1.out.cell 2;have a3:=HA1.out.cell 3
 simp only [uL,List.getElem?_cons_succ,List.getElem?_cons_zero] at a0 a1 a2 a3 b0 b1 b2 b3
 have heq : (Op.equalIn 10000 72 (.agg #[n64 (limb M 0),n64 (limb M 1),n64 (limb M 2),n64 (limb M 3)]) (.agg #[.int .u64 0,.int .u64 0,.int .u64 0,.int .u64 0])).run Tryz.prog w1 = .ok false w1:=by
  have q:=rU_eq hM (Nat.two_pow_pos 256) w1
  rw [decide_eq_false (by omega : ¬ M = 0)] at q
  exact q
 have HH:=Lib.hid (And.intro hN (And.intro hM h0))
 clear hN hM h0
 go_upto_region 3 with fail
 clear heq b0 b1 b2 b3
 go_wp2_with fail
 refine (DG.out N _).mono ?_
 rintro e w2 ⟨cs,rfl,hcA,hk2⟩
 have HC:=Lib.hid hcA
 have hst : ∀ y : World,(storeCells ⟨y.heap.size,0,none⟩ cs.toList 0).run Tryz.prog (y.alloc (.cells zs 100)) = .ok () (y.alloc (.cells cs 100)):=fun y => run_storeCells_new (P:=Tryz.prog) y 100 zs cs hcA.i (hz1.trans hcA.z.symm) (by have:=all_oneCell_toArray hcA.o;simpa using this)
 have hc3:=hcA.n;have hc1:=hcA.z
 have HB2:=Lib.hid (HB1.out.keep hk2);have HQ2:=Lib.hid (HQ1.out.keep hk2);have HP2:=Lib.hid (HP1.out.keep hk2);have HK2:=Lib.hid (keep_trans HK1.out hk2)
 clear hcA hk2 HA1 HB1 HQ1 HP1 HK1 a0 a1 a2 a3 DG
 go_upto_region 6 with fail
 obtain ⟨w3,hw3⟩ : ∃ x,x = ((w2.alloc (.cells cs 100)).alloc (.cells zs 100)).alloc (.cells #[.int .u64 0,.int .u64 0,.int .u64 0,.int .u64 0] 72):=⟨_,rfl⟩
 have HX3 : Hid (Blk w3 w2.heap.size 100 (dgl (bitN N))):=by rw [hw3,← HC.out.l];exact Lib.hid (((Blk.new w2 _ cs.toList).alloc _).alloc _)
 have HY3 : Hid (Blk w3 (w2.heap.size + 1) 100 (dgl fun _ => 0)):=by
  rw [hw3,← HZ.out.l]
  have q:=Blk.new (w2.alloc (.cells cs 100)) 100 zs.toList
  rw [World.size_alloc] at q
  exact Lib.hid (q.alloc _)
 have HR3 : Hid (Blk w3 (w2.heap.size + 2) 72 (uL 0)):=by
  rw [hw3]
  have q:=Blk.new ((w2.alloc (.cells cs 100)).alloc (.cells zs 100)) 72 (uL 0)
  rw [World.size_alloc,World.size_alloc] at q
  exact Lib.hid q
 have k3 : Keep w2 w3:=by rw [hw3];exact keep_trans (keep_trans (keep_new _ _) (keep_new _ _)) (keep_new _ _)
 have HB3:=Lib.hid (HB2.out.keep k3);have HQ3:=Lib.hid (HQ2.out.keep k3);have HP3:=Lib.hid (HP2.out.keep k3);have HK3:=Lib.hid (keep_trans HK2.out k3)
 have hpX : p < w2.heap.size:=HP2.out.lt
 rw [← hw3]
 clear hw3 k3 hst HB2 HQ2 HP2 HK2 hc3 hc1
 obtain ⟨X,hX⟩ : ∃ X,w2.heap.size = X:=⟨_,rfl⟩
 rw [hX] at HX3 HY3 HR3 hpX
 obtain ⟨Y,hY⟩ : ∃ Y,X + 1 = Y:=⟨_,rfl⟩
 obtain ⟨R,hR⟩ : ∃ R,Y + 1 = R:=⟨_,rfl⟩
 rw [hY] at HY3
 rw [show X + 2 = R by omega] at HR3
 simp only [hX,hY,hR]
 have hXR : X < Y∧Y < R:=by omega
 clear hX hY hR
 have HY0 : Hid (Blk w3 Y 100 (dgl fun t => if 256 ≤ t then bitN (N / M) t else 0)):=by rw [dgl_ext (f:=fun t => if 256 ≤ t then bitN (N / M) t else 0) (g:=fun _ => 0) fun i _ => if_neg (by omega)];exact HY3
 have HR0 : Hid (Blk w3 R 72 (uL (N / 2 ^ 256 % M))):=by rw [Nat.div_eq_of_lt HH.out.1,Nat.zero_mod];exact HR3
 obtain ⟨Rk,hRk⟩ : ∃ Rk : Nat → Nat,Rk = fun k => N / 2 ^ k % M:=⟨_,rfl⟩
 have HRK : Hid (∀ k,N / 2 ^ k % M = Rk k):=Lib.hid fun k => by rw [hRk]
 rw [HRK.out] at HR0
 have HRL : Hid (∀ k,Rk k < M):=Lib.hid fun k => by rw [hRk];exact Nat.mod_lt _ HH.out.2.2
 have HDD : Hid (∀ k,bitN (N / M) k = (if M ≤ 2 * Rk (k + 1) + bitN N k then 1 else 0)∧Rk k = (if M ≤ 2 * Rk (k + 1) + bitN N k then 2 * Rk (k + 1) + bitN N k - M else 2 * Rk (k + 1) + bitN N k)):=Lib.hid fun k => by
  rw [hRk];exact div_digit HH.out.2.2
 have HRZ : Hid (Rk 0 = N % M):=Lib.hid (by rw [hRk];show N / 2 ^ 0 % M = _;rw [Nat.pow_zero,Nat.div_one])
 have HQL : Hid (N / M % 2 ^ 256 = N / M):=Lib.hid (Nat.mod_eq_of_lt (Nat.lt_of_le_of_lt (Nat.div_le_self _ _) HH.out.1))
 clear hRk HY3 HR3 HRK
 go_wp2_with fail
 go_loopw [10] (fun x wr => ∃ k : Nat,k ≤ 256∧x = .int .i64 ((k : Int) - 1)∧Hid (Blk wr h 72 (uL M))∧Hid (Blk wr q 72 (uL 0))∧Hid (Blk wr p 72 (uL 0))∧Hid (Blk wr X 100 (dgl (bitN N)))∧Hid (Blk wr Y 100 (dgl fun t => if k ≤ t then bitN (N / M) t else 0))∧Hid (Blk wr R 72 (uL (Rk k)))∧Hid (Keep w wr)) (fun x _ => (intOf x + 1).toNat)
 case atStart => exact ⟨256,Nat.le_refl _,rfl,HB3,HQ3,HP3,HX3,HY0,HR0,HK3⟩
 case round =>
  obtain ⟨k,hk,rfl,HB,HQ,HP,HX,HY,HR,HK⟩:=hrel
  clear HB3 HQ3 HP3 HX3 HY0 HR0 HK3
  cases k with
  | zero =>
    have hE : dgl (fun t => if 0 ≤ t then bitN (N / M) t else 0) = dgl (bitN (N / M)):=dgl_ext fun i _ => if_pos (Nat.zero_le _)
    rw [hE] at HY
    obtain ⟨fs,hfs⟩ : ∃ fs,DgA (bitN (N / M)) fs:=⟨_,DgA.of _⟩
    have NB:=Lib.hid (fun y => rnumb_any (bitN (N / M)) fs y hfs fun i _ => bitN_lt _ i)
    rw [numT_bit,HQL.out] at NB
    have hfi:=hfs.i;have hfn:=hfs.n
    have HYf : Hid (Blk wr Y 100 fs.toList):=by rw [hfs.l];exact HY
    rw [HRZ.out] at HR
    obtain ⟨QV,hQV⟩ : ∃ x,N / M = x:=⟨_,rfl⟩
    obtain ⟨RV,hRV⟩ : ∃ x,N % M = x:=⟨_,rfl⟩
    have HQV:=Lib.hid (And.intro hQV hRV)
    rw [hQV] at NB
    rw [hRV] at HR
    clear hE hfs HY HQL HRZ HDD HRL hQV hRV HB HX
    go_upto_region 16 with fail
    letI iM : G.Mk:=⟨some q⟩
    refine G.wp_region_tree (.take [0,2] (.force [1,3] .done)) [4,5] (by kernel_rfl) (by kernel_rfl) (fun wa ka => ?_)
    have hneY : G.Mk.m ≠ some Y:=fun e => by have e2 : q = Y:=Option.some.inj e;omega
    have hneR : G.Mk.m ≠ some R:=fun e => by have e2 : q = R:=Option.some.inj e;omega
    have HYa:=Lib.hid (HYf.out.keep ka);have HRa:=Lib.hid (HR.out.keep ka);have HQa:=Lib.hid (HQ.out.keep ka);have HPa:=Lib.hid (HP.out.keep ka);have HKa:=Lib.hid (keep_trans HK.out ka)
    have RS:=Lib.hid (range_of HYa.out 0 fs.toList (by simp [List.take_of_length_le]))
    have c0:=HRa.out.cell 0;have c1:=HRa.out.cell 1;have c2:=HRa.out.cell 2;have c3:=HRa.out.cell 3
    simp only [uL,List.getElem?_cons_succ,List.getElem?_cons_zero] at c0 c1 c2 c3
    have a0:=G.aftG_cell c0 hneR;have a1:=G.aftG_cell c1 hneR;have a2:=G.aftG_cell c2 hneR;have a3:=G.aftG_cell c3 hneR
    clear ka c0 c1 c2 c3 HYf HR HQ HP HK
    refine G.mt_take wa (G.Gr.refl _) ?_
    simp only [pick_cons,pick_nil,nth_zero,nth_succ]
    repeat (first | ((with_reducible refine G.wpQuiet_load_partgN Y 0 fs (Eq.trans ?_ rfl) RS.out hneY _ Tryz.underlying100 rfl hfi ?_);rfl;simp only [Act.put,Array.set!_eq_setIfInBounds,List.setIfInBounds_toArray,List.set_cons_succ,List.set_cons_zero]) | go_big_quiet_step (fail))
    refine wpQuiet_nil (G.mt_force ?_)
    simp only [pick_cons,pick_nil,nth_zero,nth_succ]
    clear a0 a1 a2 a3 hneY hneR
    refine G.fc_step rfl (fun K hK => ?_)
    go_simp
    refine (NB.out _).mono ?_
    rintro e w9 ⟨rfl,k9⟩
    refine hK _ _ (G.Gr.of_keep k9) ?_
    clear hK K
    have HQ9:=Lib.hid (HQa.out.keep k9);have HP9:=Lib.hid (HPa.out.keep k9);have HK9:=Lib.hid (keep_trans HKa.out k9)
    clear k9 HQa HPa HKa HYa HRa RS
    refine G.fc_step rfl (fun K hK => ?_)
    have a0:=HQ9.out.cell 0;have a1:=HQ9.out.cell 1;have a2:=HQ9.out.cell 2;have a3:=HQ9.out.cell 3
    simp only [uL,List.getElem?_cons_succ,List.getElem?_cons_zero] at a0 a1 a2 a3
    have f0:=HQ9.out.frozen 0;have f1:=HQ9.out.frozen 1;have f2:=HQ9.out.frozen 2;have f3:=HQ9.out.frozen 3
    go_simp
    refine hK _ _ (show G.Gr w9 _ from grown_set (grown_set (grown_set (grown_set (grown_refl w9 _))))) ?_
    clear hK K a0 a1 a2 a3 f0 f1 f2 f3
    obtain ⟨wb,hwb⟩ : ∃ wb,wb = (((w9.setCell ⟨q,0,none⟩ (n64 (limb QV 0))).setCell ⟨q,1,none⟩ (n64 (limb QV 1))).setCell ⟨q,2,none⟩ (n64 (limb QV 2))).setCell ⟨q,3,none⟩ (n64 (limb QV 3)):=⟨_,rfl⟩
    have hgw : w9.grownBy wb (some q):=by rw [hwb];exact grown_set (grown_set (grown_set (grown_set (grown_refl _ _))))
    have HQb : Hid (Blk wb q 72 (uL QV)):=by rw [hwb];exact Lib.hid ((((HQ9.out.set_ 0 _).set_ 1 _).set_ 2 _).set_ 3 _)
    have HPb:=Lib.hid (HP9.out.grown hgw (fun e => by have:=Option.some.inj e;omega))
    have HKb : Hid (Keep w wb):=Lib.hid (HK9.out.grown hgw HK9.out.size (fun x hx => by have:=Option.some.inj hx;have:=HG.out;omega))
    rw [← hwb]
    clear hwb hgw HQ9 HP9 HK9
    refine G.fc_nil (G.mt_end ?_)
    clear iM
    have hqp : q ≠ p:=by omega
    have b0:=HPb.out.cell 0;have b1:=HPb.out.cell 1;have b2:=HPb.out.cell 2;have b3:=HPb.out.cell 3
    simp only [uL,List.getElem?_cons_succ,List.getElem?_cons_zero] at b0 b1 b2 b3
    have e0:=HPb.out.frozen 0;have e1:=HPb.out.frozen 1;have e2:=HPb.out.frozen 2;have e3:=HPb.out.frozen 3
    go_wp2_with fail
    rw [HQV.out.1,HQV.out.2]
    exact bodyPost_ret (v:=.tuple #[uV QV,uV RV,.bool true]) (results_cct Tryz.results83 _ _ q p _ _ _ _ _ _ _ rfl rfl (show Blk _ q 72 (uL QV) from (((((HQb.out.far hqp _).far hqp _).far hqp _).far hqp _))) (show Blk _ p 72 (uL RV) from (((HPb.out.set_ 0 _).set_ 1 _).set_ 2 _).set_ 3 _) Tryz.underlying72 rfl (by kernel_rfl) (by kernel_rfl)) rfl
     ⟨rfl,HKb.out.grown (grown_set (grown_set (grown_set (grown_set (grown_refl _ (some p)))))) HKb.out.size (fun x hx => by have:=Option.some.inj hx;have:=HG.out;omega)⟩
  | succ k =>
    have hi : ((k + 1 : Nat) : Int) - 1 = (k : Int):=by omega
    simp only [hi]
    have hlt : k < 256:=by omega
    have d1 : (0 : Int) ≤ (k : Int):=by omega
    have hrM:=HRL.out (k + 1)
    have HDK:=Lib.hid (HDD.out k)
    have hb2:=bitN_lt N k
    have SHr:=Lib.hid fun y => rshl_any (Rk (k + 1)) 1 y (by have:=HH.out.2.1;omega) (by omega)
    rw [show (1 : Int).toNat = 1 from rfl] at SHr
    obtain ⟨rr,hrr⟩ : ∃ x,Rk (k + 1) = x:=⟨_,rfl⟩
    rw [hrr] at HR hrM HDK SHr
    obtain ⟨X2,hX2⟩ : ∃ x,rr * 2 ^ 1 % 2 ^ 256 = x:=⟨_,rfl⟩
    obtain ⟨ov,hov⟩ : ∃ o,decide (2 ^ 256 ≤ rr * 2 ^ 1) = o:=⟨_,rfl⟩
    rw [hX2,hov] at SHr
    have HX0 : Hid (X2 % 2 ^ 1 = 0):=Lib.hid (by omega)
    have HXO : Hid ((ov = true → X2 + 2 ^ 256 = 2 * rr)∧(ov = false → X2 = 2 * rr)∧X2 + 2 ≤ 2 ^ 256):=Lib.hid (by
     have:=HH.out.2.1
     refine ⟨?_,?_,by omega⟩
     ·intro q;rw [← hov] at q;have:=of_decide_eq_true q;omega
     ·intro q;rw [← hov] at q;have:=of_decide_eq_false q;omega)
    have HRM:=Lib.hid hrM
    clear hrr hX2 hov hrM
    have a0:=HR.out.cell 0;have a1:=HR.out.cell 1;have a2:=HR.out.cell 2;have a3:=HR.out.cell 3
    simp only [uL,List.getElem?_cons_succ,List.getElem?_cons_zero] at a0 a1 a2 a3
    go_upto_region 10 with (go_at_call 62;refine (SHr.out _).mono ?_;rintro e w2 ⟨rfl,k2⟩;have HB2:=Lib.hid (HB.out.keep k2);have HQ2:=Lib.hid (HQ.out.keep k2);have HP2:=Lib.hid (HP.out.keep k2);have HX2:=Lib.hid (HX.out.keep k2);have HY2:=Lib.hid (HY.out.keep k2);have HR2:=Lib.hid (HR.out.keep k2);have HK2:=Lib.hid (keep_trans HK.out k2);clear k2 a0 a1 a2 a3)
    obtain ⟨w3,hw3⟩ : ∃ x,x = w2.alloc (.cells #[n64 (limb X2 0),n64 (limb X2 1),n64 (limb X2 2),n64 (limb X2 3)] 72):=⟨_,rfl⟩
    have HT3 : Hid (Blk w3 w2.heap.size 72 (uL X2)):=by rw [hw3];exact Lib.hid (Blk.new w2 72 (uL X2))
    have k3 : Keep w2 w3:=by rw [hw3];exact keep_new _ _
    have HB3:=Lib.hid (HB2.out.keep k3);have HQ3:=Lib.hid (HQ2.out.keep k3);have HP3:=Lib.hid (HP2.out.keep k3);have HX3:=Lib.hid (HX2.out.keep k3);have HY3:=Lib.hid (HY2.out.keep k3);have HR3:=Lib.hid (HR2.out.keep k3);have HK3:=Lib.hid (keep_trans HK2.out k3)
    have hRT : R < w2.heap.size:=HR2.out.lt
    rw [← hw3]
    clear hw3 k3
    clear HB2 HQ2 HP2 HX2 HY2 HR2 HK2
    obtain ⟨T,hT⟩ : ∃ X,w2.heap.size = X:=⟨_,rfl⟩
    rw [hT] at HT3 hRT
    simp only [hT]
    clear hT
    refine wp_region_tree (.take [0,1,2,3,4,5,6,7] .done) [8] (by kernel_rfl) (by kernel_rfl) (fun wa ka => ?_)
    have HBa:=Lib.hid (HB3.out.keep ka);have HQa:=Lib.hid (HQ3.out.keep ka);have HPa:=Lib.hid (HP3.out.keep ka);have HXa:=Lib.hid (HX3.out.keep ka);have HYa:=Lib.hid (HY3.out.keep ka);have HRa:=Lib.hid (HR3.out.keep ka);have HTa:=Lib.hid (HT3.out.keep ka);have HKa:=Lib.hid (keep_trans HK3.out ka)
    have c0:=HTa.out.cell 0
    have f0:=HTa.out.frozen 0
    have c1:=HXa.out.cell k
    rw [dgl_get _ hlt] at c1
    simp only [uL,List.getElem?_cons_zero] at c0
    have a0:=aft_cell c0;have a1:=aft_cell c1
    clear ka HT3
    clear HB3 HQ3 HP3 HX3 HY3 HR3 HK3
    refine mt_take wa (Below.refl _ _) ?_
    simp only [pick_cons,pick_nil,nth_zero,nth_succ]
    repeat (go_big_quiet_step (fail))
    refine wpQuiet_nil (mt_end ?_)
    go_upto_region 11 with fail
    have hv:=low_val (limb X2 0) (bitN N k) (limb_lt _ _) (by omega)
    rw [hv]
    obtain ⟨w4,hw4⟩ : ∃ x',x' = wa.setCell ⟨T,0,none⟩ (n64 (limb X2 0 ||| bitN N k)):=⟨_,rfl⟩
    have hgw : wa.grownBy w4 (some T):=by rw [hw4];exact grown_set (grown_refl _ _)
    have HT4 : Hid (Blk w4 T 72 (uL (X2 + bitN N k))):=by rw [hw4,← uL_low (e:=1) HX0.out (by omega) (by omega)];exact Lib.hid (HTa.out.set_ 0 _)
    have HB4:=Lib.hid (HBa.out.grown hgw (fun q => by have:=Option.some.inj q;omega));have HQ4:=Lib.hid (HQa.out.grown hgw (fun q => by have:=Option.some.inj q;omega));have HP4:=Lib.hid (HPa.out.grown hgw (fun q => by have:=Option.some.inj q;omega));have HX4:=Lib.hid (HXa.out.grown hgw (fun q => by have:=Option.some.inj q;omega));have HY4:=Lib.hid (HYa.out.grown hgw (fun q => by have:=Option.some.inj q;omega));have HR4:=Lib.hid (HRa.out.grown hgw (fun q => by have:=Option.some.inj q;omega))
    have HK4 : Hid (Keep w w4):=Lib.hid (HKa.out.grown hgw HKa.out.size (fun q hq => by have:=Option.some.inj hq;have:=HG.out;omega))
    rw [← hw4]
    clear hw4 hgw hv c0 f0 c1 HTa HX0 a0 a1
    clear HBa HQa HPa HXa HYa HRa HKa
    obtain ⟨V,hV⟩ : ∃ V,X2 + bitN N k = V:=⟨_,rfl⟩
    obtain ⟨t,ht⟩ : ∃ t,2 * rr + bitN N k = t:=⟨_,rfl⟩
    have HV : Hid (V < 2 ^ 256∧t < 2 * M∧(ov = true → V + 2 ^ 256 = t)∧(ov = false → V = t)):=Lib.hid (by
     have h1:=HXO.out;have h2:=HRM.out;have h3:=HH.out.2.1
     refine ⟨?_,by omega,fun q => by have:=h1.1 q;omega,fun q => by have:=h1.2.1 q;omega⟩
     have:=h1.2.2;omega)
    rw [hV] at HT4
    rw [ht] at HDK
    clear hV ht HXO HRM
    have a0:=HT4.out.cell 0;have a1:=HT4.out.cell 1;have a2:=HT4.out.cell 2;have a3:=HT4.out.cell 3
    simp only [uL,List.getElem?_cons_succ,List.getElem?_cons_zero] at a0 a1 a2 a3
    have b0:=HR4.out.cell 0;have b1:=HR4.out.cell 1;have b2:=HR4.out.cell 2;have b3:=HR4.out.cell 3
    simp only [uL,List.getElem?_cons_succ,List.getElem?_cons_zero] at b0 b1 b2 b3
    have f0:=HR4.out.frozen 0;have f1:=HR4.out.frozen 1;have f2:=HR4.out.frozen 2;have f3:=HR4.out.frozen 3
    go_upto_region 12 with fail
    clear a0 a1 a2 a3 b0 b1 b2 b3 f0 f1 f2 f3
    obtain ⟨w5,hwn⟩ : ∃ x,x = (((w4.setCell ⟨R,0,none⟩ (n64 (limb V 0))).setCell ⟨R,1,none⟩ (n64 (limb V 1))).setCell ⟨R,2,none⟩ (n64 (limb V 2))).setCell ⟨R,3,none⟩ (n64 (limb V 3)):=⟨_,rfl⟩
    have hgw : w4.grownBy w5 (some R):=by rw [hwn];exact grown_set (grown_set (grown_set (grown_set (grown_refl _ _))))
    have HR5 : Hid (Blk w5 R 72 (uL V)):=by rw [hwn];exact Lib.hid ((((HR4.out.set_ 0 _).set_ 1 _).set_ 2 _).set_ 3 _)
    have HB5:=Lib.hid (HB4.out.grown hgw (fun q => by have:=Option.some.inj q;omega));have HQ5:=Lib.hid (HQ4.out.grown hgw (fun q => by have:=Option.some.inj q;omega));have HP5:=Lib.hid (HP4.out.grown hgw (fun q => by have:=Option.some.inj q;omega));have HX5:=Lib.hid (HX4.out.grown hgw (fun q => by have:=Option.some.inj q;omega));have HY5:=Lib.hid (HY4.out.grown hgw (fun q => by have:=Option.some.inj q;omega))
    have HK5 : Hid (Keep w w5):=Lib.hid (HK4.out.grown hgw HK4.out.size (fun q hq => by have:=Option.some.inj hq;have:=HG.out;omega))
    rw [← hwn]
    clear hwn hgw
    clear HB4 HQ4 HP4 HX4 HY4 HR4 HK4
    clear HT4
    have hgh2:=HH.out
    have CM:=Lib.hid fun y => rcmp_any V M y HV.out.1 HH.out.2.1
    obtain ⟨cv,hcv⟩ : ∃ c,cmpN V M = c:=⟨_,rfl⟩
    rw [hcv] at CM
    clear hgh2
    by_cases hge : M ≤ t
    ·have SB:=Lib.hid fun y => rsub_any V M y HV.out.1 HH.out.2.1
     obtain ⟨D,hD⟩ : ∃ D,(V + 2 ^ 256 - M) % 2 ^ 256 = D:=⟨_,rfl⟩
     obtain ⟨lD,hlD⟩ : ∃ D,decide (V < M) = D:=⟨_,rfl⟩
     have HDE : Hid (D = t - M):=Lib.hid (by
      have h1:=HV.out;have h2:=HH.out.2.1
      cases ov with
      | true => have:=h1.2.2.1 rfl;omega
      | false => have:=h1.2.2.2 rfl;omega)
     rw [hD,hlD] at SB
     clear hD hlD
     cases ov with
     | true =>
       clear hcv CM HV
       go_upto_region 13 with fail
       have a0:=HR5.out.cell 0;have a1:=HR5.out.cell 1;have a2:=HR5.out.cell 2;have a3:=HR5.out.cell 3
       simp only [uL,List.getElem?_cons_succ,List.getElem?_cons_zero] at a0 a1 a2 a3
       have b0:=HB5.out.cell 0;have b1:=HB5.out.cell 1;have b2:=HB5.out.cell 2;have b3:=HB5.out.cell 3
       simp only [uL,List.getElem?_cons_succ,List.getElem?_cons_zero] at b0 b1 b2 b3
       go_upto_region 14 with (go_at_call 103;refine (SB.out _).mono ?_;rintro e w7 ⟨rfl,k7⟩;have HB7:=Lib.hid (HB5.out.keep k7);have HQ7:=Lib.hid (HQ5.out.keep k7);have HP7:=Lib.hid (HP5.out.keep k7);have HX7:=Lib.hid (HX5.out.keep k7);have HY7:=Lib.hid (HY5.out.keep k7);have HR7:=Lib.hid (HR5.out.keep k7);have HK7:=Lib.hid (keep_trans HK5.out k7);clear k7 a0 a1 a2 a3 b0 b1 b2 b3)
       obtain ⟨w8,hw8⟩ : ∃ x,x = w7.alloc (.cells #[n64 (limb D 0),n64 (limb D 1),n64 (limb D 2),n64 (limb D 3)] 72):=⟨_,rfl⟩
       have HT8 : Hid (Blk w8 w7.heap.size 72 (uL D)):=by rw [hw8];exact Lib.hid (Blk.new w7 72 (uL D))
       have k8 : Keep w7 w8:=by rw [hw8];exact keep_new _ _
       have HB8:=Lib.hid (HB7.out.keep k8);have HQ8:=Lib.hid (HQ7.out.keep k8);have HP8:=Lib.hid (HP7.out.keep k8);have HX8:=Lib.hid (HX7.out.keep k8);have HY8:=Lib.hid (HY7.out.keep k8);have HR8:=Lib.hid (HR7.out.keep k8);have HK8:=Lib.hid (keep_trans HK7.out k8)
       have hRT2 : R < w7.heap.size:=HR7.out.lt
       rw [← hw8]
       clear hw8 k8
       clear HB7 HQ7 HP7 HX7 HY7 HR7 HK7
       obtain ⟨T2,hT⟩ : ∃ X,w7.heap.size = X:=⟨_,rfl⟩
       rw [hT] at HT8 hRT2
       simp only [hT]
       clear hT
       have a0:=HT8.out.cell 0;have a1:=HT8.out.cell 1;have a2:=HT8.out.cell 2;have a3:=HT8.out.cell 3
       simp only [uL,List.getElem?_cons_succ,List.getElem?_cons_zero] at a0 a1 a2 a3
       have b0:=HR8.out.cell 0;have b1:=HR8.out.cell 1;have b2:=HR8.out.cell 2;have b3:=HR8.out.cell 3
       simp only [uL,List.getElem?_cons_succ,List.getElem?_cons_zero] at b0 b1 b2 b3
       have f0:=HR8.out.frozen 0;have f1:=HR8.out.frozen 1;have f2:=HR8.out.frozen 2;have f3:=HR8.out.frozen 3
       go_upto_region 15 with fail
       clear a0 a1 a2 a3 b0 b1 b2 b3 f0 f1 f2 f3
       obtain ⟨w9,hwn⟩ : ∃ x,x = (((w8.setCell ⟨R,0,none⟩ (n64 (limb D 0))).setCell ⟨R,1,none⟩ (n64 (limb D 1))).setCell ⟨R,2,none⟩ (n64 (limb D 2))).setCell ⟨R,3,none⟩ (n64 (limb D 3)):=⟨_,rfl⟩
       have hgw : w8.grownBy w9 (some R):=by rw [hwn];exact grown_set (grown_set (grown_set (grown_set (grown_refl _ _))))
       have HR9 : Hid (Blk w9 R 72 (uL D)):=by rw [hwn];exact Lib.hid ((((HR8.out.set_ 0 _).set_ 1 _).set_ 2 _).set_ 3 _)
       have HB9:=Lib.hid (HB8.out.grown hgw (fun q => by have:=Option.some.inj q;omega));have HQ9:=Lib.hid (HQ8.out.grown hgw (fun q => by have:=Option.some.inj q;omega));have HP9:=Lib.hid (HP8.out.grown hgw (fun q => by have:=Option.some.inj q;omega));have HX9:=Lib.hid (HX8.out.grown hgw (fun q => by have:=Option.some.inj q;omega));have HY9:=Lib.hid (HY8.out.grown hgw (fun q => by have:=Option.some.inj q;omega))
       have HK9 : Hid (Keep w w9):=Lib.hid (HK8.out.grown hgw HK8.out.size (fun q hq => by have:=Option.some.inj hq;have:=HG.out;omega))
       rw [← hwn]
       clear hwn hgw
       clear HB8 HQ8 HP8 HX8 HY8 HR8 HK8
       have c1:=HY9.out.cell k
       have f1:=HY9.out.frozen k
       rw [dgl_get _ hlt] at c1
       go_upto_region 8 with fail
       clear c1 f1
       obtain ⟨w10,hwn⟩ : ∃ x,x = w9.setCell ⟨Y,k,none⟩ (.int .i64 1):=⟨_,rfl⟩
       have hgw : w9.grownBy w10 (some Y):=by rw [hwn];exact grown_set (grown_refl _ _)
       have HY10 : Hid (Blk w10 Y 100 (dgl fun t => if k ≤ t then bitN (N / M) t else 0)):=by
        rw [hwn,dgl_ext (f:=fun t => if k ≤ t then bitN (N / M) t else 0) (g:=fun t => if t = k then 1 else if k + 1 ≤ t then bitN (N / M) t else 0) (fun i _ => by
         by_cases e : i = k
         ·subst e;rw [if_pos (Nat.le_refl _),if_pos rfl,HDK.out.1,if_pos hge]
         ·by_cases e2 : k + 1 ≤ i
          ·rw [if_pos (by omega),if_neg e,if_pos e2]
          ·rw [if_neg (by omega),if_neg e,if_neg e2]),← dgl_set]
        exact Lib.hid (HY9.out.set_ k _)
       have HR10 : Hid (Blk w10 R 72 (uL (Rk k))):=by rw [HDK.out.2,if_pos hge,← HDE.out];exact Lib.hid (HR9.out.grown hgw (fun q => by have:=Option.some.inj q;omega))
       have HB10:=Lib.hid (HB9.out.grown hgw (fun q => by have:=Option.some.inj q;omega));have HQ10:=Lib.hid (HQ9.out.grown hgw (fun q => by have:=Option.some.inj q;omega));have HP10:=Lib.hid (HP9.out.grown hgw (fun q => by have:=Option.some.inj q;omega));have HX10:=Lib.hid (HX9.out.grown hgw (fun q => by have:=Option.some.inj q;omega))
       have HK10 : Hid (Keep w w10):=Lib.hid (HK9.out.grown hgw HK9.out.size (fun q hq => by have:=Option.some.inj hq;have:=HG.out;omega))
       rw [← hwn]
       clear hwn hgw HDK HDE
       clear HB9 HQ9 HP9 HX9 HY9 HR9 HK9
       go_wp2_with fail
       go_roundw
       case rel => exact ⟨k,by omega,by go_num,HB10,HQ10,HP10,HX10,HY10,HR10,HK10⟩
       case measure => simp [intOf] <;> omega
     | false =>
       have hc0 : (0 : Int) ≤ cv:=by
        have h1:=HV.out.2.2.2 rfl
        rw [← hcv]
        unfold cmpN
        rw [if_neg (by omega)]
        split <;> omega
       clear hcv HV
       have a0:=HR5.out.cell 0;have a1:=HR5.out.cell 1;have a2:=HR5.out.cell 2;have a3:=HR5.out.cell 3
       simp only [uL,List.getElem?_cons_succ,List.getElem?_cons_zero] at a0 a1 a2 a3
       have b0:=HB5.out.cell 0;have b1:=HB5.out.cell 1;have b2:=HB5.out.cell 2;have b3:=HB5.out.cell 3
       simp only [uL,List.getElem?_cons_succ,List.getElem?_cons_zero] at b0 b1 b2 b3
       go_upto_region 13 with (go_at_call 46;refine (CM.out _).mono ?_;rintro e w6 ⟨rfl,k6⟩;have HB6:=Lib.hid (HB5.out.keep k6);have HQ6:=Lib.hid (HQ5.out.keep k6);have HP6:=Lib.hid (HP5.out.keep k6);have HX6:=Lib.hid (HX5.out.keep k6);have HY6:=Lib.hid (HY5.out.keep k6);have HR6:=Lib.hid (HR5.out.keep k6);have HK6:=Lib.hid (keep_trans HK5.out k6);clear k6 a0 a1 a2 a3 b0 b1 b2 b3)
       clear HB5 HQ5 HP5 HX5 HY5 HR5 HK5
       have a0:=HR6.out.cell 0;have a1:=HR6.out.cell 1;have a2:=HR6.out.cell 2;have a3:=HR6.out.cell 3
       simp only [uL,List.getElem?_cons_succ,List.getElem?_cons_zero] at a0 a1 a2 a3
       have b0:=HB6.out.cell 0;have b1:=HB6.out.cell 1;have b2:=HB6.out.cell 2;have b3:=HB6.out.cell 3
       simp only [uL,List.getElem?_cons_succ,List.getElem?_cons_zero] at b0 b1 b2 b3
       go_upto_region 14 with (go_at_call 103;refine (SB.out _).mono ?_;rintro e w7 ⟨rfl,k7⟩;have HB7:=Lib.hid (HB6.out.keep k7);have HQ7:=Lib.hid (HQ6.out.keep k7);have HP7:=Lib.hid (HP6.out.keep k7);have HX7:=Lib.hid (HX6.out.keep k7);have HY7:=Lib.hid (HY6.out.keep k7);have HR7:=Lib.hid (HR6.out.keep k7);have HK7:=Lib.hid (keep_trans HK6.out k7);clear k7 a0 a1 a2 a3 b0 b1 b2 b3)
       obtain ⟨w8,hw8⟩ : ∃ x,x = w7.alloc (.cells #[n64 (limb D 0),n64 (limb D 1),n64 (limb D 2),n64 (limb D 3)] 72):=⟨_,rfl⟩
       have HT8 : Hid (Blk w8 w7.heap.size 72 (uL D)):=by rw [hw8];exact Lib.hid (Blk.new w7 72 (uL D))
       have k8 : Keep w7 w8:=by rw [hw8];exact keep_new _ _
       have HB8:=Lib.hid (HB7.out.keep k8);have HQ8:=Lib.hid (HQ7.out.keep k8);have HP8:=Lib.hid (HP7.out.keep k8);have HX8:=Lib.hid (HX7.out.keep k8);have HY8:=Lib.hid (HY7.out.keep k8);have HR8:=Lib.hid (HR7.out.keep k8);have HK8:=Lib.hid (keep_trans HK7.out k8)
       have hRT2 : R < w7.heap.size:=HR7.out.lt
       rw [← hw8]
       clear hw8 k8
       clear HB7 HQ7 HP7 HX7 HY7 HR7 HK7
       obtain ⟨T2,hT⟩ : ∃ X,w7.heap.size = X:=⟨_,rfl⟩
       rw [hT] at HT8 hRT2
       simp only [hT]
       clear hT
       have a0:=HT8.out.cell 0;have a1:=HT8.out.cell 1;have a2:=HT8.out.cell 2;have a3:=HT8.out.cell 3
       simp only [uL,List.getElem?_cons_succ,List.getElem?_cons_zero] at a0 a1 a2 a3
       have b0:=HR8.out.cell 0;have b1:=HR8.out.cell 1;have b2:=HR8.out.cell 2;have b3:=HR8.out.cell 3
       simp only [uL,List.getElem?_cons_succ,List.getElem?_cons_zero] at b0 b1 b2 b3
       have f0:=HR8.out.frozen 0;have f1:=HR8.out.frozen 1;have f2:=HR8.out.frozen 2;have f3:=HR8.out.frozen 3
       go_upto_region 15 with fail
       clear a0 a1 a2 a3 b0 b1 b2 b3 f0 f1 f2 f3
       obtain ⟨w9,hwn⟩ : ∃ x,x = (((w8.setCell ⟨R,0,none⟩ (n64 (limb D 0))).setCell ⟨R,1,none⟩ (n64 (limb D 1))).setCell ⟨R,2,none⟩ (n64 (limb D 2))).setCell ⟨R,3,none⟩ (n64 (limb D 3)):=⟨_,rfl⟩
       have hgw : w8.grownBy w9 (some R):=by rw [hwn];exact grown_set (grown_set (grown_set (grown_set (grown_refl _ _))))
       have HR9 : Hid (Blk w9 R 72 (uL D)):=by rw [hwn];exact Lib.hid ((((HR8.out.set_ 0 _).set_ 1 _).set_ 2 _).set_ 3 _)
       have HB9:=Lib.hid (HB8.out.grown hgw (fun q => by have:=Option.some.inj q;omega));have HQ9:=Lib.hid (HQ8.out.grown hgw (fun q => by have:=Option.some.inj q;omega));have HP9:=Lib.hid (HP8.out.grown hgw (fun q => by have:=Option.some.inj q;omega));have HX9:=Lib.hid (HX8.out.grown hgw (fun q => by have:=Option.some.inj q;omega));have HY9:=Lib.hid (HY8.out.grown hgw (fun q => by have:=Option.some.inj q;omega))
       have HK9 : Hid (Keep w w9):=Lib.hid (HK8.out.grown hgw HK8.out.size (fun q hq => by have:=Option.some.inj hq;have:=HG.out;omega))
       rw [← hwn]
       clear hwn hgw
       clear HB8 HQ8 HP8 HX8 HY8 HR8 HK8
       have c1:=HY9.out.cell k
       have f1:=HY9.out.frozen k
       rw [dgl_get _ hlt] at c1
       go_upto_region 8 with fail
       clear c1 f1
       obtain ⟨w10,hwn⟩ : ∃ x,x = w9.setCell ⟨Y,k,none⟩ (.int .i64 1):=⟨_,rfl⟩
       have hgw : w9.grownBy w10 (some Y):=by rw [hwn];exact grown_set (grown_refl _ _)
       have HY10 : Hid (Blk w10 Y 100 (dgl fun t => if k ≤ t then bitN (N / M) t else 0)):=by
        rw [hwn,dgl_ext (f:=fun t => if k ≤ t then bitN (N / M) t else 0) (g:=fun t => if t = k then 1 else if k + 1 ≤ t then bitN (N / M) t else 0) (fun i _ => by
         by_cases e : i = k
         ·subst e;rw [if_pos (Nat.le_refl _),if_pos rfl,HDK.out.1,if_pos hge]
         ·by_cases e2 : k + 1 ≤ i
          ·rw [if_pos (by omega),if_neg e,if_pos e2]
          ·rw [if_neg (by omega),if_neg e,if_neg e2]),← dgl_set]
        exact Lib.hid (HY9.out.set_ k _)
       have HR10 : Hid (Blk w10 R 72 (uL (Rk k))):=by rw [HDK.out.2,if_pos hge,← HDE.out];exact Lib.hid (HR9.out.grown hgw (fun q => by have:=Option.some.inj q;omega))
       have HB10:=Lib.hid (HB9.out.grown hgw (fun q => by have:=Option.some.inj q;omega));have HQ10:=Lib.hid (HQ9.out.grown hgw (fun q => by have:=Option.some.inj q;omega));have HP10:=Lib.hid (HP9.out.grown hgw (fun q => by have:=Option.some.inj q;omega));have HX10:=Lib.hid (HX9.out.grown hgw (fun q => by have:=Option.some.inj q;omega))
       have HK10 : Hid (Keep w w10):=Lib.hid (HK9.out.grown hgw HK9.out.size (fun q hq => by have:=Option.some.inj hq;have:=HG.out;omega))
       rw [← hwn]
       clear hwn hgw HDK HDE
       clear HB9 HQ9 HP9 HX9 HY9 HR9 HK9
       go_wp2_with fail
       go_roundw
       case rel => exact ⟨k,by omega,by go_num,HB10,HQ10,HP10,HX10,HY10,HR10,HK10⟩
       case measure => simp [intOf] <;> omega
    ·have hov : ov = false:=by
      cases ov with
      | true => have h1:=HV.out.2.2.1 rfl;have h2:=HH.out.2.1;omega
      | false => rfl
     subst hov
     have hVt:=HV.out.2.2.2 rfl
     have hc0 : ¬ (0 : Int) ≤ cv:=by
      rw [← hcv]
      unfold cmpN
      rw [if_pos (by omega)]
      decide
     have HRV : Hid (V = Rk k):=Lib.hid (by rw [HDK.out.2,if_neg hge];exact hVt)
     clear hcv HV hVt
     have a0:=HR5.out.cell 0;have a1:=HR5.out.cell 1;have a2:=HR5.out.cell 2;have a3:=HR5.out.cell 3
     simp only [uL,List.getElem?_cons_succ,List.getElem?_cons_zero] at a0 a1 a2 a3
     have b0:=HB5.out.cell 0;have b1:=HB5.out.cell 1;have b2:=HB5.out.cell 2;have b3:=HB5.out.cell 3
     simp only [uL,List.getElem?_cons_succ,List.getElem?_cons_zero] at b0 b1 b2 b3
     go_upto_region 8 with (go_at_call 46;refine (CM.out _).mono ?_;rintro e w6 ⟨rfl,k6⟩;have HB6:=Lib.hid (HB5.out.keep k6);have HQ6:=Lib.hid (HQ5.out.keep k6);have HP6:=Lib.hid (HP5.out.keep k6);have HX6:=Lib.hid (HX5.out.keep k6);have HY6:=Lib.hid (HY5.out.keep k6);have HR6:=Lib.hid (HR5.out.keep k6);have HK6:=Lib.hid (keep_trans HK5.out k6);clear k6 a0 a1 a2 a3 b0 b1 b2 b3)
     clear HB5 HQ5 HP5 HX5 HY5 HR5 HK5
     have HY7 : Hid (Blk w6 Y 100 (dgl fun t => if k ≤ t then bitN (N / M) t else 0)):=by
      rw [dgl_ext (f:=fun t => if k ≤ t then bitN (N / M) t else 0) (g:=fun t => if k + 1 ≤ t then bitN (N / M) t else 0) (fun i _ => by
       by_cases e : i = k
       ·subst e;rw [if_pos (Nat.le_refl _),if_neg (by omega),HDK.out.1,if_neg hge]
       ·by_cases e2 : k + 1 ≤ i
        ·rw [if_pos (by omega),if_pos e2]
        ·rw [if_neg (by omega),if_neg e2])]
      exact HY6
     rw [HRV.out] at HR6
     clear HY6 HDK HRV
     go_wp2_with fail
     go_roundw
     case rel => exact ⟨k,by omega,by go_num,HB6,HQ6,HP6,HX6,HY7,HR6,HK6⟩
     case measure => simp [intOf] <;> omega
end Go.Proofs.YtmbbknjddebhoaaGreatDoor
/- florinref05.Expand. (printed by gen_np.py) -/
set_option linter.unusedSimpArgs false
set_option linter.unusedVariables false
namespace Go.Proofs.YtmbbknjddebhoaaGreatDoor
open Go.RowKit
attribute [local go_sem ↓] Go.wp_at_zero Go.wp_at_succ
theorem rexp_low {x : UInt32} (h3 : ¬ 3 < x.toNat / 16777216) {T : Nat} (hT : T = x.toNat % 8388608 / 2 ^ (8 * (3 - x.toNat / 16777216))) :
  T < 2 ^ 256∧expN x = if T = 0 ∨ false = true ∨ x.toNat / 8388608 % 2 = 1 then (0,7) else (T,0):=by
 have e : expT x = T:=by
  unfold expT
  split
  ·exact hT.symm
  ·have h : x.toNat / 16777216 = 3:=by omega
   rw [hT,h,Nat.sub_self,Nat.mul_zero,Nat.pow_zero,Nat.mul_one,Nat.div_one]
 have hm : T ≤ x.toNat % 8388608:=by rw [hT];exact Nat.div_le_self _ _
 have hlt : T < 2 ^ 256:=by
  have h5 : (8388608 : Nat) ≤ 2 ^ 256:=by decide
  omega
 refine ⟨hlt,?_⟩
 unfold expN
 rw [e]
 by_cases hs : x.toNat / 8388608 % 2 = 1
 ·rw [if_pos (Or.inr (Or.inr hs))]
  by_cases h0 : x.toNat % 8388608 = 0
  ·rw [if_neg (fun h => h.1 h0),if_pos (Or.inr (by omega))]
  ·rw [if_pos ⟨h0,hs⟩]
 ·rw [if_neg (fun h => hs h.2)]
  by_cases h0 : T = 0
  ·rw [if_pos (Or.inr h0),if_pos (Or.inl h0)]
  ·rw [if_neg (fun h => h.elim (fun h => by omega) h0),if_neg (fun h => h.elim h0 (fun h => h.elim (fun h => by cases h) hs))]
theorem rexp_high {x : UInt32} (h3 : 3 < x.toNat / 16777216) {U : Nat} (hU : U = x.toNat % 8388608 * 2 ^ (8 * (x.toNat / 16777216 - 3))) :
  U % 2 ^ 256 < 2 ^ 256∧expN x = if U % 2 ^ 256 = 0 ∨ decide (2 ^ 256 ≤ U) = true ∨ x.toNat / 8388608 % 2 = 1 then (0,7) else (U % 2 ^ 256,0):=by
 have e : expT x = U:=by
  unfold expT
  rw [if_neg (by omega)]
  exact hU.symm
 refine ⟨Nat.mod_lt _ (Nat.two_pow_pos _),?_⟩
 unfold expN
 rw [e]
 by_cases hs : x.toNat / 8388608 % 2 = 1
 ·rw [if_pos (Or.inr (Or.inr hs))]
  by_cases h0 : x.toNat % 8388608 = 0
  ·rw [if_neg (fun h => h.1 h0),if_pos (Or.inr (by rw [hU,h0,Nat.zero_mul]))]
  ·rw [if_pos ⟨h0,hs⟩]
 ·rw [if_neg (fun h => hs h.2)]
  by_cases hb : 2 ^ 256 ≤ U
  ·rw [if_pos (Or.inl hb),if_pos (Or.inr (Or.inl (decide_eq_true hb)))]
  ·have hm : U % 2 ^ 256 = U:=Nat.mod_eq_of_lt (Nat.lt_of_not_le hb)
   rw [hm,decide_eq_false hb]
   by_cases h0 : U = 0
   ·rw [if_pos (Or.inr h0),if_pos (Or.inl h0)]
   ·rw [if_neg (fun h => h.elim hb h0),if_neg (fun h => h.elim h0 (fun h => h.elim (fun h => by cases h) hs))]
set_option maxRecDepth 100000 in
set_option maxHeartbeats 4000000 in
theorem rexpand_any (x : UInt32) (w : World) :
  Calls Tryz.prog 41 #[u32v x] w fun e w' => e = .returned (.tuple #[uV (expN x).1,.int .i64 (expN x).2])∧Keep w w':=by
 have hx:=x.toNat_lt
 have H2 : Hid (¬ 3 < x.toNat / 16777216 → ∀ T,T = x.toNat % 8388608 / 2 ^ (8 * (3 - x.toNat / 16777216)) → T < 2 ^ 256∧expN x = if T = 0 ∨ false = true ∨ x.toNat / 8388608 % 2 = 1 then (0,7) else (T,0)):=Lib.hid fun h3 T hT => rexp_low h3 hT
 have H3 : Hid (3 < x.toNat / 16777216 → ∀ U,U = x.toNat % 8388608 * 2 ^ (8 * (x.toNat / 16777216 - 3)) → U % 2 ^ 256 < 2 ^ 256∧expN x = if U % 2 ^ 256 = 0 ∨ decide (2 ^ 256 ≤ U) = true ∨ x.toNat / 8388608 % 2 = 1 then (0,7) else (U % 2 ^ 256,0)):=Lib.hid fun h3 U hU => rexp_high h3 hU
 generalize expN x = R at *
 have a1 : bits BinOp.and IntKind.u32 (x.toNat : Int) 8388608 = ((x.toNat / 8388608 % 2 * 8388608 : Nat) : Int):=u32_bit23 _
 have a2 : bits BinOp.and IntKind.u32 (x.toNat : Int) 8388607 = ((x.toNat % 8388608 : Nat) : Int):=u32_and23 _
 have a3 : (x.toNat : Int) / 16777216 = ((x.toNat / 16777216 : Nat) : Int):=by omega
 obtain ⟨m,hm⟩ : ∃ m,x.toNat % 8388608 = m:=⟨_,rfl⟩
 obtain ⟨s,hs⟩ : ∃ s,x.toNat / 8388608 % 2 = s:=⟨_,rfl⟩
 obtain ⟨k,hk⟩ : ∃ k,x.toNat / 16777216 = k:=⟨_,rfl⟩
 rw [hm] at a2 H2 H3
 rw [hs] at a1 H2 H3
 rw [hk] at a3 H2 H3
 have hm23 : m < 8388608:=by omega
 have hs2 : s < 2:=by omega
 have hk8 : k < 256:=by omega
 have HA1:=Lib.hid a1
 have O1 : Hid (∀ y,Calls Tryz.prog 60 #[n64 m] y fun e w' => e = .returned (uV m)∧Keep y w'):=Lib.hid fun y => rof_any m y (small64 hm23)
 have S1 : Hid (∀ y,Calls Tryz.prog 61 #[uV m,.int .i64 (8 * (3 - (k : Int)))] y fun e w' => e = .returned (uV (m / 2 ^ (8 * (3 - k))))∧Keep y w'):=Lib.hid fun y => by
  have q:=rshr_any m (8 * (3 - (k : Int))) y (small256 hm23) (by omega)
  rwa [show (8 * (3 - (k : Int))).toNat = 8 * (3 - k) by omega] at q
 have S2 : Hid (3 < k → ∀ y,Calls Tryz.prog 62 #[uV m,.int .i64 (8 * ((k : Int) - 3))] y fun e w' => e = .returned (.tuple #[uV (m * 2 ^ (8 * (k - 3)) % 2 ^ 256),.bool (decide (2 ^ 256 ≤ m * 2 ^ (8 * (k - 3))))])∧Keep y w'):=Lib.hid fun h3 y => by
  have q:=rshl_any m (8 * ((k : Int) - 3)) y (small256 hm23) (by omega)
  rwa [show (8 * ((k : Int) - 3)).toNat = 8 * (k - 3) by omega] at q
 have P1 : Hid (¬ 3 < k → m / 2 ^ (8 * (3 - k)) < 2 ^ 256∧R = if m / 2 ^ (8 * (3 - k)) = 0 ∨ false = true ∨ s = 1 then (0,7) else (m / 2 ^ (8 * (3 - k)),0)):=Lib.hid fun h3 => H2.out h3 _ rfl
 have P2 : Hid (3 < k → m * 2 ^ (8 * (k - 3)) % 2 ^ 256 < 2 ^ 256∧R = if m * 2 ^ (8 * (k - 3)) % 2 ^ 256 = 0 ∨ decide (2 ^ 256 ≤ m * 2 ^ (8 * (k - 3))) = true ∨ s = 1 then (0,7) else (m * 2 ^ (8 * (k - 3)) % 2 ^ 256,0)):=Lib.hid fun h3 => H3.out h3 _ rfl
 obtain ⟨T1,hT1⟩ : ∃ T,m / 2 ^ (8 * (3 - k)) = T:=⟨_,rfl⟩
 obtain ⟨V2,hV2⟩ : ∃ o,decide (2 ^ 256 ≤ m * 2 ^ (8 * (k - 3))) = o:=⟨_,rfl⟩
 obtain ⟨T2,hT2⟩ : ∃ T,m * 2 ^ (8 * (k - 3)) % 2 ^ 256 = T:=⟨_,rfl⟩
 rw [hT1] at S1 P1
 rw [hT2,hV2] at S2 P2
 clear hm hs hk hx H2 H3 hT1 hT2 hV2 a1
 go_enter Tryz.func41,Tryz.ntmps41
 go_upto_region 1 with fail
 obtain ⟨w1,hw1⟩ : ∃ x,x = w.alloc (.cells #[.int .u64 0,.int .u64 0,.int .u64 0,.int .u64 0] 72):=⟨_,rfl⟩
 have HR1 : Hid (Blk w1 w.heap.size 72 (uL 0)):=by rw [hw1];exact Lib.hid (Blk.new w 72 (uL 0))
 have HK1 : Hid (Keep w w1):=by rw [hw1];exact Lib.hid (keep_new _ _)
 rw [← hw1]
 clear hw1
 obtain ⟨r,hr⟩ : ∃ r,w.heap.size = r:=⟨_,rfl⟩
 have HG:=Lib.hid hr
 rw [hr] at HR1
 simp only [hr]
 clear hr
 go_upto_region 2 with fail
 clear a3
 go_upto_region 3 with (go_at_call 60;refine (O1.out _).mono ?_;rintro e w2 ⟨rfl,k2⟩;have HR2:=Lib.hid (HR1.out.keep k2);have HK2:=Lib.hid (keep_trans HK1.out k2);clear k2 a2)
 clear HR1 HK1
 obtain ⟨w3,hw3⟩ : ∃ x,x = w2.alloc (.cells #[n64 (limb m 0),n64 (limb m 1),n64 (limb m 2),n64 (limb m 3)] 72):=⟨_,rfl⟩
 have HM3 : Hid (Blk w3 w2.heap.size 72 (uL m)):=by rw [hw3];exact Lib.hid (Blk.new w2 72 (uL m))
 have k3 : Keep w2 w3:=by rw [hw3];exact keep_new _ _
 have HR3:=Lib.hid (HR2.out.keep k3);have HK3:=Lib.hid (keep_trans HK2.out k3)
 have hltM : r < w2.heap.size:=HR2.out.lt
 rw [← hw3]
 clear hw3 k3 HR2 HK2
 obtain ⟨M,hM⟩ : ∃ X,w2.heap.size = X:=⟨_,rfl⟩
 rw [hM] at HM3 hltM
 simp only [hM]
 clear hM
 have a0:=HM3.out.cell 0;have a1:=HM3.out.cell 1;have a2:=HM3.out.cell 2;have a3:=HM3.out.cell 3
 simp only [uL,List.getElem?_cons_succ,List.getElem?_cons_zero] at a0 a1 a2 a3
 go_upto_region 4 with (go_at_call 61;refine (S1.out _).mono ?_;rintro e w4 ⟨rfl,k4⟩;have HR4:=Lib.hid (HR3.out.keep k4);have HM4:=Lib.hid (HM3.out.keep k4);have HK4:=Lib.hid (keep_trans HK3.out k4);clear k4 a0 a1 a2 a3)
 clear HR3 HM3 HK3
 obtain ⟨w5,hw5⟩ : ∃ x,x = w4.alloc (.cells #[n64 (limb T1 0),n64 (limb T1 1),n64 (limb T1 2),n64 (limb T1 3)] 72):=⟨_,rfl⟩
 have HT5 : Hid (Blk w5 w4.heap.size 72 (uL T1)):=by rw [hw5];exact Lib.hid (Blk.new w4 72 (uL T1))
 have k5 : Keep w4 w5:=by rw [hw5];exact keep_new _ _
 have HR5:=Lib.hid (HR4.out.keep k5);have HM5:=Lib.hid (HM4.out.keep k5);have HK5:=Lib.hid (keep_trans HK4.out k5)
 have hltT : M < w4.heap.size:=HM4.out.lt
 rw [← hw5]
 clear hw5 k5 HR4 HM4 HK4
 obtain ⟨T,hT⟩ : ∃ X,w4.heap.size = X:=⟨_,rfl⟩
 rw [hT] at HT5 hltT
 simp only [hT]
 clear hT
 go_upto_region 5 with fail
 go_upto_if 21 with fail
 go_cut [7] (fun v wx => ∃ (T' : Nat) (ov : Bool),v = .bool ov∧T' < 2 ^ 256∧Hid (R = if T' = 0 ∨ ov = true ∨ s = 1 then (0,7) else (T',0))∧Hid (Blk wx T 72 (uL T'))∧Hid (Blk wx r 72 (uL 0))∧Hid (Keep w wx))
 case first =>
  by_cases h3 : 3 < k
  ·have d1 : (3 : Int) < k:=by omega
   have P:=Lib.hid (P2.out h3).2
   have hT2:=(P2.out h3).1
   have S:=Lib.hid (S2.out h3)
   clear S1 S2 P1 P2 O1
   have a0:=HM5.out.cell 0;have a1:=HM5.out.cell 1;have a2:=HM5.out.cell 2;have a3:=HM5.out.cell 3
   simp only [uL,List.getElem?_cons_succ,List.getElem?_cons_zero] at a0 a1 a2 a3
   have t0:=HT5.out.cell 0;have t1:=HT5.out.cell 1;have t2:=HT5.out.cell 2;have t3:=HT5.out.cell 3
   simp only [uL,List.getElem?_cons_succ,List.getElem?_cons_zero] at t0 t1 t2 t3
   have f0:=HT5.out.frozen 0;have f1:=HT5.out.frozen 1;have f2:=HT5.out.frozen 2;have f3:=HT5.out.frozen 3
   go_wp2_with (go_at_call 62;refine (S.out _).mono ?_;rintro e w6 ⟨rfl,k6⟩;have HR6:=Lib.hid (HR5.out.keep k6);have HM6:=Lib.hid (HM5.out.keep k6);have HT6:=Lib.hid (HT5.out.keep k6);have HK6:=Lib.hid (keep_trans HK5.out k6);clear k6 a0 a1 a2 a3 t0 t1 t2 t3 f0 f1 f2 f3;have t0:=HT6.out.cell 0;have t1:=HT6.out.cell 1;have t2:=HT6.out.cell 2;have t3:=HT6.out.cell 3;have f0:=HT6.out.frozen 0;have f1:=HT6.out.frozen 1;have f2:=HT6.out.frozen 2;have f3:=HT6.out.frozen 3;simp only [uL,List.getElem?_cons_succ,List.getElem?_cons_zero] at t0 t1 t2 t3)
   clear HR5 HM5 HT5 HK5
   clear t0 t1 t2 t3 f0 f1 f2 f3
   obtain ⟨w7,hw7⟩ : ∃ x,x = (((w6.setCell ⟨T,0,none⟩ (n64 (limb T2 0))).setCell ⟨T,1,none⟩ (n64 (limb T2 1))).setCell ⟨T,2,none⟩ (n64 (limb T2 2))).setCell ⟨T,3,none⟩ (n64 (limb T2 3)):=⟨_,rfl⟩
   have hgw : w6.grownBy w7 (some T):=by rw [hw7];exact grown_set (grown_set (grown_set (grown_set (grown_refl _ _))))
   have HT7 : Hid (Blk w7 T 72 (uL T2)):=by rw [hw7];exact Lib.hid ((((HT6.out.set_ 0 _).set_ 1 _).set_ 2 _).set_ 3 _)
   have HR7:=Lib.hid (HR6.out.grown hgw (fun q => by have:=Option.some.inj q;omega))
   have HK7 : Hid (Keep w w7):=Lib.hid (HK6.out.grown hgw HK6.out.size (fun q hq => by have:=Option.some.inj hq;have:=HG.out;omega))
   rw [← hw7]
   clear hw7 hgw HT6 HR6 HK6
   go_meet
   exact ⟨T2,V2,rfl,hT2,P,HT7,HR7,HK7⟩
  ·have d1 : ¬ (3 : Int) < k:=by omega
   have P:=Lib.hid (P1.out h3).2
   have hT1:=(P1.out h3).1
   clear S1 S2 P1 P2 O1
   go_wp2
   go_meet
   exact ⟨T1,false,rfl,hT1,P,HT5,HR5,HK5⟩
 case rest =>
  obtain ⟨T',ov,rfl,hT',HD,HT8,HR8,HK8⟩:=hcut
  clear S1 S2 P1 P2 O1 HM5 HT5 HR5 HK5
  have a1:=HA1.out
  have heq : (Op.equalIn 10000 72 (.agg #[n64 (limb T' 0),n64 (limb T' 1),n64 (limb T' 2),n64 (limb T' 3)]) (.agg #[.int .u64 0,.int .u64 0,.int .u64 0,.int .u64 0])).run Tryz.prog wc = .ok (decide (T' = 0)) wc:=rU_eq hT' (Nat.two_pow_pos 256) wc
  have t0:=HT8.out.cell 0;have t1:=HT8.out.cell 1;have t2:=HT8.out.cell 2;have t3:=HT8.out.cell 3
  simp only [uL,List.getElem?_cons_succ,List.getElem?_cons_zero] at t0 t1 t2 t3
  have y0:=HR8.out.cell 0;have y1:=HR8.out.cell 1;have y2:=HR8.out.cell 2;have y3:=HR8.out.cell 3
  simp only [uL,List.getElem?_cons_succ,List.getElem?_cons_zero] at y0 y1 y2 y3
  have z0:=HR8.out.frozen 0;have z1:=HR8.out.frozen 1;have z2:=HR8.out.frozen 2;have z3:=HR8.out.frozen 3
  by_cases h0 : T' = 0
  ·have hD:=HD.out
   rw [if_pos (Or.inl h0)] at hD
   subst hD
   rw [decide_eq_true h0] at heq
   clear HD h0 hT' a1
   go_wp2
   exact bodyPost_ret (v:=.tuple #[uV 0,.int .i64 7]) (results_cell_tmp_row Tryz.results41 _ _ r _ _ _ _ rfl (show Blk _ r 72 (uL 0) from (((HR8.out.set_ 0 _).set_ 1 _).set_ 2 _).set_ 3 _) Tryz.underlying72 rfl (by kernel_rfl)) rfl ⟨rfl,HK8.out.grown (grown_set (grown_set (grown_set (grown_set (grown_refl _ _))))) HK8.out.size (fun q hq => by injection hq with hq;have:=HG.out;omega)⟩
  ·rw [decide_eq_false h0] at heq
   cases ov with
   | true =>
     have hD:=HD.out
     rw [if_pos (Or.inr (Or.inl rfl))] at hD
     subst hD
     clear HD h0 hT' a1
     go_wp2
     exact bodyPost_ret (v:=.tuple #[uV 0,.int .i64 7]) (results_cell_tmp_row Tryz.results41 _ _ r _ _ _ _ rfl (show Blk _ r 72 (uL 0) from (((HR8.out.set_ 0 _).set_ 1 _).set_ 2 _).set_ 3 _) Tryz.underlying72 rfl (by kernel_rfl)) rfl ⟨rfl,HK8.out.grown (grown_set (grown_set (grown_set (grown_set (grown_refl _ _))))) HK8.out.size (fun q hq => by injection hq with hq;have:=HG.out;omega)⟩
   | false =>
     rcases (show s = 0 ∨ s = 1 by omega) with rfl | rfl
     ·have hD:=HD.out
      rw [if_neg (fun h => h.elim h0 (fun h => h.elim (fun h => by cases h) (fun h => by cases h)))] at hD
      subst hD
      clear HD h0 hT' hs2
      go_wp2
      exact bodyPost_ret (v:=.tuple #[uV T',.int .i64 0]) (results_cell_tmp_row Tryz.results41 _ _ r _ _ _ _ rfl (show Blk _ r 72 (uL T') from (((HR8.out.set_ 0 _).set_ 1 _).set_ 2 _).set_ 3 _) Tryz.underlying72 rfl (by kernel_rfl)) rfl ⟨rfl,HK8.out.grown (grown_set (grown_set (grown_set (grown_set (grown_refl _ _))))) HK8.out.size (fun q hq => by injection hq with hq;have:=HG.out;omega)⟩
     ·have hD:=HD.out
      rw [if_pos (Or.inr (Or.inr rfl))] at hD
      subst hD
      clear HD h0 hT' hs2
      go_wp2
      exact bodyPost_ret (v:=.tuple #[uV 0,.int .i64 7]) (results_cell_tmp_row Tryz.results41 _ _ r _ _ _ _ rfl (show Blk _ r 72 (uL 0) from (((HR8.out.set_ 0 _).set_ 1 _).set_ 2 _).set_ 3 _) Tryz.underlying72 rfl (by kernel_rfl)) rfl ⟨rfl,HK8.out.grown (grown_set (grown_set (grown_set (grown_set (grown_refl _ _))))) HK8.out.size (fun q hq => by injection hq with hq;have:=HG.out;omega)⟩
end Go.Proofs.YtmbbknjddebhoaaGreatDoor
/- florinref05.Shrink. (printed by gen_nq.py) -/
set_option linter.unusedSimpArgs false
set_option linter.unusedVariables false
namespace Go.Proofs.YtmbbknjddebhoaaGreatDoor
open Go.RowKit
attribute [local go_sem ↓] Go.wp_at_zero Go.wp_at_succ
theorem rshr_val {T e X : Nat} (he : (lenN T + 7) / 8 = e) (hX : (if 3 < e then T / 2 ^ (8 * (e - 3)) else T * 2 ^ (8 * (3 - e)) % 2 ^ 256) = X) :
  X < 16777216∧shrN T = if 8388608 ≤ X then UInt32.ofNat ((e + 1) * 16777216 ||| X / 256) else UInt32.ofNat (e * 16777216 ||| X):=by
 have hT : T < 2 ^ (8 * e):=Nat.lt_of_lt_of_le (lenN_lt T) (Nat.pow_le_pow_right (by decide) (by omega))
 have hX2 : X < 16777216∧X = (if e < 3 then T * 2 ^ (8 * (3 - e)) else T / 2 ^ (8 * (e - 3))):=by
  by_cases h3 : 3 < e
  ·rw [if_pos h3] at hX
   rw [if_neg (by omega)]
   refine ⟨?_,hX.symm⟩
   rw [← hX]
   apply Nat.div_lt_of_lt_mul
   rw [show (16777216 : Nat) = 2 ^ 24 from by decide,← Nat.pow_add,show 8 * (e - 3) + 24 = 8 * e by omega]
   exact hT
  ·rw [if_neg h3] at hX
   have hlt : T * 2 ^ (8 * (3 - e)) < 16777216:=by
    rw [show (16777216 : Nat) = 2 ^ (8 * e) * 2 ^ (8 * (3 - e)) by rw [← Nat.pow_add,show 8 * e + 8 * (3 - e) = 24 by omega]]
    exact Nat.mul_lt_mul_of_pos_right hT (Nat.two_pow_pos _)
   have h5 : (16777216 : Nat) ≤ 2 ^ 256:=by decide
   rw [Nat.mod_eq_of_lt (by omega)] at hX
   refine ⟨by omega,?_⟩
   by_cases h4 : e < 3
   ·rw [if_pos h4];exact hX.symm
   ·rw [if_neg h4,← hX,show e = 3 by omega,Nat.sub_self,Nat.mul_zero,Nat.pow_zero,Nat.mul_one,Nat.div_one]
 refine ⟨hX2.1,?_⟩
 by_cases h0 : T = 0
 ·subst h0
  have e0 : e = 0:=by rw [← he];rfl
  subst e0
  have x0 : X = 0:=by rw [hX2.2];simp
  subst x0
  rfl
 ·rw [shr_val h0,he,← hX2.2,Nat.mod_eq_of_lt (show X < 4294967296 by omega)]
  by_cases hb : 8388608 ≤ X
  ·rw [if_pos hb,if_pos (by omega)]
  ·rw [if_neg hb,if_neg (by omega)]
set_option maxRecDepth 100000 in
set_option maxHeartbeats 4000000 in
theorem rshrink_any (T : Nat) (w : World) (hT : T < 2 ^ 256) : Calls Tryz.prog 86 #[uV T] w fun e w' => e = .returned (u32v (shrN T))∧Keep w w':=by
 have L1 : Hid (∀ y,Calls Tryz.prog 104 #[uV T] y fun e w' => e = .returned (.int .i64 (lenN T : Nat))∧Keep y w'):=Lib.hid fun y => rlen_any T y hT
 have hL : lenN T ≤ 256:=lenN_le hT
 obtain ⟨e,he⟩ : ∃ e,(lenN T + 7) / 8 = e:=⟨_,rfl⟩
 have he32 : e ≤ 32:=by omega
 have q1 : Int.tdiv ((lenN T : Int) + 7) 8 = (e : Int):=by rw [Int.tdiv_eq_ediv_of_nonneg (by omega)];omega
 have HV : Hid (∀ X,(if 3 < e then T / 2 ^ (8 * (e - 3)) else T * 2 ^ (8 * (3 - e)) % 2 ^ 256) = X → X < 16777216∧shrN T = if 8388608 ≤ X then UInt32.ofNat ((e + 1) * 16777216 ||| X / 256) else UInt32.ofNat (e * 16777216 ||| X)):=Lib.hid fun X h => rshr_val he h
 have S1 : Hid (∀ y,Calls Tryz.prog 62 #[uV T,.int .i64 (8 * (3 - (e : Int)))] y fun e' w' => e' = .returned (.tuple #[uV (T * 2 ^ (8 * (3 - e)) % 2 ^ 256),.bool (decide (2 ^ 256 ≤ T * 2 ^ (8 * (3 - e))))])∧Keep y w'):=Lib.hid fun y => by
  have q:=rshl_any T (8 * (3 - (e : Int))) y hT (by omega)
  rwa [show (8 * (3 - (e : Int))).toNat = 8 * (3 - e) by omega] at q
 have S2 : Hid (3 < e → ∀ y,Calls Tryz.prog 61 #[uV T,.int .i64 (8 * ((e : Int) - 3))] y fun e' w' => e' = .returned (uV (T / 2 ^ (8 * (e - 3))))∧Keep y w'):=Lib.hid fun h3 y => by
  have q:=rshr_any T (8 * ((e : Int) - 3)) y hT (by omega)
  rwa [show (8 * ((e : Int) - 3)).toNat = 8 * (e - 3) by omega] at q
 generalize lenN T = L at *
 generalize shrN T = R at *
 obtain ⟨X1,hX1⟩ : ∃ X,T * 2 ^ (8 * (3 - e)) % 2 ^ 256 = X:=⟨_,rfl⟩
 obtain ⟨V1,hV1⟩ : ∃ X,decide (2 ^ 256 ≤ T * 2 ^ (8 * (3 - e))) = X:=⟨_,rfl⟩
 obtain ⟨X2,hX2⟩ : ∃ X,T / 2 ^ (8 * (e - 3)) = X:=⟨_,rfl⟩
 rw [hX1] at HV S1
 rw [hV1] at S1
 rw [hX2] at HV S2
 clear he hT hX1 hV1 hX2
 go_enter Tryz.func86,Tryz.ntmps86
 go_upto_region 1 with fail
 obtain ⟨w1,hw1⟩ : ∃ x,x = w.alloc (.cells #[n64 (limb T 0),n64 (limb T 1),n64 (limb T 2),n64 (limb T 3)] 72):=⟨_,rfl⟩
 have HA1 : Hid (Blk w1 w.heap.size 72 (uL T)):=by rw [hw1];exact Lib.hid (Blk.new w 72 (uL T))
 have HK1 : Hid (Keep w w1):=by rw [hw1];exact Lib.hid (keep_new _ _)
 rw [← hw1]
 clear hw1
 obtain ⟨r,hr⟩ : ∃ r,w.heap.size = r:=⟨_,rfl⟩
 have HG:=Lib.hid hr
 rw [hr] at HA1
 simp only [hr]
 clear hr
 have a0:=HA1.out.cell 0;have a1:=HA1.out.cell 1;have a2:=HA1.out.cell 2;have a3:=HA1.out.cell 3
 simp only [uL,List.getElem?_cons_succ,List.getElem?_cons_zero] at a0 a1 a2 a3
 go_upto_region 2 with (go_at_call 104;refine (L1.out _).mono ?_;rintro e w2 ⟨rfl,k2⟩;have HA2:=Lib.hid (HA1.out.keep k2);have HK2:=Lib.hid (keep_trans HK1.out k2);clear k2 a0 a1 a2 a3)
 clear HA1 HK1
 have a0:=HA2.out.cell 0;have a1:=HA2.out.cell 1;have a2:=HA2.out.cell 2;have a3:=HA2.out.cell 3
 simp only [uL,List.getElem?_cons_succ,List.getElem?_cons_zero] at a0 a1 a2 a3
 clear q1 L1
 go_upto_region 3 with (go_at_call 62;refine (S1.out _).mono ?_;rintro e w3 ⟨rfl,k3⟩;have HA3:=Lib.hid (HA2.out.keep k3);have HK3:=Lib.hid (keep_trans HK2.out k3);clear k3 a0 a1 a2 a3)
 clear HA2 HK2
 obtain ⟨w4,hw4⟩ : ∃ x,x = w3.alloc (.cells #[n64 (limb X1 0),n64 (limb X1 1),n64 (limb X1 2),n64 (limb X1 3)] 72):=⟨_,rfl⟩
 have HM4 : Hid (Blk w4 w3.heap.size 72 (uL X1)):=by rw [hw4];exact Lib.hid (Blk.new w3 72 (uL X1))
 have k4 : Keep w3 w4:=by rw [hw4];exact keep_new _ _
 have HA4:=Lib.hid (HA3.out.keep k4);have HK4:=Lib.hid (keep_trans HK3.out k4)
 have hltM : r < w3.heap.size:=HA3.out.lt
 rw [← hw4]
 clear hw4 k4 HA3 HK3
 obtain ⟨M,hM⟩ : ∃ X,w3.heap.size = X:=⟨_,rfl⟩
 rw [hM] at HM4 hltM
 simp only [hM]
 clear hM
 go_upto_if 20 with fail
 go_cut [3] (fun v wx => ∃ X : Nat,v = .int .i64 e∧X < 16777216∧Hid (R = if 8388608 ≤ X then UInt32.ofNat ((e + 1) * 16777216 ||| X / 256) else UInt32.ofNat (e * 16777216 ||| X))∧Hid (Blk wx M 72 (uL X))∧Hid (Keep w wx))
 case first =>
  by_cases h3 : 3 < e
  ·have d1 : (3 : Int) < e:=by omega
   have P:=HV.out X2 (if_pos h3)
   have HP:=Lib.hid P.2
   have hX:=P.1
   have S:=Lib.hid (S2.out h3)
   clear S1 S2 HV P
   have a0:=HA4.out.cell 0;have a1:=HA4.out.cell 1;have a2:=HA4.out.cell 2;have a3:=HA4.out.cell 3
   simp only [uL,List.getElem?_cons_succ,List.getElem?_cons_zero] at a0 a1 a2 a3
   have t0:=HM4.out.cell 0;have t1:=HM4.out.cell 1;have t2:=HM4.out.cell 2;have t3:=HM4.out.cell 3
   simp only [uL,List.getElem?_cons_succ,List.getElem?_cons_zero] at t0 t1 t2 t3
   have f0:=HM4.out.frozen 0;have f1:=HM4.out.frozen 1;have f2:=HM4.out.frozen 2;have f3:=HM4.out.frozen 3
   go_wp2_with (go_at_call 61;refine (S.out _).mono ?_;rintro e w5 ⟨rfl,k5⟩;have HA5:=Lib.hid (HA4.out.keep k5);have HM5:=Lib.hid (HM4.out.keep k5);have HK5:=Lib.hid (keep_trans HK4.out k5);clear k5 a0 a1 a2 a3 t0 t1 t2 t3 f0 f1 f2 f3;have t0:=HM5.out.cell 0;have t1:=HM5.out.cell 1;have t2:=HM5.out.cell 2;have t3:=HM5.out.cell 3;have f0:=HM5.out.frozen 0;have f1:=HM5.out.frozen 1;have f2:=HM5.out.frozen 2;have f3:=HM5.out.frozen 3;simp only [uL,List.getElem?_cons_succ,List.getElem?_cons_zero] at t0 t1 t2 t3)
   clear HA4 HM4 HK4
   clear t0 t1 t2 t3 f0 f1 f2 f3
   obtain ⟨w6,hw6⟩ : ∃ x,x = (((w5.setCell ⟨M,0,none⟩ (n64 (limb X2 0))).setCell ⟨M,1,none⟩ (n64 (limb X2 1))).setCell ⟨M,2,none⟩ (n64 (limb X2 2))).setCell ⟨M,3,none⟩ (n64 (limb X2 3)):=⟨_,rfl⟩
   have hgw : w5.grownBy w6 (some M):=by rw [hw6];exact grown_set (grown_set (grown_set (grown_set (grown_refl _ _))))
   have HM6 : Hid (Blk w6 M 72 (uL X2)):=by rw [hw6];exact Lib.hid ((((HM5.out.set_ 0 _).set_ 1 _).set_ 2 _).set_ 3 _)
   have HK6 : Hid (Keep w w6):=Lib.hid (HK5.out.grown hgw HK5.out.size (fun q hq => by have:=Option.some.inj hq;have:=HG.out;omega))
   rw [← hw6]
   clear hw6 hgw HM5 HK5
   go_meet
   exact ⟨X2,rfl,hX,HP,HM6,HK6⟩
  ·have d1 : ¬ (3 : Int) < e:=by omega
   have P:=HV.out X1 (if_neg h3)
   have HP:=Lib.hid P.2
   have hX:=P.1
   clear S1 S2 HV P
   go_wp2
   go_meet
   exact ⟨X1,rfl,hX,HP,HM4,HK4⟩
 case rest =>
  obtain ⟨X,rfl,hX,HP,HM8,HK8⟩:=hcut
  clear S1 S2 HV HA4 HM4 HK4
  have t0:=HM8.out.cell 0
  simp only [uL,List.getElem?_cons_zero] at t0
  have q2 : IntKind.u32.wrap (limb X 0 : Int) = (X : Int):=by
   have h1:=limb0_mod X
   rw [IntKind.wrap_u32];omega
  obtain ⟨m8,hm8⟩ : ∃ x,X / 256 = x:=⟨_,rfl⟩
  obtain ⟨v6,hv6⟩ : ∃ x,(e + 1) * 16777216 ||| m8 = x:=⟨_,rfl⟩
  obtain ⟨v5,hv5⟩ : ∃ x,e * 16777216 ||| X = x:=⟨_,rfl⟩
  have z5 : v5 < 4294967296:=by rw [← hv5];exact Nat.or_lt_two_pow (n:=32) (by omega) (by omega)
  have z6 : v6 < 4294967296:=by rw [← hv6];exact Nat.or_lt_two_pow (n:=32) (by omega) (by omega)
  have q5 : bits .or .u32 ((e : Int) * 16777216) (X : Int) = (v5 : Int):=by
   rw [show (e : Int) * 16777216 = ((e * 16777216 : Nat) : Int) by omega,← hv5];exact u32_or_nat _ _ (by omega) (by omega)
  have q6 : bits .or .u32 (((e : Int) + 1) * 16777216) (m8 : Int) = (v6 : Int):=by
   rw [show ((e : Int) + 1) * 16777216 = (((e + 1) * 16777216 : Nat) : Int) by omega,← hv6];exact u32_or_nat _ _ (by omega) (by omega)
  have q4 : (X : Int) / 256 = (m8 : Int):=by omega
  rw [hm8,hv6,hv5] at HP
  have Z5:=Lib.hid z5;have Z6:=Lib.hid z6
  clear hm8 hv6 hv5
  by_cases hb : 8388608 ≤ X
  ·have hR:=HP.out
   rw [if_pos hb] at hR
   subst hR
   have d2 : (8388608 : Int) ≤ X:=by omega
   clear HP q5 z5
   go_wp2
   rw [u32v_ofNat z6]
   exact bodyPost_ret (v:=.int .u32 (v6 : Int)) (by simp [results,Tryz.results86]) rfl ⟨rfl,HK8.out⟩
  ·have hR:=HP.out
   rw [if_neg hb] at hR
   subst hR
   have d2 : ¬ (8388608 : Int) ≤ X:=by omega
   clear HP q6 z6 q4
   go_wp2
   rw [u32v_ofNat z5]
   exact bodyPost_ret (v:=.int .u32 (v5 : Int)) (by simp [results,Tryz.results86]) rfl ⟨rfl,HK8.out⟩
end Go.Proofs.YtmbbknjddebhoaaGreatDoor
