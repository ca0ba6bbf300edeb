/- Texts merged by pack.py: NSd, NSe, NSf, NSg, Nc, Nd, Ne, Nf, Ng. -/
import Derived.Test.YtmbbknjddebhoaaGreatDoorCx7
import Derived.Test.YtmbbknjddebhoaaGreatDoorCx4
/- florinref02: Initial, Start, Sane, Pad. (printed by gen_nsd.py) -/
set_option linter.unusedSimpArgs false
set_option linter.unusedVariables false
namespace Go.Proofs.YtmbbknjddebhoaaGreatDoor
open Go.RowKit
attribute [local go_sem ↓] Go.wp_at_zero Go.wp_at_succ
theorem Bf.row {w0 w : World} (k : Keep w0 w) (l : List UInt8) (hl : l.length ≤ 1000000000) : Bf w0 (w.alloc (.cells (l.map u8v).toArray 5)) (some ⟨w.heap.size,0,none⟩) l.length l :=
 ⟨own_eq (World.ownsRow_lit (base:=w0.heap.size) (size:=1) (e:=5) w (l.map u8v).toArray l.length k.size (by unfold maxLen;omega) (by simp)) rfl (by simp),k.alloc k.size _⟩
set_option maxRecDepth 100000 in
set_option maxHeartbeats 4000000 in
theorem rinitial_any (i : Nat) (w : World) (hi : i < 8) :
  Calls Tryz.prog 102 #[.int .i64 i] w fun e w' => e = .returned (u32v (hTab.getD i 0))∧Keep w w':=by
 obtain ⟨y,hy⟩ : ∃ y,hTab[i]? = some y:=⟨_,List.getElem?_eq_getElem (by exact hi)⟩
 rw [getD_of hy]
 have c0:=(Blk.new w 104 (hTab.map u32v)).cell i
 rw [List.getElem?_map,hy,Option.map_some] at c0
 have c1 : (w.alloc (.cells #[.int .u32 1779033703,.int .u32 3144134277,.int .u32 1013904242,.int .u32 2773480762,.int .u32 1359893119,.int .u32 2600822924,.int .u32 528734635,.int .u32 1541459225] 104)).cell? ⟨w.heap.size,i,none⟩ = some (u32v y):=c0
 clear hy c0
 go_enter Tryz.func102,Tryz.ntmps102
 go_wp2
 exact bodyPost_ret (v:=u32v y) (by simp [results,Tryz.results102]) rfl ⟨rfl,keep_new _ _⟩
set_option maxRecDepth 100000 in
set_option maxHeartbeats 1000000 in
theorem rstart_any (w : World) : Calls Tryz.prog 82 #[] w fun e w' => e = .returned (SV h0V none 0 0 0)∧Keep w w':=by
 go_enter Tryz.func82,Tryz.ntmps82
 go_wp2_with fail
 go_loopw [2] (fun i wr => ∃ k : Nat,k ≤ 8∧i = .int .i64 k∧Keep w wr∧Blk wr w.heap.size 129 ((stL 0).map u32v ++ ([.slice none 0 0,.int .u64 0] : List Value))∧Blk wr (w.heap.size + 1) 129 ((stL k).map u32v ++ ([.slice none 0 0,.int .u64 0] : List Value))) (fun i _ => 8 - (intOf i).toNat)
 case atStart =>
  refine ⟨0,by omega,rfl,keep_trans (keep_new _ _) (keep_new _ _),(Blk.new w _ ((stL 0).map u32v ++ ([.slice none 0 0,.int .u64 0] : List Value))).alloc _,?_⟩
  have h:=Blk.new (w.alloc (.cells ((stL 0).map u32v ++ ([.slice none 0 0,.int .u64 0] : List Value)).toArray 129)) 129 ((stL 0).map u32v ++ ([.slice none 0 0,.int .u64 0] : List Value))
  rw [World.size_alloc] at h
  exact h
 case round =>
  obtain ⟨k,hk,rfl,hkr,hbr,hbs⟩:=hrel
  by_cases hlt : k < 8
  ·have hst:=stL_len k
   have hsu:=Lib.hid (show stL (k + 1) = (stL k).set k (hTab.getD k 0) from rfl)
   have hh : ∀ w',Keep w w' → Calls Tryz.prog 102 #[.int .i64 k] w' fun e w'' => e = .returned (u32v (hTab.getD k 0))∧Keep w' w'':=fun w' h => rinitial_any k w' hlt
   generalize hTab.getD k 0 = y at hh hsu
   obtain ⟨o,ho⟩ : ∃ o,(stL k)[k]? = some o:=⟨_,List.getElem?_eq_getElem (by omega)⟩
   have c0:=hbs.cell k
   rw [List.getElem?_append_left (by rw [List.length_map,hst];exact hlt),List.getElem?_map,ho,Option.map_some] at c0
   have f0:=hbs.frozen k
   have Hr:=Lib.hid hbr;have Hs:=Lib.hid hbs;have Hst:=Lib.hid hst;have Hh:=Lib.hid hh
   clear hbr hbs hst hh ho
   have Hkr:=Lib.hid hkr
   clear hkr
   go_wp2_with (go_at_call 102;refine (Hh.out _ Hkr.out).mono ?_;rintro e w3 ⟨rfl,k3⟩;have HK3:=Lib.hid (keep_trans Hkr.out k3);have HR3:=Lib.hid (Hr.out.keep k3);have HS3:=Lib.hid (Hs.out.keep k3);replace f0:=keep_frozen k3 (cell_lt c0) f0;replace c0:=keep_cell k3 c0;clear k3)
   go_roundw
   case rel =>
    refine ⟨k + 1,by omega,by go_num,HK3.out.setCell (by simp) _,HR3.out.far (by simp) _,?_⟩
    have h:=HS3.out.set_ k (u32v y)
    rw [List.set_append_left _ _ (by rw [List.length_map,Hst.out];exact hlt),← List.map_set,← hsu.out] at h
    exact h
   case measure => simp [intOf];omega
  ·obtain rfl : 8 = k:=by omega
   rw [stL_8] at hbs
   have c0:=hbs.cell 0;have c1:=hbs.cell 1;have c2:=hbs.cell 2;have c3:=hbs.cell 3;have c4:=hbs.cell 4;have c5:=hbs.cell 5;have c6:=hbs.cell 6;have c7:=hbs.cell 7;have c8:=hbs.cell 8;have c9:=hbs.cell 9
   have d0:=hbr.cell 0;have d1:=hbr.cell 1;have d2:=hbr.cell 2;have d3:=hbr.cell 3;have d4:=hbr.cell 4;have d5:=hbr.cell 5;have d6:=hbr.cell 6;have d7:=hbr.cell 7;have d8:=hbr.cell 8;have d9:=hbr.cell 9
   have f0:=hbr.frozen 0;have f1:=hbr.frozen 1;have f2:=hbr.frozen 2;have f3:=hbr.frozen 3;have f4:=hbr.frozen 4;have f5:=hbr.frozen 5;have f6:=hbr.frozen 6;have f7:=hbr.frozen 7;have f8:=hbr.frozen 8;have f9:=hbr.frozen 9
   simp only [H8.l,stL,List.map_cons,List.map_nil,List.cons_append,List.nil_append,List.getElem?_cons_zero,List.getElem?_cons_succ] at c0 c1 c2 c3 c4 c5 c6 c7 c8 c9 d0 d1 d2 d3 d4 d5 d6 d7 d8 d9
   clear hbr hbs
   go_wp2
   refine bodyPost_ret (v:=SV h0V none 0 0 0) (by simp [results,Tryz.results82,go_sem,d0,d1,d2,d3,d4,d5,d6,d7,d8,d9]) rfl ⟨rfl,?_⟩
   repeat (refine Below.setCell ?_ (by simp) _)
   exact hkr
set_option maxHeartbeats 1000000 in
theorem rssane_any (v : H8) (A : Option Addr) (n c N : Nat) (w : World) (hn : n < 64) (hN : N ≤ 1000000000000) (h : n = N % 64) :
  Calls Tryz.prog 99 #[SV v A n c N] w fun e w' => e = .returned (.bool true)∧Keep w w':=by
 have t : ((n : Int) == (N : Int) % 64) = true:=by simp;omega
 go_enter Tryz.func99,Tryz.ntmps99
 go_wp2
 go_ret
 exact ⟨ret_bool (by first | rfl | (simp;omega)),keep_new _ _⟩
def padR (n k : Nat) : List UInt8:=(128 :: List.replicate (padZ n) 0) ++ (List.range k).map fun j => w8 (padE n j)
theorem padR_len (n k : Nat) : (padR n k).length = 1 + padZ n + k:=by simp [padR];omega
theorem padR_succ (n k : Nat) : padR n (k + 1) = padR n k ++ [w8 (padE n k)]:=by
 unfold padR
 rw [List.range_succ,List.map_append,← List.append_assoc]
 rfl
theorem padK_R (n : Nat) : ∀ k,k ≤ 8 → padK n k = padR n k ++ List.replicate (8 - k) 0
 | 0,_ => by simp [padK,padR,← List.replicate_append_replicate]
 | k + 1,hk => by
   rw [padK,padK_R n k (by omega),List.set_append_right _ _ (by rw [padR_len];omega),padR_len,Nat.sub_self,show 8 - k = (8 - (k + 1)) + 1 by omega,List.replicate_succ,List.set_cons_zero,padR_succ]
   simp
theorem padK_8 (n : Nat) : padK n 8 = padR n 8:=by rw [padK_R n 8 (Nat.le_refl _)];simp
theorem replicate_snoc (j : Nat) : (128 : UInt8) :: List.replicate (j + 1) 0 = (128 :: List.replicate j 0) ++ [0]:=by
 rw [List.replicate_succ'];rfl
set_option maxRecDepth 100000 in
set_option maxHeartbeats 4000000 in
theorem rpad_any (n : Nat) (w : World) (hn : n ≤ 1000000000000) : Calls Tryz.prog 100 #[.int .u64 n] w (Bfd w (padK n 8)):=by
 obtain ⟨z0,hz0⟩ : ∃ z,padZ n = z:=⟨_,rfl⟩
 have hzl : z0 ≤ 63:=by rw [← hz0];unfold padZ;split <;> omega
 have HZ : Hid (∀ j,j ≤ z0 → (((n : Int) % 64 + ((j : Int) + 1) + 8) % 64 != 0) = decide (j < z0)):=Lib.hid fun j hj => by
  unfold padZ at hz0
  by_cases h : j < z0
  ·rw [decide_eq_true h,bne_iff_ne];split at hz0 <;> omega
  ·rw [decide_eq_false h,bne_eq_false_iff_eq];split at hz0 <;> omega
 have HR0 : Hid (padR n 0 = 128 :: List.replicate z0 0):=Lib.hid (by simp [padR,hz0])
 have HRS : Hid (∀ k,padR n (k + 1) = padR n k ++ [w8 (padE n k)]):=Lib.hid (padR_succ n)
 have HRL : Hid (∀ k,(padR n k).length = 1 + z0 + k):=Lib.hid fun k => by rw [padR_len,hz0]
 have HPE : Hid (∀ i,i < 8 → ((n : Int) * 8 / 2 ^ (8 * i)) % 256 = ((w8 (padE n (7 - i))).toNat : Int)):=Lib.hid fun i hi => by
  rw [← w8_of (by unfold padE;omega) (by unfold padE;omega)]
  unfold padE
  rw [show 56 - 8 * (7 - i) = 8 * i by omega]
 rw [padK_8]
 generalize padR n = PR at *
 clear hz0
 unfold Bfd
 go_enter Tryz.func100,Tryz.ntmps100
 go_upto_region 2 with fail
 have HB0 : Hid (Bf w (w.alloc (.cells #[.int .u8 128] 5)) (some ⟨w.heap.size,0,none⟩) 1 [128]):=Lib.hid (Bf.row (Below.refl _ _) [128] (by simp))
 generalize w.alloc (.cells #[.int .u8 128] 5) = w1 at *
 generalize w.heap.size = g at *
 go_wp2_with fail
 go_loopw [3] (fun v wr => ∃ (j : Nat) (z : List UInt8) (A : Option Addr) (c : Nat),j ≤ z0∧z.length = j + 1∧v = .slice A (j + 1) c∧Hid (z = 128 :: List.replicate j 0)∧Hid (Bf w wr A c z)) (fun v _ => match v with | .slice _ m _ => 65 - m | _ => 0)
 case atStart => exact ⟨0,[128],_,_,Nat.zero_le _,rfl,rfl,Lib.hid rfl,HB0⟩
 case round =>
  obtain ⟨j,z,A,c,hj,hzj,rfl,HZJ,HB⟩:=hrel
  clear HB0
  have HC:=HZ.out j hj
  by_cases hlt : j < z0
  ·rw [decide_eq_true hlt] at HC
   have HZL:=Lib.hid hzj
   clear hzj
   go_upto_region 3 with fail
   clear HC
   go_wp2_with (at_builtin;refine wpList_bf (by rfl) _ _ (by rfl) (HB.out.alloc _) (Eq.trans (by rfl) (congrArg (fun m => Value.slice A m c) HZL.out.symm)) _ 1 1 [0] (by rfl) rfl (Rd.new _ _ _) (by have:=HZL.out;omega) ?_;rintro z2 A2 c2 w2 E2 b2 -)
   have HB2:=Lib.hid b2
   have hz2 : z2.length = j + 2:=by rw [E2.out,List.length_append,HZL.out];rfl
   have HZ2 : Hid (z2 = 128 :: List.replicate (j + 1) 0):=Lib.hid (by rw [E2.out,HZJ.out,replicate_snoc])
   clear b2 E2 HB HZJ HZL
   rw [hz2]
   go_roundw
   case rel => exact ⟨j + 1,z2,A2,c2,by omega,hz2,rfl,HZ2,HB2⟩
   case measure => simp;omega
  ·obtain rfl : j = z0:=by omega
   rw [decide_eq_false hlt] at HC
   go_upto_region 5 with fail
   clear HC HZ
   have HB0 : Hid (Bf w wr A c (PR 0)):=Lib.hid (by rw [HR0.out,← HZJ.out];exact HB.out)
   have HL0 : j + 1 = (PR 0).length:=by rw [HRL.out];omega
   rw [HL0]
   have HLL:=Lib.hid HL0
   clear HL0 HB HZJ hzj
   go_wp2_with fail
   go_loopw [3,5] (fun v x wr => ∃ (t : Nat) (z : List UInt8) (A : Option Addr) (c : Nat),t ≤ 8∧x = .int .i64 ((t : Int) - 1)∧v = .slice A z.length c∧Hid (z = PR (8 - t))∧Hid (Bf w wr A c z)) (fun _ x _ => (intOf x + 1).toNat)
   case atStart => exact ⟨8,PR 0,_,_,Nat.le_refl _,rfl,rfl,Lib.hid rfl,HB0⟩
   case round =>
    obtain ⟨t,z,A,c,ht,rfl,rfl,HZT,HB⟩:=hrel
    clear HB0
    cases t with
    | zero =>
      have hz:=HZT.out
      rw [Nat.sub_zero] at hz
      subst hz
      go_wp2
      exact bodyPost_ret (v:=.slice A (PR 8).length c) (by simp [results,Tryz.results100]) rfl ⟨A,c,rfl,HB.out⟩
    | succ i =>
      have hi : ((i + 1 : Nat) : Int) - 1 = (i : Int):=by omega
      simp only [hi]
      have d1 : (0 : Int) ≤ (i : Int):=by omega
      have hb:=HPE.out i (by omega)
      have HS : Hid (PR (8 - i) = z ++ [w8 (padE n (7 - i))]):=Lib.hid (by rw [show 8 - i = (8 - (i + 1)) + 1 by omega,HRS.out,HZT.out,show 8 - (i + 1) = 7 - i by omega])
      generalize w8 (padE n (7 - i)) = b at *
      have hzl2 : z.length ≤ 100:=by rw [HZT.out,HRL.out];omega
      clear HZT
      go_upto_region 7 with (at_builtin;refine wpList_bf (by rfl) _ _ (by rfl) (HB.out.alloc _) (by rfl) _ 1 1 [b] (by rfl) rfl (Rd.new _ _ _) (by omega) ?_;rintro z2 A2 c2 w2 E2 b2 -)
      have HB2:=Lib.hid b2
      have HZ2 : Hid (z2 = PR (8 - i)):=Lib.hid (by rw [E2.out,HS.out])
      clear b2 E2 HB HS hb hzl2
      go_wp2_with fail
      go_roundw
      case rel => exact ⟨i,z2,A2,c2,by omega,by go_num,rfl,HZ2,HB2⟩
      case measure => simp [intOf] <;> omega
end Go.Proofs.YtmbbknjddebhoaaGreatDoor
/- florinref02.Write. (printed by gen_nse.py) -/
set_option linter.unusedSimpArgs false
set_option linter.unusedVariables false
namespace Go.Proofs.YtmbbknjddebhoaaGreatDoor
open Go.RowKit
attribute [local go_sem ↓] Go.wp_at_zero Go.wp_at_succ
def scL (v : H8) (A : Option Addr) (n c : Nat) (N : Int) : List Value:=[u32v v.a,u32v v.b,u32v v.c,u32v v.d,u32v v.e,u32v v.f,u32v v.g,u32v v.h,.slice A n c,.int .u64 N]
theorem sc_at {w : World} {g : Nat} {t : TypeId} {v : H8} {A : Option Addr} {n c : Nat} {N : Int} (h : Blk w g t (scL v A n c N)) :
  w.cell? ⟨g,0,none⟩ = some (u32v v.a)∧w.cell? ⟨g,1,none⟩ = some (u32v v.b)∧w.cell? ⟨g,2,none⟩ = some (u32v v.c)∧w.cell? ⟨g,3,none⟩ = some (u32v v.d)∧w.cell? ⟨g,4,none⟩ = some (u32v v.e)∧w.cell? ⟨g,5,none⟩ = some (u32v v.f)∧w.cell? ⟨g,6,none⟩ = some (u32v v.g)∧w.cell? ⟨g,7,none⟩ = some (u32v v.h)∧w.cell? ⟨g,8,none⟩ = some (.slice A n c)∧w.cell? ⟨g,9,none⟩ = some (.int .u64 N) :=
 ⟨h.cell 0,h.cell 1,h.cell 2,h.cell 3,h.cell 4,h.cell 5,h.cell 6,h.cell 7,h.cell 8,h.cell 9⟩
theorem fr10 {w : World} {g : Nat} {t : TypeId} {l : List Value} (h : Blk w g t l) :
  w.frozen? ⟨g,0,none⟩ = false∧w.frozen? ⟨g,1,none⟩ = false∧w.frozen? ⟨g,2,none⟩ = false∧w.frozen? ⟨g,3,none⟩ = false∧w.frozen? ⟨g,4,none⟩ = false∧w.frozen? ⟨g,5,none⟩ = false∧w.frozen? ⟨g,6,none⟩ = false∧w.frozen? ⟨g,7,none⟩ = false∧w.frozen? ⟨g,8,none⟩ = false∧w.frozen? ⟨g,9,none⟩ = false :=
 ⟨h.frozen 0,h.frozen 1,h.frozen 2,h.frozen 3,h.frozen 4,h.frozen 5,h.frozen 6,h.frozen 7,h.frozen 8,h.frozen 9⟩
def RdY (P : Nat → Prop) (w : World) (A : Option Addr) (xs : List Value) : Prop :=
 xs = [] ∨ ∃ b off,A = some ⟨b,off,none⟩∧P b∧∀ j (h : j < xs.length),w.cell? ⟨b,off + j,none⟩ = some xs[j]
theorem RdY.rd {P : Nat → Prop} {w : World} {A : Option Addr} {xs : List Value} (h : RdY P w A xs) : Rd w A xs:=h.imp id fun ⟨b,off,h1,_,h3⟩ => ⟨b,off,h1,h3⟩
theorem RdY.keep {P : Nat → Prop} {w w' : World} {A : Option Addr} {xs : List Value} (h : RdY P w A xs) (hk : Keep w w') : RdY P w' A xs :=
 h.imp id fun ⟨b,off,h1,h2,h3⟩ => ⟨b,off,h1,h2,fun j hj => keep_cell hk (h3 j hj)⟩
theorem RdY.set {P : Nat → Prop} {w : World} {A : Option Addr} {xs : List Value} (h : RdY P w A xs) {p : Addr} (u : Value) (hp : ¬ P p.block) : RdY P (w.setCell p u) A xs :=
 h.imp id fun ⟨b,off,h1,h2,h3⟩ => ⟨b,off,h1,h2,fun j hj => (World.cell?_setCell_other w p (⟨b,off + j,none⟩ : Addr) u (fun e => hp ((congrArg Addr.block e : p.block = b).symm ▸ h2))).trans (h3 j hj)⟩
theorem RdY.of_bf {P : Nat → Prop} {w0 w : World} {A : Option Addr} {c : Nat} {l : List UInt8} (h : Bf w0 w A c l) (hP : ∀ b,w0.heap.size ≤ b → b < w.heap.size → P b) : RdY P w A (l.map u8v):=by
 rcases h.rd with h0 | ⟨b,off,rfl,hc⟩
 ·exact .inl h0
 ·by_cases h0 : l.map u8v = []
  ·exact .inl h0
  ·exact .inr ⟨b,off,rfl,hP b (h.o.lt b rfl).1 (cell_lt (hc 0 (List.length_pos_iff.2 h0))),hc⟩
theorem RdY.dropS {P : Nat → Prop} {w : World} {A : Option Addr} {xs : List Value} (h : RdY P w A xs) (k c : Nat) (hk : k ≤ xs.length) (hc : xs.length ≤ c) :
  RdY P w (if c = k then A else A.map (fun x => (⟨x.block,x.off + k,none⟩ : Addr))) (xs.drop k):=by
 split
 ·exact .inl (List.drop_eq_nil_of_le (by omega))
 ·rcases h with rfl | ⟨b,off,rfl,hne,hcell⟩
  ·exact .inl (by simp)
  ·refine .inr ⟨b,off + k,rfl,hne,fun j hj => ?_⟩
   simp at hj
   rw [Nat.add_assoc,hcell (k + j) (by omega)];simp
theorem set10c {w : World} {g : Nat} {t : TypeId} {v : H8} {A : Option Addr} {n c : Nat} {N : Int} (h : Blk w g t (scL v A n c N)) (u : H8) (A' : Option Addr) (n' c' : Nat) (N' : Int) :
  Blk ((((((((((w.setCell ⟨g,0,none⟩ (u32v u.a)).setCell ⟨g,1,none⟩ (u32v u.b)).setCell ⟨g,2,none⟩ (u32v u.c)).setCell ⟨g,3,none⟩ (u32v u.d)).setCell ⟨g,4,none⟩ (u32v u.e)).setCell ⟨g,5,none⟩ (u32v u.f)).setCell ⟨g,6,none⟩ (u32v u.g)).setCell ⟨g,7,none⟩ (u32v u.h)).setCell ⟨g,8,none⟩ (.slice A' n' c')).setCell ⟨g,9,none⟩ (.int .u64 N')) g t (scL u A' n' c' N') :=
 (((((((((h.set_ 0 (u32v u.a)).set_ 1 (u32v u.b)).set_ 2 (u32v u.c)).set_ 3 (u32v u.d)).set_ 4 (u32v u.e)).set_ 5 (u32v u.f)).set_ 6 (u32v u.g)).set_ 7 (u32v u.h)).set_ 8 (.slice A' n' c')).set_ 9 (.int .u64 N')
set_option maxRecDepth 100000 in
set_option maxHeartbeats 4000000 in
theorem rwrite_any (v : H8) (RA : Option Addr) (r : List UInt8) (rc N : Nat) (A : Option Addr) (b : List UInt8) (c : Nat) (w : World) (hr : Rd w RA (r.map u8v)) (hrl : r.length = N % 64) (hb : Rd w A (b.map u8v)) (hbl : b.length ≤ 100000000) (hN : N ≤ 100000000000) :
  Calls Tryz.prog 81 #[SV v RA r.length rc N,.slice A b.length c] w fun e w' => ∃ A' c',e = .returned (SV (blocks v (r ++ b) ((r ++ b).length / 64)) A' ((r ++ b).length % 64) c' ((N + b.length : Nat) : Int))∧Rd w' A' (((r ++ b).drop (64 * ((r ++ b).length / 64))).map u8v)∧Keep w w':=by
 have Hrl:=Lib.hid hrl
 have hrn : r.length < 64:=by omega
 clear hrl
 obtain ⟨F,hF⟩ : ∃ F,r ++ b = F:=⟨_,rfl⟩
 rw [hF]
 have HF:=Lib.hid hF
 have hFl : F.length = r.length + b.length:=by rw [← hF,List.length_append]
 have HFL:=Lib.hid hFl
 clear hF hFl
 have Hr:=Lib.hid hr;have Hb:=Lib.hid hb
 clear hr hb
 go_enter Tryz.func81,Tryz.ntmps81
 go_upto_region 1 with fail
 obtain ⟨w1,hw1⟩ : ∃ x,x = (w.alloc (.cells #[u32v v.a,u32v v.b,u32v v.c,u32v v.d,u32v v.e,u32v v.f,u32v v.g,u32v v.h,.slice RA r.length rc,.int .u64 N] 129)).alloc (.cells #[.int .u32 0,.int .u32 0,.int .u32 0,.int .u32 0,.int .u32 0,.int .u32 0,.int .u32 0,.int .u32 0,.slice none 0 0,.int .u64 0] 129):=⟨_,rfl⟩
 have HX1 : Hid (Blk w1 w.heap.size 129 (scL v RA r.length rc N)):=by rw [hw1];exact Lib.hid ((Blk.new w 129 (scL v RA r.length rc N)).alloc _)
 have HR1 : Hid (Blk w1 (w.heap.size + 1) 129 (scL h80 none 0 0 0)):=by
  rw [hw1]
  have q:=Blk.new (w.alloc (.cells #[u32v v.a,u32v v.b,u32v v.c,u32v v.d,u32v v.e,u32v v.f,u32v v.g,u32v v.h,.slice RA r.length rc,.int .u64 N] 129)) 129 (scL h80 none 0 0 0)
  rw [World.size_alloc] at q
  exact Lib.hid q
 have HK1 : Hid (Keep w w1):=by rw [hw1];exact Lib.hid (keep_trans (keep_new _ _) (keep_new _ _))
 rw [← hw1]
 clear hw1
 obtain ⟨g,hg⟩ : ∃ g,w.heap.size = g:=⟨_,rfl⟩
 have HG:=Lib.hid hg
 rw [hg] at HX1 HR1
 obtain ⟨q,hq⟩ : ∃ r,g + 1 = r:=⟨_,rfl⟩
 rw [hq] at HR1
 simp only [hg,hq]
 have hgr : g < q:=by omega
 clear hg hq
 obtain ⟨x0,x1,x2,x3,x4,x5,x6,x7,x8,x9⟩:=sc_at HX1.out
 go_upto_region 3 with (go_at_call 99;refine (rssane_any v RA r.length rc N _ hrn (by omega) Hrl.out).mono ?_;rintro e w2 ⟨rfl,k2⟩;have HX2:=Lib.hid (HX1.out.keep k2);have HR2:=Lib.hid (HR1.out.keep k2);have HK2:=Lib.hid (keep_trans HK1.out k2);clear k2 x0 x1 x2 x3 x4 x5 x6 x7 x8 x9)
 clear HX1 HR1 HK1
 obtain ⟨x0,x1,x2,x3,x4,x5,x6,x7,x8,x9⟩:=sc_at HX2.out
 have B2 : Hid (Bf w2 (w2.alloc (.cells #[] 5)) (some ⟨w2.heap.size,0,none⟩) 0 []):=Lib.hid (Bf.lit (Below.refl _ _))
 replace x8:=keep_cell (keep_new w2 (.cells #[] 5)) x8
 go_upto_region 4 with (at_builtin;refine wpList_bf (by rfl) _ _ (by rfl) B2.out (by rfl) RA r.length rc r (by rfl) rfl (Hr.out.keep (keep_trans HK2.out (keep_new _ _))) (by simp;omega) ?_;rintro z3 A3 c3 w3 E3 b3 -)
 have B3:=Lib.hid b3
 have HE3 : Hid (z3 = r):=Lib.hid (by rw [E3.out,List.nil_append])
 have hz3 : z3.length ≤ 64:=by rw [HE3.out];omega
 clear b3 E3 B2 x0 x1 x2 x3 x4 x5 x6 x7 x8 x9
 have HKB3:=Lib.hid (keep_trans HK2.out B3.out.k)
 go_upto_region 5 with (at_builtin;refine wpList_bf (by rfl) _ _ (by rfl) B3.out (by rfl) A b.length c b (by rfl) rfl (Hb.out.keep HKB3.out) (by omega) ?_;rintro z4 A4 c4 w4 E4 b4 -)
 have HE4 : Hid (z4 = F):=Lib.hid (by rw [E4.out,HE3.out,HF.out])
 have HX4:=Lib.hid (HX2.out.keep b4.k);have HR4:=Lib.hid (HR2.out.keep b4.k);have HK4:=Lib.hid (keep_trans HK2.out b4.k)
 have hca:=b4.cap
 have hq2:=HR2.out.lt
 have HRD4 : Hid (RdY (fun b => b ≠ w4.heap.size∧b ≠ q) w4 A4 (z4.map u8v)):=Lib.hid (RdY.of_bf b4 fun b h1 h2 => by omega)
 clear hq2
 clear b4 E4 HE3 B3 HKB3 hz3 HX2 HR2 HK2 Hr Hb
 have hz4 : z4.length ≤ 100000100:=by rw [HE4.out,HFL.out];omega
 have S0 : Hid (Summed F v z4 v):=Lib.hid ⟨0,by rw [Nat.mul_zero,List.drop_zero,HE4.out],by rw [HE4.out];omega,rfl⟩
 clear HE4 HF
 unfold maxLen at hca
 have hc41:=hca.1;have hc42:=hca.2
 clear hca
 obtain ⟨x0,x1,x2,x3,x4,x5,x6,x7,x8,x9⟩:=sc_at HX4.out
 go_upto_region 6 with fail
 clear x0 x1 x2 x3 x4 x5 x6 x7 x8 x9
 obtain ⟨w5,hw5⟩ : ∃ x,x = w4.alloc (.cells #[u32v v.a,u32v v.b,u32v v.c,u32v v.d,u32v v.e,u32v v.f,u32v v.g,u32v v.h] 104):=⟨_,rfl⟩
 have HH5 : Hid (Blk w5 w4.heap.size 104 v.cells):=by rw [hw5];exact Lib.hid (h8_blk w4 w4.heap.size 104 v rfl)
 have k5 : Keep w4 w5:=by rw [hw5];exact keep_new _ _
 have HX5:=Lib.hid (HX4.out.keep k5);have HR5:=Lib.hid (HR4.out.keep k5);have HK5:=Lib.hid (keep_trans HK4.out k5)
 have HD5:=Lib.hid (HRD4.out.keep k5)
 have hlt : q < w4.heap.size:=HR4.out.lt
 rw [← hw5]
 clear hw5 k5 HX4 HR4 HK4 HRD4
 obtain ⟨H,hH⟩ : ∃ X,w4.heap.size = X:=⟨_,rfl⟩
 rw [hH] at HH5 HD5 hlt
 simp only [hH]
 clear hH
 go_wp2_with fail
 go_loopw [5] (fun s wr => ∃ A2 b2 c2 v2,s = .slice A2 b2.length c2∧b2.length ≤ c2∧c2 ≤ 9223372036854775807∧b2.length ≤ 100000100∧Hid (RdY (fun b => b ≠ H∧b ≠ q) wr A2 (b2.map u8v))∧Hid (Summed F v b2 v2)∧Hid (Blk wr H 104 v2.cells)∧Hid (Blk wr g 129 (scL v RA r.length rc N))∧Hid (Blk wr q 129 (scL h80 none 0 0 0))∧Hid (Keep w wr)) (fun s _ => match s with | .slice _ n _ => n | _ => 0)
 case atStart => exact ⟨A4,z4,c4,v,rfl,hc41,hc42,hz4,HD5,S0,HH5,HX5,HR5,HK5⟩
 case round =>
  obtain ⟨A2,b2,c2,v2,rfl,hbc2,hcm2,hbl2,HD2,HS2,HH2,HX2,HR2,HK2⟩:=hrel
  clear HD5 S0 HH5 HX5 HR5 HK5 hc41 hc42 hz4
  by_cases hlt2 : 64 ≤ b2.length
  ·have HBl : Hid (∀ w',Keep wr w' → ∀ c',Calls Tryz.prog 101 #[v2.agg,.slice A2 64 c'] w' fun e w'' => e = .returned (blockH v2 (b2.take 64)).agg∧Keep w' w''):=Lib.hid fun w' h c' => rblock_any v2 A2 (b2.take 64) c' w' (by rw [List.length_take];omega) (by rw [List.map_take];exact (HD2.out.rd.keep h).take 64)
   generalize hu : blockH v2 (b2.take 64) = u at HBl
   have Hu:=Lib.hid hu;clear hu
   obtain ⟨x0,x1,x2,x3,x4,x5,x6,x7⟩:=h8 HH2.out
   go_upto_region 7 with fail
   refine wp_region_tree (.take [0,1,2] (.force [3] .done)) [4] (by kernel_rfl) (by kernel_rfl) (fun w3 k3 => ?_)
   have a0:=aft_cell (keep_cell k3 x0);have a1:=aft_cell (keep_cell k3 x1);have a2:=aft_cell (keep_cell k3 x2);have a3:=aft_cell (keep_cell k3 x3)
   have a4:=aft_cell (keep_cell k3 x4);have a5:=aft_cell (keep_cell k3 x5);have a6:=aft_cell (keep_cell k3 x6);have a7:=aft_cell (keep_cell k3 x7)
   refine mt_take w3 (Below.refl _ _) ?_
   simp only [pick_cons,pick_nil,nth_zero,nth_succ]
   repeat (go_big_quiet_step (fail))
   refine wpQuiet_nil ?_
   clear a0 a1 a2 a3 a4 a5 a6 a7 x0 x1 x2 x3 x4 x5 x6 x7
   refine mt_force ?_
   simp only [pick_cons,pick_nil,nth_zero,nth_succ]
   refine fc_step rfl (fun K hK => ?_)
   go_simp
   (with_reducible refine (HBl.out _ k3 _).mono ?_)
   rintro e w6 ⟨rfl,hk⟩
   refine hK _ _ hk ?_
   clear hK K
   refine fc_nil (mt_end ?_)
   have k6:=keep_trans k3 hk
   have HD6:=Lib.hid (HD2.out.keep k6);have HH6:=Lib.hid (HH2.out.keep k6);have HX6:=Lib.hid (HX2.out.keep k6);have HR6:=Lib.hid (HR2.out.keep k6);have HK6:=Lib.hid (keep_trans HK2.out k6)
   clear hk k3 k6 HD2 HH2 HX2 HR2 HK2 HBl
   obtain ⟨x0,x1,x2,x3,x4,x5,x6,x7⟩:=h8 HH6.out
   have f0:=HH6.out.frozen 0;have f1:=HH6.out.frozen 1;have f2:=HH6.out.frozen 2;have f3:=HH6.out.frozen 3;have f4:=HH6.out.frozen 4;have f5:=HH6.out.frozen 5;have f6:=HH6.out.frozen 6;have f7:=HH6.out.frozen 7
   go_upto_region 8 with fail
   clear x0 x1 x2 x3 x4 x5 x6 x7 f0 f1 f2 f3 f4 f5 f6 f7
   go_wp2_with fail
   go_roundw
   case rel =>
    refine ⟨_,b2.drop 64,c2 - 64,u,by rw [List.length_drop],by rw [List.length_drop];omega,by omega,by rw [List.length_drop];omega,Lib.hid ?_,Lib.hid (by rw [← Hu.out];exact Summed.next HS2.out hlt2),Lib.hid (h8_set HH6.out _ _ _ _ _ _ _ _),Lib.hid ?_,Lib.hid ?_,Lib.hid ?_⟩
    ·rw [List.map_drop]
     refine RdY.dropS ?_ 64 c2 (by simpa using hlt2) (by simpa using hbc2)
     iterate 8 (refine RdY.set ?_ _ (fun h => h.1 rfl))
     exact HD6.out
    ·iterate 8 (refine Blk.far ?_ (by simp;omega) _)
     exact HX6.out
    ·iterate 8 (refine Blk.far ?_ (by simp;omega) _)
     exact HR6.out
    ·iterate 8 (refine Below.setCell ?_ (by have:=HG.out;simp;omega) _)
     exact HK6.out
   case measure => simp;omega
  ·have hlt3 : b2.length < 64:=by omega
   have Hd:=Lib.hid (HS2.out.done hlt3)
   have hnn : ¬ (64 : Int) ≤ (b2.length : Int):=by omega
   obtain ⟨x0,x1,x2,x3,x4,x5,x6,x7⟩:=h8 HH2.out
   obtain ⟨-,-,-,-,-,-,-,-,-,y9⟩:=sc_at HX2.out
   obtain ⟨z0,z1,z2,z3,z4,z5,z6,z7,z8,z9⟩:=sc_at HR2.out
   obtain ⟨f0,f1,f2,f3,f4,f5,f6,f7,f8,f9⟩:=fr10 HR2.out
   have HPO:=Lib.hid HR2.out
   go_wp2
   refine bodyPost_ret (v:=SV v2 A2 b2.length c2 ((N : Int) + (b.length : Int))) (results_cell_row Tryz.results81 _ _ q _ _ _ _ rfl (set10c HR2.out v2 A2 b2.length c2 _) Tryz.underlying129 rfl (by kernel_rfl)) rfl ?_
   obtain ⟨e1,e2,e3⟩:=Hd.out
   rw [e1,e2,← List.map_drop,e3]
   refine ⟨A2,⟨c2,rfl⟩,?_,?_⟩
   ·refine RdY.rd (P:=fun b => b ≠ H∧b ≠ q) ?_
    iterate 10 (refine RdY.set ?_ _ (fun h => h.2 rfl))
    exact HD2.out
   ·iterate 10 (refine Below.setCell ?_ (by have:=HG.out;simp;omega) _)
    exact HK2.out
end Go.Proofs.YtmbbknjddebhoaaGreatDoor
/- florinref02: End, Sum, Double. (printed by gen_nsf.py) -/
set_option linter.unusedSimpArgs false
set_option linter.unusedVariables false
namespace Go.Proofs.YtmbbknjddebhoaaGreatDoor
open Go.RowKit
attribute [local go_sem ↓] Go.wp_at_zero Go.wp_at_succ
def outI (V : List UInt32) (k : Nat) : Nat → List UInt8
 | 0 => outK V k
 | j + 1 => (outI V k j).set (4 * k + j) (w8 (byE (V.getD k 0) (2 ^ (24 - 8 * j))))
theorem outI_4 (V : List UInt32) (k : Nat) : outI V k 4 = outK V (k + 1):=by
 simp only [outI,outK]
 rfl
theorem outI_len (V : List UInt32) (k j : Nat) : (outI V k j).length = 32:=by
 induction j with
 | zero => exact outK_len _ _
 | succ j ih => rw [outI,List.length_set,ih]
theorem sc_get (v : H8) (A : Option Addr) (n c : Nat) (N : Int) {k : Nat} (hk : k < 8) {y : UInt32} (hy : v.l[k]? = some y) : (scL v A n c N)[k]? = some (u32v y):=by
 rcases (show k = 0 ∨ k = 1 ∨ k = 2 ∨ k = 3 ∨ k = 4 ∨ k = 5 ∨ k = 6 ∨ k = 7 by omega) with rfl | rfl | rfl | rfl | rfl | rfl | rfl | rfl
 all_goals
  simp only [H8.l,List.getElem?_cons_zero,List.getElem?_cons_succ,Option.some.injEq] at hy
  subst hy
  rfl
set_option maxRecDepth 100000 in
set_option maxHeartbeats 4000000 in
theorem rend_any (v : H8) (RA : Option Addr) (r : List UInt8) (rc N : Nat) (w : World) (hr : Rd w RA (r.map u8v)) (hrl : r.length = N % 64) (hN : N ≤ 100000000000) :
  Calls Tryz.prog 80 #[SV v RA r.length rc N] w fun e w' => e = .returned (hashV (outH (endH v r N)))∧Keep w w':=by
 have hpl:=padK_len N 8
 have P1 : Hid (∀ y,Calls Tryz.prog 100 #[.int .u64 N] y fun e w' => ∃ A' c',e = .returned (.slice A' (padK N 8).length c')∧Rd w' A' ((padK N 8).map u8v)∧Keep y w'):=Lib.hid fun y => by
  refine (rpad_any N y (by omega)).mono ?_
  rintro e w' ⟨A',c',rfl,b⟩
  exact ⟨A',c',rfl,b.rd,b.k⟩
 have W1 : Hid (∀ w' A' c',Keep w w' → Rd w' A' ((padK N 8).map u8v) → Calls Tryz.prog 81 #[SV v RA r.length rc N,.slice A' (padK N 8).length c'] w' fun e w'' => ∃ A2 n2 c2 N2,e = .returned (SV (endH v r N) A2 n2 c2 N2)∧Keep w' w''):=Lib.hid fun w' A' c' hk hp =>
  (rwrite_any v RA r rc N A' (padK N 8) c' w' (hr.keep hk) hrl hp (by rw [hpl];unfold padZ;split <;> omega) hN).mono
   fun e w'' ⟨A',c',h1,h2,h3⟩ => ⟨_,_,_,_,h1,h3⟩
 have Hrl:=Lib.hid hrl
 have hrn : r.length < 64:=by omega
 obtain ⟨zs,hz1,hz2,hz3,hzl⟩:=zhash_letter
 have HZL:=Lib.hid hzl
 have hout : ∀ x : List UInt8,x.length = 32 → ∃ cs,HashA x cs:=fun x h => ⟨_,HashA.of h⟩
 have HOUT:=Lib.hid hout
 have HOH : Hid (outK (endH v r N).l 8 = outH (endH v r N)):=Lib.hid rfl
 clear hpl hrl hr hzl hout
 generalize outH (endH v r N) = OH at *
 generalize endH v r N = V at *
 generalize padK N 8 = pd at *
 go_enter Tryz.func80,Tryz.ntmps80
 go_upto_region 1 with fail
 obtain ⟨w1,hw1⟩ : ∃ x,x = (w.alloc (.cells #[u32v v.a,u32v v.b,u32v v.c,u32v v.d,u32v v.e,u32v v.f,u32v v.g,u32v v.h,.slice RA r.length rc,.int .u64 N] 129)).alloc (.cells zs 28):=⟨_,rfl⟩
 have HX1 : Hid (Blk w1 w.heap.size 129 (scL v RA r.length rc N)):=by rw [hw1];exact Lib.hid ((Blk.new w 129 (scL v RA r.length rc N)).alloc _)
 have HR1 : Hid (Blk w1 (w.heap.size + 1) 28 zs.toList):=by
  rw [hw1]
  have q:=Blk.new (w.alloc (.cells #[u32v v.a,u32v v.b,u32v v.c,u32v v.d,u32v v.e,u32v v.f,u32v v.g,u32v v.h,.slice RA r.length rc,.int .u64 N] 129)) 28 zs.toList
  rw [World.size_alloc] at q
  exact Lib.hid q
 have HK1 : Hid (Keep w w1):=by rw [hw1];exact Lib.hid (keep_trans (keep_new _ _) (keep_new _ _))
 rw [← hw1]
 clear hw1
 obtain ⟨g,hg⟩ : ∃ g,w.heap.size = g:=⟨_,rfl⟩
 have HG:=Lib.hid hg
 rw [hg] at HX1 HR1
 obtain ⟨q,hq⟩ : ∃ r,g + 1 = r:=⟨_,rfl⟩
 rw [hq] at HR1
 simp only [hg,hq]
 have hgr : g < q:=by omega
 clear hg hq
 obtain ⟨x0,x1,x2,x3,x4,x5,x6,x7,x8,x9⟩:=sc_at HX1.out
 go_upto_region 3 with (go_at_call 99;refine (rssane_any v RA r.length rc N _ hrn (by omega) Hrl.out).mono ?_;rintro e w2 ⟨rfl,k2⟩;have HX2:=Lib.hid (HX1.out.keep k2);have HR2:=Lib.hid (HR1.out.keep k2);have HK2:=Lib.hid (keep_trans HK1.out k2);clear k2 x0 x1 x2 x3 x4 x5 x6 x7 x8 x9)
 clear HX1 HR1 HK1
 have hq2 : q < w2.heap.size:=HR2.out.lt
 have HRc:=HR2
 obtain ⟨x0,x1,x2,x3,x4,x5,x6,x7,x8,x9⟩:=sc_at HX2.out
 go_cut [3] (fun s wx => ∃ T A5 n5 c5 N5,s = .pointer (some ⟨T,0,none⟩)∧q < T∧Hid (Blk wx T 129 (scL V A5 n5 c5 N5))∧Hid (Blk wx q 28 zs.toList)∧Hid (Keep w wx))
 case first =>
  refine wp_region_tree (.take [0,1,2] (.fork 3 (.fork 4 (.force [5] .done) 5 (.force [4] .done)) 5 (.force [3,4] .done))) [6] (by kernel_rfl) (by kernel_rfl) (fun y0 hk => ?_)
  have Q:=Lib.hid hk
  replace x0:=keep_cell hk x0;replace x1:=keep_cell hk x1;replace x2:=keep_cell hk x2;replace x3:=keep_cell hk x3;replace x4:=keep_cell hk x4;replace x5:=keep_cell hk x5;replace x6:=keep_cell hk x6;replace x7:=keep_cell hk x7;replace x8:=keep_cell hk x8;replace x9:=keep_cell hk x9
  have HRc:=Lib.hid (HRc.out.keep hk)
  clear hk
  refine mt_take y0 (Below.refl _ _) ?_
  simp only [pick_cons,pick_nil,nth_zero,nth_succ]
  have a0:=aft_cell x0;have a1:=aft_cell x1;have a2:=aft_cell x2;have a3:=aft_cell x3;have a4:=aft_cell x4;have a5:=aft_cell x5;have a6:=aft_cell x6;have a7:=aft_cell x7;have a8:=aft_cell x8;have a9:=aft_cell x9
  repeat (go_big_quiet_step (fail))
  clear a0 a1 a2 a3 a4 a5 a6 a7 a8 a9 x0 x1 x2 x3 x4 x5 x6 x7 x8 x9
  refine wpQuiet_nil (mt_fork ?_ ?_)
  ·simp only [pick_cons,pick_nil,nth_zero,nth_succ]
   refine fc_step rfl (fun K hK => ?_)
   go_simp
   (with_reducible refine (P1.out _).mono ?_)
   rintro e y1 ⟨A4,c4,rfl,hr4,hk⟩
   refine hK _ _ hk ?_
   clear hK K
   have HQ3 : w2.heap.size ≤ y0.heap.size:=Q.out.size
   have Hprev:=Q
   replace Q:=Lib.hid (keep_trans Q.out hk)
   have hs_y1 : y0.heap.size ≤ y1.heap.size:=hk.size
   replace HRc:=Lib.hid (HRc.out.keep hk)
   have HP:=Lib.hid (show Rd y1 A4 (pd.map u8v) from hr4)
   clear hr4
   clear hk
   refine fc_nil (mt_fork ?_ ?_)
   ·simp only [pick_cons,pick_nil,nth_zero,nth_succ]
    refine fc_step rfl (fun K hK => ?_)
    go_simp
    (with_reducible refine (W1.out _ _ _ (keep_trans HK2.out Q.out) HP.out).mono ?_)
    rintro e y2 ⟨A5,n5,c5,N5,rfl,hk⟩
    refine hK _ _ hk ?_
    clear hK K
    have HQ4 : w2.heap.size ≤ y1.heap.size:=Q.out.size
    have Hprev:=Q
    replace Q:=Lib.hid (keep_trans Q.out hk)
    have hs_y2 : y1.heap.size ≤ y2.heap.size:=hk.size
    replace HRc:=Lib.hid (HRc.out.keep hk)
    replace HP:=Lib.hid (HP.out.keep hk)
    clear hk
    refine fc_nil (mt_force ?_)
    simp only [pick_cons,pick_nil,nth_zero,nth_succ]
    refine fc_step rfl (fun K hK => ?_)
    go_simp
    refine hK _ _ (keep_new _ _) ?_
    clear hK K
    obtain ⟨y3,hy⟩ : ∃ y3,y3 = y2.alloc (.cells (#[.int .u32 0,.int .u32 0,.int .u32 0,.int .u32 0,.int .u32 0,.int .u32 0,.int .u32 0,.int .u32 0,.slice none 0 0,.int .u64 0]) 129):=⟨_,rfl⟩
    have FT : Hid (Blk y3 y2.heap.size 129 (#[.int .u32 0,.int .u32 0,.int .u32 0,.int .u32 0,.int .u32 0,.int .u32 0,.int .u32 0,.int .u32 0,.slice none 0 0,.int .u64 0]).toList):=by rw [hy];exact Blk.new y2 _ (#[.int .u32 0,.int .u32 0,.int .u32 0,.int .u32 0,.int .u32 0,.int .u32 0,.int .u32 0,.int .u32 0,.slice none 0 0,.int .u64 0]).toList
    have hk : Keep y2 y3:=by rw [hy];exact keep_new _ _
    rw [← hy]
    clear hy
    have FTs : y2.heap.size < y3.heap.size:=FT.out.lt
    have FTn:=Q.out.size
    replace Q:=Lib.hid (keep_trans Q.out hk)
    have hs_y3 : y2.heap.size ≤ y3.heap.size:=hk.size
    replace HRc:=Lib.hid (HRc.out.keep hk)
    replace HP:=Lib.hid (HP.out.keep hk)
    clear hk
    generalize hp : y2.heap.size = gT at *
    have FTa : y2.heap.size ≤ gT:=Nat.le_of_eq hp
    have FTb : gT ≤ y2.heap.size:=Nat.le_of_eq hp.symm
    clear hp
    refine fc_nil (mt_end ?_)
    obtain ⟨c0,c1,c2,c3,c4',c5',c6,c7,c8,c9⟩:=sc_at (show Blk y3 gT 129 (scL h80 none 0 0 0) from FT.out)
    obtain ⟨f0,f1,f2,f3,f4,f5,f6,f7,f8,f9⟩:=fr10 FT.out
    have hqT : q < gT:=Nat.lt_of_lt_of_le hq2 FTn
    have HZ1:=Lib.hid (And.intro hgr hqT)
    clear FTs FTn FTa FTb hq2
    go_wp2_with fail
    go_meet
    refine ⟨gT,A5,n5,c5,N5,rfl,hqT,Lib.hid (set10c (show Blk y3 gT 129 (scL h80 none 0 0 0) from FT.out) V A5 n5 c5 N5),Lib.hid ?_,Lib.hid ?_⟩
    ·iterate 10 (refine Blk.far ?_ (by simp;omega) _)
     exact HRc.out
    ·iterate 10 (refine Below.setCell ?_ (by have:=HG.out;simp;omega) _)
     exact keep_trans HK2.out Q.out
   ·simp only [pick_cons,pick_nil,nth_zero,nth_succ]
    refine fc_step rfl (fun K hK => ?_)
    go_simp
    refine hK _ _ (keep_new _ _) ?_
    clear hK K
    obtain ⟨y4,hy⟩ : ∃ y4,y4 = y1.alloc (.cells (#[.int .u32 0,.int .u32 0,.int .u32 0,.int .u32 0,.int .u32 0,.int .u32 0,.int .u32 0,.int .u32 0,.slice none 0 0,.int .u64 0]) 129):=⟨_,rfl⟩
    have FT : Hid (Blk y4 y1.heap.size 129 (#[.int .u32 0,.int .u32 0,.int .u32 0,.int .u32 0,.int .u32 0,.int .u32 0,.int .u32 0,.int .u32 0,.slice none 0 0,.int .u64 0]).toList):=by rw [hy];exact Blk.new y1 _ (#[.int .u32 0,.int .u32 0,.int .u32 0,.int .u32 0,.int .u32 0,.int .u32 0,.int .u32 0,.int .u32 0,.slice none 0 0,.int .u64 0]).toList
    have hk : Keep y1 y4:=by rw [hy];exact keep_new _ _
    rw [← hy]
    clear hy
    have FTs : y1.heap.size < y4.heap.size:=FT.out.lt
    have FTn:=Q.out.size
    replace Q:=Lib.hid (keep_trans Q.out hk)
    have hs_y4 : y1.heap.size ≤ y4.heap.size:=hk.size
    replace HRc:=Lib.hid (HRc.out.keep hk)
    replace HP:=Lib.hid (HP.out.keep hk)
    clear hk
    generalize hp : y1.heap.size = gT at *
    have FTa : y1.heap.size ≤ gT:=Nat.le_of_eq hp
    have FTb : gT ≤ y1.heap.size:=Nat.le_of_eq hp.symm
    clear hp
    refine fc_nil (mt_force ?_)
    simp only [pick_cons,pick_nil,nth_zero,nth_succ]
    refine fc_step rfl (fun K hK => ?_)
    go_simp
    (with_reducible refine (W1.out _ _ _ (keep_trans HK2.out Q.out) HP.out).mono ?_)
    rintro e y5 ⟨A5,n5,c5,N5,rfl,hk⟩
    refine hK _ _ hk ?_
    clear hK K
    have HQ4 : w2.heap.size ≤ y4.heap.size:=Q.out.size
    have Hprev:=Q
    replace Q:=Lib.hid (keep_trans Q.out hk)
    have hs_y5 : y4.heap.size ≤ y5.heap.size:=hk.size
    replace HRc:=Lib.hid (HRc.out.keep hk)
    replace HP:=Lib.hid (HP.out.keep hk)
    replace FT:=Lib.hid (FT.out.keep hk)
    clear hk
    refine fc_nil (mt_end ?_)
    obtain ⟨c0,c1,c2,c3,c4',c5',c6,c7,c8,c9⟩:=sc_at (show Blk y5 gT 129 (scL h80 none 0 0 0) from FT.out)
    obtain ⟨f0,f1,f2,f3,f4,f5,f6,f7,f8,f9⟩:=fr10 FT.out
    have hqT : q < gT:=Nat.lt_of_lt_of_le hq2 FTn
    have HZ1:=Lib.hid (And.intro hgr hqT)
    clear FTs FTn FTa FTb hq2
    go_wp2_with fail
    go_meet
    refine ⟨gT,A5,n5,c5,N5,rfl,hqT,Lib.hid (set10c (show Blk y5 gT 129 (scL h80 none 0 0 0) from FT.out) V A5 n5 c5 N5),Lib.hid ?_,Lib.hid ?_⟩
    ·iterate 10 (refine Blk.far ?_ (by simp;omega) _)
     exact HRc.out
    ·iterate 10 (refine Below.setCell ?_ (by have:=HG.out;simp;omega) _)
     exact keep_trans HK2.out Q.out
  ·simp only [pick_cons,pick_nil,nth_zero,nth_succ]
   refine fc_step rfl (fun K hK => ?_)
   go_simp
   refine hK _ _ (keep_new _ _) ?_
   clear hK K
   obtain ⟨y6,hy⟩ : ∃ y6,y6 = y0.alloc (.cells (#[.int .u32 0,.int .u32 0,.int .u32 0,.int .u32 0,.int .u32 0,.int .u32 0,.int .u32 0,.int .u32 0,.slice none 0 0,.int .u64 0]) 129):=⟨_,rfl⟩
   have FT : Hid (Blk y6 y0.heap.size 129 (#[.int .u32 0,.int .u32 0,.int .u32 0,.int .u32 0,.int .u32 0,.int .u32 0,.int .u32 0,.int .u32 0,.slice none 0 0,.int .u64 0]).toList):=by rw [hy];exact Blk.new y0 _ (#[.int .u32 0,.int .u32 0,.int .u32 0,.int .u32 0,.int .u32 0,.int .u32 0,.int .u32 0,.int .u32 0,.slice none 0 0,.int .u64 0]).toList
   have hk : Keep y0 y6:=by rw [hy];exact keep_new _ _
   rw [← hy]
   clear hy
   have FTs : y0.heap.size < y6.heap.size:=FT.out.lt
   have FTn:=Q.out.size
   replace Q:=Lib.hid (keep_trans Q.out hk)
   have hs_y6 : y0.heap.size ≤ y6.heap.size:=hk.size
   replace HRc:=Lib.hid (HRc.out.keep hk)
   clear hk
   generalize hp : y0.heap.size = gT at *
   have FTa : y0.heap.size ≤ gT:=Nat.le_of_eq hp
   have FTb : gT ≤ y0.heap.size:=Nat.le_of_eq hp.symm
   clear hp
   refine fc_nil (mt_force ?_)
   simp only [pick_cons,pick_nil,nth_zero,nth_succ]
   refine fc_step rfl (fun K hK => ?_)
   go_simp
   (with_reducible refine (P1.out _).mono ?_)
   rintro e y7 ⟨A4,c4,rfl,hr4,hk⟩
   refine hK _ _ hk ?_
   clear hK K
   have HQ3 : w2.heap.size ≤ y6.heap.size:=Q.out.size
   have Hprev:=Q
   replace Q:=Lib.hid (keep_trans Q.out hk)
   have hs_y7 : y6.heap.size ≤ y7.heap.size:=hk.size
   replace HRc:=Lib.hid (HRc.out.keep hk)
   replace FT:=Lib.hid (FT.out.keep hk)
   have HP:=Lib.hid (show Rd y7 A4 (pd.map u8v) from hr4)
   clear hr4
   clear hk
   refine fc_step rfl (fun K hK => ?_)
   go_simp
   (with_reducible refine (W1.out _ _ _ (keep_trans HK2.out Q.out) HP.out).mono ?_)
   rintro e y8 ⟨A5,n5,c5,N5,rfl,hk⟩
   refine hK _ _ hk ?_
   clear hK K
   have HQ4 : w2.heap.size ≤ y7.heap.size:=Q.out.size
   have Hprev:=Q
   replace Q:=Lib.hid (keep_trans Q.out hk)
   have hs_y8 : y7.heap.size ≤ y8.heap.size:=hk.size
   replace HRc:=Lib.hid (HRc.out.keep hk)
   replace FT:=Lib.hid (FT.out.keep hk)
   replace HP:=Lib.hid (HP.out.keep hk)
   clear hk
   refine fc_nil (mt_end ?_)
   obtain ⟨c0,c1,c2,c3,c4',c5',c6,c7,c8,c9⟩:=sc_at (show Blk y8 gT 129 (scL h80 none 0 0 0) from FT.out)
   obtain ⟨f0,f1,f2,f3,f4,f5,f6,f7,f8,f9⟩:=fr10 FT.out
   have hqT : q < gT:=Nat.lt_of_lt_of_le hq2 FTn
   have HZ1:=Lib.hid (And.intro hgr hqT)
   clear FTs FTn FTa FTb hq2
   go_wp2_with fail
   go_meet
   refine ⟨gT,A5,n5,c5,N5,rfl,hqT,Lib.hid (set10c (show Blk y8 gT 129 (scL h80 none 0 0 0) from FT.out) V A5 n5 c5 N5),Lib.hid ?_,Lib.hid ?_⟩
   ·iterate 10 (refine Blk.far ?_ (by simp;omega) _)
    exact HRc.out
   ·iterate 10 (refine Below.setCell ?_ (by have:=HG.out;simp;omega) _)
    exact keep_trans HK2.out Q.out
 case rest =>
  obtain ⟨T,A5,n5,c5,N5,rfl,hqT,HT,HR,HK⟩:=hcut
  clear HX2 HR2 HK2 P1 W1 HRc x0 x1 x2 x3 x4 x5 x6 x7 x8 x9
  go_upto_region 5 with fail
  obtain ⟨w3,hw3⟩ : ∃ x,x = wc.alloc (.cells zs 28):=⟨_,rfl⟩
  have HO3 : Hid (Blk w3 wc.heap.size 28 ((outK V.l 0).map u8v)):=by rw [hw3];exact Lib.hid (by have h:=Blk.new wc 28 zs.toList;rw [HZL.out] at h;rw [show zs = (zs.toList).toArray from (Array.toArray_toList (xs:=zs)).symm,HZL.out];exact h)
  have k3 : Keep wc w3:=by rw [hw3];exact keep_new _ _
  have HT3:=Lib.hid (HT.out.keep k3);have HR3:=Lib.hid (HR.out.keep k3);have HK3:=Lib.hid (keep_trans HK.out k3)
  have hTO : T < wc.heap.size:=HT.out.lt
  rw [← hw3]
  clear hw3 k3 HT HR HK
  obtain ⟨O,hO⟩ : ∃ X,wc.heap.size = X:=⟨_,rfl⟩
  rw [hO] at HO3 hTO
  simp only [hO]
  clear hO
  go_wp2_with fail
  go_loopw [5] (fun i wr => ∃ k : Nat,k ≤ 8∧i = .int .i64 k∧Hid (Blk wr O 28 ((outK V.l k).map u8v))∧Hid (Blk wr T 129 (scL V A5 n5 c5 N5))∧Hid (Blk wr q 28 zs.toList)∧Hid (Keep w wr)) (fun i _ => 8 - (intOf i).toNat)
  case atStart => exact ⟨0,by omega,rfl,HO3,HT3,HR3,HK3⟩
  case round =>
   obtain ⟨k,hk,rfl,HO,HT,HR,HK⟩:=hrel
   clear HO3 HT3 HR3 HK3
   by_cases hlt : k < 8
   ·have d1 : (k : Int) < 8:=by omega
    obtain ⟨y,hy⟩ : ∃ y,V.l[k]? = some y:=⟨_,List.getElem?_eq_getElem (by exact hlt)⟩
    have HSG:=Lib.hid (sc_get V A5 n5 c5 N5 hlt hy)
    have HIS : Hid (∀ j,outI V.l k (j + 1) = (outI V.l k j).set (4 * k + j) (w8 (byE y (2 ^ (24 - 8 * j))))):=Lib.hid fun j => by rw [outI,getD_of hy]
    have HI4:=Lib.hid (outI_4 V.l k)
    have HIL:=Lib.hid (outI_len V.l k)
    have HO0 : Hid (Blk wr O 28 ((outI V.l k 0).map u8v)):=HO
    clear hy HO
    generalize outI V.l k = IL at *
    go_wp2_with fail
    go_loopw [6] (fun i wr => ∃ j : Nat,j ≤ 4∧i = .int .i64 j∧Hid (Blk wr O 28 ((IL j).map u8v))∧Hid (Blk wr T 129 (scL V A5 n5 c5 N5))∧Hid (Blk wr q 28 zs.toList)∧Hid (Keep w wr)) (fun i _ => 4 - (intOf i).toNat)
    case atStart => exact ⟨0,by omega,rfl,HO0,HT,HR,HK⟩
    case round =>
     obtain ⟨j,hj,rfl,HO,HT,HR,HK⟩:=hrel
     clear HO0
     by_cases hlt2 : j < 4
     ·have c0:=HT.out.cell k
      rw [HSG.out] at c0
      obtain ⟨o,ho⟩ : ∃ o,(IL j)[4 * k + j]? = some o:=⟨_,List.getElem?_eq_getElem (by rw [HIL.out];omega)⟩
      have c1:=HO.out.cell (4 * k + j)
      rw [List.getElem?_map,ho,Option.map_some] at c1
      have f1:=HO.out.frozen (4 * k + j)
      have HIJ:=Lib.hid (HIS.out j)
      clear ho HSG HIS
      have d2 : (j : Int) < 4:=by omega
      have hI2 : Hid (Blk (wr.setCell ⟨O,4 * k + j,none⟩ (.int .u8 ((y.toNat : Int) / 2 ^ (24 - 8 * j) % 256))) O 28 ((IL (j + 1)).map u8v)):=Lib.hid (by
       have h:=HO.out.set_ (4 * k + j) (.int .u8 (byE y (2 ^ (24 - 8 * j))))
       rw [← set_map8 _ _ (byE y (2 ^ (24 - 8 * j))) (by unfold byE;omega) (by unfold byE;omega)] at h
       rw [HIJ.out]
       exact h)
      clear HIJ
      go_upto_region 10 with fail
      obtain ⟨wa,hw0⟩ : ∃ ww,ww = wr.setCell ⟨O,4 * k + j,none⟩ (.int .u8 ((y.toNat : Int) / 2 ^ (24 - 8 * j) % 256)):=⟨_,rfl⟩
      have HT4 : Hid (Blk wa T 129 (scL V A5 n5 c5 N5)):=by rw [hw0];exact Lib.hid (HT.out.far (by simp;omega) _)
      have HR4 : Hid (Blk wa q 28 zs.toList):=by rw [hw0];exact Lib.hid (HR.out.far (by simp;omega) _)
      have HK4 : Hid (Keep w wa):=by rw [hw0];exact Lib.hid (HK.out.setCell (by have:=HG.out;simp;omega) _)
      rw [← hw0] at hI2 ⊢
      clear hw0 c0 c1 f1 HO HT HR HK
      go_wp2_with fail
      go_roundw
      case rel => exact ⟨j + 1,by omega,by go_num,hI2,HT4,HR4,HK4⟩
      case measure => simp [intOf];omega
     ·obtain rfl : j = 4:=by omega
      rw [HI4.out] at HO
      clear HSG HIS HI4 HIL
      go_wp2_with fail
      go_roundw
      case rel => exact ⟨k + 1,by omega,by go_num,HO,HT,HR,HK⟩
      case measure => simp [intOf];omega
   ·have Hk:=Lib.hid (show k = 8 by omega)
    have d1 : ¬ (k : Int) < 8:=by omega
    rw [Hk.out,HOH.out] at HO
    have hxl : OH.length = 32:=by rw [← HOH.out];exact outK_len _ _
    obtain ⟨cs,hcs⟩:=HOUT.out OH hxl
    have HCS:=Lib.hid hcs
    have hcz:=hcs.z;have hci:=hcs.i;have hcn:=hcs.n
    obtain ⟨w8,hst,hb8,hg8⟩:=run_store_blk (P:=Tryz.prog) cs.toList HR.out (by simp [hz1,hcz]) hcs.o
    rw [← hcs.l] at HO
    have Hb8:=Lib.hid hb8;have Hg8:=Lib.hid hg8
    clear hb8 hg8 hcs HOH HOUT hxl
    go_upto_region 12 with fail
    go_wp2_with ((with_reducible refine load_arr O cs (Eq.trans ?_ rfl) HO.out (.array 32 5) hash_under (arr_row _ _) hci ?_);rfl)
    rw [show hashV OH = .agg cs from by rw [← HCS.out.e]]
    exact bodyPost_ret (v:=.agg cs) (results_cell_row Tryz.results80 _ _ q _ _ _ (.array 32 5) rfl Hb8.out hash_under rfl (by rw [List.size_toArray,Array.length_toList];exact HCS.out.i)) rfl ⟨rfl,HK.out.grown Hg8.out HK.out.size (fun j hj => by injection hj with hj;have:=HG.out;omega)⟩
end Go.Proofs.YtmbbknjddebhoaaGreatDoor
/- florinref02: Sum, Double; florinref07: four, Put, Id. (printed by gen_nsg.py) -/
set_option linter.unusedSimpArgs false
set_option linter.unusedVariables false
namespace Go.Proofs.YtmbbknjddebhoaaGreatDoor
open Go.RowKit
attribute [local go_sem ↓] Go.wp_at_zero Go.wp_at_succ
set_option maxRecDepth 100000 in
set_option maxHeartbeats 1000000 in
theorem rsum_any (A : Option Addr) (l : List UInt8) (c : Nat) (w : World) (hr : Rd w A (l.map u8v)) (hl : l.length ≤ 100000000) :
  Calls Tryz.prog 63 #[.slice A l.length c] w fun e w' => e = .returned (hashV (sumL l))∧Keep w w':=by
 obtain ⟨cs,hcs⟩ : ∃ cs,HashA (sumL l) cs:=⟨_,HashA.of (sumL_len l)⟩
 have E1 : Hid (∀ w' A' c',Keep w w' → Rd w' A' ((l.drop (64 * (l.length / 64))).map u8v) → Calls Tryz.prog 80 #[SV (blocks h0V l (l.length / 64)) A' (l.length % 64) c' l.length] w' fun e w'' => e = .returned (.agg cs)∧Keep w' w''):=fun w' A' c' hk hr' => by
  have hm : (l.drop (64 * (l.length / 64))).length = l.length % 64:=by rw [List.length_drop];omega
  have h:=rend_any (blocks h0V l (l.length / 64)) A' (l.drop (64 * (l.length / 64))) c' l.length w' hr' hm (by omega)
  rw [hm] at h
  refine h.mono fun e w'' ⟨h1,h2⟩ => ⟨?_,h2⟩
  rw [h1,← hcs.e];rfl
 have W1 : Hid (∀ w',Keep w w' → Calls Tryz.prog 81 #[SV h0V none 0 0 0,.slice A l.length c] w' fun e w'' => ∃ A' c',e = .returned (SV (blocks h0V l (l.length / 64)) A' (l.length % 64) c' l.length)∧Rd w'' A' ((l.drop (64 * (l.length / 64))).map u8v)∧Keep w' w''):=fun w' hk => by
  have h:=rwrite_any h0V none [] 0 0 A l c w' (.inl rfl) rfl (hr.keep hk) hl (by omega)
  simp only [List.nil_append,Nat.zero_add,List.length_nil] at h
  exact h
 have S1 : Hid (∀ w',Keep w w' → Calls Tryz.prog 82 #[] w' fun e w'' => e = .returned (SV h0V none 0 0 0)∧Keep w' w''):=fun w' hk => rstart_any w'
 rw [show (hashV (sumL l)) = .agg cs by rw [← hcs.e]]
 generalize blocks h0V l (l.length / 64) = V at *
 generalize l.drop (64 * (l.length / 64)) = lr at *
 generalize l.length % 64 = nr at *
 obtain ⟨zs,hzs⟩ : ∃ zs,zs = zhash:=⟨_,rfl⟩
 have hz1 : zs.size = 32:=by rw [hzs];exact zhash_size
 have hz2 : ∀ w,(zeroValue 28).run Tryz.prog w = .ok (.agg zs) w:=fun w => by rw [hzs];exact zhash_zero w
 have hz3 : ¬ zs = #[]:=fun h => by rw [h] at hz1;cases hz1
 have hcz:=hcs.z;have hcn:=hcs.n
 have Hcs:=Lib.hid hcs
 clear hzs hcs hr
 go_enter Tryz.func63,Tryz.ntmps63
 go_wp2_with fail
 refine (S1.out _ (keep_new _ _)).mono ?_
 rintro e w1 ⟨rfl,k1⟩
 have kw1:=keep_trans (keep_new w _) k1
 have Hb1:=Lib.hid ((show Blk _ w.heap.size 28 zs.toList from Blk.new w 28 zs.toList).keep k1)
 go_wp2_with fail
 refine (W1.out _ kw1).mono ?_
 rintro e w2 ⟨A2,c2,rfl,hr2,k2⟩
 have Hr2:=Lib.hid hr2;clear hr2
 have kw2:=keep_trans kw1 k2
 go_wp2_with fail
 refine (E1.out _ _ _ kw2 Hr2.out).mono ?_
 rintro e w3 ⟨rfl,k3⟩
 have kw3:=keep_trans kw2 k3
 obtain ⟨w8,hst,hb8,hg8⟩:=run_store_blk (P:=Tryz.prog) cs.toList (Hb1.out.keep (keep_trans k2 k3)) (by simp [hz1,hcz]) Hcs.out.o
 have Hg8:=Lib.hid hg8;have Hb8:=Lib.hid hb8;clear hg8 hb8
 go_wp2
 have hb8:=Hb8.out
 exact bodyPost_ret (v:=.agg cs) (results_cell_row Tryz.results63 _ _ w.heap.size _ _ _ (.array 32 5) rfl hb8 hash_under rfl (by rw [List.size_toArray,Array.length_toList];exact Hcs.out.i)) rfl ⟨rfl,kw3.grown Hg8.out kw3.size (fun q hq => by injection hq with hq;omega)⟩
set_option maxRecDepth 100000 in
set_option maxHeartbeats 1000000 in
theorem rdouble_any (A : Option Addr) (l : List UInt8) (c : Nat) (w : World) (hr : Rd w A (l.map u8v)) (hl : l.length ≤ 100000000) :
  Calls Tryz.prog 42 #[.slice A l.length c] w fun e w' => e = .returned (hashV (dblL l))∧Keep w w':=by
 obtain ⟨cs,hcs⟩ : ∃ cs,HashA (sumL l) cs:=⟨_,HashA.of (sumL_len l)⟩
 obtain ⟨ds,hds⟩ : ∃ ds,HashA (dblL l) ds:=⟨_,HashA.of (dblL_len l)⟩
 have E1 : Hid (∀ w',Keep w w' → Calls Tryz.prog 63 #[.slice A l.length c] w' fun e w'' => e = .returned (.agg cs)∧Keep w' w''):=fun w' hk =>
  (rsum_any A l c w' (hr.keep hk) hl).mono fun e w'' ⟨h1,h2⟩ => ⟨by rw [h1,← hcs.e],h2⟩
 have E2 : Hid (∀ w' g,Keep w w' → Rd w' (some ⟨g,0,none⟩) cs.toList → Calls Tryz.prog 63 #[.slice (some ⟨g,0,none⟩) 32 32] w' fun e w'' => e = .returned (.agg ds)∧Keep w' w''):=fun w' g hk hr' => by
  have h:=rsum_any (some ⟨g,0,none⟩) (sumL l) 32 w' (by rw [← hcs.l];exact hr') (by rw [sumL_len];omega)
  rw [sumL_len] at h
  exact h.mono fun e w'' ⟨h1,h2⟩ => ⟨by rw [h1,← hds.e];rfl,h2⟩
 rw [show (hashV (dblL l)) = .agg ds by rw [← hds.e]]
 obtain ⟨zs,hzs⟩ : ∃ zs,zs = zhash:=⟨_,rfl⟩
 have hz1 : zs.size = 32:=by rw [hzs];exact zhash_size
 have hz2 : ∀ w,(zeroValue 28).run Tryz.prog w = .ok (.agg zs) w:=fun w => by rw [hzs];exact zhash_zero w
 have hz3 : ¬ zs = #[]:=fun h => by rw [h] at hz1;cases hz1
 have hcz:=hcs.z;have hcn:=hcs.n
 have hdz:=hds.z;have hdn:=hds.n
 have Hcs:=Lib.hid hcs;have Hds:=Lib.hid hds
 have hst1 : ∀ ww : World,(storeCells ⟨ww.heap.size,0,none⟩ cs.toList 0).run Tryz.prog (ww.alloc (.cells zs 28)) = .ok () (ww.alloc (.cells cs 28)):=fun ww => run_storeCells_new (P:=Tryz.prog) ww 28 zs cs Hcs.out.i (hz1.trans hcz.symm) (by have:=all_oneCell_toArray Hcs.out.o;rwa [Array.toArray_toList] at this)
 clear hzs hcs hds hr
 go_enter Tryz.func42,Tryz.ntmps42
 go_wp2_with fail
 refine (E1.out _ (keep_new _ _)).mono ?_
 rintro e w1 ⟨rfl,k1⟩
 have kw1:=keep_trans (keep_new w _) k1
 have Hb1:=Lib.hid ((show Blk _ w.heap.size 28 zs.toList from Blk.new w 28 zs.toList).keep k1)
 go_wp2_with fail
 have hbn : Blk (w1.alloc (.cells cs 28)) w1.heap.size 28 cs.toList:=Blk.new w1 28 cs.toList
 refine (E2.out _ _ (keep_trans kw1 (keep_new _ _)) hbn.rd).mono ?_
 rintro e w2 ⟨rfl,k2⟩
 have kw2:=keep_trans (keep_trans kw1 (keep_new w1 (.cells cs 28))) k2
 obtain ⟨w8,hst,hb8,hg8⟩:=run_store_blk (P:=Tryz.prog) ds.toList ((Hb1.out.alloc _).keep k2) (by simp [hz1,hdz]) Hds.out.o
 have Hg8:=Lib.hid hg8;have Hb8:=Lib.hid hb8;clear hg8 hb8 hst1
 go_wp2
 have hb8:=Hb8.out
 exact bodyPost_ret (v:=.agg ds) (results_cell_row Tryz.results42 _ _ w.heap.size _ _ _ (.array 32 5) rfl hb8 hash_under rfl (by rw [List.size_toArray,Array.length_toList];exact Hds.out.i)) rfl ⟨rfl,kw2.grown Hg8.out kw2.size (fun q hq => by injection hq with hq;omega)⟩
set_option maxRecDepth 100000 in
set_option maxHeartbeats 1000000 in
theorem rfour_any (x : UInt32) (w : World) : Calls Tryz.prog 64 #[u32v x] w (Bfd w (le4 x)):=by
 have hx:=x.toNat_lt
 obtain ⟨a,ha⟩ : ∃ a,w8 (leE x 0) = a:=⟨_,rfl⟩
 obtain ⟨b,hb⟩ : ∃ b,w8 (leE x 1) = b:=⟨_,rfl⟩
 obtain ⟨c,hc⟩ : ∃ c,w8 (leE x 2) = c:=⟨_,rfl⟩
 obtain ⟨d,hd⟩ : ∃ d,w8 (leE x 3) = d:=⟨_,rfl⟩
 have e0 : (x.toNat : Int) % 256 = (a.toNat : Int):=by rw [← ha,← w8_of (by unfold leE;omega) (by unfold leE;omega)];unfold leE;simp
 have e1 : (x.toNat : Int) / 256 % 256 = (b.toNat : Int):=by rw [← hb,← w8_of (by unfold leE;omega) (by unfold leE;omega)];unfold leE;simp
 have e2 : (x.toNat : Int) / 65536 % 256 = (c.toNat : Int):=by rw [← hc,← w8_of (by unfold leE;omega) (by unfold leE;omega)];unfold leE;simp
 have e3 : (x.toNat : Int) / 16777216 = (d.toNat : Int):=by rw [← hd,← w8_of (by unfold leE;omega) (by unfold leE;omega)];unfold leE;simp;omega
 have HL : Hid (le4 x = [a,b,c,d]):=Lib.hid (by unfold le4;rw [ha,hb,hc,hd])
 clear ha hb hc hd
 rw [HL.out]
 unfold Bfd
 go_enter Tryz.func64,Tryz.ntmps64
 go_wp2
 exact bodyPost_ret (v:=.slice (some ⟨w.heap.size,0,none⟩) 4 4) (by simp [results,Tryz.results64]) rfl ⟨_,_,rfl,Bf.row (Below.refl _ _) [a,b,c,d] (by simp)⟩
set_option maxRecDepth 100000 in
set_option maxHeartbeats 4000000 in
theorem rhput_any (h : Hd) (cs : Array Value) (w : World) (hk : h.ok) (hcs : HdA h cs) :
  Calls Tryz.prog 43 #[.agg cs] w (Bfd w (hputL h)):=by
 have hcz:=hcs.z;have hcn:=hcs.n;have hci:=hcs.i
 have F4 : Hid (∀ x y,Calls Tryz.prog 64 #[u32v x] y (Bfd y (le4 x))):=Lib.hid fun x y => rfour_any x y
 have F4L : ∀ x,(le4 x).length ≤ 4:=fun x => Nat.le_refl _
 have HB0 : Hid (Blk (w.alloc (.cells cs 30)) w.heap.size 30 h.cells):=by rw [← hcs.l];exact Lib.hid (Blk.new w _ cs.toList)
 have HPL : Hid (hputL h = ((((le4 h.ver ++ h.prev) ++ h.root) ++ le4 h.time) ++ le4 h.bits) ++ le4 h.nonce):=Lib.hid (by unfold hputL;simp only [List.append_assoc])
 have HK:=Lib.hid hk
 have hp32:=hk.1;have hr32:=hk.2
 clear hcs hk
 rw [HPL.out]
 clear HPL
 go_enter Tryz.func43,Tryz.ntmps43
 obtain ⟨w1,hw1⟩ : ∃ x,x = w.alloc (.cells cs 30):=⟨_,rfl⟩
 have k1 : Hid (Keep w w1):=by rw [hw1];exact Lib.hid (keep_new _ _)
 rw [← hw1] at HB0
 have HB1:=HB0
 have hsz1 : w.heap.size < w1.heap.size:=by rw [hw1];simp
 go_upto_region 1 with fail
 rw [← hw1]
 clear hw1 HB0
 generalize hg : w.heap.size = g at *
 have v0:=hd_cell0 HB1.out HK.out
 go_wp2_with fail
 refine (F4.out _ _).mono ?_
 clear v0
 rintro e w2 ⟨A2,c2,rfl,b2⟩
 have BF2:=Lib.hid b2
 clear b2
 have hl2 : (le4 h.ver).length ≤ 4:=Nat.le_refl _
 have r2:=hd_prev (HB1.out.keep BF2.out.k) HK.out
 go_upto_region 3 with (at_builtin;refine wpList_bf (by rfl) _ _ (by rfl) BF2.out (by rfl) (some ⟨g,1,none⟩) 32 32 h.prev (by rfl) hp32 r2 (by omega) ?_;rintro z3 A3 c3 w3 E3 b3 -)
 have BF3:=Lib.hid b3
 have hl3 : z3.length ≤ 36:=by rw [E3.out,List.length_append];omega
 clear b3 BF2 r2
 have r3:=hd_root (HB1.out.keep BF3.out.k) HK.out
 go_upto_region 4 with (at_builtin;refine wpList_bf (by rfl) _ _ (by rfl) BF3.out (by rfl) (some ⟨g,33,none⟩) 32 32 h.root (by rfl) hr32 r3 (by omega) ?_;rintro z4 A4 c4 w4 E4 b4 -)
 have BF4:=Lib.hid b4
 have hl4 : z4.length ≤ 68:=by rw [E4.out,List.length_append];omega
 clear b4 BF3 r3
 have v0:=hd_cell65 (HB1.out.keep BF4.out.k) HK.out
 go_wp2_with fail
 refine (F4.out _ _).mono ?_
 clear v0
 rintro e w5 ⟨A5,c5,rfl,b5⟩
 have BF5:=Lib.hid (BF4.out.keep b5.k)
 have r0:=b5.rd
 have hlf : (le4 h.time).length ≤ 4:=Nat.le_refl _
 go_upto_region 5 with (at_builtin;refine wpList_bf (by rfl) _ _ (by rfl) BF5.out (by rfl) _ _ _ (le4 h.time) (by rfl) rfl r0 (by omega) ?_;rintro z6 A6 c6 w6 E6 b6 -)
 have BF6:=Lib.hid b6
 have hl6 : z6.length ≤ z4.length + 4:=by rw [E6.out,List.length_append];omega
 clear b5 b6 BF4 BF5 r0 hlf
 have v0:=hd_cell66 (HB1.out.keep BF6.out.k) HK.out
 go_wp2_with fail
 refine (F4.out _ _).mono ?_
 clear v0
 rintro e w7 ⟨A7,c7,rfl,b7⟩
 have BF7:=Lib.hid (BF6.out.keep b7.k)
 have r0:=b7.rd
 have hlf : (le4 h.bits).length ≤ 4:=Nat.le_refl _
 go_upto_region 6 with (at_builtin;refine wpList_bf (by rfl) _ _ (by rfl) BF7.out (by rfl) _ _ _ (le4 h.bits) (by rfl) rfl r0 (by omega) ?_;rintro z8 A8 c8 w8 E8 b8 -)
 have BF8:=Lib.hid b8
 have hl8 : z8.length ≤ z6.length + 4:=by rw [E8.out,List.length_append];omega
 clear b7 b8 BF6 BF7 r0 hlf
 have v0:=hd_cell67 (HB1.out.keep BF8.out.k) HK.out
 go_wp2_with fail
 refine (F4.out _ _).mono ?_
 clear v0
 rintro e w9 ⟨A9,c9,rfl,b9⟩
 have BF9:=Lib.hid (BF8.out.keep b9.k)
 have r0:=b9.rd
 have hlf : (le4 h.nonce).length ≤ 4:=Nat.le_refl _
 go_wp2_with (at_builtin;refine wpList_bf (by rfl) _ _ (by rfl) BF9.out (by rfl) _ _ _ (le4 h.nonce) (by rfl) rfl r0 (by omega) ?_;rintro z10 A10 c10 w10 E10 b10 -)
 have BF10:=Lib.hid b10
 have hl10 : z10.length ≤ z8.length + 4:=by rw [E10.out,List.length_append];omega
 clear b9 b10 BF8 BF9 r0 hlf
 have ez : z10 = ((((le4 h.ver ++ h.prev) ++ h.root) ++ le4 h.time) ++ le4 h.bits) ++ le4 h.nonce:=by rw [E10.out,E8.out,E6.out,E4.out,E3.out]
 rw [← ez]
 exact bodyPost_ret (v:=.slice A10 z10.length c10) (by simp [results,Tryz.results43]) rfl ⟨_,_,rfl,BF10.out.up k1.out⟩
set_option maxRecDepth 100000 in
set_option maxHeartbeats 4000000 in
theorem rid_any (h : Hd) (cs : Array Value) (w : World) (hk : h.ok) (hcs : HdA h cs) :
  Calls Tryz.prog 24 #[.agg cs] w fun e w' => ∃ ds,e = .returned (.agg ds)∧HashA (idL h) ds∧Keep w w':=by
 have hpl:=hputL_len hk
 have A1 : Hid (∀ y,Calls Tryz.prog 43 #[.agg cs] y (Bfd y (hputL h))):=Lib.hid fun y => rhput_any h cs y hk hcs
 obtain ⟨ds,hds⟩ : ∃ ds,HashA (idL h) ds:=⟨_,HashA.of (idL_len h)⟩
 have D1 : Hid (∀ (A : Option Addr) c W,Rd W A ((hputL h).map u8v) → Calls Tryz.prog 42 #[.slice A (hputL h).length c] W fun e w' => e = .returned (.agg ds)∧Keep W w'):=Lib.hid fun A c W hr => by
  have h1:=rdouble_any A (hputL h) c W hr (by omega)
  exact h1.mono fun e w'' ⟨h2,h3⟩ => ⟨by rw [h2];show Ending.returned (.agg ((dblL (hputL h)).map u8v).toArray) = _;rw [show ((dblL (hputL h)).map u8v).toArray = ds from hds.e],h3⟩
 have HI : Hid (∀ I,idL h = I → HashA I ds):=Lib.hid fun I e => by rw [← e];exact hds
 replace HI:=Lib.hid (HI.out _ rfl)
 generalize idL h = I at *
 generalize hputL h = p at *
 obtain ⟨ys,hy1,hy2,hy3,hy4⟩:=zhash_letter
 have hcz:=hcs.z;have hcn:=hcs.n;have hci:=hcs.i
 have hdz:=hds.z;have hdn:=hds.n;have hdi:=hds.i
 have Hds:=Lib.hid hds
 clear hcs hpl hds hy4
 go_enter Tryz.func24,Tryz.ntmps24
 go_upto_region 1 with fail
 obtain ⟨w1,hw1⟩ : ∃ w1,w1 = (w.alloc (.cells cs 30)).alloc (.cells ys 28):=⟨_,rfl⟩
 have Hbx : Hid (Blk w1 w.heap.size 30 cs.toList):=by rw [hw1];exact (Blk.new w _ cs.toList).alloc _
 have HR1 : Hid (Blk w1 (w.heap.size + 1) 28 ys.toList):=by
  rw [hw1]
  have h2:=Blk.new (w.alloc (.cells cs 30)) 28 ys.toList
  rw [World.size_alloc] at h2
  exact h2
 have HK1 : Hid (Keep w w1):=by rw [hw1];exact keep_trans (keep_new _ _) (keep_new _ _)
 rw [← hw1]
 clear hw1
 go_wp2_with ((with_reducible refine load_arr w.heap.size cs (Eq.trans ?_ rfl) Hbx.out _ Tryz.underlying30 rfl hci ?_);rfl)
 refine (A1.out _).mono ?_
 rintro e w2 ⟨A2,c2,rfl,b2⟩
 have HR2:=Lib.hid (HR1.out.keep b2.k);have HK2:=Lib.hid (keep_trans HK1.out b2.k)
 have HP2:=Lib.hid b2.rd
 clear b2 A1 Hbx HR1 HK1
 go_wp2_with fail
 refine (D1.out _ _ _ HP2.out).mono ?_
 rintro e w4 ⟨rfl,k4⟩
 have HR4:=Lib.hid (HR2.out.keep k4);have HK4:=Lib.hid (keep_trans HK2.out k4)
 clear k4 HP2 HR2 HK2 D1
 obtain ⟨w5,hst5,hb5,hg5⟩:=run_store_blk (P:=Tryz.prog) ds.toList HR4.out (by simp [hy1,hdz]) Hds.out.o
 have Hb5:=Lib.hid hb5;have Hg5:=Lib.hid hg5
 clear hb5 hg5
 go_wp2
 have hb5:=Hb5.out
 exact bodyPost_ret (v:=.agg ds) (results_cell_row Tryz.results24 _ _ (w.heap.size + 1) _ _ _ (.array 32 5) rfl hb5 hash_under rfl (by rw [List.size_toArray,Array.length_toList];exact hdi)) rfl ⟨ds,rfl,HI.out,HK4.out.grown Hg5.out HK4.out.size (fun q hq => by injection hq with hq;omega)⟩
end Go.Proofs.YtmbbknjddebhoaaGreatDoor
/- florinref01: digits. (printed by gen_nc.py) -/
set_option linter.unusedSimpArgs false
set_option linter.unusedVariables false
namespace Go.Proofs.YtmbbknjddebhoaaGreatDoor
open Go.RowKit
attribute [local go_sem ↓] Go.wp_at_zero Go.wp_at_succ
theorem and1N (n : Nat) (h : n < 2 ^ 64) : bits .and .u64 (n : Int) 1 = ((n % 2 : Nat) : Int):=by
 have h1:=bits_and_u64_nat n 1 h (by decide)
 rw [Nat.and_one_is_mod] at h1
 exact h1
theorem dig_val (N k : Nat) : wrap64 (bits BinOp.and IntKind.u64 ((limb N (k / 64) : Nat) / (2 : Int) ^ (k % 64)) 1) = ((bitN N k : Nat) : Int):=by
 have e : ((limb N (k / 64) : Nat) : Int) / (2 : Int) ^ (k % 64) = ((limb N (k / 64) / 2 ^ (k % 64) : Nat) : Int):=by
  rw [Int.natCast_ediv,Int.natCast_pow];rfl
 rw [e,and1N _ (Nat.lt_of_le_of_lt (Nat.div_le_self _ _) (limb_lt _ _)),limb_bitN]
 exact IntWalk.wrap64_in _ (by have:=bitN_lt N k;omega)
set_option maxRecDepth 100000 in
set_option maxHeartbeats 4000000 in
theorem rdig_any (N : Nat) (w : World) : Calls Tryz.prog 67 #[uV N] w fun e w' => ∃ cs,e = .returned (.agg cs)∧DgA (bitN N) cs∧Keep w w':=by
 obtain ⟨zs,hz2,hzA⟩:=zdig_letter
 have hz1:=hzA.z;have hz3:=hzA.n
 have HZ:=Lib.hid hzA
 obtain ⟨ds,hds⟩ : ∃ ds,DgA (bitN N) ds:=⟨_,DgA.of _⟩
 have hd1:=hds.z;have hd3:=hds.n;have hdi:=hds.i
 have HD:=Lib.hid hds
 clear hzA hds
 go_enter Tryz.func67,Tryz.ntmps67
 go_upto_region 2 with fail
 obtain ⟨w1,hw1⟩ : ∃ w1,w1 = ((w.alloc (.cells #[n64 (limb N 0),n64 (limb N 1),n64 (limb N 2),n64 (limb N 3)] 72)).alloc (.cells zs 100)).alloc (.cells zs 100):=⟨_,rfl⟩
 have HA1 : Hid (Blk w1 w.heap.size 72 (uL N)):=by rw [hw1];exact Lib.hid (((Blk.new w 72 (uL N)).alloc _).alloc _)
 have HR1 : Hid (Blk w1 (w.heap.size + 1) 100 zs.toList):=by
  rw [hw1]
  have q:=Blk.new (w.alloc (.cells #[n64 (limb N 0),n64 (limb N 1),n64 (limb N 2),n64 (limb N 3)] 72)) 100 zs.toList
  rw [World.size_alloc] at q
  exact Lib.hid (q.alloc _)
 have HD1 : Hid (Blk w1 (w.heap.size + 2) 100 (dgl fun _ => 0)):=by
  rw [hw1,← HZ.out.l]
  have q:=Blk.new ((w.alloc (.cells #[n64 (limb N 0),n64 (limb N 1),n64 (limb N 2),n64 (limb N 3)] 72)).alloc (.cells zs 100)) 100 zs.toList
  rw [World.size_alloc,World.size_alloc] at q
  exact Lib.hid q
 have HK1 : Hid (Keep w w1):=by rw [hw1];exact Lib.hid (keep_trans (keep_trans (keep_new _ _) (keep_new _ _)) (keep_new _ _))
 rw [← hw1]
 clear hw1
 obtain ⟨g,hg⟩ : ∃ g,w.heap.size = g:=⟨_,rfl⟩
 have HG:=Lib.hid hg
 rw [hg] at HA1 HR1 HD1
 obtain ⟨r,hr⟩ : ∃ r,g + 1 = r:=⟨_,rfl⟩
 obtain ⟨d,hd⟩ : ∃ d,r + 1 = d:=⟨_,rfl⟩
 rw [hr] at HR1;rw [show g + 2 = d by omega] at HD1
 simp only [hg,hr,hd]
 have hgd : g < d:=by omega
 have hrd : r < d:=by omega
 have hgr : g < r:=by omega
 clear hg hr hd
 go_wp2_with fail
 go_loopw [4] (fun x wr => ∃ k : Nat,k ≤ 256∧x = .int .i64 k∧Hid (Blk wr g 72 (uL N))∧Hid (Blk wr r 100 zs.toList)∧Hid (Blk wr d 100 (dgl fun j => if j < k then bitN N j else 0))∧Hid (Keep w wr)) (fun x _ => 256 - (intOf x).toNat)
 case atStart => exact ⟨0,by omega,rfl,HA1,HR1,by simpa using HD1,HK1⟩
 case round =>
  obtain ⟨k,hk,rfl,HA,HR,HD2,HK⟩:=hrel
  clear HA1 HR1 HD1 HK1
  by_cases hlt : k < 256
  ·have d1 : (k : Int) < 256:=by omega
   have c0:=HA.out.cell (k / 64)
   rw [uL_get N (k / 64) (by omega)] at c0
   have c1:=HD2.out.cell k
   have f1:=HD2.out.frozen k
   rw [dgl_get _ hlt] at c1
   go_upto_region 4 with fail
   have hv:=dig_val N k
   rw [hv]
   obtain ⟨w2,hw2⟩ : ∃ x,x = wr.setCell ⟨d,k,none⟩ (.int .i64 (bitN N k)):=⟨_,rfl⟩
   have hgw : wr.grownBy w2 (some d):=by rw [hw2];exact grown_set (grown_refl _ _)
   have HA2:=Lib.hid (HA.out.grown hgw (fun q => by have:=Option.some.inj q;omega));have HR2:=Lib.hid (HR.out.grown hgw (fun q => by have:=Option.some.inj q;omega))
   have HD3 : Hid (Blk w2 d 100 (dgl fun j => if j < k + 1 then bitN N j else 0)):=by
    rw [hw2]
    have q:=HD2.out.set_ k (.int .i64 (bitN N k))
    rw [dgl_set] at q
    rw [dgl_ext (g:=fun j => if j = k then bitN N k else if j < k then bitN N j else 0) (fun i _ => by
     by_cases e : i = k
     ·subst e;rw [if_pos rfl,if_pos (by omega)]
     ·by_cases e2 : i < k
      ·rw [if_pos (by omega),if_neg e,if_pos e2]
      ·rw [if_neg (by omega),if_neg e,if_neg e2])]
    exact Lib.hid q
   have HK2 : Hid (Keep w w2):=Lib.hid (HK.out.grown hgw HK.out.size (fun q hq => by have:=Option.some.inj hq;have:=HG.out;omega))
   rw [← hw2]
   clear hw2 hgw hv c0 c1 f1 HA HR HD2 HK
   go_wp2_with fail
   go_roundw
   case rel => exact ⟨k + 1,by omega,by go_num,HA2,HR2,HD3,HK2⟩
   case measure => simp [intOf];omega
  ·obtain rfl : k = 256:=by omega
   have d1 : ¬ ((256 : Nat) : Int) < 256:=by omega
   have HDd : Hid (Blk wr d 100 ds.toList):=by
    rw [HD.out.l,dgl_ext (f:=bitN N) (g:=fun j => if j < 256 then bitN N j else 0) (fun i hi => by rw [if_pos hi])]
    exact HD2
   obtain ⟨w8,hst8,hb8,hg8⟩:=run_store_blk (P:=Tryz.prog) ds.toList HR.out (by rw [Array.length_toList,Array.length_toList,hz1,hd1]) HD.out.o
   have Hb8:=Lib.hid hb8;have Hg8:=Lib.hid hg8
   clear hb8 hg8
   go_wp2_with ((with_reducible refine load_arr d ds (Eq.trans ?_ rfl) HDd.out _ Tryz.underlying100 rfl hdi ?_);rfl)
   exact bodyPost_ret (v:=.agg ds) (results_cell_row Tryz.results67 _ _ r _ _ _ _ rfl Hb8.out Tryz.underlying100 rfl (by rw [List.size_toArray,Array.length_toList];exact hdi)) rfl
    ⟨ds,rfl,HD.out,HK.out.grown Hg8.out HK.out.size (fun q hq => by injection hq with hq;have:=HG.out;omega)⟩
end Go.Proofs.YtmbbknjddebhoaaGreatDoor
/- florinref01: number. (printed by gen_nd.py) -/
set_option linter.unusedSimpArgs false
set_option linter.unusedVariables false
namespace Go.Proofs.YtmbbknjddebhoaaGreatDoor
open Go.RowKit
attribute [local go_sem ↓] Go.wp_at_zero Go.wp_at_succ
theorem limb_add_bit {S k b i : Nat} (hS : S < 2 ^ k) (hb : b < 2) : limb (S + b * 2 ^ k) i = if i = k / 64 then limb S i ||| b * 2 ^ (k % 64) else limb S i:=by
 obtain rfl | rfl : b = 0 ∨ b = 1:=by omega
 ·simp
 ·rw [Nat.one_mul,Nat.one_mul]
  have e : S + 2 ^ k = 2 ^ k ||| S:=by
   have:=Nat.two_pow_add_eq_or_of_lt hS 1
   rw [Nat.mul_one] at this
   rw [Nat.add_comm,this]
  apply Nat.eq_of_testBit_eq
  intro j
  by_cases hi : i = k / 64
  ·rw [if_pos hi,limb_bit,e,Nat.testBit_or,Nat.testBit_or,limb_bit,Nat.testBit_two_pow,Nat.testBit_two_pow]
   by_cases hj : j < 64
   ·rw [decide_eq_true hj,Bool.true_and,Bool.true_and,show decide (k = 64 * i + j) = decide (k % 64 = j) from decide_eq_decide.2 (by omega),Bool.or_comm]
   ·rw [decide_eq_false hj,Bool.false_and,Bool.false_and,decide_eq_false (by omega : ¬ k % 64 = j)];rfl
  ·rw [if_neg hi,limb_bit,limb_bit,e,Nat.testBit_or,Nat.testBit_two_pow]
   by_cases hj : j < 64
   ·rw [decide_eq_false (by omega : ¬ k = 64 * i + j),Bool.false_or]
   ·rw [decide_eq_false hj,Bool.false_and,Bool.false_and]
theorem uL_bit {S k b : Nat} (hS : S < 2 ^ k) (hb : b < 2) (hk : k < 256) : (uL S).set (k / 64) (n64 (limb S (k / 64) ||| b * 2 ^ (k % 64))) = uL (S + b * 2 ^ k):=by
 unfold uL
 rw [limb_add_bit hS hb,limb_add_bit hS hb,limb_add_bit hS hb,limb_add_bit hS hb]
 rcases (show k / 64 = 0 ∨ k / 64 = 1 ∨ k / 64 = 2 ∨ k / 64 = 3 by omega) with e | e | e | e <;> rw [e] <;> rfl
theorem num_val (x b m : Nat) (hx : x < 2 ^ 64) (hb : b < 2) (hm : m < 64) : bits BinOp.or IntKind.u64 (x : Int) (IntKind.u64.wrap ((b : Int) * 2 ^ m)) = ((x ||| b * 2 ^ m : Nat) : Int):=by
 have h1 : 2 ^ m ≤ 2 ^ 63:=Nat.pow_le_pow_right (by decide) (by omega)
 have h2 : b * 2 ^ m ≤ 1 * 2 ^ 63:=Nat.mul_le_mul (by omega) h1
 have h3 : b * 2 ^ m < 2 ^ 64:=Nat.lt_of_le_of_lt h2 (by decide)
 have e2 : IntKind.u64.wrap ((b : Int) * 2 ^ m) = ((b * 2 ^ m : Nat) : Int):=by
  rw [IntKind.wrap_u64,show (b : Int) * 2 ^ m = ((b * 2 ^ m : Nat) : Int) by rw [Int.natCast_mul,Int.natCast_pow];rfl]
  have : 2 ^ 64 = 18446744073709551616:=by decide
  omega
 rw [e2]
 exact bits_or_u64_nat _ _ hx h3
set_option maxRecDepth 100000 in
set_option maxHeartbeats 4000000 in
theorem rnumb_any (f : Nat → Nat) (ds : Array Value) (w : World) (hA : DgA f ds) (hf : ∀ i,i < 256 → f i < 2) : Calls Tryz.prog 79 #[.agg ds] w fun e w' => e = .returned (uV (numT f 256))∧Keep w w':=by
 have hd1:=hA.z;have hd3:=hA.n;have hdi:=hA.i
 have HD:=Lib.hid hA;have HF:=Lib.hid hf
 clear hA hf
 obtain ⟨R,hRe⟩ : ∃ R,numT f 256 = R:=⟨_,rfl⟩
 have HRE:=Lib.hid hRe
 rw [hRe]
 clear hRe
 go_enter Tryz.func79,Tryz.ntmps79
 go_upto_region 2 with fail
 obtain ⟨w1,hw1⟩ : ∃ w1,w1 = ((w.alloc (.cells ds 100)).alloc (.cells #[.int .u64 0,.int .u64 0,.int .u64 0,.int .u64 0] 72)).alloc (.cells #[.int .u64 0,.int .u64 0,.int .u64 0,.int .u64 0] 72):=⟨_,rfl⟩
 have HA1 : Hid (Blk w1 w.heap.size 100 (dgl f)):=by rw [hw1,← HD.out.l];exact Lib.hid (((Blk.new w 100 ds.toList).alloc _).alloc _)
 have HR1 : Hid (Blk w1 (w.heap.size + 1) 72 (uL 0)):=by
  rw [hw1]
  have q:=Blk.new (w.alloc (.cells ds 100)) 72 (uL 0)
  rw [World.size_alloc] at q
  exact Lib.hid (q.alloc _)
 have HD1 : Hid (Blk w1 (w.heap.size + 2) 72 (uL 0)):=by
  rw [hw1]
  have q:=Blk.new ((w.alloc (.cells ds 100)).alloc (.cells #[.int .u64 0,.int .u64 0,.int .u64 0,.int .u64 0] 72)) 72 (uL 0)
  rw [World.size_alloc,World.size_alloc] at q
  exact Lib.hid q
 have HK1 : Hid (Keep w w1):=by rw [hw1];exact Lib.hid (keep_trans (keep_trans (keep_new _ _) (keep_new _ _)) (keep_new _ _))
 rw [← hw1]
 clear hw1
 obtain ⟨g,hg⟩ : ∃ g,w.heap.size = g:=⟨_,rfl⟩
 have HG:=Lib.hid hg
 rw [hg] at HA1 HR1 HD1
 obtain ⟨r,hr⟩ : ∃ r,g + 1 = r:=⟨_,rfl⟩
 obtain ⟨d,hd⟩ : ∃ d,r + 1 = d:=⟨_,rfl⟩
 rw [hr] at HR1;rw [show g + 2 = d by omega] at HD1
 simp only [hg,hr,hd]
 have hgd : g < d:=by omega
 have hrd : r < d:=by omega
 have hgr : g < r:=by omega
 clear hg hr hd
 go_wp2_with fail
 go_loopw [4] (fun x wr => ∃ k : Nat,k ≤ 256∧x = .int .i64 k∧Hid (Blk wr g 100 (dgl f))∧Hid (Blk wr r 72 (uL 0))∧Hid (Blk wr d 72 (uL (numT f k)))∧Hid (Keep w wr)) (fun x _ => 256 - (intOf x).toNat)
 case atStart => exact ⟨0,by omega,rfl,HA1,HR1,HD1,HK1⟩
 case round =>
  obtain ⟨k,hk,rfl,HA,HR,HD2,HK⟩:=hrel
  clear HA1 HR1 HD1 HK1
  by_cases hlt : k < 256
  ·have d1 : (k : Int) < 256:=by omega
   have hb:=HF.out k hlt
   have hS : numT f k < 2 ^ k:=numT_lt k fun i hi => HF.out i (by omega)
   have HS:=Lib.hid hS
   clear hS
   obtain ⟨S,hSe⟩ : ∃ S,numT f k = S:=⟨_,rfl⟩
   rw [hSe] at HD2 HS
   have HSE:=Lib.hid hSe
   clear hSe
   go_upto_region 5 with fail
   refine wp_region_tree (.take [0,1,2,3,4,5,6,7,8,9,10,11,12,13,14,15] .done) [16] (by kernel_rfl) (by kernel_rfl) (fun wa ka => ?_)
   have HAa:=Lib.hid (HA.out.keep ka);have HRa:=Lib.hid (HR.out.keep ka);have HDa:=Lib.hid (HD2.out.keep ka);have HKa:=Lib.hid (keep_trans HK.out ka)
   have c0:=HDa.out.cell (k / 64)
   rw [uL_get S (k / 64) (by omega)] at c0
   have c1:=HAa.out.cell k
   have f0:=HDa.out.frozen (k / 64)
   rw [dgl_get _ hlt] at c1
   have a0:=aft_cell c0;have a1:=aft_cell c1
   clear ka HA HR HD2 HK
   refine mt_take wa (Below.refl _ _) ?_
   simp only [pick_cons,pick_nil,nth_zero,nth_succ]
   repeat (go_big_quiet_step (fail))
   refine wpQuiet_nil (mt_end ?_)
   go_upto_region 4 with fail
   have hv:=num_val (limb S (k / 64)) (f k) (k % 64) (limb_lt _ _) hb (Nat.mod_lt _ (by decide))
   rw [hv]
   obtain ⟨w2,hw2⟩ : ∃ x,x = wa.setCell ⟨d,k / 64,none⟩ (n64 (limb S (k / 64) ||| f k * 2 ^ (k % 64))):=⟨_,rfl⟩
   have hgw : wa.grownBy w2 (some d):=by rw [hw2];exact grown_set (grown_refl _ _)
   have HA2:=Lib.hid (HAa.out.grown hgw (fun q => by have:=Option.some.inj q;omega));have HR2:=Lib.hid (HRa.out.grown hgw (fun q => by have:=Option.some.inj q;omega))
   have HD3 : Hid (Blk w2 d 72 (uL (numT f (k + 1)))):=by
    rw [hw2,numT,HSE.out,← uL_bit HS.out hb hlt]
    exact Lib.hid (HDa.out.set_ (k / 64) _)
   have HK2 : Hid (Keep w w2):=Lib.hid (HKa.out.grown hgw HKa.out.size (fun q hq => by have:=Option.some.inj hq;have:=HG.out;omega))
   rw [← hw2]
   clear hw2 hgw hv c0 c1 f0 HAa HRa HDa HKa
   go_wp2_with fail
   go_roundw
   case rel => exact ⟨k + 1,by omega,by go_num,HA2,HR2,HD3,HK2⟩
   case measure => simp [intOf];omega
  ·obtain rfl : k = 256:=by omega
   have d1 : ¬ ((256 : Nat) : Int) < 256:=by omega
   rw [HRE.out] at HD2
   have x0:=HD2.out.cell 0;have x1:=HD2.out.cell 1;have x2:=HD2.out.cell 2;have x3:=HD2.out.cell 3
   have y0:=HR.out.cell 0;have y1:=HR.out.cell 1;have y2:=HR.out.cell 2;have y3:=HR.out.cell 3
   have z0:=HR.out.frozen 0;have z1:=HR.out.frozen 1;have z2:=HR.out.frozen 2;have z3:=HR.out.frozen 3
   simp only [uL,List.getElem?_cons_succ,List.getElem?_cons_zero] at x0 x1 x2 x3 y0 y1 y2 y3
   go_wp2_with fail
   exact bodyPost_ret (v:=uV R) (results_cell_row Tryz.results79 _ _ r _ _ _ _ rfl (show Blk _ r 72 (uL R) from (((HR.out.set_ 0 _).set_ 1 _).set_ 2 _).set_ 3 _) Tryz.underlying72 rfl (by kernel_rfl)) rfl ⟨rfl,HK.out.grown (grown_set (grown_set (grown_set (grown_set (grown_refl _ _))))) HK.out.size (fun q hq => by injection hq with hq;have:=HG.out;omega)⟩
end Go.Proofs.YtmbbknjddebhoaaGreatDoor
/- florinref01: Add, Sub. (printed by gen_ne.py) -/
set_option linter.unusedSimpArgs false
set_option linter.unusedVariables false
namespace Go.Proofs.YtmbbknjddebhoaaGreatDoor
open Go.RowKit
attribute [local go_sem ↓] Go.wp_at_zero Go.wp_at_succ
set_option maxRecDepth 100000 in
set_option maxHeartbeats 4000000 in
theorem radd_any (N M : Nat) (w : World) (hN : N < 2 ^ 256) (hM : M < 2 ^ 256) : Calls Tryz.prog 85 #[uV N,uV M] w fun e w' => e = .returned (.tuple #[uV ((N + M) % 2 ^ 256),.bool (decide (2 ^ 256 ≤ N + M))])∧Keep w w':=by
 have HNM:=Lib.hid (And.intro hN hM)
 clear hN hM
 obtain ⟨R,hR⟩ : ∃ R,(N + M) % 2 ^ 256 = R:=⟨_,rfl⟩
 obtain ⟨L,hL⟩ : ∃ L,decide (2 ^ 256 ≤ N + M) = L:=⟨_,rfl⟩
 have HRL:=Lib.hid (And.intro hR hL)
 rw [hR,hL]
 clear hR hL
 have DG:=Lib.hid (fun N y => rdig_any N y)
 obtain ⟨zs,hz2,hzA⟩:=zdig_letter
 have hz1:=hzA.z;have hz3:=hzA.n
 have HZ:=Lib.hid hzA
 clear hzA
 go_enter Tryz.func85,Tryz.ntmps85
 go_upto_region 1 with fail
 obtain ⟨w1,hw1⟩ : ∃ w1,w1 = ((w.alloc (.cells #[n64 (limb N 0),n64 (limb N 1),n64 (limb N 2),n64 (limb N 3)] 72)).alloc (.cells #[n64 (limb M 0),n64 (limb M 1),n64 (limb M 2),n64 (limb M 3)] 72)).alloc (.cells #[.int .u64 0,.int .u64 0,.int .u64 0,.int .u64 0] 72):=⟨_,rfl⟩
 have HA1 : Hid (Blk w1 w.heap.size 72 (uL N)):=by rw [hw1];exact Lib.hid (((Blk.new w 72 (uL N)).alloc _).alloc _)
 have HB1 : Hid (Blk w1 (w.heap.size + 1) 72 (uL M)):=by
  rw [hw1]
  have q:=Blk.new (w.alloc (.cells #[n64 (limb N 0),n64 (limb N 1),n64 (limb N 2),n64 (limb N 3)] 72)) 72 (uL M)
  rw [World.size_alloc] at q
  exact Lib.hid (q.alloc _)
 have HR1 : Hid (Blk w1 (w.heap.size + 2) 72 (uL 0)):=by
  rw [hw1]
  have q:=Blk.new ((w.alloc (.cells #[n64 (limb N 0),n64 (limb N 1),n64 (limb N 2),n64 (limb N 3)] 72)).alloc (.cells #[n64 (limb M 0),n64 (limb M 1),n64 (limb M 2),n64 (limb M 3)] 72)) 72 (uL 0)
  rw [World.size_alloc,World.size_alloc] at q
  exact Lib.hid q
 have HK1 : Hid (Keep w w1):=by rw [hw1];exact Lib.hid (keep_trans (keep_trans (keep_new _ _) (keep_new _ _)) (keep_new _ _))
 rw [← hw1]
 clear hw1
 obtain ⟨g,hg⟩ : ∃ g,w.heap.size = g:=⟨_,rfl⟩
 have HG:=Lib.hid hg
 rw [hg] at HA1 HB1 HR1
 obtain ⟨h,hh⟩ : ∃ h,g + 1 = h:=⟨_,rfl⟩
 obtain ⟨r,hr⟩ : ∃ r,h + 1 = r:=⟨_,rfl⟩
 rw [hh] at HB1
 rw [show g + 2 = r by omega] at HR1
 simp only [hg,hh,hr]
 have hghr : g < h∧h < r:=by omega
 clear hg hh hr
 have a0:=HA1.out.cell 0;have a1:=HA1.out.cell 1;have a2:=HA1.out.cell 2;have a3:=HA1.out.cell 3
 simp only [uL,List.getElem?_cons_succ,List.getElem?_cons_zero] at a0 a1 a2 a3
 go_wp2_with fail
 refine (DG.out N _).mono ?_
 rintro e w2 ⟨cs,rfl,hcA,hk2⟩
 have HC:=Lib.hid hcA
 have hst : ∀ y : World,(storeCells ⟨y.heap.size,0,none⟩ cs.toList 0).run Tryz.prog (y.alloc (.cells zs 100)) = .ok () (y.alloc (.cells cs 100)):=fun y => run_storeCells_new (P:=Tryz.prog) y 100 zs cs hcA.i (hz1.trans hcA.z.symm) (by have:=all_oneCell_toArray hcA.o;simpa using this)
 have hc3:=hcA.n;have hc1:=hcA.z
 have HA2:=Lib.hid (HA1.out.keep hk2);have HB2:=Lib.hid (HB1.out.keep hk2);have HR2:=Lib.hid (HR1.out.keep hk2);have HK2:=Lib.hid (keep_trans HK1.out hk2)
 clear hcA hk2 HA1 HB1 HR1 HK1 a0 a1 a2 a3
 go_upto_region 2 with fail
 obtain ⟨w3,hw3⟩ : ∃ x,x = w2.alloc (.cells cs 100):=⟨_,rfl⟩
 have HX3 : Hid (Blk w3 w2.heap.size 100 (dgl (bitN N))):=by rw [hw3,← HC.out.l];exact Lib.hid (Blk.new w2 _ cs.toList)
 have k3 : Keep w2 w3:=by rw [hw3];exact keep_new _ _
 have HB3:=Lib.hid (HB2.out.keep k3);have HR3:=Lib.hid (HR2.out.keep k3);have HK3:=Lib.hid (keep_trans HK2.out k3)
 have hX1 : r < w2.heap.size:=HR2.out.lt
 rw [← hw3]
 clear hw3 k3 hst HA2 HB2 HR2 HK2 hc3 hc1
 obtain ⟨X,hX⟩ : ∃ X,w2.heap.size = X:=⟨_,rfl⟩
 rw [hX] at HX3 hX1
 simp only [hX]
 clear hX
 have a0:=HB3.out.cell 0;have a1:=HB3.out.cell 1;have a2:=HB3.out.cell 2;have a3:=HB3.out.cell 3
 simp only [uL,List.getElem?_cons_succ,List.getElem?_cons_zero] at a0 a1 a2 a3
 go_wp2_with fail
 refine (DG.out M _).mono ?_
 rintro e w4 ⟨ds,rfl,hdA,hk4⟩
 have HD:=Lib.hid hdA
 have hst : ∀ y : World,(storeCells ⟨y.heap.size,0,none⟩ ds.toList 0).run Tryz.prog (y.alloc (.cells zs 100)) = .ok () (y.alloc (.cells ds 100)):=fun y => run_storeCells_new (P:=Tryz.prog) y 100 zs ds hdA.i (hz1.trans hdA.z.symm) (by have:=all_oneCell_toArray hdA.o;simpa using this)
 have hd3:=hdA.n;have hd1:=hdA.z
 have HX4:=Lib.hid (HX3.out.keep hk4);have HR4:=Lib.hid (HR3.out.keep hk4);have HK4:=Lib.hid (keep_trans HK3.out hk4)
 clear hdA hk4 HX3 HB3 HR3 HK3 a0 a1 a2 a3 DG
 go_upto_region 4 with fail
 obtain ⟨w5,hw5⟩ : ∃ x,x = w4.alloc (.cells ds 100):=⟨_,rfl⟩
 have HY5 : Hid (Blk w5 w4.heap.size 100 (dgl (bitN M))):=by rw [hw5,← HD.out.l];exact Lib.hid (Blk.new w4 _ ds.toList)
 have k5 : Keep w4 w5:=by rw [hw5];exact keep_new _ _
 have HX5:=Lib.hid (HX4.out.keep k5);have HR5:=Lib.hid (HR4.out.keep k5);have HK5:=Lib.hid (keep_trans HK4.out k5)
 have hX2 : X < w4.heap.size:=HX4.out.lt
 rw [← hw5]
 clear hw5 k5 hst HX4 HR4 HK4 hd3 hd1
 obtain ⟨Y,hY⟩ : ∃ Y,w4.heap.size = Y:=⟨_,rfl⟩
 rw [hY] at HY5 hX2
 simp only [hY]
 clear hY
 have F0 : Hid (∀ i,i < 0 → bitN N i < 2):=Lib.hid fun i hi => by omega
 have S0 : Hid (numT (bitN N) 0 + 0 * 2 ^ 0 = N % 2 ^ 0 + M % 2 ^ 0):=Lib.hid (by simp [numT,Nat.mod_one])
 go_wp2_with fail
 go_loopw [8,9] (fun vc x wr => ∃ (k c : Nat) (f : Nat → Nat),k ≤ 256∧c < 2∧vc = .int .i64 c∧x = .int .i64 k∧Hid (numT f k + c * 2 ^ k = N % 2 ^ k + M % 2 ^ k)∧Hid (∀ i,i < k → f i < 2)∧Hid (∀ i,k ≤ i → i < 256 → f i = bitN N i)∧Hid (Blk wr X 100 (dgl f))∧Hid (Blk wr Y 100 (dgl (bitN M)))∧Hid (Blk wr r 72 (uL 0))∧Hid (Keep w wr)) (fun _ x _ => 256 - (intOf x).toNat)
 case atStart => exact ⟨0,0,bitN N,by omega,by omega,rfl,rfl,S0,F0,Lib.hid fun _ _ _ => rfl,HX5,HY5,HR5,HK5⟩
 case round =>
  obtain ⟨k,c,f,hk,hc,rfl,rfl,HS,HF,HE,HX,HY,HR,HK⟩:=hrel
  clear HX5 HY5 HR5 HK5 S0 F0
  by_cases hlt : k < 256
  ·have d1 : (k : Int) < 256:=by omega
   have HEK:=Lib.hid (HE.out k (Nat.le_refl _) hlt)
   have hx2 : f k < 2:=by rw [HEK.out];exact bitN_lt _ _
   have hy2:=bitN_lt M k
   go_upto_region 7 with fail
   refine wp_region_tree (.take [0,1,2,3,4,5,6,7,8,9] .done) [] (by kernel_rfl) (by kernel_rfl) (fun wa ka => ?_)
   have HXa:=Lib.hid (HX.out.keep ka);have HYa:=Lib.hid (HY.out.keep ka);have HRa:=Lib.hid (HR.out.keep ka);have HKa:=Lib.hid (keep_trans HK.out ka)
   have c0:=HXa.out.cell k;have c1:=HYa.out.cell k;have f0:=HXa.out.frozen k
   rw [dgl_get _ hlt] at c0 c1
   have a0:=aft_cell c0;have a1:=aft_cell c1
   clear ka HX HY HR HK
   refine mt_take wa (Below.refl _ _) ?_
   simp only [pick_cons,pick_nil,nth_zero,nth_succ]
   repeat (go_big_quiet_step (fail))
   refine wpQuiet_nil (mt_end ?_)
   go_upto_region 6 with fail
   obtain ⟨s,hs⟩ : ∃ s,f k + bitN M k + c = s:=⟨_,rfl⟩
   have hv1 : ((f k : Int) + (bitN M k : Int) + (c : Int)) % 2 = ((s % 2 : Nat) : Int):=by omega
   have hv2 : ((f k : Int) + (bitN M k : Int) + (c : Int)) / 2 = ((s / 2 : Nat) : Int):=by omega
   rw [hv1,hv2]
   obtain ⟨f2,hf2⟩ : ∃ f2 : Nat → Nat,f2 = fun j => if j = k then s % 2 else f j:=⟨_,rfl⟩
   obtain ⟨w6,hw6⟩ : ∃ x,x = wa.setCell ⟨X,k,none⟩ (.int .i64 ((s % 2 : Nat) : Int)):=⟨_,rfl⟩
   have hgw : wa.grownBy w6 (some X):=by rw [hw6];exact grown_set (grown_refl _ _)
   have HY6:=Lib.hid (HYa.out.grown hgw (fun q => by have:=Option.some.inj q;omega));have HR6:=Lib.hid (HRa.out.grown hgw (fun q => by have:=Option.some.inj q;omega))
   have HX6 : Hid (Blk w6 X 100 (dgl f2)):=by
    rw [hw6,hf2,← dgl_set]
    exact Lib.hid (HXa.out.set_ k _)
   have HK6 : Hid (Keep w w6):=Lib.hid (HKa.out.grown hgw HKa.out.size (fun q hq => by have:=Option.some.inj hq;have:=HG.out;omega))
   have hfk : f2 k = s % 2:=by rw [hf2];exact if_pos rfl
   have hfo : ∀ j,j ≠ k → f2 j = f j:=fun j hj => by rw [hf2];exact if_neg hj
   have HS6 : Hid (numT f2 (k + 1) + (s / 2) * 2 ^ (k + 1) = N % 2 ^ (k + 1) + M % 2 ^ (k + 1)):=Lib.hid (add_step (c:=c) (d:=s % 2) (by rw [numT_congr (g:=f) k fun i hi => hfo i (by omega)];exact HS.out) hfk (by rw [← HEK.out];omega))
   have HF6 : Hid (∀ i,i < k + 1 → f2 i < 2):=Lib.hid fun i hi => by
    by_cases e : i = k
    ·subst e;rw [hfk];omega
    ·rw [hfo i e];exact HF.out i (by omega)
   have HE6 : Hid (∀ i,k + 1 ≤ i → i < 256 → f2 i = bitN N i):=Lib.hid fun i h1 h2 => by rw [hfo i (by omega)];exact HE.out i (by omega) h2
   have hs2 : s / 2 < 2:=by omega
   rw [← hw6]
   clear hw6 hgw hv1 hv2 c0 c1 f0 HXa HYa HRa HKa hf2 hfk hfo HS HF HE HEK
   go_wp2_with fail
   go_roundw
   case rel => exact ⟨k + 1,s / 2,f2,by omega,hs2,rfl,by go_num,HS6,HF6,HE6,HX6,HY6,HR6,HK6⟩
   case measure => simp [intOf];omega
  ·obtain rfl : k = 256:=by omega
   have d1 : ¬ ((256 : Nat) : Int) < 256:=by omega
   obtain ⟨fs,hfs⟩ : ∃ fs,DgA f fs:=⟨_,DgA.of _⟩
   have NB:=Lib.hid (fun y => rnumb_any f fs y hfs HF.out)
   have hfi:=hfs.i;have hfn:=hfs.n
   have HXf : Hid (Blk wr X 100 fs.toList):=by rw [hfs.l];exact HX
   have hRe : numT f 256 = R:=by
    have h1:=HS.out;have h2:=numT_lt 256 HF.out
    rw [Nat.mod_eq_of_lt HNM.out.1,Nat.mod_eq_of_lt HNM.out.2] at h1
    have h3:=HRL.out.1;have h4:=HNM.out.1;have h5:=HNM.out.2
    omega
   have hLe : ((c : Int) == 1) = L:=by
    have h1:=HS.out;have h2:=numT_lt 256 HF.out
    rw [Nat.mod_eq_of_lt HNM.out.1,Nat.mod_eq_of_lt HNM.out.2] at h1
    have h4:=HNM.out.1;have h5:=HNM.out.2
    rw [← HRL.out.2]
    by_cases e : c = 1
    ·rw [decide_eq_true (by omega),beq_iff_eq.2 (by omega)]
    ·rw [decide_eq_false (by omega),beq_eq_false_iff_ne.2 (by omega)]
   rw [hRe] at NB
   have HLE:=Lib.hid hLe
   clear hfs hRe hLe HS HF HE HX HY HRL HNM
   go_wp2_with (first | ((with_reducible refine load_arr X fs (Eq.trans ?_ rfl) HXf.out _ Tryz.underlying100 rfl hfi ?_);rfl) | (go_at_call 79;refine (NB.out _).mono ?_;rintro e w9 ⟨rfl,k9⟩;have HR9:=Lib.hid (HR.out.keep k9);have HK9:=Lib.hid (keep_trans HK.out k9);clear k9;have y0:=HR9.out.cell 0;have y1:=HR9.out.cell 1;have y2:=HR9.out.cell 2;have y3:=HR9.out.cell 3;have z0:=HR9.out.frozen 0;have z1:=HR9.out.frozen 1;have z2:=HR9.out.frozen 2;have z3:=HR9.out.frozen 3;simp only [uL,List.getElem?_cons_succ,List.getElem?_cons_zero] at y0 y1 y2 y3))
   rw [HLE.out]
   exact bodyPost_ret (v:=.tuple #[uV R,.bool L]) (results_cell_tmp_row Tryz.results85 _ _ r _ _ _ _ rfl (show Blk _ r 72 (uL R) from (((HR9.out.set_ 0 _).set_ 1 _).set_ 2 _).set_ 3 _) Tryz.underlying72 rfl (by kernel_rfl)) rfl ⟨rfl,HK9.out.grown (grown_set (grown_set (grown_set (grown_set (grown_refl _ _))))) HK9.out.size (fun q hq => by injection hq with hq;have:=HG.out;omega)⟩
end Go.Proofs.YtmbbknjddebhoaaGreatDoor
/- florinref01: Sub. (printed by gen_ne.py) -/
set_option linter.unusedSimpArgs false
set_option linter.unusedVariables false
namespace Go.Proofs.YtmbbknjddebhoaaGreatDoor
open Go.RowKit
attribute [local go_sem ↓] Go.wp_at_zero Go.wp_at_succ
set_option maxRecDepth 100000 in
set_option maxHeartbeats 4000000 in
theorem rsub_any (N M : Nat) (w : World) (hN : N < 2 ^ 256) (hM : M < 2 ^ 256) : Calls Tryz.prog 103 #[uV N,uV M] w fun e w' => e = .returned (.tuple #[uV ((N + 2 ^ 256 - M) % 2 ^ 256),.bool (decide (N < M))])∧Keep w w':=by
 have HNM:=Lib.hid (And.intro hN hM)
 clear hN hM
 obtain ⟨R,hR⟩ : ∃ R,(N + 2 ^ 256 - M) % 2 ^ 256 = R:=⟨_,rfl⟩
 obtain ⟨L,hL⟩ : ∃ L,decide (N < M) = L:=⟨_,rfl⟩
 have HRL:=Lib.hid (And.intro hR hL)
 rw [hR,hL]
 clear hR hL
 have DG:=Lib.hid (fun N y => rdig_any N y)
 obtain ⟨zs,hz2,hzA⟩:=zdig_letter
 have hz1:=hzA.z;have hz3:=hzA.n
 have HZ:=Lib.hid hzA
 clear hzA
 go_enter Tryz.func103,Tryz.ntmps103
 go_upto_region 1 with fail
 obtain ⟨w1,hw1⟩ : ∃ w1,w1 = ((w.alloc (.cells #[n64 (limb N 0),n64 (limb N 1),n64 (limb N 2),n64 (limb N 3)] 72)).alloc (.cells #[n64 (limb M 0),n64 (limb M 1),n64 (limb M 2),n64 (limb M 3)] 72)).alloc (.cells #[.int .u64 0,.int .u64 0,.int .u64 0,.int .u64 0] 72):=⟨_,rfl⟩
 have HA1 : Hid (Blk w1 w.heap.size 72 (uL N)):=by rw [hw1];exact Lib.hid (((Blk.new w 72 (uL N)).alloc _).alloc _)
 have HB1 : Hid (Blk w1 (w.heap.size + 1) 72 (uL M)):=by
  rw [hw1]
  have q:=Blk.new (w.alloc (.cells #[n64 (limb N 0),n64 (limb N 1),n64 (limb N 2),n64 (limb N 3)] 72)) 72 (uL M)
  rw [World.size_alloc] at q
  exact Lib.hid (q.alloc _)
 have HR1 : Hid (Blk w1 (w.heap.size + 2) 72 (uL 0)):=by
  rw [hw1]
  have q:=Blk.new ((w.alloc (.cells #[n64 (limb N 0),n64 (limb N 1),n64 (limb N 2),n64 (limb N 3)] 72)).alloc (.cells #[n64 (limb M 0),n64 (limb M 1),n64 (limb M 2),n64 (limb M 3)] 72)) 72 (uL 0)
  rw [World.size_alloc,World.size_alloc] at q
  exact Lib.hid q
 have HK1 : Hid (Keep w w1):=by rw [hw1];exact Lib.hid (keep_trans (keep_trans (keep_new _ _) (keep_new _ _)) (keep_new _ _))
 rw [← hw1]
 clear hw1
 obtain ⟨g,hg⟩ : ∃ g,w.heap.size = g:=⟨_,rfl⟩
 have HG:=Lib.hid hg
 rw [hg] at HA1 HB1 HR1
 obtain ⟨h,hh⟩ : ∃ h,g + 1 = h:=⟨_,rfl⟩
 obtain ⟨r,hr⟩ : ∃ r,h + 1 = r:=⟨_,rfl⟩
 rw [hh] at HB1
 rw [show g + 2 = r by omega] at HR1
 simp only [hg,hh,hr]
 have hghr : g < h∧h < r:=by omega
 clear hg hh hr
 have a0:=HA1.out.cell 0;have a1:=HA1.out.cell 1;have a2:=HA1.out.cell 2;have a3:=HA1.out.cell 3
 simp only [uL,List.getElem?_cons_succ,List.getElem?_cons_zero] at a0 a1 a2 a3
 go_wp2_with fail
 refine (DG.out N _).mono ?_
 rintro e w2 ⟨cs,rfl,hcA,hk2⟩
 have HC:=Lib.hid hcA
 have hst : ∀ y : World,(storeCells ⟨y.heap.size,0,none⟩ cs.toList 0).run Tryz.prog (y.alloc (.cells zs 100)) = .ok () (y.alloc (.cells cs 100)):=fun y => run_storeCells_new (P:=Tryz.prog) y 100 zs cs hcA.i (hz1.trans hcA.z.symm) (by have:=all_oneCell_toArray hcA.o;simpa using this)
 have hc3:=hcA.n;have hc1:=hcA.z
 have HA2:=Lib.hid (HA1.out.keep hk2);have HB2:=Lib.hid (HB1.out.keep hk2);have HR2:=Lib.hid (HR1.out.keep hk2);have HK2:=Lib.hid (keep_trans HK1.out hk2)
 clear hcA hk2 HA1 HB1 HR1 HK1 a0 a1 a2 a3
 go_upto_region 2 with fail
 obtain ⟨w3,hw3⟩ : ∃ x,x = w2.alloc (.cells cs 100):=⟨_,rfl⟩
 have HX3 : Hid (Blk w3 w2.heap.size 100 (dgl (bitN N))):=by rw [hw3,← HC.out.l];exact Lib.hid (Blk.new w2 _ cs.toList)
 have k3 : Keep w2 w3:=by rw [hw3];exact keep_new _ _
 have HB3:=Lib.hid (HB2.out.keep k3);have HR3:=Lib.hid (HR2.out.keep k3);have HK3:=Lib.hid (keep_trans HK2.out k3)
 have hX1 : r < w2.heap.size:=HR2.out.lt
 rw [← hw3]
 clear hw3 k3 hst HA2 HB2 HR2 HK2 hc3 hc1
 obtain ⟨X,hX⟩ : ∃ X,w2.heap.size = X:=⟨_,rfl⟩
 rw [hX] at HX3 hX1
 simp only [hX]
 clear hX
 have a0:=HB3.out.cell 0;have a1:=HB3.out.cell 1;have a2:=HB3.out.cell 2;have a3:=HB3.out.cell 3
 simp only [uL,List.getElem?_cons_succ,List.getElem?_cons_zero] at a0 a1 a2 a3
 go_wp2_with fail
 refine (DG.out M _).mono ?_
 rintro e w4 ⟨ds,rfl,hdA,hk4⟩
 have HD:=Lib.hid hdA
 have hst : ∀ y : World,(storeCells ⟨y.heap.size,0,none⟩ ds.toList 0).run Tryz.prog (y.alloc (.cells zs 100)) = .ok () (y.alloc (.cells ds 100)):=fun y => run_storeCells_new (P:=Tryz.prog) y 100 zs ds hdA.i (hz1.trans hdA.z.symm) (by have:=all_oneCell_toArray hdA.o;simpa using this)
 have hd3:=hdA.n;have hd1:=hdA.z
 have HX4:=Lib.hid (HX3.out.keep hk4);have HR4:=Lib.hid (HR3.out.keep hk4);have HK4:=Lib.hid (keep_trans HK3.out hk4)
 clear hdA hk4 HX3 HB3 HR3 HK3 a0 a1 a2 a3 DG
 go_upto_region 4 with fail
 obtain ⟨w5,hw5⟩ : ∃ x,x = w4.alloc (.cells ds 100):=⟨_,rfl⟩
 have HY5 : Hid (Blk w5 w4.heap.size 100 (dgl (bitN M))):=by rw [hw5,← HD.out.l];exact Lib.hid (Blk.new w4 _ ds.toList)
 have k5 : Keep w4 w5:=by rw [hw5];exact keep_new _ _
 have HX5:=Lib.hid (HX4.out.keep k5);have HR5:=Lib.hid (HR4.out.keep k5);have HK5:=Lib.hid (keep_trans HK4.out k5)
 have hX2 : X < w4.heap.size:=HX4.out.lt
 rw [← hw5]
 clear hw5 k5 hst HX4 HR4 HK4 hd3 hd1
 obtain ⟨Y,hY⟩ : ∃ Y,w4.heap.size = Y:=⟨_,rfl⟩
 rw [hY] at HY5 hX2
 simp only [hY]
 clear hY
 have F0 : Hid (∀ i,i < 0 → bitN N i < 2):=Lib.hid fun i hi => by omega
 have S0 : Hid (numT (bitN N) 0 + M % 2 ^ 0 = N % 2 ^ 0 + 0 * 2 ^ 0):=Lib.hid (by simp [numT,Nat.mod_one])
 go_wp2_with fail
 go_loopw [8,9] (fun vc x wr => ∃ (k c : Nat) (f : Nat → Nat),k ≤ 256∧c < 2∧vc = .int .i64 c∧x = .int .i64 k∧Hid (numT f k + M % 2 ^ k = N % 2 ^ k + c * 2 ^ k)∧Hid (∀ i,i < k → f i < 2)∧Hid (∀ i,k ≤ i → i < 256 → f i = bitN N i)∧Hid (Blk wr X 100 (dgl f))∧Hid (Blk wr Y 100 (dgl (bitN M)))∧Hid (Blk wr r 72 (uL 0))∧Hid (Keep w wr)) (fun _ x _ => 256 - (intOf x).toNat)
 case atStart => exact ⟨0,0,bitN N,by omega,by omega,rfl,rfl,S0,F0,Lib.hid fun _ _ _ => rfl,HX5,HY5,HR5,HK5⟩
 case round =>
  obtain ⟨k,c,f,hk,hc,rfl,rfl,HS,HF,HE,HX,HY,HR,HK⟩:=hrel
  clear HX5 HY5 HR5 HK5 S0 F0
  by_cases hlt : k < 256
  ·have d1 : (k : Int) < 256:=by omega
   have HEK:=Lib.hid (HE.out k (Nat.le_refl _) hlt)
   have hx2 : f k < 2:=by rw [HEK.out];exact bitN_lt _ _
   have hy2:=bitN_lt M k
   go_upto_region 7 with fail
   refine wp_region_tree (.take [0,1,2,3,4,5,6,7,8,9] .done) [] (by kernel_rfl) (by kernel_rfl) (fun wa ka => ?_)
   have HXa:=Lib.hid (HX.out.keep ka);have HYa:=Lib.hid (HY.out.keep ka);have HRa:=Lib.hid (HR.out.keep ka);have HKa:=Lib.hid (keep_trans HK.out ka)
   have c0:=HXa.out.cell k;have c1:=HYa.out.cell k;have f0:=HXa.out.frozen k
   rw [dgl_get _ hlt] at c0 c1
   have a0:=aft_cell c0;have a1:=aft_cell c1
   clear ka HX HY HR HK
   refine mt_take wa (Below.refl _ _) ?_
   simp only [pick_cons,pick_nil,nth_zero,nth_succ]
   repeat (go_big_quiet_step (fail))
   refine wpQuiet_nil (mt_end ?_)
   by_cases hneg : (f k : Int) - (bitN M k : Int) - (c : Int) < 0
   ·go_upto_region 6 with fail
    obtain ⟨d,hd⟩ : ∃ d,f k + 2 - bitN M k - c = d:=⟨_,rfl⟩
    have hv1 : (f k : Int) - (bitN M k : Int) - (c : Int) + 2 = ((d : Nat) : Int):=by omega
    have hde : d + bitN M k + c = f k + 2 * 1:=by omega
    have hd2 : d < 2:=by omega
    have hs2 : 1 < 2:=by omega
    rw [hv1]
    obtain ⟨f2,hf2⟩ : ∃ f2 : Nat → Nat,f2 = fun j => if j = k then d else f j:=⟨_,rfl⟩
    obtain ⟨w6,hw6⟩ : ∃ x,x = wa.setCell ⟨X,k,none⟩ (.int .i64 ((d : Nat) : Int)):=⟨_,rfl⟩
    have hgw : wa.grownBy w6 (some X):=by rw [hw6];exact grown_set (grown_refl _ _)
    have HY6:=Lib.hid (HYa.out.grown hgw (fun q => by have:=Option.some.inj q;omega));have HR6:=Lib.hid (HRa.out.grown hgw (fun q => by have:=Option.some.inj q;omega))
    have HX6 : Hid (Blk w6 X 100 (dgl f2)):=by
     rw [hw6,hf2,← dgl_set]
     exact Lib.hid (HXa.out.set_ k _)
    have HK6 : Hid (Keep w w6):=Lib.hid (HKa.out.grown hgw HKa.out.size (fun q hq => by have:=Option.some.inj hq;have:=HG.out;omega))
    have hfk : f2 k = d:=by rw [hf2];exact if_pos rfl
    have hfo : ∀ j,j ≠ k → f2 j = f j:=fun j hj => by rw [hf2];exact if_neg hj
    have HS6 : Hid (numT f2 (k + 1) + M % 2 ^ (k + 1) = N % 2 ^ (k + 1) + 1 * 2 ^ (k + 1)):=Lib.hid (sub_step (c:=c) (d:=d) (by rw [numT_congr (g:=f) k fun i hi => hfo i (by omega)];exact HS.out) hfk (by rw [← HEK.out];exact hde))
    have HF6 : Hid (∀ i,i < k + 1 → f2 i < 2):=Lib.hid fun i hi => by
     by_cases e : i = k
     ·subst e;rw [hfk];exact hd2
     ·rw [hfo i e];exact HF.out i (by omega)
    have HE6 : Hid (∀ i,k + 1 ≤ i → i < 256 → f2 i = bitN N i):=Lib.hid fun i h1 h2 => by rw [hfo i (by omega)];exact HE.out i (by omega) h2
    rw [← hw6]
    clear hw6 hgw hv1 hde hd2 hd hneg c0 c1 f0 HXa HYa HRa HKa hf2 hfk hfo HS HF HE HEK
    go_wp2_with fail
    go_roundw
    case rel => exact ⟨k + 1,1,f2,by omega,hs2,rfl,by go_num,HS6,HF6,HE6,HX6,HY6,HR6,HK6⟩
    case measure => simp [intOf];omega
   ·go_upto_region 6 with fail
    obtain ⟨d,hd⟩ : ∃ d,f k - bitN M k - c = d:=⟨_,rfl⟩
    have hv1 : (f k : Int) - (bitN M k : Int) - (c : Int) = ((d : Nat) : Int):=by omega
    have hde : d + bitN M k + c = f k + 2 * 0:=by omega
    have hd2 : d < 2:=by omega
    have hs2 : 0 < 2:=by omega
    rw [hv1]
    obtain ⟨f2,hf2⟩ : ∃ f2 : Nat → Nat,f2 = fun j => if j = k then d else f j:=⟨_,rfl⟩
    obtain ⟨w6,hw6⟩ : ∃ x,x = wa.setCell ⟨X,k,none⟩ (.int .i64 ((d : Nat) : Int)):=⟨_,rfl⟩
    have hgw : wa.grownBy w6 (some X):=by rw [hw6];exact grown_set (grown_refl _ _)
    have HY6:=Lib.hid (HYa.out.grown hgw (fun q => by have:=Option.some.inj q;omega));have HR6:=Lib.hid (HRa.out.grown hgw (fun q => by have:=Option.some.inj q;omega))
    have HX6 : Hid (Blk w6 X 100 (dgl f2)):=by
     rw [hw6,hf2,← dgl_set]
     exact Lib.hid (HXa.out.set_ k _)
    have HK6 : Hid (Keep w w6):=Lib.hid (HKa.out.grown hgw HKa.out.size (fun q hq => by have:=Option.some.inj hq;have:=HG.out;omega))
    have hfk : f2 k = d:=by rw [hf2];exact if_pos rfl
    have hfo : ∀ j,j ≠ k → f2 j = f j:=fun j hj => by rw [hf2];exact if_neg hj
    have HS6 : Hid (numT f2 (k + 1) + M % 2 ^ (k + 1) = N % 2 ^ (k + 1) + 0 * 2 ^ (k + 1)):=Lib.hid (sub_step (c:=c) (d:=d) (by rw [numT_congr (g:=f) k fun i hi => hfo i (by omega)];exact HS.out) hfk (by rw [← HEK.out];exact hde))
    have HF6 : Hid (∀ i,i < k + 1 → f2 i < 2):=Lib.hid fun i hi => by
     by_cases e : i = k
     ·subst e;rw [hfk];exact hd2
     ·rw [hfo i e];exact HF.out i (by omega)
    have HE6 : Hid (∀ i,k + 1 ≤ i → i < 256 → f2 i = bitN N i):=Lib.hid fun i h1 h2 => by rw [hfo i (by omega)];exact HE.out i (by omega) h2
    rw [← hw6]
    clear hw6 hgw hv1 hde hd2 hd hneg c0 c1 f0 HXa HYa HRa HKa hf2 hfk hfo HS HF HE HEK
    go_wp2_with fail
    go_roundw
    case rel => exact ⟨k + 1,0,f2,by omega,hs2,rfl,by go_num,HS6,HF6,HE6,HX6,HY6,HR6,HK6⟩
    case measure => simp [intOf];omega
  ·obtain rfl : k = 256:=by omega
   have d1 : ¬ ((256 : Nat) : Int) < 256:=by omega
   obtain ⟨fs,hfs⟩ : ∃ fs,DgA f fs:=⟨_,DgA.of _⟩
   have NB:=Lib.hid (fun y => rnumb_any f fs y hfs HF.out)
   have hfi:=hfs.i;have hfn:=hfs.n
   have HXf : Hid (Blk wr X 100 fs.toList):=by rw [hfs.l];exact HX
   have hRe : numT f 256 = R:=by
    have h1:=HS.out;have h2:=numT_lt 256 HF.out
    rw [Nat.mod_eq_of_lt HNM.out.1,Nat.mod_eq_of_lt HNM.out.2] at h1
    have h3:=HRL.out.1;have h4:=HNM.out.1;have h5:=HNM.out.2
    omega
   have hLe : ((c : Int) == 1) = L:=by
    have h1:=HS.out;have h2:=numT_lt 256 HF.out
    rw [Nat.mod_eq_of_lt HNM.out.1,Nat.mod_eq_of_lt HNM.out.2] at h1
    have h4:=HNM.out.1;have h5:=HNM.out.2
    rw [← HRL.out.2]
    by_cases e : c = 1
    ·rw [decide_eq_true (by omega),beq_iff_eq.2 (by omega)]
    ·rw [decide_eq_false (by omega),beq_eq_false_iff_ne.2 (by omega)]
   rw [hRe] at NB
   have HLE:=Lib.hid hLe
   clear hfs hRe hLe HS HF HE HX HY HRL HNM
   go_wp2_with (first | ((with_reducible refine load_arr X fs (Eq.trans ?_ rfl) HXf.out _ Tryz.underlying100 rfl hfi ?_);rfl) | (go_at_call 79;refine (NB.out _).mono ?_;rintro e w9 ⟨rfl,k9⟩;have HR9:=Lib.hid (HR.out.keep k9);have HK9:=Lib.hid (keep_trans HK.out k9);clear k9;have y0:=HR9.out.cell 0;have y1:=HR9.out.cell 1;have y2:=HR9.out.cell 2;have y3:=HR9.out.cell 3;have z0:=HR9.out.frozen 0;have z1:=HR9.out.frozen 1;have z2:=HR9.out.frozen 2;have z3:=HR9.out.frozen 3;simp only [uL,List.getElem?_cons_succ,List.getElem?_cons_zero] at y0 y1 y2 y3))
   rw [HLE.out]
   exact bodyPost_ret (v:=.tuple #[uV R,.bool L]) (results_cell_tmp_row Tryz.results103 _ _ r _ _ _ _ rfl (show Blk _ r 72 (uL R) from (((HR9.out.set_ 0 _).set_ 1 _).set_ 2 _).set_ 3 _) Tryz.underlying72 rfl (by kernel_rfl)) rfl ⟨rfl,HK9.out.grown (grown_set (grown_set (grown_set (grown_set (grown_refl _ _))))) HK9.out.size (fun q hq => by injection hq with hq;have:=HG.out;omega)⟩
end Go.Proofs.YtmbbknjddebhoaaGreatDoor
/- florinref01: Cmp. (printed by gen_ne.py) -/
set_option linter.unusedSimpArgs false
set_option linter.unusedVariables false
namespace Go.Proofs.YtmbbknjddebhoaaGreatDoor
open Go.RowKit
attribute [local go_sem ↓] Go.wp_at_zero Go.wp_at_succ
set_option maxRecDepth 100000 in
set_option maxHeartbeats 4000000 in
theorem rcmp_any (N M : Nat) (w : World) (hN : N < 2 ^ 256) (hM : M < 2 ^ 256) : Calls Tryz.prog 46 #[uV N,uV M] w fun e w' => e = .returned (.int .i64 (cmpN N M))∧Keep w w':=by
 have HCM : Hid ((N < M → cmpN N M = -1)∧(M < N → cmpN N M = 1)∧(N = M → cmpN N M = 0)):=Lib.hid (by
  unfold cmpN
  refine ⟨fun h => if_pos h,fun h => ?_,fun h => ?_⟩
  ·rw [if_neg (by omega),if_pos h]
  ·rw [if_neg (by omega),if_neg (by omega)])
 have S0 : Hid (N / 2 ^ 256 = M / 2 ^ 256):=Lib.hid (by rw [Nat.div_eq_of_lt hN,Nat.div_eq_of_lt hM])
 generalize cmpN N M = c at *
 clear hN hM
 have DG:=Lib.hid (fun N y => rdig_any N y)
 obtain ⟨zs,hz2,hzA⟩:=zdig_letter
 have hz1:=hzA.z;have hz3:=hzA.n
 have HZ:=Lib.hid hzA
 clear hzA
 go_enter Tryz.func46,Tryz.ntmps46
 go_upto_region 1 with fail
 obtain ⟨w1,hw1⟩ : ∃ w1,w1 = ((w.alloc (.cells #[n64 (limb N 0),n64 (limb N 1),n64 (limb N 2),n64 (limb N 3)] 72)).alloc (.cells #[n64 (limb M 0),n64 (limb M 1),n64 (limb M 2),n64 (limb M 3)] 72)):=⟨_,rfl⟩
 have HA1 : Hid (Blk w1 w.heap.size 72 (uL N)):=by rw [hw1];exact Lib.hid (((Blk.new w 72 (uL N)).alloc _))
 have HB1 : Hid (Blk w1 (w.heap.size + 1) 72 (uL M)):=by
  rw [hw1]
  have q:=Blk.new (w.alloc (.cells #[n64 (limb N 0),n64 (limb N 1),n64 (limb N 2),n64 (limb N 3)] 72)) 72 (uL M)
  rw [World.size_alloc] at q
  exact Lib.hid (q)
 have HK1 : Hid (Keep w w1):=by rw [hw1];exact Lib.hid (keep_trans (keep_new _ _) (keep_new _ _))
 rw [← hw1]
 clear hw1
 obtain ⟨g,hg⟩ : ∃ g,w.heap.size = g:=⟨_,rfl⟩
 have HG:=Lib.hid hg
 rw [hg] at HA1 HB1
 obtain ⟨h,hh⟩ : ∃ h,g + 1 = h:=⟨_,rfl⟩
 rw [hh] at HB1
 simp only [hg,hh]
 have hghr : g < h :=by omega
 clear hg hh
 have a0:=HA1.out.cell 0;have a1:=HA1.out.cell 1;have a2:=HA1.out.cell 2;have a3:=HA1.out.cell 3
 simp only [uL,List.getElem?_cons_succ,List.getElem?_cons_zero] at a0 a1 a2 a3
 go_wp2_with fail
 refine (DG.out N _).mono ?_
 rintro e w2 ⟨cs,rfl,hcA,hk2⟩
 have HC:=Lib.hid hcA
 have hst : ∀ y : World,(storeCells ⟨y.heap.size,0,none⟩ cs.toList 0).run Tryz.prog (y.alloc (.cells zs 100)) = .ok () (y.alloc (.cells cs 100)):=fun y => run_storeCells_new (P:=Tryz.prog) y 100 zs cs hcA.i (hz1.trans hcA.z.symm) (by have:=all_oneCell_toArray hcA.o;simpa using this)
 have hc3:=hcA.n;have hc1:=hcA.z
 have HA2:=Lib.hid (HA1.out.keep hk2);have HB2:=Lib.hid (HB1.out.keep hk2);have HK2:=Lib.hid (keep_trans HK1.out hk2)
 clear hcA hk2 HA1 HB1 HK1 a0 a1 a2 a3
 go_upto_region 2 with fail
 obtain ⟨w3,hw3⟩ : ∃ x,x = w2.alloc (.cells cs 100):=⟨_,rfl⟩
 have HX3 : Hid (Blk w3 w2.heap.size 100 (dgl (bitN N))):=by rw [hw3,← HC.out.l];exact Lib.hid (Blk.new w2 _ cs.toList)
 have k3 : Keep w2 w3:=by rw [hw3];exact keep_new _ _
 have HB3:=Lib.hid (HB2.out.keep k3);have HK3:=Lib.hid (keep_trans HK2.out k3)
 have hX1 : h < w2.heap.size:=HB2.out.lt
 rw [← hw3]
 clear hw3 k3 hst HA2 HB2 HK2 hc3 hc1
 obtain ⟨X,hX⟩ : ∃ X,w2.heap.size = X:=⟨_,rfl⟩
 rw [hX] at HX3 hX1
 simp only [hX]
 clear hX
 have a0:=HB3.out.cell 0;have a1:=HB3.out.cell 1;have a2:=HB3.out.cell 2;have a3:=HB3.out.cell 3
 simp only [uL,List.getElem?_cons_succ,List.getElem?_cons_zero] at a0 a1 a2 a3
 go_wp2_with fail
 refine (DG.out M _).mono ?_
 rintro e w4 ⟨ds,rfl,hdA,hk4⟩
 have HD:=Lib.hid hdA
 have hst : ∀ y : World,(storeCells ⟨y.heap.size,0,none⟩ ds.toList 0).run Tryz.prog (y.alloc (.cells zs 100)) = .ok () (y.alloc (.cells ds 100)):=fun y => run_storeCells_new (P:=Tryz.prog) y 100 zs ds hdA.i (hz1.trans hdA.z.symm) (by have:=all_oneCell_toArray hdA.o;simpa using this)
 have hd3:=hdA.n;have hd1:=hdA.z
 have HX4:=Lib.hid (HX3.out.keep hk4);have HK4:=Lib.hid (keep_trans HK3.out hk4)
 clear hdA hk4 HX3 HB3 HK3 a0 a1 a2 a3 DG
 go_upto_region 3 with fail
 obtain ⟨w5,hw5⟩ : ∃ x,x = w4.alloc (.cells ds 100):=⟨_,rfl⟩
 have HY5 : Hid (Blk w5 w4.heap.size 100 (dgl (bitN M))):=by rw [hw5,← HD.out.l];exact Lib.hid (Blk.new w4 _ ds.toList)
 have k5 : Keep w4 w5:=by rw [hw5];exact keep_new _ _
 have HX5:=Lib.hid (HX4.out.keep k5);have HK5:=Lib.hid (keep_trans HK4.out k5)
 have hX2 : X < w4.heap.size:=HX4.out.lt
 rw [← hw5]
 clear hw5 k5 hst HX4 HK4 hd3 hd1
 obtain ⟨Y,hY⟩ : ∃ Y,w4.heap.size = Y:=⟨_,rfl⟩
 rw [hY] at HY5 hX2
 simp only [hY]
 clear hY
 go_wp2_with fail
 go_loopw [7] (fun x wr => ∃ k : Nat,k ≤ 256∧x = .int .i64 ((k : Int) - 1)∧Hid (N / 2 ^ k = M / 2 ^ k)∧Hid (Blk wr X 100 (dgl (bitN N)))∧Hid (Blk wr Y 100 (dgl (bitN M)))∧Hid (Keep w wr)) (fun x _ => (intOf x + 1).toNat)
 case atStart => exact ⟨256,Nat.le_refl _,rfl,S0,HX5,HY5,HK5⟩
 case round =>
  obtain ⟨k,hk,rfl,HS,HX,HY,HK⟩:=hrel
  clear HX5 HY5 HK5 S0
  cases k with
  | zero =>
    have hc:=HCM.out.2.2 (by have:=HS.out;rwa [Nat.pow_zero,Nat.div_one,Nat.div_one] at this)
    subst hc
    clear HCM HS HX HY
    go_wp2
    exact bodyPost_ret (v:=.int .i64 (0)) (by simp [results,Tryz.results46]) rfl ⟨rfl,HK.out⟩
  | succ k =>
    have hi : ((k + 1 : Nat) : Int) - 1 = (k : Int):=by omega
    simp only [hi]
    have hlt : k < 256:=by omega
    have d1 : (0 : Int) ≤ (k : Int):=by omega
    go_upto_region 6 with fail
    refine wp_region_tree (.take [0,1,2,3,4,5,6] .done) [] (by kernel_rfl) (by kernel_rfl) (fun wa ka => ?_)
    have HXa:=Lib.hid (HX.out.keep ka);have HYa:=Lib.hid (HY.out.keep ka);have HKa:=Lib.hid (keep_trans HK.out ka)
    have c0:=HXa.out.cell k;have c1:=HYa.out.cell k
    rw [dgl_get _ hlt] at c0 c1
    have a0:=aft_cell c0;have a1:=aft_cell c1
    clear ka HX HY HK
    refine mt_take wa (Below.refl _ _) ?_
    simp only [pick_cons,pick_nil,nth_zero,nth_succ]
    repeat (go_big_quiet_step (fail))
    refine wpQuiet_nil (mt_end ?_)
    clear c0 c1 a0 a1
    by_cases h1 : bitN N k < bitN M k
    ·have hc:=HCM.out.1 (cmp_bit HS.out h1)
     have h1' : (bitN N k : Int) < (bitN M k : Int):=by omega
     subst hc
     clear HCM HS HXa HYa h1
     go_wp2
     exact bodyPost_ret (v:=.int .i64 (-1)) (by simp [results,Tryz.results46]) rfl ⟨rfl,HKa.out⟩
    ·have h1' : ¬ (bitN N k : Int) < (bitN M k : Int):=by omega
     go_upto_region 8 with fail
     refine wp_region_tree (.take [0,1,2,3,4,5,6] .done) [] (by kernel_rfl) (by kernel_rfl) (fun wb kb => ?_)
     have HXb:=Lib.hid (HXa.out.keep kb);have HYb:=Lib.hid (HYa.out.keep kb);have HKb:=Lib.hid (keep_trans HKa.out kb)
     have c0:=HXb.out.cell k;have c1:=HYb.out.cell k
     rw [dgl_get _ hlt] at c0 c1
     have a0:=aft_cell c0;have a1:=aft_cell c1
     clear kb HXa HYa HKa
     refine mt_take wb (Below.refl _ _) ?_
     simp only [pick_cons,pick_nil,nth_zero,nth_succ]
     repeat (go_big_quiet_step (fail))
     refine wpQuiet_nil (mt_end ?_)
     clear c0 c1 a0 a1
     by_cases h2 : bitN M k < bitN N k
     ·have hc:=HCM.out.2.1 (cmp_bit HS.out.symm h2)
      have h2' : (bitN M k : Int) < (bitN N k : Int):=by omega
      subst hc
      clear HCM HS HXb HYb h1 h2
      go_wp2
      exact bodyPost_ret (v:=.int .i64 (1)) (by simp [results,Tryz.results46]) rfl ⟨rfl,HKb.out⟩
     ·have h2' : ¬ (bitN M k : Int) < (bitN N k : Int):=by omega
      have HS2:=Lib.hid (cmp_same HS.out (by omega))
      clear HS h1 h2
      go_wp2_with fail
      go_roundw
      case rel => exact ⟨k,by omega,by go_num,HS2,HXb,HYb,HKb⟩
      case measure => simp [intOf] <;> omega
end Go.Proofs.YtmbbknjddebhoaaGreatDoor
