/- Texts merged by pack.py: ClkE, ClkMz, ClkN. -/
import Derived.Test.YtmbbknjddebhoaaGreatDoorCx2
import Derived.Deep.MidRow
import Derived.Deep.WholeRow
set_option linter.unusedSimpArgs false
set_option linter.unusedVariables false
namespace Go.Proofs.YtmbbknjddebhoaaGreatDoor
open Go.RowKit
attribute [local go_sem ↓] Go.wp_at_zero Go.wp_at_succ
def Gave (v : Value) (w : World) (e : Ending) (w' : World) : Prop:=e = .returned v∧Keep w w'
set_option maxRecDepth 100000 in
set_option maxHeartbeats 2000000 in
theorem median_any (A : Option Addr) (l : List UInt32) (c : Nat) (w : World) (hc : l.length ≤ c) (hm : c ≤ maxLen) (hr : Rd w A (l.map u32v)) :
  Calls Tryz.prog 40 #[.slice A l.length c] w (Gave (u32v (medL l)) w):=by
 have hlast:=last_any A l c w hc hm hr
 have hll:=lasT_len l
 have hmed : medL l = (lasT l).getD ((lasT l).length / 2) 0:=rfl
 unfold maxLen at hm
 generalize medL l = m at hmed ⊢
 generalize lasT l = ys at hlast hll hmed
 have Hmed:=Lib.hid hmed;clear hmed
 have hy : ys.length ≤ 11:=by omega
 clear hll
 go_enter Tryz.func40,Tryz.ntmps40
 go_wp2_with fail
 refine hlast.mono ?_
 rintro e w1 ⟨v,rfl,hown,hk⟩
 obtain ⟨A1,c1,rfl,hc1,hm1,hrd⟩:=own_form hown
 clear hown
 by_cases h0 : ys.length = 0
 ·go_wp2
  go_ret
  refine ⟨?_,hk⟩
  rw [Hmed.out,List.eq_nil_of_length_eq_zero h0];rfl
 ·have hlt : ys.length / 2 < ys.length:=by omega
  obtain ⟨b,off,rfl,hb,F⟩:=hrd.at (k:=ys.length / 2) (by simpa using hlt)
  have hx:=F (ys.length / 2) (by simpa using hlt)
  have he : m = ys[ys.length / 2]:=by rw [Hmed.out,List.getD_eq_getElem?_getD,List.getElem?_eq_getElem hlt];rfl
  simp only [List.getElem_map] at hx
  rw [← he] at hx
  clear F he
  go_wp2
  go_ret
  exact ⟨rfl,hk⟩
def clampI (x : Int) : Int:=min (max x 0) 1099511627776
def chkI (t : UInt32) (l : List UInt32) (n f : Int) : Int:=if (l ≠ []∧t.toNat ≤ (medL l).toNat) ∨ clampI n + clampI f < (t.toNat : Int) then 8 else 0
set_option maxRecDepth 100000 in
set_option maxHeartbeats 2000000 in
theorem check_any (t : UInt32) (A : Option Addr) (l : List UInt32) (c : Nat) (n f : Int) (w : World) (hc : l.length ≤ c) (hm : c ≤ maxLen) (hr : Rd w A (l.map u32v)) :
  Calls Tryz.prog 20 #[u32v t,.slice A l.length c,.int .i64 n,.int .i64 f] w (Gave (.int .i64 (chkI t l n f)) w):=by
 have hmed:=median_any A l c w hc hm hr
 have Hchk:=Lib.hid (show chkI t l n f = if (l ≠ []∧t.toNat ≤ (medL l).toNat) ∨ clampI n + clampI f < (t.toNat : Int) then 8 else 0 from rfl)
 have ht:=t.toNat_lt
 unfold maxLen at hm
 generalize medL l = m at *
 generalize chkI t l n f = r at *
 go_enter Tryz.func20,Tryz.ntmps20
 by_cases h0 : l.length = 0
 ·have h0' : l = []:=List.eq_nil_of_length_eq_zero h0
  go_wp2_with fail
  all_goals go_ret
  all_goals refine ⟨?_,Below.refl _ _⟩
  all_goals (have hQ:=Hchk.out;rw [hQ];clear hQ Hchk hmed;subst h0';unfold clampI)
  all_goals (split <;> first | rfl | (exfalso;simp at *;omega))
 ·have hne : l ≠ []:=fun h => h0 (by rw [h];rfl)
  go_wp2_with fail
  refine hmed.mono ?_
  rintro e w2 ⟨rfl,hk2⟩
  go_wp2_with fail
  all_goals go_ret
  all_goals refine ⟨?_,hk2⟩
  all_goals (have hQ:=Hchk.out;rw [hQ];clear hQ Hchk;simp only [hne,not_false_eq_true,true_and,ne_eq];unfold clampI)
  all_goals (split <;> first | rfl | (exfalso;simp at *;omega))
end Go.Proofs.YtmbbknjddebhoaaGreatDoor
/- Headers by their times. -/
set_option linter.unusedSimpArgs false
set_option linter.unusedVariables false
namespace Go.Proofs.YtmbbknjddebhoaaGreatDoor
open Go.RowKit
attribute [local go_sem ↓] Go.wp_at_zero Go.wp_at_succ
structure HdR where
 pre : List Value
 t : UInt32
 post : List Value
 h1 : pre.length = 65
 h2 : post.length = 2
 h3 : ∀ u ∈ pre,u.oneCell' = true
 h4 : ∀ u ∈ post,u.oneCell' = true
def HdR.cells (h : HdR) : List Value:=h.pre ++ u32v h.t :: h.post
theorem HdR.len (h : HdR) : h.cells.length = 68:=by simp [HdR.cells,h.h1,h.h2]
theorem HdR.time (h : HdR) : h.cells[65]? = some (u32v h.t):=by
 unfold HdR.cells
 rw [List.getElem?_append_right (by rw [h.h1];omega),h.h1];rfl
theorem HdR.at {w : World} {A : Option Addr} {hs : List HdR} (hr : Rd w A (hs.flatMap HdR.cells)) {k : Nat} (hk : k < hs.length) :
  ∃ b off,A = some ⟨b,off,none⟩∧b < w.heap.size∧∀ j,j < 68 → w.cell? ⟨b,off + k * 68 + j,none⟩ = hs[k].cells[j]?:=by
 obtain ⟨b,off,rfl,hb,F⟩:=hr.at (k:=k * 68) (by rw [flatMap_len _ 68 HdR.len];omega)
 exact ⟨b,off,rfl,hb,fun j hj => Rd.field HdR.len F k j hk hj⟩
theorem times_snoc (hs : List HdR) (k : Nat) (h : k < hs.length) : (hs.take (k + 1)).map HdR.t = (hs.take k).map HdR.t ++ [hs[k].t]:=by
 rw [List.take_succ_eq_append_getElem h,List.map_append];rfl
end Go.Proofs.YtmbbknjddebhoaaGreatDoor
/- clock.Times. -/
set_option linter.unusedSimpArgs false
set_option linter.unusedVariables false
namespace Go.Proofs.YtmbbknjddebhoaaGreatDoor
open Go.RowKit
attribute [local go_sem ↓] Go.wp_at_zero Go.wp_at_succ
theorem HdR.one (h : HdR) : ∀ u ∈ h.cells,u.oneCell' = true:=by
 intro u hu
 unfold HdR.cells at hu
 rcases List.mem_append.1 hu with hu | hu
 ·exact h.h3 u hu
 ·rcases List.mem_cons.1 hu with rfl | hu
  ·rfl
  ·exact h.h4 u hu
theorem hd_size : (Tryz.prog.info? 30).map (·.size) = some 68:=by kernel_rfl
noncomputable def zcs : Array Value:=match (Tryz.prog.info? 30).bind (·.zero) with | some (.agg c) => c | _ => #[]
theorem zcs_size : zcs.size = 68:=by kernel_rfl
theorem zcs_zero (w : World) : (zeroValue 30).run Tryz.prog w = .ok (.agg zcs) w:=by kernel_rfl
set_option maxRecDepth 100000 in
set_option maxHeartbeats 4000000 in
theorem times_any (A : Option Addr) (hs : List HdR) (c : Nat) (w : World) (hl : hs.length ≤ 100) (hr : Rd w A (hs.flatMap HdR.cells)) :
  Calls Tryz.prog 21 #[.slice A hs.length c] w (Lasted w.heap.size (hs.map HdR.t) w):=by
 obtain ⟨zs,hzs⟩ : ∃ zs,zs = zcs:=⟨_,rfl⟩
 have hz1 : zs.size = 68:=by rw [hzs];exact zcs_size
 have hz2 : ∀ w,(zeroValue 30).run Tryz.prog w = .ok (.agg zs) w:=fun w => by rw [hzs];exact zcs_zero w
 have hz3 : ¬ zs = #[]:=fun h => by rw [h] at hz1;cases hz1
 clear hzs
 go_enter Tryz.func21,Tryz.ntmps21
 go_wp2
 go_loopw [3,8] (fun v i wr => ∃ k : Nat,k ≤ hs.length∧i = .int .i64 k∧wr.ownsRow w.heap.size 22 1 v k (((hs.take k).map HdR.t).map u32v)∧Keep w wr) (fun _ i _ => hs.length - (intOf i).toNat)
 case atStart => exact ⟨0,Nat.zero_le _,rfl,World.ownsRow_nil _ _ _ _,Below.refl _ _⟩
 case round =>
  obtain ⟨k,hk,rfl,hown,hkr⟩:=hrel
  have hz:=hkr.size
  by_cases hlt : k < hs.length
  ·obtain ⟨b,off,rfl,hb,F⟩:=HdR.at hr hlt
   have hts:=times_snoc hs k hlt
   have hlen:=HdR.len hs[k]
   have hone:=HdR.one hs[k]
   have htm:=HdR.time hs[k]
   have hrg : wr.rangeAt b (off + k * 68) hs[k].cells:=fun j v hv => by
    have hj : j < 68:=by rw [← hlen];exact (List.getElem?_eq_some_iff.1 hv).1
    exact keep_cell hkr ((F j hj).trans hv)
   generalize hs[k].t = x at hts htm
   generalize hs[k].cells = cs at *
   have Hts:=Lib.hid hts;have Hrg:=Lib.hid hrg;have Hone:=Lib.hid hone;have Hlen:=Lib.hid hlen;have Htm:=Lib.hid htm
   obtain ⟨Av,cv,rfl,hcv,hmv,hrv⟩:=own_form hown
   have Hown:=Lib.hid hown
   clear F hts hown hrv hrg hone hlen htm hr
   have hst : (storeCells ⟨wr.heap.size,0,none⟩ cs 0).run Tryz.prog (wr.alloc (.cells zs 30)) = .ok () (wr.alloc (.cells cs.toArray 30)):=by
    have h:=run_storeCells_new (P:=Tryz.prog) wr 30 zs cs.toArray (by rw [List.size_toArray,Hlen.out];exact hd_size) (hz1.trans (by rw [List.size_toArray,Hlen.out])) (all_oneCell_toArray Hone.out)
    exact h
   go_upto_region 5 with (refine wpList_load_mid rfl 30 _ rfl b (off + k * 68) rfl cs _ Hrg.out Tryz.underlying30 rfl (by rw [Hlen.out];exact hd_size) ?_)
   clear hst
   have r0 : (wr.alloc (.cells cs.toArray 30)).cell? ⟨wr.heap.size,65,none⟩ = some (u32v x):=(cell_of_row _ _ 65 _ _ _ (heap_alloc_new wr _)).trans (by simpa using Htm.out)
   have k0:=keep_trans hkr (keep_new wr (.cells cs.toArray 30))
   have Own0:=Lib.hid (Hown.out.alloc (.cells cs.toArray 30))
   have hz0 : (wr.alloc (.cells cs.toArray 30)).heap.size = wr.heap.size + 1:=by simp
   obtain ⟨w0,hw0⟩ : ∃ w0,w0 = wr.alloc (.cells cs.toArray 30):=⟨_,rfl⟩
   rw [← hw0] at r0 k0 Own0 hz0 ⊢
   clear hw0
   have hzw : w.heap.size ≤ w0.heap.size:=by omega
   clear hz0
   go_wp2_with (at_builtin;refine wpList_app wordT (by rfl) _ _ (by rfl) w.heap.size _ k _ (by rfl) (Own0.out.alloc _) _ 1 1 [u32v x] (by rfl) (by rfl) (Rd.new _ _ _) (by simp [Value.oneCell']) (by omega) (by unfold maxLen;omega) (by first | (simp;omega) | (rw [World.size_alloc];omega)) ?_;intro v4 w4 own4 hg4 hat4;have k4:=keep_grown (keep_trans k0 (keep_new _ _)) (by simp;omega) hg4 (Own0.out.alloc _);obtain ⟨A4,c4,rfl,hc4,hm4,hrd4⟩:=own_form own4;have Own4:=Lib.hid own4;clear own4 hrd4 hg4 hat4)
   go_roundw
   case rel =>
    refine ⟨k + 1,by omega,by go_num,?_,k4⟩
    rw [Hts.out,List.map_append]
    exact Own4.out
   case measure => simp [intOf];omega
  ·obtain rfl : hs.length = k:=by omega
   rw [List.take_length] at hown
   obtain ⟨Av,cv,rfl,hcv,hmv,hrv⟩:=own_form hown
   have Hown:=Lib.hid hown
   clear hown hrv
   go_wp2
   go_ret
   exact ⟨_,rfl,by rw [List.length_map];exact Hown.out,hkr⟩
end Go.Proofs.YtmbbknjddebhoaaGreatDoor
