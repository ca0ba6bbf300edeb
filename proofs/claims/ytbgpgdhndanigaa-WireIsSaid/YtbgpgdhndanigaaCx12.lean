/- Texts merged by pack.py: Rftb. -/
import Derived.Test.YtbgpgdhndanigaaCx10
/- florinref09.Fits, some kinds: three, four. (printed by gen_rft.py) -/
set_option linter.unusedSimpArgs false
set_option linter.unusedVariables false
namespace Go.Proofs.Ytbgpgdhndanigaa
open Go.RowKit
attribute [local go_sem ↓] Go.wp_at_zero Go.wp_at_succ
section
variable (m : MsgR) (cs ss hv zh zd : Array Value) (R ST k0 k2 k3 k4 k5 k9 k10 ki p1 p2 p3 p4 p5 p6 p7 p8 p9 p10 p11 p12 p13 p14 p15 : Bool) (w : World)
 (hz0 : ∀ w,(zeroValue 27).run Try.prog w = .ok (.agg zh) w) (hd0 : ∀ w,(zeroValue 30).run Try.prog w = .ok (.agg zd) w)
 (hsi : (Try.prog.info? 27).map (·.size) = some ss.size) (hvi : (Try.prog.info? 30).map (·.size) = some hv.size)
 (HE4 : Hid (∀ w,(Op.equalIn 10000 27 (.agg ss) (.agg zh)).run Try.prog w = .ok p4 w)) (HE8 : Hid (∀ w,(Op.equalIn 10000 30 (.agg hv) (.agg zd)).run Try.prog w = .ok p8 w))
 (HC : Hid (∀ y,Keep (w.alloc (.cells cs 39)) y → FtC m ss hv w.heap.size y))
 (TS : Hid (∀ y,Keep w y → Calls Try.prog 37 #[.agg #[u32v m.t.ver,.slice m.t.iA m.t.ins.length m.t.ic,.slice m.t.oA m.t.outs.length m.t.oc,u32v m.t.lock]] y fun e w' => e = .returned (.bool ST)∧Keep y w'))
 (IT : Hid (∀ y,Calls Try.prog 36 #[.int .i64 m.kind] y fun e w' => e = .returned (.bool ki)∧Keep y w'))
 (HL : Hid (FtL m k0 k2 k3 k4 k5 k9 k10 ki p1 p2 p3 p4 p5 p6 p7 p8 p9 p10 p11 p12 p13 p14 p15))
include hz0 hd0 hsi hvi HE4 HE8 HC TS IT HL
set_option maxRecDepth 100000 in
set_option maxHeartbeats 16000000 in
theorem rfits_three (HR : Hid (R = (!false && !((!k0 && !k4 && !p1) || (!k0 && !k2 && !k3 && !p2) || (!k0 && !p3)) && !((!k5 && !p5) || (!k4 && (!p6 || !p4)) || (!ki && !p7)) && !(!k9 && (!p8 || !p9 || !p10 || !p11)) && (if k10 = true then ST else p12 && p15 && p13 && p14)))) (HBG : Hid (¬ m.kind < 0∧¬ (10 : Int) < m.kind∧¬ (101 : Int) < m.ls.length∧¬ (2000 : Int) < m.hs.length∧¬ (50000 : Int) < m.is.length∧¬ (4096 : Int) < m.shs.length∧¬ (1024 : Int) < m.fs.length)) (hk0 : k0 = false) (hk2 : k2 = false) (hk3 : k3 = true) (hk4 : k4 = false) (hk5 : k5 = false) (hk9 : k9 = false) (hk10 : k10 = false) (hki : ki = false) :
  Calls Try.prog 14 #[.agg cs] w fun e w' => e = .returned (.bool R)∧Keep w w':=by
 have u_:=And.intro hz0 (And.intro hd0 (And.intro hsi (And.intro hvi TS)))
 clear u_
 subst hk0 hk2 hk3 hk4 hk5 hk9 hk10 hki
 have C:=HC.out _ (Below.refl _ _)
 have rk:=C.ck;have r6:=C.c6;have r5:=C.c5;have r7:=C.c7;have r10:=C.c10;have r11:=C.c11
 obtain ⟨d0,d1,d2,d3,d4,d5,d6⟩:=HBG.out
 clear C HBG
 go_enter Try.func14,Try.ntmps14
 go_upto_region 1 with fail
 have HK1 : Hid (Keep w (w.alloc (.cells cs 39))):=Lib.hid (keep_new _ _)
 generalize w.alloc (.cells cs 39) = w1 at *
 generalize w.heap.size = g at *
 go_upto_region 4 with fail
 clear rk r5 r6 r7 r10 r11 d0 d1 d2 d3 d4 d5 d6
 obtain ⟨q4,hq4⟩ : ∃ q : Bool,q = ((!false && !false && !p1) || (!false && !false && !true && !p2) || (!false && !p3)):=⟨_,rfl⟩
 have Hq4:=Lib.hid hq4
 clear hq4
 go_cut [80] (fun v wx => v = .bool q4∧Hid (Keep w1 wx))
 case first =>
  clear HR
  have C:=HC.out w1 (Below.refl _ _)
  have r1:=aft_cell C.c1;have r2:=aft_cell C.c2;have r3:=aft_cell C.c3
  have gk0:=HL.out.ek0;have nk0:=HL.out.nk0;have gk4:=HL.out.ek4;have nk4:=HL.out.nk4;have gp1:=HL.out.ep1;have np1:=HL.out.np1;have gk2:=HL.out.ek2;have nk2:=HL.out.nk2;have gk3:=HL.out.ek3;have nk3:=HL.out.nk3;have gp2:=HL.out.ep2;have np2:=HL.out.np2;have gp3:=HL.out.ep3;have np3:=HL.out.np3
  clear C
  rcases rft_tr2 p1 p2 p3 with ⟨rfl⟩ | ⟨rfl,rfl⟩ | ⟨rfl,rfl⟩
  all_goals
   have hq:=Hq4.out
   simp only [Bool.false_and,Bool.true_and,Bool.and_false,Bool.and_true,Bool.not_false,Bool.not_true,Bool.or_true,Bool.true_or,Bool.or_false,Bool.false_or] at hq
   subst hq
   try simp only [Bool.not_false,Bool.not_true] at nk0 nk4 np1 nk2 nk3 np2 np3
   refine wp_region_plainp w1 (Below.refl _ _) ?_
   try simp only [List.append_eq,List.cons_append,List.nil_append]
   repeat (first | go_big_quiet_step (fail))
   refine wpQuiet_nil ?_
   rintro _ ⟨y,rfl⟩
   have j:=Lib.hid (aft_keep w1 y)
   go_wp2
   go_meet
   exact ⟨rfl,j⟩
 obtain ⟨rfl,HKc⟩:=hcut
 have HKw:=Lib.hid (keep_trans HK1.out HKc.out);have HKv:=Lib.hid HKc.out
 clear HKc
 rw [← Hq4.out] at HR
 cases q4 with
 | true =>
   obtain rfl : R = false:=by rw [HR.out];simp
   clear HR
   go_wp2
   exact bodyPost_ret (v:=.bool false) (by simp [results,Try.results14]) rfl ⟨rfl,HKw.out⟩
 | false =>
 clear Hq4
 go_upto_region 6 with fail
 obtain ⟨q6,hq6⟩ : ∃ q : Bool,q = ((!false && !p5) || (!false && (!p6 || !p4)) || (!false && !p7)):=⟨_,rfl⟩
 have Hq6:=Lib.hid hq6
 clear hq6
 go_cut [115] (fun v wx => v = .bool q6∧Hid (Keep wc wx))
 case first =>
  clear HR
  have C:=HC.out wc HKv.out
  have r5:=aft_cell C.c5;have r6:=aft_cell C.c6;have r7:=aft_cell C.c7
  have RS:=C.rs;have gp4:=HE4.out
  have gk5:=HL.out.ek5;have nk5:=HL.out.nk5;have gp5:=HL.out.ep5;have np5:=HL.out.np5;have gk4:=HL.out.ek4;have nk4:=HL.out.nk4;have gp6:=HL.out.ep6;have np6:=HL.out.np6;have gp7:=HL.out.ep7;have np7:=HL.out.np7
  clear C
  rcases rft_tr0 p5 p6 p4 p7 with ⟨rfl⟩ | ⟨rfl,rfl⟩ | ⟨rfl,rfl,rfl⟩ | ⟨rfl,rfl,rfl,rfl⟩ | ⟨rfl,rfl,rfl,rfl⟩
  all_goals
   have hq:=Hq6.out
   simp only [Bool.false_and,Bool.true_and,Bool.and_false,Bool.and_true,Bool.not_false,Bool.not_true,Bool.or_true,Bool.true_or,Bool.or_false,Bool.false_or] at hq
   subst hq
   try simp only [Bool.not_false,Bool.not_true] at nk5 np5 nk4 np6 np7
   refine wp_region_plainp wc (Below.refl _ _) ?_
   try simp only [List.append_eq,List.cons_append,List.nil_append]
   repeat (first | ((with_reducible refine wpQuiet_load_partg g 6 ss (Eq.trans ?_ rfl) RS _ hash_under rfl hsi (Eq.trans ?_ rfl) ?_);rfl;rfl;simp only [Act.put,Array.set!_eq_setIfInBounds,List.setIfInBounds_toArray,List.set_cons_succ,List.set_cons_zero]) | go_big_quiet_step ((go_at_call 36;exact quiet_aft (IT.out _))))
   refine wpQuiet_nil ?_
   rintro _ ⟨y,rfl⟩
   have j:=Lib.hid (aft_keep wc y)
   go_wp2
   go_meet
   exact ⟨rfl,j⟩
 obtain ⟨rfl,HKc⟩:=hcut
 have HKw:=Lib.hid (keep_trans HKw.out HKc.out);have HKv:=Lib.hid (keep_trans HKv.out HKc.out)
 clear HKc
 rw [← Hq6.out] at HR
 cases q6 with
 | true =>
   obtain rfl : R = false:=by rw [HR.out];simp
   clear HR
   go_wp2
   exact bodyPost_ret (v:=.bool false) (by simp [results,Try.results14]) rfl ⟨rfl,HKw.out⟩
 | false =>
 clear Hq6
 go_upto_region 8 with fail
 obtain ⟨q8,hq8⟩ : ∃ q : Bool,q = (!false && (!p8 || !p9 || !p10 || !p11)):=⟨_,rfl⟩
 have Hq8:=Lib.hid hq8
 clear hq8
 go_cut [144] (fun v wx => v = .bool q8∧Hid (Keep wc wx))
 case first =>
  clear HR
  have C:=HC.out wc HKv.out
  have r9:=aft_cell C.c9;have r10:=aft_cell C.c10;have r11:=aft_cell C.c11
  have RH:=C.rh;have gp8:=HE8.out
  have gk9:=HL.out.ek9;have nk9:=HL.out.nk9;have gp9:=HL.out.ep9;have np9:=HL.out.np9;have gp10:=HL.out.ep10;have np10:=HL.out.np10;have gp11:=HL.out.ep11;have np11:=HL.out.np11
  clear C
  rcases rft_tr1 p8 p9 p10 p11 with ⟨rfl⟩ | ⟨rfl,rfl⟩ | ⟨rfl,rfl,rfl⟩ | ⟨rfl,rfl,rfl,rfl⟩ | ⟨rfl,rfl,rfl,rfl⟩
  all_goals
   have hq:=Hq8.out
   simp only [Bool.false_and,Bool.true_and,Bool.and_false,Bool.and_true,Bool.not_false,Bool.not_true,Bool.or_true,Bool.true_or,Bool.or_false,Bool.false_or] at hq
   subst hq
   try simp only [Bool.not_false,Bool.not_true] at nk9 np9 np10 np11
   refine wp_region_plainp wc (Below.refl _ _) ?_
   try simp only [List.append_eq,List.cons_append,List.nil_append]
   repeat (first | ((with_reducible refine wpQuiet_load_partg g 39 hv (Eq.trans ?_ rfl) RH _ Try.underlying30 rfl hvi (Eq.trans ?_ rfl) ?_);rfl;rfl;simp only [Act.put,Array.set!_eq_setIfInBounds,List.setIfInBounds_toArray,List.set_cons_succ,List.set_cons_zero]) | go_big_quiet_step (fail))
   refine wpQuiet_nil ?_
   rintro _ ⟨y,rfl⟩
   have j:=Lib.hid (aft_keep wc y)
   go_wp2
   go_meet
   exact ⟨rfl,j⟩
 obtain ⟨rfl,HKc⟩:=hcut
 have HKw:=Lib.hid (keep_trans HKw.out HKc.out);have HKv:=Lib.hid (keep_trans HKv.out HKc.out)
 clear HKc
 rw [← Hq8.out] at HR
 cases q8 with
 | true =>
   obtain rfl : R = false:=by rw [HR.out];simp
   clear HR
   go_wp2
   exact bodyPost_ret (v:=.bool false) (by simp [results,Try.results14]) rfl ⟨rfl,HKw.out⟩
 | false =>
 clear Hq8
 go_upto_region 10 with fail
 have gk10:=HL.out.ek10
 have C:=HC.out _ HKv.out
 have r12:=C.c12;have r13:=C.c13;have r14:=C.c14;have r15:=C.c15
 clear C
 clear TS
 have hR : R = (p12 && p15 && p13 && p14):=by rw [HR.out];simp
 clear HR
 have gp12:=HL.out.ep12;have gp13:=HL.out.ep13;have gp14:=HL.out.ep14;have gp15:=HL.out.ep15
 cases p12 <;> cases p15 <;> cases p13 <;> cases p14
 all_goals
  simp only [Bool.and_false,Bool.false_and,Bool.and_true] at hR
  subst hR
  go_wp2
  exact bodyPost_ret (v:=.bool _) (by simp [results,Try.results14]) rfl ⟨rfl,HKw.out⟩
set_option maxRecDepth 100000 in
set_option maxHeartbeats 16000000 in
theorem rfits_four (HR : Hid (R = (!false && !((!k0 && !k4 && !p1) || (!k0 && !k2 && !k3 && !p2) || (!k0 && !p3)) && !((!k5 && !p5) || (!k4 && (!p6 || !p4)) || (!ki && !p7)) && !(!k9 && (!p8 || !p9 || !p10 || !p11)) && (if k10 = true then ST else p12 && p15 && p13 && p14)))) (HBG : Hid (¬ m.kind < 0∧¬ (10 : Int) < m.kind∧¬ (101 : Int) < m.ls.length∧¬ (2000 : Int) < m.hs.length∧¬ (50000 : Int) < m.is.length∧¬ (4096 : Int) < m.shs.length∧¬ (1024 : Int) < m.fs.length)) (hk0 : k0 = false) (hk2 : k2 = false) (hk3 : k3 = false) (hk4 : k4 = true) (hk5 : k5 = false) (hk9 : k9 = false) (hk10 : k10 = false) (hki : ki = false) :
  Calls Try.prog 14 #[.agg cs] w fun e w' => e = .returned (.bool R)∧Keep w w':=by
 have u_:=And.intro hz0 (And.intro hd0 (And.intro hsi (And.intro hvi TS)))
 clear u_
 subst hk0 hk2 hk3 hk4 hk5 hk9 hk10 hki
 have C:=HC.out _ (Below.refl _ _)
 have rk:=C.ck;have r6:=C.c6;have r5:=C.c5;have r7:=C.c7;have r10:=C.c10;have r11:=C.c11
 obtain ⟨d0,d1,d2,d3,d4,d5,d6⟩:=HBG.out
 clear C HBG
 go_enter Try.func14,Try.ntmps14
 go_upto_region 1 with fail
 have HK1 : Hid (Keep w (w.alloc (.cells cs 39))):=Lib.hid (keep_new _ _)
 generalize w.alloc (.cells cs 39) = w1 at *
 generalize w.heap.size = g at *
 go_upto_region 4 with fail
 clear rk r5 r6 r7 r10 r11 d0 d1 d2 d3 d4 d5 d6
 obtain ⟨q4,hq4⟩ : ∃ q : Bool,q = ((!false && !true && !p1) || (!false && !false && !false && !p2) || (!false && !p3)):=⟨_,rfl⟩
 have Hq4:=Lib.hid hq4
 clear hq4
 go_cut [80] (fun v wx => v = .bool q4∧Hid (Keep w1 wx))
 case first =>
  clear HR
  have C:=HC.out w1 (Below.refl _ _)
  have r1:=aft_cell C.c1;have r2:=aft_cell C.c2;have r3:=aft_cell C.c3
  have gk0:=HL.out.ek0;have nk0:=HL.out.nk0;have gk4:=HL.out.ek4;have nk4:=HL.out.nk4;have gp1:=HL.out.ep1;have np1:=HL.out.np1;have gk2:=HL.out.ek2;have nk2:=HL.out.nk2;have gk3:=HL.out.ek3;have nk3:=HL.out.nk3;have gp2:=HL.out.ep2;have np2:=HL.out.np2;have gp3:=HL.out.ep3;have np3:=HL.out.np3
  clear C
  rcases rft_tr3 p1 p2 p3 with ⟨rfl⟩ | ⟨rfl,rfl⟩ | ⟨rfl,rfl⟩
  all_goals
   have hq:=Hq4.out
   simp only [Bool.false_and,Bool.true_and,Bool.and_false,Bool.and_true,Bool.not_false,Bool.not_true,Bool.or_true,Bool.true_or,Bool.or_false,Bool.false_or] at hq
   subst hq
   try simp only [Bool.not_false,Bool.not_true] at nk0 nk4 np1 nk2 nk3 np2 np3
   refine wp_region_plainp w1 (Below.refl _ _) ?_
   try simp only [List.append_eq,List.cons_append,List.nil_append]
   repeat (first | go_big_quiet_step (fail))
   refine wpQuiet_nil ?_
   rintro _ ⟨y,rfl⟩
   have j:=Lib.hid (aft_keep w1 y)
   go_wp2
   go_meet
   exact ⟨rfl,j⟩
 obtain ⟨rfl,HKc⟩:=hcut
 have HKw:=Lib.hid (keep_trans HK1.out HKc.out);have HKv:=Lib.hid HKc.out
 clear HKc
 rw [← Hq4.out] at HR
 cases q4 with
 | true =>
   obtain rfl : R = false:=by rw [HR.out];simp
   clear HR
   go_wp2
   exact bodyPost_ret (v:=.bool false) (by simp [results,Try.results14]) rfl ⟨rfl,HKw.out⟩
 | false =>
 clear Hq4
 go_upto_region 6 with fail
 obtain ⟨q6,hq6⟩ : ∃ q : Bool,q = ((!false && !p5) || (!true && (!p6 || !p4)) || (!false && !p7)):=⟨_,rfl⟩
 have Hq6:=Lib.hid hq6
 clear hq6
 go_cut [115] (fun v wx => v = .bool q6∧Hid (Keep wc wx))
 case first =>
  clear HR
  have C:=HC.out wc HKv.out
  have r5:=aft_cell C.c5;have r6:=aft_cell C.c6;have r7:=aft_cell C.c7
  have RS:=C.rs;have gp4:=HE4.out
  have gk5:=HL.out.ek5;have nk5:=HL.out.nk5;have gp5:=HL.out.ep5;have np5:=HL.out.np5;have gk4:=HL.out.ek4;have nk4:=HL.out.nk4;have gp6:=HL.out.ep6;have np6:=HL.out.np6;have gp7:=HL.out.ep7;have np7:=HL.out.np7
  clear C
  rcases rft_tr4 p5 p6 p4 p7 with ⟨rfl⟩ | ⟨rfl,rfl⟩ | ⟨rfl,rfl⟩
  all_goals
   have hq:=Hq6.out
   simp only [Bool.false_and,Bool.true_and,Bool.and_false,Bool.and_true,Bool.not_false,Bool.not_true,Bool.or_true,Bool.true_or,Bool.or_false,Bool.false_or] at hq
   subst hq
   try simp only [Bool.not_false,Bool.not_true] at nk5 np5 nk4 np6 np7
   refine wp_region_plainp wc (Below.refl _ _) ?_
   try simp only [List.append_eq,List.cons_append,List.nil_append]
   repeat (first | ((with_reducible refine wpQuiet_load_partg g 6 ss (Eq.trans ?_ rfl) RS _ hash_under rfl hsi (Eq.trans ?_ rfl) ?_);rfl;rfl;simp only [Act.put,Array.set!_eq_setIfInBounds,List.setIfInBounds_toArray,List.set_cons_succ,List.set_cons_zero]) | go_big_quiet_step ((go_at_call 36;exact quiet_aft (IT.out _))))
   refine wpQuiet_nil ?_
   rintro _ ⟨y,rfl⟩
   have j:=Lib.hid (aft_keep wc y)
   go_wp2
   go_meet
   exact ⟨rfl,j⟩
 obtain ⟨rfl,HKc⟩:=hcut
 have HKw:=Lib.hid (keep_trans HKw.out HKc.out);have HKv:=Lib.hid (keep_trans HKv.out HKc.out)
 clear HKc
 rw [← Hq6.out] at HR
 cases q6 with
 | true =>
   obtain rfl : R = false:=by rw [HR.out];simp
   clear HR
   go_wp2
   exact bodyPost_ret (v:=.bool false) (by simp [results,Try.results14]) rfl ⟨rfl,HKw.out⟩
 | false =>
 clear Hq6
 go_upto_region 8 with fail
 obtain ⟨q8,hq8⟩ : ∃ q : Bool,q = (!false && (!p8 || !p9 || !p10 || !p11)):=⟨_,rfl⟩
 have Hq8:=Lib.hid hq8
 clear hq8
 go_cut [144] (fun v wx => v = .bool q8∧Hid (Keep wc wx))
 case first =>
  clear HR
  have C:=HC.out wc HKv.out
  have r9:=aft_cell C.c9;have r10:=aft_cell C.c10;have r11:=aft_cell C.c11
  have RH:=C.rh;have gp8:=HE8.out
  have gk9:=HL.out.ek9;have nk9:=HL.out.nk9;have gp9:=HL.out.ep9;have np9:=HL.out.np9;have gp10:=HL.out.ep10;have np10:=HL.out.np10;have gp11:=HL.out.ep11;have np11:=HL.out.np11
  clear C
  rcases rft_tr1 p8 p9 p10 p11 with ⟨rfl⟩ | ⟨rfl,rfl⟩ | ⟨rfl,rfl,rfl⟩ | ⟨rfl,rfl,rfl,rfl⟩ | ⟨rfl,rfl,rfl,rfl⟩
  all_goals
   have hq:=Hq8.out
   simp only [Bool.false_and,Bool.true_and,Bool.and_false,Bool.and_true,Bool.not_false,Bool.not_true,Bool.or_true,Bool.true_or,Bool.or_false,Bool.false_or] at hq
   subst hq
   try simp only [Bool.not_false,Bool.not_true] at nk9 np9 np10 np11
   refine wp_region_plainp wc (Below.refl _ _) ?_
   try simp only [List.append_eq,List.cons_append,List.nil_append]
   repeat (first | ((with_reducible refine wpQuiet_load_partg g 39 hv (Eq.trans ?_ rfl) RH _ Try.underlying30 rfl hvi (Eq.trans ?_ rfl) ?_);rfl;rfl;simp only [Act.put,Array.set!_eq_setIfInBounds,List.setIfInBounds_toArray,List.set_cons_succ,List.set_cons_zero]) | go_big_quiet_step (fail))
   refine wpQuiet_nil ?_
   rintro _ ⟨y,rfl⟩
   have j:=Lib.hid (aft_keep wc y)
   go_wp2
   go_meet
   exact ⟨rfl,j⟩
 obtain ⟨rfl,HKc⟩:=hcut
 have HKw:=Lib.hid (keep_trans HKw.out HKc.out);have HKv:=Lib.hid (keep_trans HKv.out HKc.out)
 clear HKc
 rw [← Hq8.out] at HR
 cases q8 with
 | true =>
   obtain rfl : R = false:=by rw [HR.out];simp
   clear HR
   go_wp2
   exact bodyPost_ret (v:=.bool false) (by simp [results,Try.results14]) rfl ⟨rfl,HKw.out⟩
 | false =>
 clear Hq8
 go_upto_region 10 with fail
 have gk10:=HL.out.ek10
 have C:=HC.out _ HKv.out
 have r12:=C.c12;have r13:=C.c13;have r14:=C.c14;have r15:=C.c15
 clear C
 clear TS
 have hR : R = (p12 && p15 && p13 && p14):=by rw [HR.out];simp
 clear HR
 have gp12:=HL.out.ep12;have gp13:=HL.out.ep13;have gp14:=HL.out.ep14;have gp15:=HL.out.ep15
 cases p12 <;> cases p15 <;> cases p13 <;> cases p14
 all_goals
  simp only [Bool.and_false,Bool.false_and,Bool.and_true] at hR
  subst hR
  go_wp2
  exact bodyPost_ret (v:=.bool _) (by simp [results,Try.results14]) rfl ⟨rfl,HKw.out⟩
end
end Go.Proofs.Ytbgpgdhndanigaa
