/- DiskIs: the walk. (printed by gen_dri.py) -/
import Derived.Test.YtmhbfjcehmjllaaDrh
import Derived.Test.YtmhbfjcehmjllaaDskJ
import Derived.Test.YtmhbfjcehmjllaaDskR
set_option linter.unusedSimpArgs false
set_option linter.unusedVariables false
namespace Go.Proofs.Ytmhbfjcehmjllaa
open Go.RowKit
attribute [local go_sem ↓] Go.wp_at_zero Go.wp_at_succ
theorem DOk.alloc {w : World} {A : Option Addr} {b : List UInt8} {c : Nat} {PA : Option Addr} {ws : List WriteR} {pc : Nat} (h : DOk w A b c PA ws pc) (o : Obj) : DOk (w.alloc o) A b c PA ws pc := h.keep (keep_new _ _)
theorem layD_len (b : List UInt8) (ws : List WriteR) (i : Int) (data : List UInt8) : (layD b ws i data).1.length ≤ 200000 := by
  have h := sane_len (nb := (tkB b ws).length) (ws := (layD b ws i data).1.map fun p => (⟨p.1, none, 0, p.2⟩ : WriteR)) (by
    rw [sane_pl, List.map_map]
    have e : (layD b ws i data).1.map (WriteR.pl ∘ fun p => (⟨p.1, none, 0, p.2⟩ : WriteR)) = (layD b ws i data).1 := by
      conv => rhs; rw [← List.map_id (layD b ws i data).1]
      exact List.map_congr_left fun _ _ => rfl
    rw [e]; exact layD_sane)
  rw [List.length_map] at h
  omega
theorem putD_len (b : List UInt8) (ws : List WriteR) (i : Int) (data : List UInt8) : (putD b ws i data).1.length ≤ 200000 := by
  unfold putD
  split
  · exact layD_len ..
  · have := sane_len (tk_sane b ws)
    show ((tkW b ws).map WriteR.pl).length ≤ _
    rw [List.length_map]; omega
set_option maxRecDepth 100000 in
set_option maxHeartbeats 8000000 in
theorem is_walk (A : Option Addr) (b : List UInt8) (c : Nat) (PA : Option Addr) (ws : List WriteR) (pc : Nat) (at_ : Int) (D : Option Addr) (data : List UInt8) (cd : Nat) (B : Option Addr) (plan : List UInt8) (cp : Nat) (n : Int) (w : World) (h : DOk w A b c PA ws pc)
    (hat : -9223372036854775808 ≤ at_ ∧ at_ ≤ 9223372036854775807) (hd : Rd w D (data.map u8v)) (hdl : data.length ≤ cd) (hdc : cd ≤ 9223372036854775807) (hp : Rd w B (plan.map u8v)) (hpl : plan.length ≤ cp) (hcp : cp ≤ 9223372036854775807) :
    Calls Try.prog 3 #[DV A b.length c PA ws.length pc, .int .i64 at_, .slice D data.length cd, .slice B plan.length cp, .int .i64 n] w fun e w' => e = .returned (.bool true) ∧ Keep w w' := by
  have hpl0 := h.pl; have hpm := h.pm; have hbc := h.bc; have hcm := h.cm
  unfold maxLen at hpm hcm
  have RD : Hid (∀ (y : World) (PA : Option Addr) (pc : Nat), DOk y A b c PA ws pc → Calls Try.prog 7 #[DV A b.length c PA ws.length pc, .int .i64 at_] y fun e w' => ∃ A' c', e = .returned (.tuple #[.slice A' (readD b ws at_).1.length c', .int .i64 (readD b ws at_).2]) ∧ Rd w' A' ((readD b ws at_).1.map u8v) ∧ Keep y w') := Lib.hid fun y PA pc hy => read_any _ _ _ _ _ _ _ _ hy
  have RRD : Hid (∀ (y : World) (PA : Option Addr) (pc : Nat), DOk y A b c PA ws pc → Calls Try.prog 8 #[DV A b.length c PA ws.length pc, .int .i64 at_] y fun e w' => ∃ A' c', e = .returned (.tuple #[.slice A' (readD b ws at_).1.length c', .int .i64 (readD b ws at_).2]) ∧ Rd w' A' ((readD b ws at_).1.map u8v) ∧ Keep y w') := Lib.hid fun y PA pc hy => rread_any _ _ _ _ _ _ _ _ hy
  have PU : Hid (∀ (y : World) (PA : Option Addr) (pc : Nat), DOk y A b c PA ws pc → Rd y D (data.map u8v) → data.length ≤ 200 → Calls Try.prog 9 #[DV A b.length c PA ws.length pc, .int .i64 at_, .slice D data.length cd] y fun e w' => ∃ A' c' PA' pc' vs, e = .returned (.tuple #[DV A' (tkB b ws).length c' PA' vs.length pc', .int .i64 (putD b ws at_ data).2]) ∧ vs.map WriteR.pl = (putD b ws at_ data).1 ∧ DOk w' A' (tkB b ws) c' PA' vs pc' ∧ Keep y w') := Lib.hid fun y PA pc hy hr hl => (put_any A b c PA ws pc at_ D data cd y y (Below.refl _ _) hy hr (by omega) hat).mono (fun e w' ⟨A', c', PA', pc', vs, h1, h2, h3, h4⟩ => ⟨A', c', PA', pc', vs, h1, h2, h3 _ (Mid.of_keep h4 (Below.refl _ _)), h4⟩)
  have RPU : Hid (∀ (y : World) (PA : Option Addr) (pc : Nat), DOk y A b c PA ws pc → Rd y D (data.map u8v) → data.length ≤ 200 → Calls Try.prog 10 #[DV A b.length c PA ws.length pc, .int .i64 at_, .slice D data.length cd] y fun e w' => ∃ A' c' PA' pc' vs, e = .returned (.tuple #[DV A' (tkB b ws).length c' PA' vs.length pc', .int .i64 (putD b ws at_ data).2]) ∧ vs.map WriteR.pl = (putD b ws at_ data).1 ∧ DOk w' A' (tkB b ws) c' PA' vs pc' ∧ Keep y w') := Lib.hid fun y PA pc hy hr hl => rput_any _ _ _ _ _ _ _ _ _ _ _ hy hr (by omega)
  have LA : Hid (∀ (y : World) (PA : Option Addr) (pc : Nat), DOk y A b c PA ws pc → Rd y D (data.map u8v) → data.length ≤ 200 → Calls Try.prog 11 #[DV A b.length c PA ws.length pc, .int .i64 at_, .slice D data.length cd] y fun e w' => ∃ A' c' PA' pc' vs, e = .returned (.tuple #[DV A' (tkB b ws).length c' PA' vs.length pc', .int .i64 (layD b ws at_ data).2]) ∧ vs.map WriteR.pl = (layD b ws at_ data).1 ∧ DOk w' A' (tkB b ws) c' PA' vs pc' ∧ Keep y w') := Lib.hid fun y PA pc hy hr hl => (lay_any A b c PA ws pc at_ D data cd y y (Below.refl _ _) hy hr (by omega) hat).mono (fun e w' ⟨A', c', PA', pc', vs, h1, h2, h3, h4⟩ => ⟨A', c', PA', pc', vs, h1, h2, h3 _ (Mid.of_keep h4 (Below.refl _ _)), h4⟩)
  have RLA : Hid (∀ (y : World) (PA : Option Addr) (pc : Nat), DOk y A b c PA ws pc → Rd y D (data.map u8v) → data.length ≤ 200 → Calls Try.prog 12 #[DV A b.length c PA ws.length pc, .int .i64 at_, .slice D data.length cd] y fun e w' => ∃ A' c' PA' pc' vs, e = .returned (.tuple #[DV A' (tkB b ws).length c' PA' vs.length pc', .int .i64 (layD b ws at_ data).2]) ∧ vs.map WriteR.pl = (layD b ws at_ data).1 ∧ DOk w' A' (tkB b ws) c' PA' vs pc' ∧ Keep y w') := Lib.hid fun y PA pc hy hr hl => rlay_any _ _ _ _ _ _ _ _ _ _ _ hy hr (by omega) hdl
  have SA : Hid (∀ (y : World) (PA : Option Addr) (pc : Nat), DOk y A b c PA ws pc → Calls Try.prog 15 #[DV A b.length c PA ws.length pc] y fun e w' => e = .returned (.bool (saneD b.length ws)) ∧ Keep y w') := Lib.hid fun y PA pc hy => sane_any _ _ _ _ _ _ _ hy
  have RSA : Hid (∀ (y : World) (PA : Option Addr) (pc : Nat), DOk y A b c PA ws pc → Calls Try.prog 16 #[DV A b.length c PA ws.length pc] y fun e w' => e = .returned (.bool (saneD b.length ws)) ∧ Keep y w') := Lib.hid fun y PA pc hy => rdsane_any _ _ _ _ _ _ _ hy
  have BY : Hid (∀ (y : World) (PA : Option Addr) (pc : Nat), DOk y A b c PA ws pc → Calls Try.prog 17 #[DV A b.length c PA ws.length pc] y fun e w' => ∃ A' c', e = .returned (.slice A' (bytesD b ws).length c') ∧ Rd w' A' ((bytesD b ws).map u8v) ∧ Keep y w') := Lib.hid fun y PA pc hy => (bytes_any _ _ _ _ _ _ _ hy).mono (fun e w' ⟨v, h1, h2, h3⟩ => let ⟨A', c', h4, _, _, h5⟩ := own_form h2; ⟨A', c', by rw [h1, h4], h5, h3⟩)
  have RBY : Hid (∀ (y : World) (PA : Option Addr) (pc : Nat), DOk y A b c PA ws pc → Calls Try.prog 18 #[DV A b.length c PA ws.length pc] y fun e w' => ∃ A' c', e = .returned (.slice A' (bytesD b ws).length c') ∧ Rd w' A' ((bytesD b ws).map u8v) ∧ Keep y w') := Lib.hid fun y PA pc hy => (rbytes_any _ _ _ _ _ _ _ hy).mono (fun e w' ⟨v, h1, h2, h3⟩ => let ⟨A', c', h4, _, _, h5⟩ := own_form h2; ⟨A', c', by rw [h1, h4], h5, h3⟩)
  have SY : Hid (∀ (y : World) (PA : Option Addr) (pc : Nat), DOk y A b c PA ws pc → Calls Try.prog 19 #[DV A b.length c PA ws.length pc] y fun e w' => ∃ A' c', e = .returned (DV A' (bytesD b ws).length c' none 0 0) ∧ DOk w' A' (bytesD b ws) c' none [] 0 ∧ Keep y w') := Lib.hid fun y PA pc hy => (sync_any _ _ _ _ _ _ _ hy).mono (fun e w' ⟨A', c', h1, h2, h3⟩ => ⟨A', c', h1, h2 _ (Below.refl _ _), h3⟩)
  have RSY : Hid (∀ (y : World) (PA : Option Addr) (pc : Nat), DOk y A b c PA ws pc → Calls Try.prog 20 #[DV A b.length c PA ws.length pc] y fun e w' => ∃ A' c', e = .returned (DV A' (bytesD b ws).length c' none 0 0) ∧ DOk w' A' (bytesD b ws) c' none [] 0 ∧ Keep y w') := Lib.hid fun y PA pc hy => rsync_any _ _ _ _ _ _ _ hy
  have CR : Hid (∀ (y : World) (PA : Option Addr) (pc : Nat), DOk y A b c PA ws pc → Rd y B (plan.map u8v) → plan.length ≤ 400 → Calls Try.prog 21 #[DV A b.length c PA ws.length pc, .slice B plan.length cp] y fun e w' => ∃ A' c', e = .returned (DV A' (crashD b ws plan).length c' none 0 0) ∧ DOk w' A' (crashD b ws plan) c' none [] 0 ∧ Keep y w') := Lib.hid fun y PA pc hy hr hl => (crash_any _ _ _ _ _ _ _ _ _ _ hy hr (by omega)).mono (fun e w' ⟨A', c', h1, h2, h3⟩ => ⟨A', c', h1, DOk.own h2, h3⟩)
  have RCR : Hid (∀ (y : World) (PA : Option Addr) (pc : Nat), DOk y A b c PA ws pc → Rd y B (plan.map u8v) → plan.length ≤ 400 → Calls Try.prog 22 #[DV A b.length c PA ws.length pc, .slice B plan.length cp] y fun e w' => ∃ A' c', e = .returned (DV A' (crashD b ws plan).length c' none 0 0) ∧ DOk w' A' (crashD b ws plan) c' none [] 0 ∧ Keep y w') := Lib.hid fun y PA pc hy hr hl => rcrash_any _ _ _ _ _ _ _ _ _ _ hy hr (by omega)
  obtain ⟨m, hm⟩ : ∃ m : Nat, (m : Int) = max 0 (min n 4096) := ⟨(max 0 (min n 4096)).toNat, by omega⟩
  have hzl : (List.replicate (32 * m) (0 : UInt8)).length = 32 * m := List.length_replicate ..
  have NW : Hid (∀ y, Calls Try.prog 23 #[.int .i64 n] y fun e w' => ∃ A' c', e = .returned (DV A' (List.replicate (32 * m) (0 : UInt8)).length c' none 0 0) ∧ DOk w' A' (List.replicate (32 * m) (0 : UInt8)) c' none [] 0 ∧ Keep y w') := Lib.hid fun y => (new_any n m y hm).mono (fun e w' ⟨A', c', h1, h2, h3⟩ => ⟨A', c', by rw [h1, hzl], DOk.own h2, h3⟩)
  have RNW : Hid (∀ y, Calls Try.prog 24 #[.int .i64 n] y fun e w' => ∃ A' c', e = .returned (DV A' (List.replicate (32 * m) (0 : UInt8)).length c' none 0 0) ∧ DOk w' A' (List.replicate (32 * m) (0 : UInt8)) c' none [] 0 ∧ Keep y w') := Lib.hid fun y => (rnew_any n m y hm).mono (fun e w' ⟨A', c', h1, h2, h3⟩ => ⟨A', c', by rw [h1, hzl], DOk.own h2, h3⟩)
  have FL : Hid (∀ (y : World) (A : Option Addr) (x : List UInt8) (c : Nat) (PA : Option Addr) (us : List WriteR) (pc : Nat), DOk y A x c PA us pc → us.length ≤ 200000 → Calls Try.prog 14 #[DV A x.length c PA us.length pc] y fun e w' => ∃ PA' pc', e = .returned (DV A x.length c PA' us.length pc') ∧ DOk w' A x c PA' us pc' ∧ Keep y w') := Lib.hid fun y A x c PA us pc hy hl => (flat_any _ _ _ _ _ _ _ hy hl).mono (fun e w' ⟨PA', pc', h1, h2, h3⟩ => ⟨PA', pc', h1, h2 _ (Below.refl _ _), h3⟩)
  have SM : Hid (∀ (y : World) (x : List UInt8) (A : Option Addr) (c : Nat) (PA : Option Addr) (us : List WriteR) (pc : Nat) (A' : Option Addr) (c' : Nat) (PA' : Option Addr) (us' : List WriteR) (pc' : Nat), DOk y A x c PA us pc → DOk y A' x c' PA' us' pc' → us.map WriteR.pl = us'.map WriteR.pl → Calls Try.prog 13 #[DV A x.length c PA us.length pc, DV A' x.length c' PA' us'.length pc'] y fun e w' => e = .returned (.bool true) ∧ Keep y w') := Lib.hid fun y x A c PA us pc A' c' PA' us' pc' h1 h2 h3 => (same_any _ _ _ _ _ _ _ _ _ _ _ _ _ h1 h2).mono (fun e w' ⟨q1, q2⟩ => ⟨by rw [q1, show sameD x us x us' = true from decide_eq_true ⟨rfl, h3⟩], q2⟩)
  have FL0 : Hid (∀ (y : World) (A : Option Addr) (x : List UInt8) (c : Nat), DOk y A x c none [] 0 → Calls Try.prog 14 #[DV A x.length c none 0 0] y fun e w' => ∃ PA' pc', e = .returned (DV A x.length c PA' 0 pc') ∧ DOk w' A x c PA' [] pc' ∧ Keep y w') := Lib.hid fun y A x c hy => FL.out y A x c none [] 0 hy (Nat.zero_le _)
  have SM0 : Hid (∀ (y : World) (x : List UInt8) (A : Option Addr) (c : Nat) (PA : Option Addr) (pc : Nat) (A' : Option Addr) (c' : Nat), DOk y A x c PA [] pc → DOk y A' x c' none [] 0 → Calls Try.prog 13 #[DV A x.length c PA 0 pc, DV A' x.length c' none 0 0] y fun e w' => e = .returned (.bool true) ∧ Keep y w') := Lib.hid fun y x A c PA pc A' c' h1 h2 => SM.out y x A c PA [] pc A' c' none [] 0 h1 h2 rfl
  have DR : Hid (∀ y : World, DOk y A b c PA ws pc → ws.length ≤ 200000 → Calls Try.prog 6 #[DV A b.length c PA ws.length pc] y fun e w' => ∃ PA' pc', e = .returned (DV A b.length c PA' ws.length pc') ∧ DOk w' A b c PA' ws pc' ∧ Keep y w') := Lib.hid fun y hy hl => (drive_any _ _ _ _ _ _ _ hy hl).mono (fun e w' ⟨PA', pc', h1, h2, h3⟩ => ⟨PA', pc', h1, h2 _ (Below.refl _ _), h3⟩)
  have HPL : Hid (∀ us : List WriteR, us.map WriteR.pl = (putD b ws at_ data).1 → us.length ≤ 200000) := Lib.hid fun us hu => by have := putD_len b ws at_ data; rw [← hu, List.length_map] at this; exact this
  have HLL : Hid (∀ us : List WriteR, us.map WriteR.pl = (layD b ws at_ data).1 → us.length ≤ 200000) := Lib.hid fun us hu => by have := layD_len b ws at_ data; rw [← hu, List.length_map] at this; exact this
  clear hm hzl
  generalize readD b ws at_ = RR at *
  generalize putD b ws at_ data = PP at *
  generalize layD b ws at_ data = LL at *
  generalize saneD b.length ws = SS at *
  generalize bytesD b ws = YY at *
  generalize crashD b ws plan = CC at *
  generalize tkB b ws = bb at *
  generalize List.replicate (32 * m) (0 : UInt8) = ZZ at *
  obtain ⟨RL, RE⟩ := RR
  obtain ⟨PL, PE⟩ := PP
  obtain ⟨LL, LE⟩ := LL
  have HK : Hid (Keep w w) := Lib.hid (Below.refl _ _)
  have HH := Lib.hid h; have HDT := Lib.hid hd; have HPT := Lib.hid hp
  clear h hd hp
  go_enter Try.func3, Try.ntmps3
  go_wp2_with fail
  refine (awake_any _).mono ?_
  rintro e w1 ⟨rfl, hk1⟩
  have HD1 : Hid (Blk w1 w.heap.size 25 [.slice A b.length c, .slice PA ws.length pc]) := Lib.hid ((Blk.new w _ [.slice A b.length c, .slice PA ws.length pc]).keep hk1)
  have HK1 := Lib.hid (keep_trans (keep_new w _) hk1)
  clear hk1 HK
  have b0 := HD1.out.cell 0; have b1 := HD1.out.cell 1
  simp only [List.getElem?_cons_succ, List.getElem?_cons_zero] at b0 b1
  go_wp2_with fail
  refine (few_any _ _ _ _ _ _ _ (by omega) (by omega)).mono ?_
  clear b0 b1
  rintro e w2 ⟨rfl, k2⟩
  have HD2 := Lib.hid (HD1.out.keep k2)
  have HK2 := Lib.hid (keep_trans HK1.out k2)
  clear k2 HD1 HK1
  have b0 := HD2.out.cell 0; have b1 := HD2.out.cell 1
  simp only [List.getElem?_cons_succ, List.getElem?_cons_zero] at b0 b1
  cases hf : fewD b.length ws.length with
  | false => go_wp2_with fail; go_ret; exact ⟨rfl, HK2.out⟩
  | true =>
    have hfew := of_decide_eq_true hf; clear hf
    by_cases hq0 : 200 < data.length
    · have hq0' : (200 : Int) < (data.length : Int) := by omega
      go_wp2_with fail; go_ret; exact ⟨rfl, HK2.out⟩
    have hq0' : (data.length : Int) ≤ 200 := by omega
    by_cases hq1 : 400 < plan.length
    · have hq1' : (400 : Int) < (plan.length : Int) := by omega
      go_wp2_with fail; go_ret; exact ⟨rfl, HK2.out⟩
    have hq1' : (plan.length : Int) ≤ 400 := by omega
    by_cases hq2 : 300 < n
    · go_wp2_with fail; go_ret; exact ⟨rfl, HK2.out⟩
    have hq2' : n ≤ 300 := by omega
    have hwl : ws.length ≤ 200000 := by omega
    have HDL : Hid (data.length ≤ 200) := Lib.hid (by omega); have HPLn : Hid (plan.length ≤ 400) := Lib.hid (by omega)
    go_wp2_with fail
    refine (DR.out _ (HH.out.keep HK2.out) hwl).mono ?_
    clear b0 b1 hq0 hq0' hq1 hq1' hq2 hq2' DR hwl hfew hat hpl0 hpm hbc hcm hdl hdc hpl hcp
    rintro e w3 ⟨PA5, pc5, rfl, do3, k3⟩
    have HD3 := Lib.hid (HD2.out.keep k3)
    have HK3 := Lib.hid (keep_trans HK2.out k3)
    clear k3 HD2 HK2
    have DO3 := Lib.hid do3
    clear do3
    go_upto_region 5 with fail
    obtain ⟨w4, hw4⟩ : ∃ w4, w4 = w3.alloc (.cells #[.slice A b.length c, .slice PA5 ws.length pc5] 30) := ⟨_, rfl⟩
    have HD4 : Hid (Blk w4 w.heap.size 25 [.slice A b.length c, .slice PA ws.length pc]) := by rw [hw4]; exact Lib.hid (HD3.out.alloc _)
    have DO4 : Hid (DOk w4 A b c PA5 ws pc5) := by rw [hw4]; exact Lib.hid (DO3.out.alloc _)
    have HO4 : Hid (Blk w4 w3.heap.size 30 #[.slice A b.length c, .slice PA5 ws.length pc5].toList) := by rw [hw4]; exact Lib.hid (Blk.new w3 30 #[.slice A b.length c, .slice PA5 ws.length pc5].toList)
    have HK4 : Hid (Keep w w4) := by rw [hw4]; exact Lib.hid (keep_trans HK3.out (keep_new _ _))
    rw [← hw4]
    have hgs4 : w.heap.size ≤ w3.heap.size := HK3.out.size
    have hltHD4 := HD3.out.lt
    clear hw4 HD3 DO3 HK3
    generalize w3.heap.size = go at *
    have b0 := HO4.out.cell 0; have b1 := HO4.out.cell 1
    simp only [List.getElem?_cons_succ, List.getElem?_cons_zero] at b0 b1
    go_wp2_with fail
    refine (RD.out _ _ _ DO4.out).mono ?_
    clear b0 b1 RD
    rintro e w5 ⟨A5, c5, rfl, ra, k5⟩
    have HD5 := Lib.hid (HD4.out.keep k5)
    have DO5 := Lib.hid (DO4.out.keep k5)
    have HO5 := Lib.hid (HO4.out.keep k5)
    have HK5 := Lib.hid (keep_trans HK4.out k5)
    clear k5 HD4 DO4 HO4 HK4
    have RA5 := Lib.hid ra
    clear ra
    have b0 := HD5.out.cell 0; have b1 := HD5.out.cell 1
    simp only [List.getElem?_cons_succ, List.getElem?_cons_zero] at b0 b1
    go_wp2_with fail
    refine (RRD.out _ _ _ (HH.out.keep HK5.out)).mono ?_
    clear b0 b1 RRD
    rintro e w6 ⟨A6, c6, rfl, ra, k6⟩
    have HD6 := Lib.hid (HD5.out.keep k6)
    have DO6 := Lib.hid (DO5.out.keep k6)
    have HO6 := Lib.hid (HO5.out.keep k6)
    have RA6 := Lib.hid (RA5.out.keep k6)
    have HK6 := Lib.hid (keep_trans HK5.out k6)
    clear k6 HD5 DO5 HO5 RA5 HK5
    have RB6 := Lib.hid ra
    clear ra
    have b0 := HO6.out.cell 0; have b1 := HO6.out.cell 1
    simp only [List.getElem?_cons_succ, List.getElem?_cons_zero] at b0 b1
    go_wp2_with fail
    refine (PU.out _ _ _ DO6.out (HDT.out.keep HK6.out) HDL.out).mono ?_
    clear b0 b1 PU
    rintro e w7 ⟨A7, c7, PA7, pc7, us7, rfl, hu, dx, k7⟩
    have HD7 := Lib.hid (HD6.out.keep k7)
    have DO7 := Lib.hid (DO6.out.keep k7)
    have HO7 := Lib.hid (HO6.out.keep k7)
    have RA7 := Lib.hid (RA6.out.keep k7)
    have RB7 := Lib.hid (RB6.out.keep k7)
    have HK7 := Lib.hid (keep_trans HK6.out k7)
    clear k7 HD6 DO6 HO6 RA6 RB6 HK6
    have DX7 := Lib.hid dx; have HU7 := Lib.hid hu
    clear dx hu
    go_upto_region 8 with fail
    obtain ⟨w8, hw8⟩ : ∃ w8, w8 = w7.alloc (.cells #[.slice A7 bb.length c7, .slice PA7 us7.length pc7] 30) := ⟨_, rfl⟩
    have HD8 : Hid (Blk w8 w.heap.size 25 [.slice A b.length c, .slice PA ws.length pc]) := by rw [hw8]; exact Lib.hid (HD7.out.alloc _)
    have DO8 : Hid (DOk w8 A b c PA5 ws pc5) := by rw [hw8]; exact Lib.hid (DO7.out.alloc _)
    have HO8 : Hid (Blk w8 go 30 [.slice A b.length c, .slice PA5 ws.length pc5]) := by rw [hw8]; exact Lib.hid (HO7.out.alloc _)
    have RA8 : Hid (Rd w8 A5 (RL.map u8v)) := by rw [hw8]; exact Lib.hid (RA7.out.alloc _)
    have RB8 : Hid (Rd w8 A6 (RL.map u8v)) := by rw [hw8]; exact Lib.hid (RB7.out.alloc _)
    have DX8 : Hid (DOk w8 A7 bb c7 PA7 us7 pc7) := by rw [hw8]; exact Lib.hid (DX7.out.alloc _)
    have HX8 : Hid (Blk w8 w7.heap.size 30 #[.slice A7 bb.length c7, .slice PA7 us7.length pc7].toList) := by rw [hw8]; exact Lib.hid (Blk.new w7 30 #[.slice A7 bb.length c7, .slice PA7 us7.length pc7].toList)
    have HK8 : Hid (Keep w w8) := by rw [hw8]; exact Lib.hid (keep_trans HK7.out (keep_new _ _))
    rw [← hw8]
    have hgs8 : w.heap.size ≤ w7.heap.size := HK7.out.size
    have hltHD8 := HD7.out.lt
    have hltHO8 := HO7.out.lt
    clear hw8 HD7 DO7 HO7 RA7 RB7 DX7 HK7
    generalize w7.heap.size = gx at *
    have b0 := HD8.out.cell 0; have b1 := HD8.out.cell 1
    simp only [List.getElem?_cons_succ, List.getElem?_cons_zero] at b0 b1
    go_wp2_with fail
    refine (RPU.out _ _ _ (HH.out.keep HK8.out) (HDT.out.keep HK8.out) HDL.out).mono ?_
    clear b0 b1 RPU
    rintro e w9 ⟨A9, c9, PA9, pc9, us9, rfl, hu, dx, k9⟩
    have HD9 := Lib.hid (HD8.out.keep k9)
    have DO9 := Lib.hid (DO8.out.keep k9)
    have HO9 := Lib.hid (HO8.out.keep k9)
    have RA9 := Lib.hid (RA8.out.keep k9)
    have RB9 := Lib.hid (RB8.out.keep k9)
    have DX9 := Lib.hid (DX8.out.keep k9)
    have HX9 := Lib.hid (HX8.out.keep k9)
    have HK9 := Lib.hid (keep_trans HK8.out k9)
    clear k9 HD8 DO8 HO8 RA8 RB8 DX8 HX8 HK8
    have DY9 := Lib.hid dx; have HU9 := Lib.hid hu
    clear dx hu
    go_upto_region 9 with fail
    obtain ⟨w10, hw10⟩ : ∃ w10, w10 = w9.alloc (.cells #[.slice A9 bb.length c9, .slice PA9 us9.length pc9] 25) := ⟨_, rfl⟩
    have HD10 : Hid (Blk w10 w.heap.size 25 [.slice A b.length c, .slice PA ws.length pc]) := by rw [hw10]; exact Lib.hid (HD9.out.alloc _)
    have DO10 : Hid (DOk w10 A b c PA5 ws pc5) := by rw [hw10]; exact Lib.hid (DO9.out.alloc _)
    have HO10 : Hid (Blk w10 go 30 [.slice A b.length c, .slice PA5 ws.length pc5]) := by rw [hw10]; exact Lib.hid (HO9.out.alloc _)
    have RA10 : Hid (Rd w10 A5 (RL.map u8v)) := by rw [hw10]; exact Lib.hid (RA9.out.alloc _)
    have RB10 : Hid (Rd w10 A6 (RL.map u8v)) := by rw [hw10]; exact Lib.hid (RB9.out.alloc _)
    have DX10 : Hid (DOk w10 A7 bb c7 PA7 us7 pc7) := by rw [hw10]; exact Lib.hid (DX9.out.alloc _)
    have HX10 : Hid (Blk w10 gx 30 [.slice A7 bb.length c7, .slice PA7 us7.length pc7]) := by rw [hw10]; exact Lib.hid (HX9.out.alloc _)
    have DY10 : Hid (DOk w10 A9 bb c9 PA9 us9 pc9) := by rw [hw10]; exact Lib.hid (DY9.out.alloc _)
    have HY10 : Hid (Blk w10 w9.heap.size 25 #[.slice A9 bb.length c9, .slice PA9 us9.length pc9].toList) := by rw [hw10]; exact Lib.hid (Blk.new w9 25 #[.slice A9 bb.length c9, .slice PA9 us9.length pc9].toList)
    have HK10 : Hid (Keep w w10) := by rw [hw10]; exact Lib.hid (keep_trans HK9.out (keep_new _ _))
    rw [← hw10]
    have hgs10 : w.heap.size ≤ w9.heap.size := HK9.out.size
    have hltHD10 := HD9.out.lt
    have hltHO10 := HO9.out.lt
    have hltHX10 := HX9.out.lt
    clear hw10 HD9 DO9 HO9 RA9 RB9 DX9 HX9 DY9 HK9
    generalize w9.heap.size = gy at *
    have b0 := HO10.out.cell 0; have b1 := HO10.out.cell 1
    simp only [List.getElem?_cons_succ, List.getElem?_cons_zero] at b0 b1
    go_wp2_with fail
    refine (LA.out _ _ _ DO10.out (HDT.out.keep HK10.out) HDL.out).mono ?_
    clear b0 b1 LA
    rintro e w11 ⟨A11, c11, PA11, pc11, us11, rfl, hu, dx, k11⟩
    have HD11 := Lib.hid (HD10.out.keep k11)
    have DO11 := Lib.hid (DO10.out.keep k11)
    have HO11 := Lib.hid (HO10.out.keep k11)
    have RA11 := Lib.hid (RA10.out.keep k11)
    have RB11 := Lib.hid (RB10.out.keep k11)
    have DX11 := Lib.hid (DX10.out.keep k11)
    have HX11 := Lib.hid (HX10.out.keep k11)
    have DY11 := Lib.hid (DY10.out.keep k11)
    have HY11 := Lib.hid (HY10.out.keep k11)
    have HK11 := Lib.hid (keep_trans HK10.out k11)
    clear k11 HD10 DO10 HO10 RA10 RB10 DX10 HX10 DY10 HY10 HK10
    have DZ11 := Lib.hid dx; have HU11 := Lib.hid hu
    clear dx hu
    go_upto_region 10 with fail
    obtain ⟨w12, hw12⟩ : ∃ w12, w12 = w11.alloc (.cells #[.slice A11 bb.length c11, .slice PA11 us11.length pc11] 30) := ⟨_, rfl⟩
    have HD12 : Hid (Blk w12 w.heap.size 25 [.slice A b.length c, .slice PA ws.length pc]) := by rw [hw12]; exact Lib.hid (HD11.out.alloc _)
    have DO12 : Hid (DOk w12 A b c PA5 ws pc5) := by rw [hw12]; exact Lib.hid (DO11.out.alloc _)
    have HO12 : Hid (Blk w12 go 30 [.slice A b.length c, .slice PA5 ws.length pc5]) := by rw [hw12]; exact Lib.hid (HO11.out.alloc _)
    have RA12 : Hid (Rd w12 A5 (RL.map u8v)) := by rw [hw12]; exact Lib.hid (RA11.out.alloc _)
    have RB12 : Hid (Rd w12 A6 (RL.map u8v)) := by rw [hw12]; exact Lib.hid (RB11.out.alloc _)
    have DX12 : Hid (DOk w12 A7 bb c7 PA7 us7 pc7) := by rw [hw12]; exact Lib.hid (DX11.out.alloc _)
    have HX12 : Hid (Blk w12 gx 30 [.slice A7 bb.length c7, .slice PA7 us7.length pc7]) := by rw [hw12]; exact Lib.hid (HX11.out.alloc _)
    have DY12 : Hid (DOk w12 A9 bb c9 PA9 us9 pc9) := by rw [hw12]; exact Lib.hid (DY11.out.alloc _)
    have HY12 : Hid (Blk w12 gy 25 [.slice A9 bb.length c9, .slice PA9 us9.length pc9]) := by rw [hw12]; exact Lib.hid (HY11.out.alloc _)
    have DZ12 : Hid (DOk w12 A11 bb c11 PA11 us11 pc11) := by rw [hw12]; exact Lib.hid (DZ11.out.alloc _)
    have HZ12 : Hid (Blk w12 w11.heap.size 30 #[.slice A11 bb.length c11, .slice PA11 us11.length pc11].toList) := by rw [hw12]; exact Lib.hid (Blk.new w11 30 #[.slice A11 bb.length c11, .slice PA11 us11.length pc11].toList)
    have HK12 : Hid (Keep w w12) := by rw [hw12]; exact Lib.hid (keep_trans HK11.out (keep_new _ _))
    rw [← hw12]
    have hgs12 : w.heap.size ≤ w11.heap.size := HK11.out.size
    have hltHD12 := HD11.out.lt
    have hltHO12 := HO11.out.lt
    have hltHX12 := HX11.out.lt
    have hltHY12 := HY11.out.lt
    clear hw12 HD11 DO11 HO11 RA11 RB11 DX11 HX11 DY11 HY11 DZ11 HK11
    generalize w11.heap.size = gz at *
    have b0 := HD12.out.cell 0; have b1 := HD12.out.cell 1
    simp only [List.getElem?_cons_succ, List.getElem?_cons_zero] at b0 b1
    go_wp2_with fail
    refine (RLA.out _ _ _ (HH.out.keep HK12.out) (HDT.out.keep HK12.out) HDL.out).mono ?_
    clear b0 b1 RLA
    rintro e w13 ⟨A13, c13, PA13, pc13, us13, rfl, hu, dx, k13⟩
    have HD13 := Lib.hid (HD12.out.keep k13)
    have DO13 := Lib.hid (DO12.out.keep k13)
    have HO13 := Lib.hid (HO12.out.keep k13)
    have RA13 := Lib.hid (RA12.out.keep k13)
    have RB13 := Lib.hid (RB12.out.keep k13)
    have DX13 := Lib.hid (DX12.out.keep k13)
    have HX13 := Lib.hid (HX12.out.keep k13)
    have DY13 := Lib.hid (DY12.out.keep k13)
    have HY13 := Lib.hid (HY12.out.keep k13)
    have DZ13 := Lib.hid (DZ12.out.keep k13)
    have HZ13 := Lib.hid (HZ12.out.keep k13)
    have HK13 := Lib.hid (keep_trans HK12.out k13)
    clear k13 HD12 DO12 HO12 RA12 RB12 DX12 HX12 DY12 HY12 DZ12 HZ12 HK12
    have DW13 := Lib.hid dx; have HU13 := Lib.hid hu
    clear dx hu
    go_upto_region 11 with fail
    obtain ⟨w14, hw14⟩ : ∃ w14, w14 = w13.alloc (.cells #[.slice A13 bb.length c13, .slice PA13 us13.length pc13] 25) := ⟨_, rfl⟩
    have HD14 : Hid (Blk w14 w.heap.size 25 [.slice A b.length c, .slice PA ws.length pc]) := by rw [hw14]; exact Lib.hid (HD13.out.alloc _)
    have DO14 : Hid (DOk w14 A b c PA5 ws pc5) := by rw [hw14]; exact Lib.hid (DO13.out.alloc _)
    have HO14 : Hid (Blk w14 go 30 [.slice A b.length c, .slice PA5 ws.length pc5]) := by rw [hw14]; exact Lib.hid (HO13.out.alloc _)
    have RA14 : Hid (Rd w14 A5 (RL.map u8v)) := by rw [hw14]; exact Lib.hid (RA13.out.alloc _)
    have RB14 : Hid (Rd w14 A6 (RL.map u8v)) := by rw [hw14]; exact Lib.hid (RB13.out.alloc _)
    have DX14 : Hid (DOk w14 A7 bb c7 PA7 us7 pc7) := by rw [hw14]; exact Lib.hid (DX13.out.alloc _)
    have HX14 : Hid (Blk w14 gx 30 [.slice A7 bb.length c7, .slice PA7 us7.length pc7]) := by rw [hw14]; exact Lib.hid (HX13.out.alloc _)
    have DY14 : Hid (DOk w14 A9 bb c9 PA9 us9 pc9) := by rw [hw14]; exact Lib.hid (DY13.out.alloc _)
    have HY14 : Hid (Blk w14 gy 25 [.slice A9 bb.length c9, .slice PA9 us9.length pc9]) := by rw [hw14]; exact Lib.hid (HY13.out.alloc _)
    have DZ14 : Hid (DOk w14 A11 bb c11 PA11 us11 pc11) := by rw [hw14]; exact Lib.hid (DZ13.out.alloc _)
    have HZ14 : Hid (Blk w14 gz 30 [.slice A11 bb.length c11, .slice PA11 us11.length pc11]) := by rw [hw14]; exact Lib.hid (HZ13.out.alloc _)
    have DW14 : Hid (DOk w14 A13 bb c13 PA13 us13 pc13) := by rw [hw14]; exact Lib.hid (DW13.out.alloc _)
    have HV14 : Hid (Blk w14 w13.heap.size 25 #[.slice A13 bb.length c13, .slice PA13 us13.length pc13].toList) := by rw [hw14]; exact Lib.hid (Blk.new w13 25 #[.slice A13 bb.length c13, .slice PA13 us13.length pc13].toList)
    have HK14 : Hid (Keep w w14) := by rw [hw14]; exact Lib.hid (keep_trans HK13.out (keep_new _ _))
    rw [← hw14]
    have hgs14 : w.heap.size ≤ w13.heap.size := HK13.out.size
    have hltHD14 := HD13.out.lt
    have hltHO14 := HO13.out.lt
    have hltHX14 := HX13.out.lt
    have hltHY14 := HY13.out.lt
    have hltHZ14 := HZ13.out.lt
    clear hw14 HD13 DO13 HO13 RA13 RB13 DX13 HX13 DY13 HY13 DZ13 HZ13 DW13 HK13
    generalize w13.heap.size = gv at *
    clear HDT HDL
    have LX := Lib.hid (HPL.out us7 HU7.out); have LZ := Lib.hid (HLL.out us11 HU11.out)
    have EX : Hid (us7.map WriteR.pl = us9.map WriteR.pl) := Lib.hid (HU7.out.trans HU9.out.symm)
    have EZ : Hid (us11.map WriteR.pl = us13.map WriteR.pl) := Lib.hid (HU11.out.trans HU13.out.symm)
    clear HPL HLL HU7 HU9 HU11 HU13
    go_cut [126] (fun v wx => v = .bool false ∧ Hid (Blk wx w.heap.size 25 [.slice A b.length c, .slice PA ws.length pc]) ∧ Hid (Blk wx go 30 [.slice A b.length c, .slice PA5 ws.length pc5]) ∧ Hid (DOk wx A b c PA5 ws pc5) ∧ Hid (Keep w14 wx))
    case first =>
      have KW := HK14
      refine wp_region_tree (.take [0,1,2,3,4,5,6,7,8,9,10,11,13] (.force [12,14] (.take [15,16,17,18,19,20,21,22,23,25] (.force [24,26] (.take [27,28,29,30,31,32,33,34,35,37] (.force [36,38] (.take [39,40] .done))))))) [] (by kernel_rfl) (by kernel_rfl) (fun y0 hk => ?_)
      have Q := Lib.hid hk
      have HD14 := Lib.hid (HD14.out.keep hk)
      have HO14 := Lib.hid (HO14.out.keep hk)
      have DO14 := Lib.hid (DO14.out.keep hk)
      have HX14 := Lib.hid (HX14.out.keep hk)
      have DX14 := Lib.hid (DX14.out.keep hk)
      have HY14 := Lib.hid (HY14.out.keep hk)
      have DY14 := Lib.hid (DY14.out.keep hk)
      have HZ14 := Lib.hid (HZ14.out.keep hk)
      have DZ14 := Lib.hid (DZ14.out.keep hk)
      have HV14 := Lib.hid (HV14.out.keep hk)
      have DW14 := Lib.hid (DW14.out.keep hk)
      have RA14 := Lib.hid (RA14.out.keep hk)
      have RB14 := Lib.hid (RB14.out.keep hk)
      have KW := Lib.hid (keep_trans KW.out hk)
      clear hk
      refine mt_take y0 (Below.refl _ _) ?_
      simp only [pick_cons, pick_nil, nth_zero, nth_succ]
      have v1 : ∀ y, (convert 22 9 (.slice A5 RL.length c5)).run Try.prog (aft y0 y) = .ok (.string (str RL)) (aft y0 y) := fun y => bcv _ (RA14.out.keep (aft_keep _ _))
      have v2 : ∀ y, (convert 22 9 (.slice A6 RL.length c6)).run Try.prog (aft y0 y) = .ok (.string (str RL)) (aft y0 y) := fun y => bcv _ (RB14.out.keep (aft_keep _ _))
      have lx0 := aft_cell (HX14.out.cell 0); have lx1 := aft_cell (HX14.out.cell 1)
      have ly0 := aft_cell (HY14.out.cell 0); have ly1 := aft_cell (HY14.out.cell 1)
      repeat (go_big_quiet_step (fail))
      clear v1 v2 lx0 lx1 ly0 ly1
      refine wpQuiet_nil (mt_force ?_)
      simp only [pick_cons, pick_nil, nth_zero, nth_succ]
      refine fc_step rfl (fun K hK => ?_)
      go_simp
      (with_reducible refine (FL.out y0 _ _ _ _ _ _ DX14.out LX.out).mono ?_)
      rintro e y1 ⟨fPA, fpc, rfl, fd, hk⟩
      refine hK _ _ hk ?_
      clear hK K
      have HQ12 : w14.heap.size ≤ y0.heap.size := Q.out.size
      have Hprev := Q
      replace Q := Lib.hid (keep_trans Q.out hk)
      have hs_y1 : y0.heap.size ≤ y1.heap.size := hk.size
      replace HD14 := Lib.hid (HD14.out.keep hk)
      replace HO14 := Lib.hid (HO14.out.keep hk)
      replace DO14 := Lib.hid (DO14.out.keep hk)
      replace HX14 := Lib.hid (HX14.out.keep hk)
      replace DX14 := Lib.hid (DX14.out.keep hk)
      replace HY14 := Lib.hid (HY14.out.keep hk)
      replace DY14 := Lib.hid (DY14.out.keep hk)
      replace HZ14 := Lib.hid (HZ14.out.keep hk)
      replace DZ14 := Lib.hid (DZ14.out.keep hk)
      replace HV14 := Lib.hid (HV14.out.keep hk)
      replace DW14 := Lib.hid (DW14.out.keep hk)
      replace RA14 := Lib.hid (RA14.out.keep hk)
      replace RB14 := Lib.hid (RB14.out.keep hk)
      replace KW := Lib.hid (keep_trans KW.out hk)
      have FX := Lib.hid fd
      clear fd
      clear hk
      refine fc_step rfl (fun K hK => ?_)
      go_simp
      (with_reducible refine (SM.out y1 _ _ _ _ _ _ _ _ _ _ _ FX.out DY14.out EX.out).mono ?_)
      rintro e y2 ⟨rfl, hk⟩
      refine hK _ _ hk ?_
      clear hK K
      have HQ14 : w14.heap.size ≤ y1.heap.size := Q.out.size
      have Hprev := Q
      replace Q := Lib.hid (keep_trans Q.out hk)
      have hs_y2 : y1.heap.size ≤ y2.heap.size := hk.size
      replace HD14 := Lib.hid (HD14.out.keep hk)
      replace HO14 := Lib.hid (HO14.out.keep hk)
      replace DO14 := Lib.hid (DO14.out.keep hk)
      replace HX14 := Lib.hid (HX14.out.keep hk)
      replace DX14 := Lib.hid (DX14.out.keep hk)
      replace HY14 := Lib.hid (HY14.out.keep hk)
      replace DY14 := Lib.hid (DY14.out.keep hk)
      replace HZ14 := Lib.hid (HZ14.out.keep hk)
      replace DZ14 := Lib.hid (DZ14.out.keep hk)
      replace HV14 := Lib.hid (HV14.out.keep hk)
      replace DW14 := Lib.hid (DW14.out.keep hk)
      replace RA14 := Lib.hid (RA14.out.keep hk)
      replace RB14 := Lib.hid (RB14.out.keep hk)
      replace KW := Lib.hid (keep_trans KW.out hk)
      replace FX := Lib.hid (FX.out.keep hk)
      clear hk
      refine fc_nil (mt_take y2 (Below.refl _ _) ?_)
      simp only [pick_cons, pick_nil, nth_zero, nth_succ]
      have lz0 := aft_cell (HZ14.out.cell 0); have lz1 := aft_cell (HZ14.out.cell 1)
      have lv0 := aft_cell (HV14.out.cell 0); have lv1 := aft_cell (HV14.out.cell 1)
      repeat (go_big_quiet_step (fail))
      clear lz0 lz1 lv0 lv1
      refine wpQuiet_nil (mt_force ?_)
      simp only [pick_cons, pick_nil, nth_zero, nth_succ]
      refine fc_step rfl (fun K hK => ?_)
      go_simp
      (with_reducible refine (FL.out y2 _ _ _ _ _ _ DZ14.out LZ.out).mono ?_)
      rintro e y3 ⟨gPA, gpc, rfl, fd, hk⟩
      refine hK _ _ hk ?_
      clear hK K
      have HQ24 : w14.heap.size ≤ y2.heap.size := Q.out.size
      have Hprev := Q
      replace Q := Lib.hid (keep_trans Q.out hk)
      have hs_y3 : y2.heap.size ≤ y3.heap.size := hk.size
      replace HD14 := Lib.hid (HD14.out.keep hk)
      replace HO14 := Lib.hid (HO14.out.keep hk)
      replace DO14 := Lib.hid (DO14.out.keep hk)
      replace HX14 := Lib.hid (HX14.out.keep hk)
      replace DX14 := Lib.hid (DX14.out.keep hk)
      replace HY14 := Lib.hid (HY14.out.keep hk)
      replace DY14 := Lib.hid (DY14.out.keep hk)
      replace HZ14 := Lib.hid (HZ14.out.keep hk)
      replace DZ14 := Lib.hid (DZ14.out.keep hk)
      replace HV14 := Lib.hid (HV14.out.keep hk)
      replace DW14 := Lib.hid (DW14.out.keep hk)
      replace RA14 := Lib.hid (RA14.out.keep hk)
      replace RB14 := Lib.hid (RB14.out.keep hk)
      replace KW := Lib.hid (keep_trans KW.out hk)
      replace FX := Lib.hid (FX.out.keep hk)
      have FZ := Lib.hid fd
      clear fd
      clear hk
      refine fc_step rfl (fun K hK => ?_)
      go_simp
      (with_reducible refine (SM.out y3 _ _ _ _ _ _ _ _ _ _ _ FZ.out DW14.out EZ.out).mono ?_)
      rintro e y4 ⟨rfl, hk⟩
      refine hK _ _ hk ?_
      clear hK K
      have HQ26 : w14.heap.size ≤ y3.heap.size := Q.out.size
      have Hprev := Q
      replace Q := Lib.hid (keep_trans Q.out hk)
      have hs_y4 : y3.heap.size ≤ y4.heap.size := hk.size
      replace HD14 := Lib.hid (HD14.out.keep hk)
      replace HO14 := Lib.hid (HO14.out.keep hk)
      replace DO14 := Lib.hid (DO14.out.keep hk)
      replace HX14 := Lib.hid (HX14.out.keep hk)
      replace DX14 := Lib.hid (DX14.out.keep hk)
      replace HY14 := Lib.hid (HY14.out.keep hk)
      replace DY14 := Lib.hid (DY14.out.keep hk)
      replace HZ14 := Lib.hid (HZ14.out.keep hk)
      replace DZ14 := Lib.hid (DZ14.out.keep hk)
      replace HV14 := Lib.hid (HV14.out.keep hk)
      replace DW14 := Lib.hid (DW14.out.keep hk)
      replace RA14 := Lib.hid (RA14.out.keep hk)
      replace RB14 := Lib.hid (RB14.out.keep hk)
      replace KW := Lib.hid (keep_trans KW.out hk)
      replace FX := Lib.hid (FX.out.keep hk)
      replace FZ := Lib.hid (FZ.out.keep hk)
      clear hk
      refine fc_nil (mt_take y4 (Below.refl _ _) ?_)
      simp only [pick_cons, pick_nil, nth_zero, nth_succ]
      have lo0 := aft_cell (HO14.out.cell 0); have lo1 := aft_cell (HO14.out.cell 1)
      have ld0 := aft_cell (HD14.out.cell 0); have ld1 := aft_cell (HD14.out.cell 1)
      repeat (go_big_quiet_step (fail))
      clear lo0 lo1 ld0 ld1
      refine wpQuiet_nil (mt_force ?_)
      simp only [pick_cons, pick_nil, nth_zero, nth_succ]
      refine fc_step rfl (fun K hK => ?_)
      go_simp
      (with_reducible refine (SA.out y4 _ _ DO14.out).mono ?_)
      rintro e y5 ⟨rfl, hk⟩
      refine hK _ _ hk ?_
      clear hK K
      have HQ36 : w14.heap.size ≤ y4.heap.size := Q.out.size
      have Hprev := Q
      replace Q := Lib.hid (keep_trans Q.out hk)
      have hs_y5 : y4.heap.size ≤ y5.heap.size := hk.size
      replace HD14 := Lib.hid (HD14.out.keep hk)
      replace HO14 := Lib.hid (HO14.out.keep hk)
      replace DO14 := Lib.hid (DO14.out.keep hk)
      replace HX14 := Lib.hid (HX14.out.keep hk)
      replace DX14 := Lib.hid (DX14.out.keep hk)
      replace HY14 := Lib.hid (HY14.out.keep hk)
      replace DY14 := Lib.hid (DY14.out.keep hk)
      replace HZ14 := Lib.hid (HZ14.out.keep hk)
      replace DZ14 := Lib.hid (DZ14.out.keep hk)
      replace HV14 := Lib.hid (HV14.out.keep hk)
      replace DW14 := Lib.hid (DW14.out.keep hk)
      replace RA14 := Lib.hid (RA14.out.keep hk)
      replace RB14 := Lib.hid (RB14.out.keep hk)
      replace KW := Lib.hid (keep_trans KW.out hk)
      replace FX := Lib.hid (FX.out.keep hk)
      replace FZ := Lib.hid (FZ.out.keep hk)
      clear hk
      refine fc_step rfl (fun K hK => ?_)
      go_simp
      (with_reducible refine (RSA.out y5 _ _ (HH.out.keep KW.out)).mono ?_)
      rintro e y6 ⟨rfl, hk⟩
      refine hK _ _ hk ?_
      clear hK K
      have HQ38 : w14.heap.size ≤ y5.heap.size := Q.out.size
      have Hprev := Q
      replace Q := Lib.hid (keep_trans Q.out hk)
      have hs_y6 : y5.heap.size ≤ y6.heap.size := hk.size
      replace HD14 := Lib.hid (HD14.out.keep hk)
      replace HO14 := Lib.hid (HO14.out.keep hk)
      replace DO14 := Lib.hid (DO14.out.keep hk)
      replace HX14 := Lib.hid (HX14.out.keep hk)
      replace DX14 := Lib.hid (DX14.out.keep hk)
      replace HY14 := Lib.hid (HY14.out.keep hk)
      replace DY14 := Lib.hid (DY14.out.keep hk)
      replace HZ14 := Lib.hid (HZ14.out.keep hk)
      replace DZ14 := Lib.hid (DZ14.out.keep hk)
      replace HV14 := Lib.hid (HV14.out.keep hk)
      replace DW14 := Lib.hid (DW14.out.keep hk)
      replace RA14 := Lib.hid (RA14.out.keep hk)
      replace RB14 := Lib.hid (RB14.out.keep hk)
      replace KW := Lib.hid (keep_trans KW.out hk)
      replace FX := Lib.hid (FX.out.keep hk)
      replace FZ := Lib.hid (FZ.out.keep hk)
      clear hk
      refine fc_nil (mt_take y6 (Below.refl _ _) ?_)
      simp only [pick_cons, pick_nil, nth_zero, nth_succ]
      repeat (go_big_quiet_step (fail))
      refine wpQuiet_nil (mt_end ?_)
      go_wp2
      go_meet
      exact ⟨rfl, HD14, HO14, DO14, Q⟩
    obtain ⟨rfl, HD15, HO15, DO15, hk⟩ := hcut
    have HK15 := Lib.hid (keep_trans HK14.out hk.out)
    clear hk HK14 HD14 HO14 DO14 HX14 DX14 HY14 DY14 HZ14 DZ14 HV14 DW14 RA14 RB14 LX LZ EX EZ SA RSA
    go_upto_region 13 with fail
    have KW := HK15
    refine wp_region_tree (.take [0,1,2,5] (.force [3] (.take [4] (.force [6] (.take [7,8,9,10,11,14] (.force [12,13,15,16] (.take [17,18,19,20,23,24] (.force [21,22,25,26] (.take [27,28,29,32] (.force [30,31,33,34] (.take [35,36] .done))))))))))) [] (by kernel_rfl) (by kernel_rfl) (fun y0 hk => ?_)
    have Q := Lib.hid hk
    have HD15 := Lib.hid (HD15.out.keep hk)
    have HO15 := Lib.hid (HO15.out.keep hk)
    have DO15 := Lib.hid (DO15.out.keep hk)
    have KW := Lib.hid (keep_trans KW.out hk)
    clear hk
    refine mt_take y0 (Below.refl _ _) ?_
    simp only [pick_cons, pick_nil, nth_zero, nth_succ]
    have lo0 := aft_cell (HO15.out.cell 0); have lo1 := aft_cell (HO15.out.cell 1)
    have ld0 := aft_cell (HD15.out.cell 0); have ld1 := aft_cell (HD15.out.cell 1)
    repeat (go_big_quiet_step (fail))
    clear lo0 lo1 ld0 ld1
    refine wpQuiet_nil (mt_force ?_)
    simp only [pick_cons, pick_nil, nth_zero, nth_succ]
    refine fc_step rfl (fun K hK => ?_)
    go_simp
    (with_reducible refine (BY.out y0 _ _ DO15.out).mono ?_)
    rintro e y1 ⟨ya, yc, rfl, fd, hk⟩
    refine hK _ _ hk ?_
    clear hK K
    have HQ3 : wc.heap.size ≤ y0.heap.size := Q.out.size
    have Hprev := Q
    replace Q := Lib.hid (keep_trans Q.out hk)
    have hs_y1 : y0.heap.size ≤ y1.heap.size := hk.size
    replace HD15 := Lib.hid (HD15.out.keep hk)
    replace HO15 := Lib.hid (HO15.out.keep hk)
    replace DO15 := Lib.hid (DO15.out.keep hk)
    replace KW := Lib.hid (keep_trans KW.out hk)
    have YA := Lib.hid fd
    clear fd
    clear hk
    refine fc_nil (mt_take y1 (Below.refl _ _) ?_)
    simp only [pick_cons, pick_nil, nth_zero, nth_succ]
    have v1 : ∀ y, (convert 22 9 (.slice ya YY.length yc)).run Try.prog (aft y1 y) = .ok (.string (str YY)) (aft y1 y) := fun y => bcv _ (YA.out.keep (aft_keep _ _))
    repeat (go_big_quiet_step (fail))
    clear v1
    refine wpQuiet_nil (mt_force ?_)
    simp only [pick_cons, pick_nil, nth_zero, nth_succ]
    refine fc_step rfl (fun K hK => ?_)
    go_simp
    (with_reducible refine (RBY.out y1 _ _ (HH.out.keep KW.out)).mono ?_)
    rintro e y2 ⟨za, zc, rfl, fd, hk⟩
    refine hK _ _ hk ?_
    clear hK K
    have HQ6 : wc.heap.size ≤ y1.heap.size := Q.out.size
    have Hprev := Q
    replace Q := Lib.hid (keep_trans Q.out hk)
    have hs_y2 : y1.heap.size ≤ y2.heap.size := hk.size
    replace HD15 := Lib.hid (HD15.out.keep hk)
    replace HO15 := Lib.hid (HO15.out.keep hk)
    replace DO15 := Lib.hid (DO15.out.keep hk)
    replace KW := Lib.hid (keep_trans KW.out hk)
    replace YA := Lib.hid (YA.out.keep hk)
    have YB := Lib.hid fd
    clear fd
    clear hk
    refine fc_nil (mt_take y2 (Below.refl _ _) ?_)
    simp only [pick_cons, pick_nil, nth_zero, nth_succ]
    have lo0 := aft_cell (HO15.out.cell 0); have lo1 := aft_cell (HO15.out.cell 1)
    have ld0 := aft_cell (HD15.out.cell 0); have ld1 := aft_cell (HD15.out.cell 1)
    have v2 : ∀ y, (convert 22 9 (.slice za YY.length zc)).run Try.prog (aft y2 y) = .ok (.string (str YY)) (aft y2 y) := fun y => bcv _ (YB.out.keep (aft_keep _ _))
    repeat (go_big_quiet_step (fail))
    clear lo0 lo1 ld0 ld1 v2
    refine wpQuiet_nil (mt_force ?_)
    simp only [pick_cons, pick_nil, nth_zero, nth_succ]
    refine fc_step rfl (fun K hK => ?_)
    go_simp
    (with_reducible refine (SY.out y2 _ _ DO15.out).mono ?_)
    rintro e y3 ⟨aS1, cS1, rfl, fd, hk⟩
    refine hK _ _ hk ?_
    clear hK K
    have HQ12 : wc.heap.size ≤ y2.heap.size := Q.out.size
    have Hprev := Q
    replace Q := Lib.hid (keep_trans Q.out hk)
    have hs_y3 : y2.heap.size ≤ y3.heap.size := hk.size
    replace HD15 := Lib.hid (HD15.out.keep hk)
    replace HO15 := Lib.hid (HO15.out.keep hk)
    replace DO15 := Lib.hid (DO15.out.keep hk)
    replace KW := Lib.hid (keep_trans KW.out hk)
    replace YA := Lib.hid (YA.out.keep hk)
    replace YB := Lib.hid (YB.out.keep hk)
    have S1 := Lib.hid fd
    clear fd
    clear hk
    refine fc_step rfl (fun K hK => ?_)
    go_simp
    (with_reducible refine (FL0.out y3 _ _ _ S1.out).mono ?_)
    rintro e y4 ⟨qS2, pS2, rfl, fd, hk⟩
    refine hK _ _ hk ?_
    clear hK K
    have HQ13 : wc.heap.size ≤ y3.heap.size := Q.out.size
    have Hprev := Q
    replace Q := Lib.hid (keep_trans Q.out hk)
    have hs_y4 : y3.heap.size ≤ y4.heap.size := hk.size
    replace HD15 := Lib.hid (HD15.out.keep hk)
    replace HO15 := Lib.hid (HO15.out.keep hk)
    replace DO15 := Lib.hid (DO15.out.keep hk)
    replace KW := Lib.hid (keep_trans KW.out hk)
    replace YA := Lib.hid (YA.out.keep hk)
    replace YB := Lib.hid (YB.out.keep hk)
    replace S1 := Lib.hid (S1.out.keep hk)
    have S2 := Lib.hid fd
    clear fd
    clear hk
    refine fc_step rfl (fun K hK => ?_)
    go_simp
    (with_reducible refine (RSY.out y4 _ _ (HH.out.keep KW.out)).mono ?_)
    rintro e y5 ⟨aS3, cS3, rfl, fd, hk⟩
    refine hK _ _ hk ?_
    clear hK K
    have HQ15 : wc.heap.size ≤ y4.heap.size := Q.out.size
    have Hprev := Q
    replace Q := Lib.hid (keep_trans Q.out hk)
    have hs_y5 : y4.heap.size ≤ y5.heap.size := hk.size
    replace HD15 := Lib.hid (HD15.out.keep hk)
    replace HO15 := Lib.hid (HO15.out.keep hk)
    replace DO15 := Lib.hid (DO15.out.keep hk)
    replace KW := Lib.hid (keep_trans KW.out hk)
    replace YA := Lib.hid (YA.out.keep hk)
    replace YB := Lib.hid (YB.out.keep hk)
    replace S1 := Lib.hid (S1.out.keep hk)
    replace S2 := Lib.hid (S2.out.keep hk)
    have S3 := Lib.hid fd
    clear fd
    clear hk
    refine fc_step rfl (fun K hK => ?_)
    go_simp
    (with_reducible refine (SM0.out y5 _ _ _ _ _ _ _ S2.out S3.out).mono ?_)
    rintro e y6 ⟨rfl, hk⟩
    refine hK _ _ hk ?_
    clear hK K
    have HQ16 : wc.heap.size ≤ y5.heap.size := Q.out.size
    have Hprev := Q
    replace Q := Lib.hid (keep_trans Q.out hk)
    have hs_y6 : y5.heap.size ≤ y6.heap.size := hk.size
    replace HD15 := Lib.hid (HD15.out.keep hk)
    replace HO15 := Lib.hid (HO15.out.keep hk)
    replace DO15 := Lib.hid (DO15.out.keep hk)
    replace KW := Lib.hid (keep_trans KW.out hk)
    replace YA := Lib.hid (YA.out.keep hk)
    replace YB := Lib.hid (YB.out.keep hk)
    replace S1 := Lib.hid (S1.out.keep hk)
    replace S2 := Lib.hid (S2.out.keep hk)
    replace S3 := Lib.hid (S3.out.keep hk)
    clear hk
    refine fc_nil (mt_take y6 (Below.refl _ _) ?_)
    simp only [pick_cons, pick_nil, nth_zero, nth_succ]
    have lo0 := aft_cell (HO15.out.cell 0); have lo1 := aft_cell (HO15.out.cell 1)
    have ld0 := aft_cell (HD15.out.cell 0); have ld1 := aft_cell (HD15.out.cell 1)
    repeat (go_big_quiet_step (fail))
    clear lo0 lo1 ld0 ld1
    refine wpQuiet_nil (mt_force ?_)
    simp only [pick_cons, pick_nil, nth_zero, nth_succ]
    refine fc_step rfl (fun K hK => ?_)
    go_simp
    (with_reducible refine (CR.out y6 _ _ DO15.out (HPT.out.keep KW.out) HPLn.out).mono ?_)
    rintro e y7 ⟨aS4, cS4, rfl, fd, hk⟩
    refine hK _ _ hk ?_
    clear hK K
    have HQ21 : wc.heap.size ≤ y6.heap.size := Q.out.size
    have Hprev := Q
    replace Q := Lib.hid (keep_trans Q.out hk)
    have hs_y7 : y6.heap.size ≤ y7.heap.size := hk.size
    replace HD15 := Lib.hid (HD15.out.keep hk)
    replace HO15 := Lib.hid (HO15.out.keep hk)
    replace DO15 := Lib.hid (DO15.out.keep hk)
    replace KW := Lib.hid (keep_trans KW.out hk)
    replace YA := Lib.hid (YA.out.keep hk)
    replace YB := Lib.hid (YB.out.keep hk)
    replace S1 := Lib.hid (S1.out.keep hk)
    replace S2 := Lib.hid (S2.out.keep hk)
    replace S3 := Lib.hid (S3.out.keep hk)
    have S4 := Lib.hid fd
    clear fd
    clear hk
    refine fc_step rfl (fun K hK => ?_)
    go_simp
    (with_reducible refine (FL0.out y7 _ _ _ S4.out).mono ?_)
    rintro e y8 ⟨qS5, pS5, rfl, fd, hk⟩
    refine hK _ _ hk ?_
    clear hK K
    have HQ22 : wc.heap.size ≤ y7.heap.size := Q.out.size
    have Hprev := Q
    replace Q := Lib.hid (keep_trans Q.out hk)
    have hs_y8 : y7.heap.size ≤ y8.heap.size := hk.size
    replace HD15 := Lib.hid (HD15.out.keep hk)
    replace HO15 := Lib.hid (HO15.out.keep hk)
    replace DO15 := Lib.hid (DO15.out.keep hk)
    replace KW := Lib.hid (keep_trans KW.out hk)
    replace YA := Lib.hid (YA.out.keep hk)
    replace YB := Lib.hid (YB.out.keep hk)
    replace S1 := Lib.hid (S1.out.keep hk)
    replace S2 := Lib.hid (S2.out.keep hk)
    replace S3 := Lib.hid (S3.out.keep hk)
    replace S4 := Lib.hid (S4.out.keep hk)
    have S5 := Lib.hid fd
    clear fd
    clear hk
    refine fc_step rfl (fun K hK => ?_)
    go_simp
    (with_reducible refine (RCR.out y8 _ _ (HH.out.keep KW.out) (HPT.out.keep KW.out) HPLn.out).mono ?_)
    rintro e y9 ⟨aS6, cS6, rfl, fd, hk⟩
    refine hK _ _ hk ?_
    clear hK K
    have HQ25 : wc.heap.size ≤ y8.heap.size := Q.out.size
    have Hprev := Q
    replace Q := Lib.hid (keep_trans Q.out hk)
    have hs_y9 : y8.heap.size ≤ y9.heap.size := hk.size
    replace HD15 := Lib.hid (HD15.out.keep hk)
    replace HO15 := Lib.hid (HO15.out.keep hk)
    replace DO15 := Lib.hid (DO15.out.keep hk)
    replace KW := Lib.hid (keep_trans KW.out hk)
    replace YA := Lib.hid (YA.out.keep hk)
    replace YB := Lib.hid (YB.out.keep hk)
    replace S1 := Lib.hid (S1.out.keep hk)
    replace S2 := Lib.hid (S2.out.keep hk)
    replace S3 := Lib.hid (S3.out.keep hk)
    replace S4 := Lib.hid (S4.out.keep hk)
    replace S5 := Lib.hid (S5.out.keep hk)
    have S6 := Lib.hid fd
    clear fd
    clear hk
    refine fc_step rfl (fun K hK => ?_)
    go_simp
    (with_reducible refine (SM0.out y9 _ _ _ _ _ _ _ S5.out S6.out).mono ?_)
    rintro e y10 ⟨rfl, hk⟩
    refine hK _ _ hk ?_
    clear hK K
    have HQ26 : wc.heap.size ≤ y9.heap.size := Q.out.size
    have Hprev := Q
    replace Q := Lib.hid (keep_trans Q.out hk)
    have hs_y10 : y9.heap.size ≤ y10.heap.size := hk.size
    replace HD15 := Lib.hid (HD15.out.keep hk)
    replace HO15 := Lib.hid (HO15.out.keep hk)
    replace DO15 := Lib.hid (DO15.out.keep hk)
    replace KW := Lib.hid (keep_trans KW.out hk)
    replace YA := Lib.hid (YA.out.keep hk)
    replace YB := Lib.hid (YB.out.keep hk)
    replace S1 := Lib.hid (S1.out.keep hk)
    replace S2 := Lib.hid (S2.out.keep hk)
    replace S3 := Lib.hid (S3.out.keep hk)
    replace S4 := Lib.hid (S4.out.keep hk)
    replace S5 := Lib.hid (S5.out.keep hk)
    replace S6 := Lib.hid (S6.out.keep hk)
    clear hk
    refine fc_nil (mt_take y10 (Below.refl _ _) ?_)
    simp only [pick_cons, pick_nil, nth_zero, nth_succ]
    repeat (go_big_quiet_step (fail))
    refine wpQuiet_nil (mt_force ?_)
    simp only [pick_cons, pick_nil, nth_zero, nth_succ]
    refine fc_step rfl (fun K hK => ?_)
    go_simp
    (with_reducible refine (NW.out y10 ).mono ?_)
    rintro e y11 ⟨aS7, cS7, rfl, fd, hk⟩
    refine hK _ _ hk ?_
    clear hK K
    have HQ30 : wc.heap.size ≤ y10.heap.size := Q.out.size
    have Hprev := Q
    replace Q := Lib.hid (keep_trans Q.out hk)
    have hs_y11 : y10.heap.size ≤ y11.heap.size := hk.size
    replace HD15 := Lib.hid (HD15.out.keep hk)
    replace HO15 := Lib.hid (HO15.out.keep hk)
    replace DO15 := Lib.hid (DO15.out.keep hk)
    replace KW := Lib.hid (keep_trans KW.out hk)
    replace YA := Lib.hid (YA.out.keep hk)
    replace YB := Lib.hid (YB.out.keep hk)
    replace S1 := Lib.hid (S1.out.keep hk)
    replace S2 := Lib.hid (S2.out.keep hk)
    replace S3 := Lib.hid (S3.out.keep hk)
    replace S4 := Lib.hid (S4.out.keep hk)
    replace S5 := Lib.hid (S5.out.keep hk)
    replace S6 := Lib.hid (S6.out.keep hk)
    have S7 := Lib.hid fd
    clear fd
    clear hk
    refine fc_step rfl (fun K hK => ?_)
    go_simp
    (with_reducible refine (FL0.out y11 _ _ _ S7.out).mono ?_)
    rintro e y12 ⟨qS8, pS8, rfl, fd, hk⟩
    refine hK _ _ hk ?_
    clear hK K
    have HQ31 : wc.heap.size ≤ y11.heap.size := Q.out.size
    have Hprev := Q
    replace Q := Lib.hid (keep_trans Q.out hk)
    have hs_y12 : y11.heap.size ≤ y12.heap.size := hk.size
    replace HD15 := Lib.hid (HD15.out.keep hk)
    replace HO15 := Lib.hid (HO15.out.keep hk)
    replace DO15 := Lib.hid (DO15.out.keep hk)
    replace KW := Lib.hid (keep_trans KW.out hk)
    replace YA := Lib.hid (YA.out.keep hk)
    replace YB := Lib.hid (YB.out.keep hk)
    replace S1 := Lib.hid (S1.out.keep hk)
    replace S2 := Lib.hid (S2.out.keep hk)
    replace S3 := Lib.hid (S3.out.keep hk)
    replace S4 := Lib.hid (S4.out.keep hk)
    replace S5 := Lib.hid (S5.out.keep hk)
    replace S6 := Lib.hid (S6.out.keep hk)
    replace S7 := Lib.hid (S7.out.keep hk)
    have S8 := Lib.hid fd
    clear fd
    clear hk
    refine fc_step rfl (fun K hK => ?_)
    go_simp
    (with_reducible refine (RNW.out y12 ).mono ?_)
    rintro e y13 ⟨aS9, cS9, rfl, fd, hk⟩
    refine hK _ _ hk ?_
    clear hK K
    have HQ33 : wc.heap.size ≤ y12.heap.size := Q.out.size
    have Hprev := Q
    replace Q := Lib.hid (keep_trans Q.out hk)
    have hs_y13 : y12.heap.size ≤ y13.heap.size := hk.size
    replace HD15 := Lib.hid (HD15.out.keep hk)
    replace HO15 := Lib.hid (HO15.out.keep hk)
    replace DO15 := Lib.hid (DO15.out.keep hk)
    replace KW := Lib.hid (keep_trans KW.out hk)
    replace YA := Lib.hid (YA.out.keep hk)
    replace YB := Lib.hid (YB.out.keep hk)
    replace S1 := Lib.hid (S1.out.keep hk)
    replace S2 := Lib.hid (S2.out.keep hk)
    replace S3 := Lib.hid (S3.out.keep hk)
    replace S4 := Lib.hid (S4.out.keep hk)
    replace S5 := Lib.hid (S5.out.keep hk)
    replace S6 := Lib.hid (S6.out.keep hk)
    replace S7 := Lib.hid (S7.out.keep hk)
    replace S8 := Lib.hid (S8.out.keep hk)
    have S9 := Lib.hid fd
    clear fd
    clear hk
    refine fc_step rfl (fun K hK => ?_)
    go_simp
    (with_reducible refine (SM0.out y13 _ _ _ _ _ _ _ S8.out S9.out).mono ?_)
    rintro e y14 ⟨rfl, hk⟩
    refine hK _ _ hk ?_
    clear hK K
    have HQ34 : wc.heap.size ≤ y13.heap.size := Q.out.size
    have Hprev := Q
    replace Q := Lib.hid (keep_trans Q.out hk)
    have hs_y14 : y13.heap.size ≤ y14.heap.size := hk.size
    replace HD15 := Lib.hid (HD15.out.keep hk)
    replace HO15 := Lib.hid (HO15.out.keep hk)
    replace DO15 := Lib.hid (DO15.out.keep hk)
    replace KW := Lib.hid (keep_trans KW.out hk)
    replace YA := Lib.hid (YA.out.keep hk)
    replace YB := Lib.hid (YB.out.keep hk)
    replace S1 := Lib.hid (S1.out.keep hk)
    replace S2 := Lib.hid (S2.out.keep hk)
    replace S3 := Lib.hid (S3.out.keep hk)
    replace S4 := Lib.hid (S4.out.keep hk)
    replace S5 := Lib.hid (S5.out.keep hk)
    replace S6 := Lib.hid (S6.out.keep hk)
    replace S7 := Lib.hid (S7.out.keep hk)
    replace S8 := Lib.hid (S8.out.keep hk)
    replace S9 := Lib.hid (S9.out.keep hk)
    clear hk
    refine fc_nil (mt_take y14 (Below.refl _ _) ?_)
    simp only [pick_cons, pick_nil, nth_zero, nth_succ]
    repeat (go_big_quiet_step (fail))
    refine wpQuiet_nil (mt_end ?_)
    go_wp2
    exact bodyPost_ret (v := .bool true) (by simp [results, Try.results3]) rfl ⟨rfl, KW.out⟩
end Go.Proofs.Ytmhbfjcehmjllaa
