/- A record more is written. -/
import Derived.Test.YtielojlhdnimgaaDoorJrnI
set_option linter.unusedSimpArgs false
set_option linter.unusedVariables false
namespace Go.Proofs.YtielojlhdnimgaaDoor
open Go.RowKit
attribute [local go_sem ↓] Go.wp_at_zero Go.wp_at_succ

/-- May a record be laid at a number? -/
def appOk (b : List UInt8) (base : Int) (N : Nat) (ps : List WP) : Bool := saneP b.length ps && layOk b.length ps.length (wrap64 (base + (4 * N : Nat))) 4
/-- What comes of one more: the error, how many, the last sum, what is pending. -/
def appendD (b : List UInt8) (base room : Int) (N : Nat) (last : List UInt8) (h : Hd) (ps : List WP) : Int × Nat × List UInt8 × List WP :=
  if roomN room ≤ N then (12, N, last, ps)
  else if appOk b base N ps then (0, N + 1, recSum last N h, ps ++ layWs (wrap64 (base + (4 * N : Nat))) (recB last N h) 4)
  else (14, N, last, ps)
theorem lay_rec (b : List UInt8) (vs : List WriteR) (i : Int) (r : List UInt8) (hr : r.length = 128) :
    ((saneP b.length (vs.map WriteR.pl) && layOk b.length (vs.map WriteR.pl).length i 4) = true → (layD b vs i r).2 = 0 ∧ tkB b vs = b ∧ (layD b vs i r).1 = vs.map WriteR.pl ++ layWs i r 4) ∧
    ((saneP b.length (vs.map WriteR.pl) && layOk b.length (vs.map WriteR.pl).length i 4) = false → (layD b vs i r).2 = 14) := by
  have e : layD b vs i r = if layOk (tkB b vs).length (tkW b vs).length i 4 then ((tkW b vs).map WriteR.pl ++ layWs i r 4, 0) else ((tkW b vs).map WriteR.pl, 14) := by
    unfold layD
    rw [hr, if_neg (by omega), if_neg (by omega)]
  have ht := tk_pl b vs
  have hl : (tkW b vs).length = ((tkW b vs).map WriteR.pl).length := by rw [List.length_map]
  rw [e]
  by_cases hs : saneP b.length (vs.map WriteR.pl) = true
  · rw [if_pos hs, if_pos hs] at ht
    rw [hl, ht.1, ht.2, hs, Bool.true_and]
    by_cases hk : layOk b.length (vs.map WriteR.pl).length i 4 = true
    · rw [if_pos hk]
      exact ⟨fun _ => ⟨rfl, rfl, rfl⟩, fun h => by rw [hk] at h; exact absurd h (by decide)⟩
    · rw [if_neg hk]
      exact ⟨fun h => absurd h hk, fun _ => rfl⟩
  · rw [if_neg hs, if_neg hs] at ht
    rw [hl, ht.1, ht.2]
    have hk : ¬ layOk ([] : List UInt8).length ([] : List WP).length i 4 = true := by
      unfold layOk; rw [decide_eq_true_eq]; simp; omega
    rw [if_neg hk]
    have hs2 : saneP b.length (vs.map WriteR.pl) = false := by simpa using hs
    rw [hs2, Bool.false_and]
    exact ⟨fun h => absurd h (by decide), fun _ => rfl⟩
theorem lg_setN (d0 d1 : Value) (base room n m : Int) (last : List UInt8) : (lgCells d0 d1 base room n last).set 4 (.int .i64 m) = lgCells d0 d1 base room m last := rfl
theorem lg_last {d0 d1 : Value} {base room n : Int} {last : List UInt8} (hl : last.length = 32) : ((lgCells d0 d1 base room n last).drop 5).take 32 = last.map u8v := by
  unfold lgCells
  rw [List.drop_left' (by rfl), List.take_of_length_le (by rw [List.length_map]; omega)]
theorem lg_setLast {d0 d1 : Value} {base room n : Int} {last s : List UInt8} (hl : last.length = 32) (hs : s.length = 32) : splice (lgCells d0 d1 base room n last) 5 (s.map u8v) = lgCells d0 d1 base room n s := by
  unfold splice lgCells
  rw [List.take_left' (by rfl), List.drop_eq_nil_of_le (by simp; omega), List.append_nil]
theorem LogA.last {l : List Value} {cs : Array Value} (h : LogA l cs) : True := trivial

set_option maxRecDepth 100000 in
set_option maxHeartbeats 6000000 in
theorem append_anyF (A : Option Addr) (b : List UInt8) (c : Nat) (PA : Option Addr) (ws : List WriteR) (pc : Nat) (base room n : Int) (last : List UInt8) (ls : Array Value) (h : Hd) (hd : Array Value) (w : World) (F : World → Prop) (hF : ∀ W, Keep w W → F W) (h0 : ∀ W, F W → DOk W A b c PA ws pc) (hS : ShaOk w) (hb1 : -9223372036854775808 ≤ base ∧ base ≤ 9223372036854775807)
    (hls : LogA (lgCells (.slice A b.length c) (.slice PA ws.length pc) base room n last) ls) (hk : h.ok) (hhd : HdA h hd) :
    Calls Tryd.prog 12 #[.agg ls, .agg hd] w fun e w' => ∃ A' c' PA' pc' vs cs AP, AP = appendD b base room (openL base room (bytesD b ws)).1 (openL base room (bytesD b ws)).2.1 h (ws.map WriteR.pl) ∧ e = .returned (.tuple #[.agg cs, .int .i64 AP.1]) ∧
      LogA (lgCells (.slice A' b.length c') (.slice PA' vs.length pc') base room (AP.2.1 : Nat) AP.2.2.1) cs ∧
      vs.map WriteR.pl = AP.2.2.2 ∧ (∀ W, MidF F w w' W → DOk W A' b c' PA' vs pc') ∧ Keep w w' := by
  have T1 : Hid (∀ w', Keep w w' → Calls Tryd.prog 28 #[.agg ls] w' fun e w'' => ∃ cs, e = .returned (.agg cs) ∧ LogA (lgCells (.slice A b.length c) (.slice PA ws.length pc) base room ((openL base room (bytesD b ws)).1 : Nat) (openL base room (bytesD b ws)).2.1) cs ∧ Keep w' w'') := fun w' hk => jtaken_any A b c PA ws pc base room n last ls w' (h0 _ (hF _ hk)) (hS.keep hk) hb1 hls
  have hll : Hid ((openL base room (bytesD b ws)).2.1.length = 32) := openL_len _ _ _
  have hle := openL_le base room (bytesD b ws)
  generalize openL base room (bytesD b ws) = OP at *
  obtain ⟨N, last', hs'⟩ := OP
  obtain ⟨AP, hAP⟩ : ∃ AP, AP = appendD b base room N last' h (ws.map WriteR.pl) := ⟨_, rfl⟩
  have R1 : Hid (∀ w' lv, Keep w w' → HashA last' lv → Calls Tryd.prog 30 #[.agg lv, .int .i64 (N : Int), .agg hd] w' fun e w'' => ∃ A c ds, e = .returned (.tuple #[.slice A 128 c, .agg ds]) ∧ HashA (recSum last' N h) ds ∧ w''.ownsRow w'.heap.size 5 1 (.slice A 128 c) 128 ((recB last' N h).map u8v) ∧ Keep w' w'') := fun w' lv hkk hlv =>
    record_any last' lv N h hd w' hlv hll.out hk hhd (hS.keep hkk)
  have HA1 : Hid (roomN room ≤ N → AP = (12, N, last', ws.map WriteR.pl)) := fun h1 => by rw [hAP]; unfold appendD; exact if_pos h1
  have hrl := recB_len last' N hk
  have L1 : Hid (¬ roomN room ≤ N → ∀ (RB RS : List UInt8), recB last' N h = RB → recSum last' N h = RS → ∀ (D : Option Addr) (cd : Nat) (w' : World) (Fr : World → Prop) (j : Int), j = wrap64 (base + (4 * N : Nat)) → (∀ W, Keep w' W → Fr W) → (∀ W, Fr W → DOk W A b c PA ws pc) → Rd w' D (RB.map u8v) →
      Calls Tryd.prog 31 #[DV A b.length c PA ws.length pc, .int .i64 j, .slice D 128 cd] w' fun e w'' => ∃ A' tl c' PA' pc' us er, e = .returned (.tuple #[DV A' tl c' PA' us.length pc', .int .i64 er]) ∧
        (er = 0 → tl = b.length ∧ AP = (0, N + 1, RS, us.map WriteR.pl) ∧ ∀ W, MidF Fr w' w'' W → DOk W A' b c' PA' us pc') ∧ (er ≠ 0 → AP = (er, N, last', ws.map WriteR.pl)) ∧ Keep w' w'') := fun hn RB RS e1 e2 D cd w' Fr j hj hFr hd hD => by
    subst e1 e2
    have hr := recB_len last' N hk
    have hc := lay_anyF A b c PA ws pc j D (recB last' N h) cd w' Fr hFr hd hD (by omega) (by rw [hj]; unfold wrap64; omega)
    rw [hr] at hc
    have hlr := lay_rec b ws j _ hr
    refine hc.mono fun e w'' ⟨A', c', PA', pc', us, h1, h2, h3, h4⟩ => ⟨A', _, c', PA', pc', us, _, h1, fun hz => ?_, fun hz => ?_, h4⟩
    · have ha : appOk b base N (ws.map WriteR.pl) = true := by
        cases hq : appOk b base N (ws.map WriteR.pl) with
        | true => rfl
        | false =>
          unfold appOk at hq
          rw [← hj] at hq
          have := hlr.2 hq
          omega
      have ha2 := ha
      unfold appOk at ha2
      rw [← hj] at ha2
      obtain ⟨_, q1, q2⟩ := hlr.1 ha2
      rw [q1] at h3 ⊢
      rw [q2] at h2
      refine ⟨rfl, ?_, h3⟩
      rw [hAP, h2, hj]; unfold appendD
      rw [if_neg hn, if_pos ha]
    · have ha : appOk b base N (ws.map WriteR.pl) = false := by
        cases hq : appOk b base N (ws.map WriteR.pl) with
        | false => rfl
        | true =>
          unfold appOk at hq
          rw [← hj] at hq
          exact absurd (hlr.1 hq).1 hz
      have ha2 := ha
      unfold appOk at ha2
      rw [← hj] at ha2
      rw [hlr.2 ha2, hAP]; unfold appendD
      rw [if_neg hn, if_neg (by rw [ha]; decide)]
  have HR0 : Hid ((recB last' N h).length = 128) := hrl
  obtain ⟨RB, hRB⟩ : ∃ RB, recB last' N h = RB := ⟨_, rfl⟩
  obtain ⟨RS, hRS⟩ : ∃ RS, recSum last' N h = RS := ⟨_, rfl⟩
  have L2 : Hid (¬ roomN room ≤ N → ∀ (D : Option Addr) (cd : Nat) (w' : World) (Fr : World → Prop) (j : Int), j = wrap64 (base + (4 * N : Nat)) → (∀ W, Keep w' W → Fr W) → (∀ W, Fr W → DOk W A b c PA ws pc) → Rd w' D (RB.map u8v) →
      Calls Tryd.prog 31 #[DV A b.length c PA ws.length pc, .int .i64 j, .slice D 128 cd] w' fun e w'' => ∃ A' tl c' PA' pc' us er, e = .returned (.tuple #[DV A' tl c' PA' us.length pc', .int .i64 er]) ∧
        (er = 0 → tl = b.length ∧ AP = (0, N + 1, RS, us.map WriteR.pl) ∧ ∀ W, MidF Fr w' w'' W → DOk W A' b c' PA' us pc') ∧ (er ≠ 0 → AP = (er, N, last', ws.map WriteR.pl)) ∧ Keep w' w'') := fun hn => L1.out hn RB RS hRB hRS
  rw [hRB, hRS] at R1
  rw [hRB] at HR0
  obtain ⟨zs, hz1, hz2, hz3⟩ := zlog_letter
  obtain ⟨sz, hSZ, szz⟩ := zhash_A
  have szs := hSZ.z; have szn := hSZ.n; have szi := hSZ.i
  have hdz := hhd.z; have hdn := hhd.n; have hdi := hhd.i
  have hlz := hls.z; have hln := hls.n; have hli := hls.i
  have Hls := Lib.hid hls; have HF := Lib.hid hF; have Hh := Lib.hid h0; have Hhd := Lib.hid hhd; have HSZ := Lib.hid hSZ
  have HAP := Lib.hid hAP
  clear hls h0 hS hF hhd hSZ hAP L1 hRB hRS hrl
  have hrm : roomN room ≤ 1024 := by unfold roomN; omega
  generalize hbl : b.length = bl at *
  generalize hwl : ws.length = wl at *
  have Hbl := Lib.hid hbl; have Hwl := Lib.hid hwl
  clear hbl hwl
  go_enter Tryd.func12, Tryd.ntmps12
  go_upto_region 1 with fail
  obtain ⟨w1, hw1⟩ : ∃ w1, w1 = ((w.alloc (.cells ls 35)).alloc (.cells hd 44)).alloc (.cells zs 35) := ⟨_, rfl⟩
  have HL1 : Hid (Blk w1 w.heap.size 35 ls.toList) := by rw [hw1]; exact ((Blk.new w _ ls.toList).alloc _).alloc _
  have HH1 : Hid (Blk w1 (w.heap.size + 1) 44 hd.toList) := by
    rw [hw1]
    have h1 := Blk.new (w.alloc (.cells ls 35)) 44 hd.toList
    rw [World.size_alloc] at h1
    exact h1.alloc _
  have HR1 : Hid (Blk w1 (w.heap.size + 1 + 1) 35 zs.toList) := by
    rw [hw1]
    have h1 := Blk.new ((w.alloc (.cells ls 35)).alloc (.cells hd 44)) 35 zs.toList
    rw [World.size_alloc, World.size_alloc] at h1
    exact h1
  have HK1 : Hid (Keep w w1) := by rw [hw1]; exact keep_trans (keep_trans (keep_new _ _) (keep_new _ _)) (keep_new _ _)
  have hz11 : w.heap.size + 3 ≤ w1.heap.size := by rw [hw1]; simp
  rw [← hw1]
  clear hw1
  go_wp2_with ((with_reducible refine load_arr w.heap.size ls (Eq.trans ?_ rfl) HL1.out _ Tryd.underlying35 rfl hli ?_); rfl)
  refine (T1.out w1 HK1.out).mono ?_
  rintro e w2 ⟨cs, rfl, hcs, k2⟩
  have hcz := hcs.z; have hcn := hcs.n; have hci := hcs.i
  have Hcs := Lib.hid hcs
  have HR2 := Lib.hid (HR1.out.keep k2); have HH2 := Lib.hid (HH1.out.keep k2)
  have HK2 := Lib.hid (keep_trans HK1.out k2)
  obtain ⟨w3, hst, hb3, hg3⟩ := run_store_blk (P := Tryd.prog) cs.toList (HL1.out.keep k2) (by simp [hlz, hcz]) Hcs.out.o
  have hb3' := hb3
  rw [Hcs.out.l] at hb3
  have HB3 := Lib.hid hb3; have HB3' := Lib.hid hb3'
  have HR3 := Lib.hid (HR2.out.grown hg3 (fun e => by have e2 : w.heap.size = w.heap.size + 1 + 1 := Option.some.inj e; omega))
  have HH3 := Lib.hid (HH2.out.grown hg3 (fun e => by have e2 : w.heap.size = w.heap.size + 1 := Option.some.inj e; omega))
  have HK3 : Hid (Keep w w3) := HK2.out.grown hg3 HK2.out.size (fun q hq => by injection hq with hq; omega)
  have hz3' : w1.heap.size ≤ w3.heap.size := Nat.le_trans k2.size hg3.size
  clear hcs k2 hb3 hb3' hg3
  go_upto_region 2 with fail
  clear hst
  obtain ⟨c0, c1, c2, c3, c4⟩ := lg_d HB3.out
  have a3 := aft_cell c3; have a4 := aft_cell c4
  refine wp_region_aft (by kernel_rfl) (by kernel_rfl) w3 (Below.refl _ _) ?_
  repeat (go_big_quiet_step ((go_at_call 29; exact quiet_aft_same (records_any _ _))))
  refine wpQuiet_nil ?_
  rintro _ ⟨z2, rfl⟩
  have j2 := aft_keep w3 z2
  generalize aft w3 z2 = w4 at j2 ⊢
  have HB4 := Lib.hid (HB3.out.keep j2); have HB4' := Lib.hid (HB3'.out.keep j2); have HR4 := Lib.hid (HR3.out.keep j2); have HH4 := Lib.hid (HH3.out.keep j2)
  have HK4 := Lib.hid (keep_trans HK3.out j2)
  have hz4' : w1.heap.size ≤ w4.heap.size := Nat.le_trans hz3' j2.size
  clear a3 a4 c0 c1 c2 c3 c4 j2 HB3 HB3' HR3 HH3 HK3 HR2 HH2 HK2
  by_cases hn : roomN room ≤ N
  · have hn' : ((roomN room : Nat) : Int) ≤ (N : Int) := by omega
    obtain ⟨w8, hst8, hb8, hg8⟩ := run_store_blk (P := Tryd.prog) cs.toList HR4.out (by simp [hz1, hcz]) Hcs.out.o
    have Hb8 := Lib.hid hb8; have Hg8 := Lib.hid hg8
    have HE := Lib.hid (HA1.out hn)
    clear hb8 hg8 hn L2
    go_wp2_with ((with_reducible refine load_arr w.heap.size cs (Eq.trans ?_ rfl) HB4'.out _ Tryd.underlying35 rfl hci ?_); rfl)
    have hb8 := Hb8.out
    refine bodyPost_ret (v := .tuple #[.agg cs, .int .i64 12]) (results_cell_tmp_row Tryd.results12 _ _ (w.heap.size + 1 + 1) _ _ _ _ rfl hb8 Tryd.underlying35 rfl (by rw [List.size_toArray, Array.length_toList]; exact hci)) rfl ⟨A, c, PA, pc, ws, cs, AP, HAP.out, ?_, ?_, ?_, fun W hW => Hh.out W hW.1, HK4.out.grown Hg8.out HK4.out.size (fun q hq => by injection hq with hq; omega)⟩
    · rw [HE.out]
    · rw [HE.out, Hwl.out]; exact Hcs.out
    · rw [HE.out]
  · have hn' : ¬ ((roomN room : Nat) : Int) ≤ (N : Int) := by omega
    have L3 := Lib.hid (L2.out hn)
    clear HA1 L2 hn
    go_upto_region 4 with fail
    obtain ⟨lv, hlv⟩ : ∃ lv, HashA last' lv := ⟨_, HashA.of hll.out⟩
    have hvz := hlv.z; have hvn := hlv.n; have hvi := hlv.i
    have Hlv := Lib.hid hlv
    obtain ⟨c0, c1, c2, c3, c4⟩ := lg_d HB4.out
    have Hrg : Hid (w4.rangeAt w.heap.size 5 lv.toList) := range_of HB4.out 5 lv.toList (by rw [hlv.l, List.length_map, hll.out]; exact lg_last hll.out)
    clear hlv
    go_wp2_with (first
      | ((with_reducible refine load_part w.heap.size 5 lv (Eq.trans ?_ rfl) Hrg.out (.array 32 5) hash_under (arr_row _ _) hvi ?_); rfl)
      | ((with_reducible refine load_arr (w.heap.size + 1) hd (Eq.trans ?_ rfl) HH4.out _ Tryd.underlying44 rfl hdi ?_); rfl))
    refine (R1.out w4 lv HK4.out Hlv.out).mono ?_
    rintro e w5 ⟨D, cd, ds, rfl, hds, own5, k5⟩
    have dsz := hds.z; have dsn := hds.n; have dsi := hds.i
    have Hds := Lib.hid hds; have Own5 := Lib.hid own5
    have HB5 := Lib.hid (HB4.out.keep k5); have HB5' := Lib.hid (HB4'.out.keep k5); have HR5 := Lib.hid (HR4.out.keep k5)
    have HK5 := Lib.hid (keep_trans HK4.out k5)
    have hz5' : w4.heap.size ≤ w5.heap.size := k5.size
    have hst5 : (storeCells ⟨w5.heap.size, 0, none⟩ ds.toList 0).run Tryd.prog (w5.alloc (.cells sz 33)) = .ok () (w5.alloc (.cells ds 33)) := run_storeCells_new (P := Tryd.prog) w5 33 sz ds dsi (szs.trans dsz.symm) (by have := all_oneCell_toArray Hds.out.o; rwa [Array.toArray_toList] at this)
    clear hds own5 k5 c0 c1 c2 c3 c4
    go_upto_region 5 with fail
    clear hst5
    obtain ⟨w6, hw6⟩ : ∃ w6, w6 = w5.alloc (.cells ds 33) := ⟨_, rfl⟩
    have HS6 : Hid (Blk w6 w5.heap.size 33 ds.toList) := by rw [hw6]; exact Blk.new w5 _ ds.toList
    have k6 : Keep w5 w6 := by rw [hw6]; exact keep_new _ _
    rw [← hw6]
    clear hw6
    have HB6 := Lib.hid (HB5.out.keep k6); have HB6' := Lib.hid (HB5'.out.keep k6); have HR6 := Lib.hid (HR5.out.keep k6); have HK6 := Lib.hid (keep_trans HK5.out k6)
    have HD6 := Lib.hid ((own_rd Own5.out).keep k6)
    have hz6' : w5.heap.size < w6.heap.size := HS6.out.lt
    generalize hsx : w5.heap.size = S at *
    clear k6 HB5 HB5' HR5 HK5 Own5 HR4 HH4 hsx
    obtain ⟨c0, c1, c2, c3, c4⟩ := lg_d HB6.out
    have HQ : Hid (∀ j, j = wrap64 (base + (4 * N : Nat)) → Calls Tryd.prog 31 #[DV A bl c PA wl pc, .int .i64 j, .slice D 128 cd] w6 fun e w'' => ∃ A' tl c' PA' pc' us er, e = .returned (.tuple #[DV A' tl c' PA' us.length pc', .int .i64 er]) ∧
        (er = 0 → tl = bl ∧ AP = (0, N + 1, RS, us.map WriteR.pl) ∧ ∀ W, MidF (MidX (w.heap.size + 3) F w6) w6 w'' W → DOk W A' b c' PA' us pc') ∧ (er ≠ 0 → AP = (er, N, last', ws.map WriteR.pl)) ∧ Keep w6 w'') := fun j hj =>
      L3.out D cd w6 (MidX (w.heap.size + 3) F w6) j hj (fun W hW => MidX.keep HF.out HK6.out hW) (fun W hW => Hh.out W hW.1) HD6.out
    clear L3
    go_wp2_with fail
    refine (HQ.out _ (by (congr 1) <;> omega)).mono ?_
    rintro e w7 ⟨A5, tl, c5, PA5, pc5, us, er, rfl, hy, hn2, k7⟩
    have Hy := Lib.hid hy; have Hn2 := Lib.hid hn2; have K7 := Lib.hid k7
    have HB7 := Lib.hid (HB6.out.keep k7); have HB7' := Lib.hid (HB6'.out.keep k7); have HR7 := Lib.hid (HR6.out.keep k7); have HS7 := Lib.hid (HS6.out.keep k7)
    have hz7' : w6.heap.size ≤ w7.heap.size := k7.size
    have f0 := HB7.out.frozen 0; have f1 := HB7.out.frozen 1
    generalize hul : us.length = ul
    have Hul := Lib.hid hul
    clear hy hn2 k7 c0 c1 c2 c3 c4 hul HQ HB6 HB6' HR6 HS6
    obtain ⟨c0, c1, c2', c3, c4⟩ := lg_d HB7.out
    by_cases he : er = 0
    · subst he
      obtain ⟨rfl, hps, hdd⟩ := Hy.out rfl
      have Hps := Lib.hid hps; have Hdd := Lib.hid hdd
      clear hps hdd
      go_upto_region 8 with fail
      obtain ⟨w8, hw8⟩ : ∃ w8, w8 = w7.alloc (.cells #[.slice A5 tl c5, .slice PA5 ul pc5] 31) := ⟨_, rfl⟩
      have HB8 : Hid (Blk w8 w.heap.size 35 (lgCells (.slice A tl c) (.slice PA wl pc) base room N last')) := by rw [hw8]; exact HB7.out.alloc _
      have d0 : w8.cell? ⟨w7.heap.size, 0, none⟩ = some (.slice A5 tl c5) := by rw [hw8]; exact box_cell _ _ _ 0
      have d1 : w8.cell? ⟨w7.heap.size, 1, none⟩ = some (.slice PA5 ul pc5) := by rw [hw8]; exact box_cell _ _ _ 1
      have K8 : Hid (Keep w7 w8) := by rw [hw8]; exact (Below.refl _ _).alloc (Nat.le_refl _) _
      rw [← hw8]
      clear hw8 c0 c1 c2' c3 c4 f0 f1
      have HR8 := Lib.hid (HR7.out.keep K8.out); have HS8 := Lib.hid (HS7.out.keep K8.out)
      obtain ⟨c0, c1, c2', c3, c4⟩ := lg_d HB8.out
      have f0 := HB8.out.frozen 0; have f1 := HB8.out.frozen 1; have f4 := HB8.out.frozen 4
      go_upto_region 10 with fail
      obtain ⟨w9, hw9⟩ : ∃ w9, w9 = ((w8.setCell ⟨w.heap.size, 0, none⟩ (.slice A5 tl c5)).setCell ⟨w.heap.size, 1, none⟩ (.slice PA5 ul pc5)).setCell ⟨w.heap.size, 4, none⟩ (.int .i64 ((N : Int) + 1)) := ⟨_, rfl⟩
      have HB9 : Hid (Blk w9 w.heap.size 35 (lgCells (.slice A5 tl c5) (.slice PA5 ul pc5) base room ((N : Int) + 1) last')) := by
        rw [hw9, ← lg_setN _ _ _ _ (N : Int), ← lg_setD (.slice A tl c) (.slice PA wl pc)]; exact ((HB8.out.set_ 0 _).set_ 1 _).set_ 4 _
      have HR9 : Hid (Blk w9 (w.heap.size + 1 + 1) 35 zs.toList) := by rw [hw9]; exact ((HR8.out.far (by simp; omega) _).far (by simp; omega) _).far (by simp; omega) _
      have HS9 : Hid (Blk w9 S 33 ds.toList) := by rw [hw9]; exact ((HS8.out.far (by simp; omega) _).far (by simp; omega) _).far (by simp; omega) _
      have HK9 : Hid (Keep w w9) := by rw [hw9]; exact (((keep_trans (keep_trans HK6.out K7.out) K8.out).setCell (by simp) _).setCell (by simp) _).setCell (by simp) _
      have HG9 : Hid (w8.grownBy w9 (some w.heap.size)) := by rw [hw9]; exact grown_set (grown_set (grown_set (grown_refl _ _)))
      rw [← hw9]
      clear hw9 c0 c1 c2' c3 c4 f0 f1 f4
      obtain ⟨wa, hsta, hba, hga⟩ := run_store_part (P := Tryd.prog) 5 ds.toList HB9.out (by rw [lg_len hll.out, Array.length_toList, dsz]; omega) Hds.out.o
      have hrl : last'.length = 32 := hll.out
      have hRl : RS.length = 32 := by have h1 := congrArg List.length Hds.out.l; rw [Array.length_toList, dsz, List.length_map] at h1; omega
      rw [Hds.out.l, lg_setLast hrl hRl] at hba
      have HBa := Lib.hid hba
      have HRa := Lib.hid (HR9.out.grown hga (fun e => by have e2 : w.heap.size = w.heap.size + 1 + 1 := Option.some.inj e; omega))
      have HKa : Hid (Keep w wa) := HK9.out.grown hga HK9.out.size (fun q hq => by injection hq with hq; omega)
      have HGa : Hid (w8.grownBy wa (some w.heap.size)) := grown_trans2 HG9.out hga
      clear hba hga hrl
      go_upto_region 11 with ((with_reducible refine load_arr S ds (Eq.trans ?_ rfl) HS9.out (.array 32 5) hash_under (arr_row _ _) dsi ?_); rfl)
      clear hsta
      obtain ⟨fs, hfs⟩ : ∃ fs : Array Value, fs.toList = lgCells (.slice A5 tl c5) (.slice PA5 ul pc5) base room ((N : Int) + 1) RS := ⟨_, rfl⟩
      have hfA := LogA.of hRl hfs
      have hfz := hfA.z; have hfn := hfA.n; have hfi := hfA.i
      have HfA := Lib.hid hfA
      have HBb : Hid (Blk wa w.heap.size 35 fs.toList) := by rw [hfs]; exact HBa.out
      clear hfA hfs hRl
      obtain ⟨wc, hstc, hbc, hgc⟩ := run_store_blk (P := Tryd.prog) fs.toList HRa.out (by simp [hz1, hfz]) HfA.out.o
      have Hbc := Lib.hid hbc; have Hgc := Lib.hid hgc
      clear hbc hgc
      go_wp2_with ((with_reducible refine load_arr w.heap.size fs (Eq.trans ?_ rfl) HBb.out _ Tryd.underlying35 rfl hfi ?_); rfl)
      have hbc := Hbc.out
      refine bodyPost_ret (v := .tuple #[.agg fs, .int .i64 0]) (results_cell_tmp_row Tryd.results12 _ _ (w.heap.size + 1 + 1) _ _ _ _ rfl hbc Tryd.underlying35 rfl (by rw [List.size_toArray, Array.length_toList]; exact hfi)) rfl ⟨A5, c5, PA5, pc5, us, fs, AP, HAP.out, ?_, ?_, ?_, fun W hW => ?_, HKa.out.grown Hgc.out HKa.out.size (fun q hq => by injection hq with hq; omega)⟩
      · rw [Hps.out]
      · rw [Hps.out, Hul.out]; exact HfA.out
      · rw [Hps.out]
      · have hz8 : w7.heap.size ≤ w8.heap.size := K8.out.size
        have hza : w8.heap.size ≤ wa.heap.size := HGa.out.size
        have hzc : wa.heap.size ≤ wc.heap.size := Hgc.out.size
        refine Hdd.out W (MidX.call (w3 := wc) (by omega) K7.out (by omega) (fun q h1 h2 => ?_) ⟨hW.1, fun k h1 h2 => hW.2 k (by omega) h2⟩)
        rw [Hgc.out.block q (by omega) (fun e => by have e2 : q = w.heap.size + 1 + 1 := Option.some.inj e; omega), HGa.out.block q (by omega) (fun e => by have e2 : q = w.heap.size := Option.some.inj e; omega)]
        exact K8.out.block q h2
    · have g1 : (er == 0) = false := by simpa using he
      have Hn3 := Lib.hid (Hn2.out he)
      clear he c0 c1 c2' c3 c4 f0 f1
      go_upto_region 7 with fail
      obtain ⟨w8, hw8⟩ : ∃ w8, w8 = w7.alloc (.cells #[.slice A5 tl c5, .slice PA5 ul pc5] 31) := ⟨_, rfl⟩
      have K8 : Hid (Keep w7 w8) := by rw [hw8]; exact (Below.refl _ _).alloc (Nat.le_refl _) _
      rw [← hw8]
      clear hw8
      have HB8' := Lib.hid (HB7'.out.keep K8.out)
      obtain ⟨w9, hst9, hb9, hg9⟩ := run_store_blk (P := Tryd.prog) cs.toList (HR7.out.keep K8.out) (by simp [hz1, hcz]) Hcs.out.o
      have Hb9 := Lib.hid hb9; have Hg9 := Lib.hid hg9
      have HK9 : Hid (Keep w w9) := (keep_trans (keep_trans HK6.out K7.out) K8.out).grown hg9 (keep_trans (keep_trans HK6.out K7.out) K8.out).size (fun q hq => by injection hq with hq; omega)
      clear hb9 hg9
      go_wp2_with ((with_reducible refine load_arr w.heap.size cs (Eq.trans ?_ rfl) HB8'.out _ Tryd.underlying35 rfl hci ?_); rfl)
      have hb9 := Hb9.out
      refine bodyPost_ret (v := .tuple #[.agg cs, .int .i64 er]) (results_cell_tmp_row Tryd.results12 _ _ (w.heap.size + 1 + 1) _ _ _ _ rfl hb9 Tryd.underlying35 rfl (by rw [List.size_toArray, Array.length_toList]; exact hci)) rfl ⟨A, c, PA, pc, ws, cs, AP, HAP.out, ?_, ?_, ?_, fun W hW => Hh.out W hW.1, HK9.out⟩
      · rw [Hn3.out]
      · rw [Hn3.out, Hwl.out]; exact Hcs.out
      · rw [Hn3.out]
end Go.Proofs.YtielojlhdnimgaaDoor
