/- What lies behind the records is cleared. -/
import Derived.Test.YtielojlhdnimgaaDoorJrnH
import Derived.Test.YtielojlhdnimgaaDoorDskV
set_option linter.unusedSimpArgs false
set_option linter.unusedVariables false
namespace Go.Proofs.YtielojlhdnimgaaDoor
open Go.RowKit
attribute [local go_sem ↓] Go.wp_at_zero Go.wp_at_succ

/-- W: F holds of it, and what lies in w' from block B on is there as it was. -/
def MidX (B : Nat) (F : World → Prop) (w' W : World) : Prop := F W ∧ ∀ k, B ≤ k → k < w'.heap.size → W.heap[k]? = w'.heap[k]?
theorem MidX.keep {B : Nat} {F : World → Prop} {w w' W : World} (hF : ∀ W, Keep w W → F W) (h0 : Keep w w') (h : Keep w' W) : MidX B F w' W := ⟨hF _ (keep_trans h0 h), fun k _ h2 => h.block k h2⟩
/-- From behind a call back ahead of it. -/
theorem MidX.call {B : Nat} {F : World → Prop} {w1 w2 w3 W : World} (hB : B ≤ w1.heap.size) (h12 : Keep w1 w2) (h23 : w2.heap.size ≤ w3.heap.size) (hg : ∀ k, B ≤ k → k < w2.heap.size → w3.heap[k]? = w2.heap[k]?)
    (h : MidX B F w3 W) : MidF (MidX B F w1) w1 w2 W := by
  have hz := h12.size
  refine ⟨⟨h.1, fun k h1 h2 => ?_⟩, fun k h1 h2 => ?_⟩
  · rw [h.2 k h1 (by omega), hg k h1 (by omega), h12.block k h2]
  · rw [h.2 k (by omega) (by omega), hg k (by omega) h2]
theorem MidX.step {B : Nat} {F : World → Prop} {w2 w3 W : World} (h23 : w2.heap.size ≤ w3.heap.size) (hg : ∀ k, B ≤ k → k < w2.heap.size → w3.heap[k]? = w2.heap[k]?)
    (h : MidX B F w3 W) : MidX B F w2 W := ⟨h.1, fun k h1 h2 => by rw [h.2 k h1 (by omega), hg k h1 h2]⟩

/-- One sector of nothing more. -/
def clrStep (b : List UInt8) (ps : List WP) (i : Int) : List WP := if saneP b.length ps = true ∧ layOk b.length ps.length i 1 = true then ps ++ [(i, z32)] else ps
def clrP (b : List UInt8) (base : Int) (n : Nat) : Nat → List WP → List WP
  | 0, ps => ps
  | k + 1, ps => clrStep b (clrP b base n k ps) (wrap64 (base + (n + k : Nat)))
/-- What clearing leaves pending. -/
def clearP (b : List UInt8) (base room : Int) (N : Nat) (ps : List WP) : List WP :=
  if base < 0 then ps else clrP b base (4 * N) (4 * roomN room - 4 * N) ps

theorem put_z32 (b : List UInt8) (vs : List WriteR) (i : Int) :
    ((putD b vs i z32).2 = 0 → tkB b vs = b ∧ (putD b vs i z32).1 = clrStep b (vs.map WriteR.pl) i) ∧ ((putD b vs i z32).2 ≠ 0 → clrStep b (vs.map WriteR.pl) i = vs.map WriteR.pl) ∧ ((putD b vs i z32).2 = 0 ∨ (putD b vs i z32).2 = 14) := by
  have h32 : z32.length = 32 := rfl
  have e : putD b vs i z32 = if layOk (tkB b vs).length (tkW b vs).length i 1 then ((tkW b vs).map WriteR.pl ++ layWs i z32 1, 0) else ((tkW b vs).map WriteR.pl, 14) := by
    unfold putD layD
    rw [if_pos h32, h32, if_neg (by omega), if_neg (by omega)]
  have e1 : layWs i z32 1 = [(i, z32)] := by
    unfold layWs; simp; decide
  rw [e, e1]
  have ht := tk_pl b vs
  have hl : (tkW b vs).length = ((tkW b vs).map WriteR.pl).length := by rw [List.length_map]
  unfold clrStep
  by_cases hs : saneP b.length (vs.map WriteR.pl) = true
  · rw [if_pos hs, if_pos hs] at ht
    rw [hl, ht.1, ht.2]
    by_cases hk : layOk b.length (vs.map WriteR.pl).length i 1 = true
    · rw [if_pos hk, if_pos ⟨hs, hk⟩]
      exact ⟨fun _ => ⟨rfl, rfl⟩, fun h => absurd rfl h, .inl rfl⟩
    · rw [if_neg hk, if_neg (fun h => hk h.2)]
      exact ⟨fun h => by simp at h, fun _ => rfl, .inr rfl⟩
  · rw [if_neg hs, if_neg hs] at ht
    rw [hl, ht.1, ht.2]
    have hk : ¬ layOk ([] : List UInt8).length ([] : List WP).length i 1 = true := by
      unfold layOk; rw [decide_eq_true_eq]; simp; omega
    rw [if_neg hk, if_neg (fun h => hs h.1)]
    exact ⟨fun h => by simp at h, fun _ => rfl, .inr rfl⟩

theorem opL_le (bn : Nat) (room : Int) (bs : List UInt8) : ∀ (f k : Nat) (last : List UInt8) (hs : List Hd), k ≤ 1024 → (opL bn room bs f k last hs).1 ≤ 1024
  | 0, k, last, hs, h => h
  | f + 1, k, last, hs, h => by
    rw [opL]
    split
    · rename_i h1
      exact opL_le bn room bs f _ _ _ (nx_lt h1)
    · exact h
theorem openL_le (base room : Int) (bs : List UInt8) : (openL base room bs).1 ≤ 1024 := by
  unfold openL; split
  · exact Nat.zero_le _
  · exact opL_le _ _ _ _ _ _ _ (Nat.zero_le _)

set_option maxRecDepth 100000 in
set_option maxHeartbeats 4000000 in
theorem clear_anyF (A : Option Addr) (b : List UInt8) (c : Nat) (PA : Option Addr) (ws : List WriteR) (pc : Nat) (base room n : Int) (last : List UInt8) (ls : Array Value) (w : World) (F : World → Prop) (hF : ∀ W, Keep w W → F W) (h : ∀ W, F W → DOk W A b c PA ws pc) (hS : ShaOk w) (hb1 : -9223372036854775808 ≤ base ∧ base ≤ 9223372036854775807)
    (hls : LogA (lgCells (.slice A b.length c) (.slice PA ws.length pc) base room n last) ls) :
    Calls Tryd.prog 27 #[.agg ls] w fun e w' => ∃ A' c' PA' pc' vs cs, e = .returned (.agg cs) ∧ LogA (lgCells (.slice A' b.length c') (.slice PA' vs.length pc') base room ((openL base room (bytesD b ws)).1 : Nat) (openL base room (bytesD b ws)).2.1) cs ∧
      vs.map WriteR.pl = clearP b base room (openL base room (bytesD b ws)).1 (ws.map WriteR.pl) ∧ (∀ W, MidF F w w' W → DOk W A' b c' PA' vs pc') ∧ Keep w w' := by
  have T1 : Hid (∀ w', Keep w w' → Calls Tryd.prog 28 #[.agg ls] w' fun e w'' => ∃ cs, e = .returned (.agg cs) ∧ LogA (lgCells (.slice A b.length c) (.slice PA ws.length pc) base room ((openL base room (bytesD b ws)).1 : Nat) (openL base room (bytesD b ws)).2.1) cs ∧ Keep w' w'') := fun w' hk => jtaken_any A b c PA ws pc base room n last ls w' (h _ (hF _ hk)) (hS.keep hk) hb1 hls
  have P1 : Hid (∀ (A2 : Option Addr) (c2 : Nat) (PA2 : Option Addr) (pc2 : Nat) (vs : List WriteR) (w' : World) (Fr : World → Prop) (Z : Nat) (i : Int), (∀ W, Keep w' W → Fr W) → (∀ W, Fr W → DOk W A2 b c2 PA2 vs pc2) → Blk w' Z 5 (z32.map u8v) → (-9223372036854775808 ≤ i ∧ i ≤ 9223372036854775807) →
      Calls Tryd.prog 44 #[DV A2 b.length c2 PA2 vs.length pc2, .int .i64 i, .slice (some ⟨Z, 0, none⟩) 32 32] w' fun e w'' => ∃ A' tl c' PA' pc' us er, e = .returned (.tuple #[DV A' tl c' PA' us.length pc', .int .i64 er]) ∧
        (er = 0 → tl = b.length ∧ us.map WriteR.pl = clrStep b (vs.map WriteR.pl) i ∧ ∀ W, MidF Fr w' w'' W → DOk W A' b c' PA' us pc') ∧ (er ≠ 0 → clrStep b (vs.map WriteR.pl) i = vs.map WriteR.pl) ∧ Keep w' w'') := fun A2 c2 PA2 pc2 vs w' Fr Z i hFr hd hZ hi =>
    (put_anyF A2 b c2 PA2 vs pc2 i (some ⟨Z, 0, none⟩) z32 32 w' Fr hFr hd hZ.rd (by decide) hi).mono fun e w'' ⟨A', c', PA', pc', us, h1, h2, h3, h4⟩ =>
      ⟨A', _, c', PA', pc', us, _, h1, fun h0 => by
        obtain ⟨q1, q2⟩ := (put_z32 b vs i).1 h0
        rw [q1] at h3
        exact ⟨by rw [q1], h2.trans q2, h3⟩, (put_z32 b vs i).2.1, h4⟩
  have hll : Hid ((openL base room (bytesD b ws)).2.1.length = 32) := openL_len _ _ _
  have hle := openL_le base room (bytesD b ws)
  generalize openL base room (bytesD b ws) = OP at *
  obtain ⟨N, last'⟩ := OP
  obtain ⟨zs, hz1, hz2, hz3⟩ := zlog_letter
  have hlz := hls.z; have hln := hls.n; have hli := hls.i
  have Hls := Lib.hid hls; have HF := Lib.hid hF; have Hh := Lib.hid h
  clear hls h hS hF
  have hrm : roomN room ≤ 1024 := by unfold roomN; omega
  generalize hbl : b.length = bl at *
  generalize hwl : ws.length = wl at *
  have Hbl := Lib.hid hbl; have Hwl := Lib.hid hwl
  clear hbl hwl
  go_enter Tryd.func27, Tryd.ntmps27
  go_upto_region 1 with fail
  obtain ⟨w1, hw1⟩ : ∃ w1, w1 = (w.alloc (.cells ls 35)).alloc (.cells zs 35) := ⟨_, rfl⟩
  have HL1 : Hid (Blk w1 w.heap.size 35 ls.toList) := by rw [hw1]; exact (Blk.new w _ ls.toList).alloc _
  have HR1 : Hid (Blk w1 (w.heap.size + 1) 35 zs.toList) := by
    rw [hw1]
    have h1 := Blk.new (w.alloc (.cells ls 35)) 35 zs.toList
    rw [World.size_alloc] at h1
    exact h1
  have HK1 : Hid (Keep w w1) := by rw [hw1]; exact keep_trans (keep_new _ _) (keep_new _ _)
  have hz11 : w.heap.size + 2 ≤ w1.heap.size := by rw [hw1]; simp
  rw [← hw1]
  clear hw1
  go_wp2_with ((with_reducible refine load_arr w.heap.size ls (Eq.trans ?_ rfl) HL1.out _ Tryd.underlying35 rfl hli ?_); rfl)
  refine (T1.out w1 HK1.out).mono ?_
  rintro e w2 ⟨cs, rfl, hcs, k2⟩
  have hcz := hcs.z; have hcn := hcs.n; have hci := hcs.i
  have Hcs := Lib.hid hcs
  have HR2 := Lib.hid (HR1.out.keep k2)
  have HK2 := Lib.hid (keep_trans HK1.out k2)
  obtain ⟨w3, hst, hb3, hg3⟩ := run_store_blk (P := Tryd.prog) cs.toList (HL1.out.keep k2) (by simp [hlz, hcz]) Hcs.out.o
  have hb3' := hb3
  rw [Hcs.out.l] at hb3
  have HB3 := Lib.hid hb3; have HB3' := Lib.hid hb3'; have HR3 := Lib.hid (HR2.out.grown hg3 (fun e => by have e2 : w.heap.size = w.heap.size + 1 := Option.some.inj e; omega))
  have HK3 : Hid (Keep w w3) := HK2.out.grown hg3 HK2.out.size (fun q hq => by injection hq with hq; omega)
  have hz3' : w1.heap.size ≤ w3.heap.size := Nat.le_trans k2.size hg3.size
  clear hcs k2 hb3 hb3' hg3
  go_upto_region 2 with fail
  clear hst
  obtain ⟨c0, c1, c2, c3, c4⟩ := lg_d HB3.out
  by_cases hn : base < 0
  · have HC : Hid (clearP b base room N (ws.map WriteR.pl) = ws.map WriteR.pl) := if_pos hn
    obtain ⟨w8, hst8, hb8, hg8⟩ := run_store_blk (P := Tryd.prog) cs.toList HR3.out (by simp [hz1, hcz]) Hcs.out.o
    have Hb8 := Lib.hid hb8; have Hg8 := Lib.hid hg8
    clear hb8 hg8
    go_wp2_with ((with_reducible refine load_arr w.heap.size cs (Eq.trans ?_ rfl) HB3'.out _ Tryd.underlying35 rfl hci ?_); rfl)
    have hb8 := Hb8.out
    refine bodyPost_ret (v := .agg cs) (results_cell_row Tryd.results27 _ _ (w.heap.size + 1) _ _ _ _ rfl hb8 Tryd.underlying35 rfl (by rw [List.size_toArray, Array.length_toList]; exact hci)) rfl ⟨A, c, PA, pc, ws, cs, rfl, ?_, HC.out.symm, fun W hW => ?_, HK3.out.grown Hg8.out HK3.out.size (fun q hq => by injection hq with hq; omega)⟩
    · rw [Hwl.out]; exact Hcs.out
    · exact Hh.out W hW.1
  · have HC : Hid (clearP b base room N (ws.map WriteR.pl) = clrP b base (4 * N) (4 * roomN room - 4 * N) (ws.map WriteR.pl)) := if_neg hn
    obtain ⟨w4, hmk, hZ4, k4, hz4⟩ := make_blk 32 32 32 32 rfl rfl (by omega) (by omega) w3
    have HZ4 := Lib.hid hZ4
    have HB4 := Lib.hid (HB3.out.keep k4); have HR4 := Lib.hid (HR3.out.keep k4); have HK4 := Lib.hid (keep_trans HK3.out k4)
    have Hk4 := Lib.hid k4
    clear hZ4 k4
    go_upto_region 5 with fail
    clear hmk c0 c1 c2 c3 c4
    obtain ⟨c0, c1, c2, c3, c4⟩ := lg_d HB4.out
    go_wp2_with fail
    clear c0 c1 c2 c3 c4 hcz hcn hci HB3' HB3 HR3 HR2
    have hZL : w.heap.size + 2 ≤ w3.heap.size := by omega
    go_loopw [4] (fun i wr => ∃ (k m : Nat) (A2 : Option Addr) (c2 : Nat) (PA2 : Option Addr) (pc2 : Nat) (vs : List WriteR), Hid (m = 4 * N + k) ∧ k ≤ 4 * roomN room - 4 * N ∧ i = .int .i64 m ∧ vs.map WriteR.pl = clrP b base (4 * N) k (ws.map WriteR.pl) ∧
        Blk wr w.heap.size 35 (lgCells (.slice A2 bl c2) (.slice PA2 vs.length pc2) base room N last'.fst) ∧ Blk wr (w.heap.size + 1) 35 zs.toList ∧ Blk wr w3.heap.size 5 (z32.map u8v) ∧
        (∀ W, MidX (w.heap.size + 2) F wr W → DOk W A2 b c2 PA2 vs pc2) ∧ Keep w wr)
      (fun i _ => 4 * roomN room - (intOf i).toNat)
    case atStart =>
      refine ⟨0, 4 * N, A, c, PA, pc, ws, Lib.hid rfl, Nat.zero_le _, by go_num, rfl, ?_, HR4.out, HZ4.out, fun W hW => Hh.out W hW.1, HK4.out⟩
      rw [Hwl.out]; exact HB4.out
    case round =>
      obtain ⟨k, m, A2, c2, PA2, pc2, vs, Hm, hk, rfl, hvs, hB, hR, hZ, hd, hkr⟩ := hrel
      have Hvs := Lib.hid hvs; have HB := Lib.hid hB; have HR := Lib.hid hR; have HZ := Lib.hid hZ; have Hd := Lib.hid hd; have Hkr := Lib.hid hkr
      have hzr := hkr.size
      have hLr := hB.lt; have hRr := hR.lt; have hZr := hZ.lt
      have hmk : m = 4 * N + k := Hm.out
      clear hvs hB hR hZ hd hkr
      obtain ⟨c0, c1, q2, c3, c4⟩ := lg_d HB.out
      have HQ : Hid (∀ i, (-9223372036854775808 ≤ i ∧ i ≤ 9223372036854775807) → Calls Tryd.prog 44 #[DV A2 bl c2 PA2 vs.length pc2, .int .i64 i, .slice (some ⟨w3.heap.size, 0, none⟩) 32 32] wr fun e w'' => ∃ A' tl c' PA' pc' us er, e = .returned (.tuple #[DV A' tl c' PA' us.length pc', .int .i64 er]) ∧
        (er = 0 → tl = bl ∧ us.map WriteR.pl = clrStep b (vs.map WriteR.pl) i ∧ ∀ W, MidF (MidX (w.heap.size + 2) F wr) wr w'' W → DOk W A' b c' PA' us pc') ∧ (er ≠ 0 → clrStep b (vs.map WriteR.pl) i = vs.map WriteR.pl) ∧ Keep wr w'') :=
        fun i hi => P1.out A2 c2 PA2 pc2 vs wr (MidX (w.heap.size + 2) F wr) w3.heap.size i (fun W hW => MidX.keep HF.out Hkr.out hW) Hd.out HZ.out hi
      generalize hvl : vs.length = vl at HQ c1 HB
      have Hvl := Lib.hid hvl; clear hvl
      have hrl : 4 * N ≤ 4 * roomN room ∨ k = 4 * roomN room - 4 * N := by omega
      by_cases hlt : m < 4 * roomN room
      · have hlt' : (m : Int) < 4 * (roomN room : Int) := by omega
        clear hmk hlt
        go_wp2_with (go_at_call 29; refine (records_any _ _).mono ?_; rintro e wq ⟨rfl, rfl⟩)
        refine (HQ.out (wrap64 (base + m)) (by unfold wrap64; omega)).mono ?_
        rintro e w5 ⟨A5, tl, c5, PA5, pc5, us, er, rfl, hy, hn2, k5⟩
        have Hy := Lib.hid hy; have Hn2 := Lib.hid hn2; have K5 := Lib.hid k5
        have HB5 := Lib.hid (HB.out.keep k5); have HR5 := Lib.hid (HR.out.keep k5); have HZ5 := Lib.hid (HZ.out.keep k5)
        have hz5 := k5.size
        have f0 := HB5.out.frozen 0; have f1 := HB5.out.frozen 1
        generalize hul : us.length = ul
        have Hul := Lib.hid hul
        clear hy hn2 k5 c0 c1 q2 c3 c4 hul HQ
        obtain ⟨c0, c1, c2', c3, c4⟩ := lg_d HB5.out
        by_cases he : er = 0
        · subst he
          obtain ⟨rfl, hps, hdd⟩ := Hy.out rfl
          have Hps := Lib.hid hps; have Hdd := Lib.hid hdd
          clear hps hdd
          go_upto_region 10 with fail
          obtain ⟨w6, hw6⟩ : ∃ w6, w6 = w5.alloc (.cells #[.slice A5 tl c5, .slice PA5 ul pc5] 31) := ⟨_, rfl⟩
          have HB6 : Hid (Blk w6 w.heap.size 35 (lgCells (.slice A2 tl c2) (.slice PA2 vl pc2) base room N last'.fst)) := by rw [hw6]; exact HB5.out.alloc _
          have d0 : w6.cell? ⟨w5.heap.size, 0, none⟩ = some (.slice A5 tl c5) := by rw [hw6]; exact box_cell _ _ _ 0
          have d1 : w6.cell? ⟨w5.heap.size, 1, none⟩ = some (.slice PA5 ul pc5) := by rw [hw6]; exact box_cell _ _ _ 1
          have K6 : Hid (Keep w5 w6) := by rw [hw6]; exact (Below.refl _ _).alloc (Nat.le_refl _) _
          rw [← hw6]
          clear hw6 c0 c1 c2' c3 c4 f0 f1
          obtain ⟨c0, c1, c2', c3, c4⟩ := lg_d HB6.out
          have f0 := HB6.out.frozen 0; have f1 := HB6.out.frozen 1
          go_wp2_with fail
          have HB7 : Hid (Blk ((w6.setCell ⟨w.heap.size, 0, none⟩ (.slice A5 tl c5)).setCell ⟨w.heap.size, 1, none⟩ (.slice PA5 ul pc5)) w.heap.size 35 (lgCells (.slice A5 tl c5) (.slice PA5 ul pc5) base room N last'.fst)) := by
            rw [← lg_setD (.slice A2 tl c2) (.slice PA2 vl pc2)]; exact (HB6.out.set_ 0 _).set_ 1 _
          go_roundw
          case rel =>
            refine ⟨k + 1, m + 1, A5, c5, PA5, pc5, us, Lib.hid (by have := Hm.out; omega), by have := Hm.out; omega, by go_num, ?_, ?_, ?_, ?_, ?_, ?_⟩
            · rw [Hps.out, Hvs.out]
              show clrStep _ _ _ = clrStep _ _ _
              rw [Hm.out]
            · rw [Hul.out]; exact HB7.out
            · exact ((HR5.out.keep K6.out).far (by simp) _).far (by simp) _
            · exact ((HZ5.out.keep K6.out).far (by simp; omega) _).far (by simp; omega) _
            · intro W hW
              refine Hdd.out W (MidX.call (w3 := (w6.setCell ⟨w.heap.size, 0, none⟩ (.slice A5 tl c5)).setCell ⟨w.heap.size, 1, none⟩ (.slice PA5 ul pc5)) (by omega) K5.out (by simpa using K6.out.size) (fun q h1 h2 => ?_) hW)
              rw [set_ne _ _ _ _ _ (by omega), set_ne _ _ _ _ _ (by omega)]
              exact K6.out.block q h2
            · exact ((keep_trans (keep_trans Hkr.out K5.out) K6.out).setCell (by simp) _).setCell (by simp) _
          case measure => simp [intOf]; omega
        · have g1 : (er == 0) = false := by simpa using he
          have Hn3 := Lib.hid (Hn2.out he)
          clear he
          go_wp2_with fail
          have K6 : Hid (Keep w5 (w5.alloc (.cells #[.slice A5 tl c5, .slice PA5 ul pc5] 31))) := (Below.refl _ _).alloc (Nat.le_refl _) _
          go_roundw
          case rel =>
            refine ⟨k + 1, m + 1, A2, c2, PA2, pc2, vs, Lib.hid (by have := Hm.out; omega), by have := Hm.out; omega, by go_num, ?_, ?_, ?_, ?_, ?_, ?_⟩
            · rw [← Hn3.out, Hvs.out]
              show clrStep _ _ _ = clrStep _ _ _
              rw [Hm.out]
            · rw [Hvl.out]; exact HB5.out.keep K6.out
            · exact HR5.out.keep K6.out
            · exact HZ5.out.keep K6.out
            · intro W hW
              have h2 := keep_trans K5.out K6.out
              exact Hd.out W (MidX.step h2.size (fun q _ h1 => h2.block q h1) hW)
            · exact keep_trans (keep_trans Hkr.out K5.out) K6.out
          case measure => simp [intOf]; omega
      · have hlt' : ¬ (m : Int) < 4 * (roomN room : Int) := by omega
        have HkM := Lib.hid (show k = 4 * roomN room - 4 * N by omega)
        clear hmk hlt HQ
        obtain ⟨fs, hfs⟩ : ∃ fs : Array Value, fs.toList = lgCells (.slice A2 bl c2) (.slice PA2 vl pc2) base room (N : Nat) last'.fst := ⟨_, rfl⟩
        have hfA := LogA.of hll.out hfs
        have hfz := hfA.z; have hfn := hfA.n; have hfi := hfA.i
        have HfA := Lib.hid hfA
        have HB6 : Hid (Blk wr w.heap.size 35 fs.toList) := by rw [hfs]; exact HB.out
        clear hfA hfs
        obtain ⟨w8, hst8, hb8, hg8⟩ := run_store_blk (P := Tryd.prog) fs.toList HR.out (by simp [hz1, hfz]) HfA.out.o
        have Hb8 := Lib.hid hb8; have Hg8 := Lib.hid hg8
        clear hb8 hg8
        go_wp2_with (first
          | (go_at_call 29; refine (records_any _ _).mono ?_; rintro e wq ⟨rfl, rfl⟩)
          | ((with_reducible refine load_arr w.heap.size fs (Eq.trans ?_ rfl) HB6.out _ Tryd.underlying35 rfl hfi ?_); rfl))
        have hb8 := Hb8.out
        refine bodyPost_ret (v := .agg fs) (results_cell_row Tryd.results27 _ _ (w.heap.size + 1) _ _ _ _ rfl hb8 Tryd.underlying35 rfl (by rw [List.size_toArray, Array.length_toList]; exact hfi)) rfl ⟨A2, c2, PA2, pc2, vs, fs, rfl, ?_, ?_, fun W hW => ?_, Hkr.out.grown Hg8.out Hkr.out.size (fun q hq => by injection hq with hq; omega)⟩
        · rw [Hvl.out]; exact HfA.out
        · rw [HC.out, ← HkM.out]; exact Hvs.out
        · refine Hd.out W ⟨hW.1, fun q h1 h2 => ?_⟩
          have hz8 := Hg8.out.size
          rw [hW.2 q (by omega) (by omega)]
          exact Hg8.out.block q h2 (fun e => by have e2 : q = w.heap.size + 1 := Option.some.inj e; omega)
end Go.Proofs.YtielojlhdnimgaaDoor
