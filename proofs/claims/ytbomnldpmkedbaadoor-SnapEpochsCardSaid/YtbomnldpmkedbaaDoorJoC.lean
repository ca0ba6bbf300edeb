/- What lies behind the records is cleared. -/
import Derived.Test.YtbomnldpmkedbaaDoorJoB
import Derived.Test.YtbomnldpmkedbaaDoorDsP
import Derived.Stop.BytesEq
set_option linter.unusedSimpArgs false
set_option linter.unusedVariables false
namespace Go.Proofs.YtbomnldpmkedbaaDoor
open Go.RowKit
attribute [local go_sem ↓] Go.wp_at_zero Go.wp_at_succ

/-- W: F holds of it, and what lies in w' from block B on is there as it was. -/
def MidX (B : Nat) (F : World → Prop) (w' W : World) : Prop := F W ∧ ∀ k, B ≤ k → k < w'.heap.size → W.heap[k]? = w'.heap[k]?
theorem MidX.keep {B : Nat} {F : World → Prop} {w w' W : World} (hF : ∀ W, Keep w W → F W) (h0 : Keep w w') (h : Keep w' W) : MidX B F w' W := ⟨hF _ (keep_trans h0 h), fun k _ h2 => h.block k h2⟩
/-- From behind a call back ahead of it. -/
theorem MidX.call {B : Nat} {F : World → Prop} {w1 w2 w3 W : World} (hB : B ≤ w1.heap.size) (h12 : Keep w1 w2) (h23 : w2.heap.size ≤ w3.heap.size) (hg : ∀ k, B ≤ k → k < w2.heap.size → w3.heap[k]? = w2.heap[k]?)
    (h : MidX B F w3 W) : MidF (MidX B F w1) w1 w2 W := by
  have hz := h12.size
  refine ⟨⟨h.1, fun k h1 h2 => ?_⟩, fun k h1 h2 => ?_⟩
  · rw [h.2 k h1 (by omega), hg k h1 (by omega), h12.block k h2]
  · rw [h.2 k (by omega) (by omega), hg k (by omega) h2]
theorem MidX.step {B : Nat} {F : World → Prop} {w2 w3 W : World} (h23 : w2.heap.size ≤ w3.heap.size) (hg : ∀ k, B ≤ k → k < w2.heap.size → w3.heap[k]? = w2.heap[k]?)
    (h : MidX B F w3 W) : MidX B F w2 W := ⟨h.1, fun k h1 h2 => by rw [h.2 k h1 (by omega), hg k h1 h2]⟩

/-- One sector of nothing more. -/
def clrStep (b : List UInt8) (ps : List WP) (i : Int) : List WP := if saneP b.length ps = true ∧ layOk b.length ps.length i 1 = true then ps ++ [(i, z32)] else ps
def clrP (b : List UInt8) (base : Int) (n : Nat) : Nat → List WP → List WP
  | 0, ps => ps
  | k + 1, ps => clrStep b (clrP b base n k ps) (wrap64 (base + (n + k : Nat)))
/-- What clearing leaves pending. -/
def clearP (b : List UInt8) (base room : Int) (N : Nat) (ps : List WP) : List WP :=
  if base < 0 then ps else clrP b base (4 * N) (4 * roomN room - 4 * N) ps

theorem put_z32 (b : List UInt8) (vs : List WriteR) (i : Int) :
    ((putD b vs i z32).2 = 0 → tkB b vs = b ∧ (putD b vs i z32).1 = clrStep b (vs.map WriteR.pl) i) ∧ ((putD b vs i z32).2 ≠ 0 → clrStep b (vs.map WriteR.pl) i = vs.map WriteR.pl) ∧ ((putD b vs i z32).2 = 0 ∨ (putD b vs i z32).2 = 14) := by
  have h32 : z32.length = 32 := rfl
  have e : putD b vs i z32 = if layOk (tkB b vs).length (tkW b vs).length i 1 then ((tkW b vs).map WriteR.pl ++ layWs i z32 1, 0) else ((tkW b vs).map WriteR.pl, 14) := by
    unfold putD layD
    rw [if_pos h32, h32, if_neg (by omega), if_neg (by omega)]
  have e1 : layWs i z32 1 = [(i, z32)] := by
    unfold layWs; simp; decide
  rw [e, e1]
  have ht := tk_pl b vs
  have hl : (tkW b vs).length = ((tkW b vs).map WriteR.pl).length := by rw [List.length_map]
  unfold clrStep
  by_cases hs : saneP b.length (vs.map WriteR.pl) = true
  · rw [if_pos hs, if_pos hs] at ht
    rw [hl, ht.1, ht.2]
    by_cases hk : layOk b.length (vs.map WriteR.pl).length i 1 = true
    · rw [if_pos hk, if_pos ⟨hs, hk⟩]
      exact ⟨fun _ => ⟨rfl, rfl⟩, fun h => absurd rfl h, .inl rfl⟩
    · rw [if_neg hk, if_neg (fun h => hk h.2)]
      exact ⟨fun h => by simp at h, fun _ => rfl, .inr rfl⟩
  · rw [if_neg hs, if_neg hs] at ht
    rw [hl, ht.1, ht.2]
    have hk : ¬ layOk ([] : List UInt8).length ([] : List WP).length i 1 = true := by
      unfold layOk; rw [decide_eq_true_eq]; simp; omega
    rw [if_neg hk, if_neg (fun h => hs h.1)]
    exact ⟨fun h => by simp at h, fun _ => rfl, .inr rfl⟩

theorem opL_le (bn : Nat) (room : Int) (bs : List UInt8) : ∀ (f k : Nat) (last : List UInt8) (hs : List Hd), k ≤ 1024 → (opL bn room bs f k last hs).1 ≤ 1024
  | 0, k, last, hs, h => h
  | f + 1, k, last, hs, h => by
    rw [opL]
    split
    · rename_i h1
      exact opL_le bn room bs f _ _ _ (nx_lt h1)
    · exact h
theorem openL_le (base room : Int) (bs : List UInt8) : (openL base room bs).1 ≤ 1024 := by
  unfold openL; split
  · exact Nat.zero_le _
  · exact opL_le _ _ _ _ _ _ _ (Nat.zero_le _)

set_option maxRecDepth 100000 in
set_option maxHeartbeats 4000000 in
theorem clear_anyF (A : Option Addr) (b : List UInt8) (c : Nat) (PA : Option Addr) (ws : List WriteR) (pc : Nat) (base room n : Int) (last : List UInt8) (ls : Array Value) (w : World) (F : World → Prop) (hF : ∀ W, Keep w W → F W) (h : ∀ W, F W → DOk W A b c PA ws pc) (hS : ShaOk w) (hb1 : -9223372036854775808 ≤ base ∧ base ≤ 9223372036854775807)
    (hls : LogA (lgCells (.slice A b.length c) (.slice PA ws.length pc) base room n last) ls) :
    Calls Tryd.prog 49 #[.agg ls] w fun e w' => ∃ A' c' PA' pc' vs cs, e = .returned (.agg cs) ∧ LogA (lgCells (.slice A' b.length c') (.slice PA' vs.length pc') base room ((openL base room (bytesD b ws)).1 : Nat) (openL base room (bytesD b ws)).2.1) cs ∧
      vs.map WriteR.pl = clearP b base room (openL base room (bytesD b ws)).1 (ws.map WriteR.pl) ∧ (∀ W, MidF F w w' W → DOk W A' b c' PA' vs pc') ∧ Keep w w' := by
  have T1 : Hid (∀ w', Keep w w' → Calls Tryd.prog 58 #[.agg ls] w' fun e w'' => ∃ cs, e = .returned (.agg cs) ∧ LogA (lgCells (.slice A b.length c) (.slice PA ws.length pc) base room ((openL base room (bytesD b ws)).1 : Nat) (openL base room (bytesD b ws)).2.1) cs ∧ Keep w' w'') := fun w' hk => jtaken_any A b c PA ws pc base room n last ls w' (h _ (hF _ hk)) (hS.keep hk) hb1 hls
  have P1 : Hid (∀ (A2 : Option Addr) (c2 : Nat) (PA2 : Option Addr) (pc2 : Nat) (vs : List WriteR) (w' : World) (Fr : World → Prop) (Z : Nat) (i : Int), (∀ W, Keep w' W → Fr W) → (∀ W, Fr W → DOk W A2 b c2 PA2 vs pc2) → Blk w' Z 5 (z32.map u8v) → (-9223372036854775808 ≤ i ∧ i ≤ 9223372036854775807) →
      Calls Tryd.prog 66 #[DV A2 b.length c2 PA2 vs.length pc2, .int .i64 i, .slice (some ⟨Z, 0, none⟩) 32 32] w' fun e w'' => ∃ A' tl c' PA' pc' us er, e = .returned (.tuple #[DV A' tl c' PA' us.length pc', .int .i64 er]) ∧
        (er = 0 → tl = b.length ∧ us.map WriteR.pl = clrStep b (vs.map WriteR.pl) i ∧ ∀ W, MidF Fr w' w'' W → DOk W A' b c' PA' us pc') ∧ (er ≠ 0 → clrStep b (vs.map WriteR.pl) i = vs.map WriteR.pl) ∧ Keep w' w'') := fun A2 c2 PA2 pc2 vs w' Fr Z i hFr hd hZ hi =>
    (put_anyF A2 b c2 PA2 vs pc2 i (some ⟨Z, 0, none⟩) z32 32 w' Fr hFr hd hZ.rd (by decide) hi).mono fun e w'' ⟨A', c', PA', pc', us, h1, h2, h3, h4⟩ =>
      ⟨A', _, c', PA', pc', us, _, h1, fun h0 => by
        obtain ⟨q1, q2⟩ := (put_z32 b vs i).1 h0
        rw [q1] at h3
        exact ⟨by rw [q1], h2.trans q2, h3⟩, (put_z32 b vs i).2.1, h4⟩
  have hll : Hid ((openL base room (bytesD b ws)).2.1.length = 32) := openL_len _ _ _
  have hle := openL_le base room (bytesD b ws)
  generalize openL base room (bytesD b ws) = OP at *
  obtain ⟨N, last'⟩ := OP
  obtain ⟨zs, hz1, hz2, hz3⟩ := zlog_letter
  have hlz := hls.z; have hln := hls.n; have hli := hls.i
  have Hls := Lib.hid hls; have HF := Lib.hid hF; have Hh := Lib.hid h
  clear hls h hS hF
  have hrm : roomN room ≤ 1024 := by unfold roomN; omega
  generalize hbl : b.length = bl at *
  generalize hwl : ws.length = wl at *
  have Hbl := Lib.hid hbl; have Hwl := Lib.hid hwl
  clear hbl hwl
  go_enter Tryd.func49, Tryd.ntmps49
  go_upto_region 1 with fail
  obtain ⟨w1, hw1⟩ : ∃ w1, w1 = (w.alloc (.cells ls 36)).alloc (.cells zs 36) := ⟨_, rfl⟩
  have HL1 : Hid (Blk w1 w.heap.size 36 ls.toList) := by rw [hw1]; exact (Blk.new w _ ls.toList).alloc _
  have HR1 : Hid (Blk w1 (w.heap.size + 1) 36 zs.toList) := by
    rw [hw1]
    have h1 := Blk.new (w.alloc (.cells ls 36)) 36 zs.toList
    rw [World.size_alloc] at h1
    exact h1
  have HK1 : Hid (Keep w w1) := by rw [hw1]; exact keep_trans (keep_new _ _) (keep_new _ _)
  have hz11 : w.heap.size + 2 ≤ w1.heap.size := by rw [hw1]; simp
  rw [← hw1]
  clear hw1
  go_wp2_with ((with_reducible refine load_arr w.heap.size ls (Eq.trans ?_ rfl) HL1.out _ Tryd.underlying36 rfl hli ?_); rfl)
  refine (T1.out w1 HK1.out).mono ?_
  rintro e w2 ⟨cs, rfl, hcs, k2⟩
  have hcz := hcs.z; have hcn := hcs.n; have hci := hcs.i
  have Hcs := Lib.hid hcs
  have HR2 := Lib.hid (HR1.out.keep k2)
  have HK2 := Lib.hid (keep_trans HK1.out k2)
  obtain ⟨w3, hst, hb3, hg3⟩ := run_store_blk (P := Tryd.prog) cs.toList (HL1.out.keep k2) (by simp [hlz, hcz]) Hcs.out.o
  have hb3' := hb3
  rw [Hcs.out.l] at hb3
  have HB3 := Lib.hid hb3; have HB3' := Lib.hid hb3'; have HR3 := Lib.hid (HR2.out.grown hg3 (fun e => by have e2 : w.heap.size = w.heap.size + 1 := Option.some.inj e; omega))
  have HK3 : Hid (Keep w w3) := HK2.out.grown hg3 HK2.out.size (fun q hq => by injection hq with hq; omega)
  have hz3' : w1.heap.size ≤ w3.heap.size := Nat.le_trans k2.size hg3.size
  clear hcs k2 hb3 hb3' hg3
  go_upto_region 2 with fail
  clear hst
  obtain ⟨c0, c1, c2, c3, c4⟩ := lg_d HB3.out
  by_cases hn : base < 0
  · have HC : Hid (clearP b base room N (ws.map WriteR.pl) = ws.map WriteR.pl) := if_pos hn
    obtain ⟨w8, hst8, hb8, hg8⟩ := run_store_blk (P := Tryd.prog) cs.toList HR3.out (by simp [hz1, hcz]) Hcs.out.o
    have Hb8 := Lib.hid hb8; have Hg8 := Lib.hid hg8
    clear hb8 hg8
    go_wp2_with ((with_reducible refine load_arr w.heap.size cs (Eq.trans ?_ rfl) HB3'.out _ Tryd.underlying36 rfl hci ?_); rfl)
    have hb8 := Hb8.out
    refine bodyPost_ret (v := .agg cs) (results_cell_row Tryd.results49 _ _ (w.heap.size + 1) _ _ _ _ rfl hb8 Tryd.underlying36 rfl (by rw [List.size_toArray, Array.length_toList]; exact hci)) rfl ⟨A, c, PA, pc, ws, cs, rfl, ?_, HC.out.symm, fun W hW => ?_, HK3.out.grown Hg8.out HK3.out.size (fun q hq => by injection hq with hq; omega)⟩
    · rw [Hwl.out]; exact Hcs.out
    · exact Hh.out W hW.1
  · have HC : Hid (clearP b base room N (ws.map WriteR.pl) = clrP b base (4 * N) (4 * roomN room - 4 * N) (ws.map WriteR.pl)) := if_neg hn
    obtain ⟨w4, hmk, hZ4, k4, hz4⟩ := make_blk 32 32 32 32 rfl rfl (by omega) (by omega) w3
    have HZ4 := Lib.hid hZ4
    have HB4 := Lib.hid (HB3.out.keep k4); have HR4 := Lib.hid (HR3.out.keep k4); have HK4 := Lib.hid (keep_trans HK3.out k4)
    have Hk4 := Lib.hid k4
    clear hZ4 k4
    go_upto_region 5 with fail
    clear hmk c0 c1 c2 c3 c4
    obtain ⟨c0, c1, c2, c3, c4⟩ := lg_d HB4.out
    go_wp2_with fail
    clear c0 c1 c2 c3 c4 hcz hcn hci HB3' HB3 HR3 HR2
    have hZL : w.heap.size + 2 ≤ w3.heap.size := by omega
    go_loopw [4] (fun i wr => ∃ (k m : Nat) (A2 : Option Addr) (c2 : Nat) (PA2 : Option Addr) (pc2 : Nat) (vs : List WriteR), Hid (m = 4 * N + k) ∧ k ≤ 4 * roomN room - 4 * N ∧ i = .int .i64 m ∧ vs.map WriteR.pl = clrP b base (4 * N) k (ws.map WriteR.pl) ∧
        Blk wr w.heap.size 36 (lgCells (.slice A2 bl c2) (.slice PA2 vs.length pc2) base room N last'.fst) ∧ Blk wr (w.heap.size + 1) 36 zs.toList ∧ Blk wr w3.heap.size 5 (z32.map u8v) ∧
        (∀ W, MidX (w.heap.size + 2) F wr W → DOk W A2 b c2 PA2 vs pc2) ∧ Keep w wr)
      (fun i _ => 4 * roomN room - (intOf i).toNat)
    case atStart =>
      refine ⟨0, 4 * N, A, c, PA, pc, ws, Lib.hid rfl, Nat.zero_le _, by go_num, rfl, ?_, HR4.out, HZ4.out, fun W hW => Hh.out W hW.1, HK4.out⟩
      rw [Hwl.out]; exact HB4.out
    case round =>
      obtain ⟨k, m, A2, c2, PA2, pc2, vs, Hm, hk, rfl, hvs, hB, hR, hZ, hd, hkr⟩ := hrel
      have Hvs := Lib.hid hvs; have HB := Lib.hid hB; have HR := Lib.hid hR; have HZ := Lib.hid hZ; have Hd := Lib.hid hd; have Hkr := Lib.hid hkr
      have hzr := hkr.size
      have hLr := hB.lt; have hRr := hR.lt; have hZr := hZ.lt
      have hmk : m = 4 * N + k := Hm.out
      clear hvs hB hR hZ hd hkr
      obtain ⟨c0, c1, q2, c3, c4⟩ := lg_d HB.out
      have HQ : Hid (∀ i, (-9223372036854775808 ≤ i ∧ i ≤ 9223372036854775807) → Calls Tryd.prog 66 #[DV A2 bl c2 PA2 vs.length pc2, .int .i64 i, .slice (some ⟨w3.heap.size, 0, none⟩) 32 32] wr fun e w'' => ∃ A' tl c' PA' pc' us er, e = .returned (.tuple #[DV A' tl c' PA' us.length pc', .int .i64 er]) ∧
        (er = 0 → tl = bl ∧ us.map WriteR.pl = clrStep b (vs.map WriteR.pl) i ∧ ∀ W, MidF (MidX (w.heap.size + 2) F wr) wr w'' W → DOk W A' b c' PA' us pc') ∧ (er ≠ 0 → clrStep b (vs.map WriteR.pl) i = vs.map WriteR.pl) ∧ Keep wr w'') :=
        fun i hi => P1.out A2 c2 PA2 pc2 vs wr (MidX (w.heap.size + 2) F wr) w3.heap.size i (fun W hW => MidX.keep HF.out Hkr.out hW) Hd.out HZ.out hi
      generalize hvl : vs.length = vl at HQ c1 HB
      have Hvl := Lib.hid hvl; clear hvl
      have hrl : 4 * N ≤ 4 * roomN room ∨ k = 4 * roomN room - 4 * N := by omega
      by_cases hlt : m < 4 * roomN room
      · have hlt' : (m : Int) < 4 * (roomN room : Int) := by omega
        clear hmk hlt
        go_wp2_with (go_at_call 59; refine (records_any _ _).mono ?_; rintro e wq ⟨rfl, rfl⟩)
        refine (HQ.out (wrap64 (base + m)) (by unfold wrap64; omega)).mono ?_
        rintro e w5 ⟨A5, tl, c5, PA5, pc5, us, er, rfl, hy, hn2, k5⟩
        have Hy := Lib.hid hy; have Hn2 := Lib.hid hn2; have K5 := Lib.hid k5
        have HB5 := Lib.hid (HB.out.keep k5); have HR5 := Lib.hid (HR.out.keep k5); have HZ5 := Lib.hid (HZ.out.keep k5)
        have hz5 := k5.size
        have f0 := HB5.out.frozen 0; have f1 := HB5.out.frozen 1
        generalize hul : us.length = ul
        have Hul := Lib.hid hul
        clear hy hn2 k5 c0 c1 q2 c3 c4 hul HQ
        obtain ⟨c0, c1, c2', c3, c4⟩ := lg_d HB5.out
        by_cases he : er = 0
        · subst he
          obtain ⟨rfl, hps, hdd⟩ := Hy.out rfl
          have Hps := Lib.hid hps; have Hdd := Lib.hid hdd
          clear hps hdd
          go_upto_region 10 with fail
          obtain ⟨w6, hw6⟩ : ∃ w6, w6 = w5.alloc (.cells #[.slice A5 tl c5, .slice PA5 ul pc5] 32) := ⟨_, rfl⟩
          have HB6 : Hid (Blk w6 w.heap.size 36 (lgCells (.slice A2 tl c2) (.slice PA2 vl pc2) base room N last'.fst)) := by rw [hw6]; exact HB5.out.alloc _
          have d0 : w6.cell? ⟨w5.heap.size, 0, none⟩ = some (.slice A5 tl c5) := by rw [hw6]; exact box_cell _ _ _ 0
          have d1 : w6.cell? ⟨w5.heap.size, 1, none⟩ = some (.slice PA5 ul pc5) := by rw [hw6]; exact box_cell _ _ _ 1
          have K6 : Hid (Keep w5 w6) := by rw [hw6]; exact (Below.refl _ _).alloc (Nat.le_refl _) _
          rw [← hw6]
          clear hw6 c0 c1 c2' c3 c4 f0 f1
          obtain ⟨c0, c1, c2', c3, c4⟩ := lg_d HB6.out
          have f0 := HB6.out.frozen 0; have f1 := HB6.out.frozen 1
          go_wp2_with fail
          have HB7 : Hid (Blk ((w6.setCell ⟨w.heap.size, 0, none⟩ (.slice A5 tl c5)).setCell ⟨w.heap.size, 1, none⟩ (.slice PA5 ul pc5)) w.heap.size 36 (lgCells (.slice A5 tl c5) (.slice PA5 ul pc5) base room N last'.fst)) := by
            rw [← lg_setD (.slice A2 tl c2) (.slice PA2 vl pc2)]; exact (HB6.out.set_ 0 _).set_ 1 _
          go_roundw
          case rel =>
            refine ⟨k + 1, m + 1, A5, c5, PA5, pc5, us, Lib.hid (by have := Hm.out; omega), by have := Hm.out; omega, by go_num, ?_, ?_, ?_, ?_, ?_, ?_⟩
            · rw [Hps.out, Hvs.out]
              show clrStep _ _ _ = clrStep _ _ _
              rw [Hm.out]
            · rw [Hul.out]; exact HB7.out
            · exact ((HR5.out.keep K6.out).far (by simp) _).far (by simp) _
            · exact ((HZ5.out.keep K6.out).far (by simp; omega) _).far (by simp; omega) _
            · intro W hW
              refine Hdd.out W (MidX.call (w3 := (w6.setCell ⟨w.heap.size, 0, none⟩ (.slice A5 tl c5)).setCell ⟨w.heap.size, 1, none⟩ (.slice PA5 ul pc5)) (by omega) K5.out (by simpa using K6.out.size) (fun q h1 h2 => ?_) hW)
              rw [set_ne _ _ _ _ _ (by omega), set_ne _ _ _ _ _ (by omega)]
              exact K6.out.block q h2
            · exact ((keep_trans (keep_trans Hkr.out K5.out) K6.out).setCell (by simp) _).setCell (by simp) _
          case measure => simp [intOf]; omega
        · have g1 : (er == 0) = false := by simpa using he
          have Hn3 := Lib.hid (Hn2.out he)
          clear he
          go_wp2_with fail
          have K6 : Hid (Keep w5 (w5.alloc (.cells #[.slice A5 tl c5, .slice PA5 ul pc5] 32))) := (Below.refl _ _).alloc (Nat.le_refl _) _
          go_roundw
          case rel =>
            refine ⟨k + 1, m + 1, A2, c2, PA2, pc2, vs, Lib.hid (by have := Hm.out; omega), by have := Hm.out; omega, by go_num, ?_, ?_, ?_, ?_, ?_, ?_⟩
            · rw [← Hn3.out, Hvs.out]
              show clrStep _ _ _ = clrStep _ _ _
              rw [Hm.out]
            · rw [Hvl.out]; exact HB5.out.keep K6.out
            · exact HR5.out.keep K6.out
            · exact HZ5.out.keep K6.out
            · intro W hW
              have h2 := keep_trans K5.out K6.out
              exact Hd.out W (MidX.step h2.size (fun q _ h1 => h2.block q h1) hW)
            · exact keep_trans (keep_trans Hkr.out K5.out) K6.out
          case measure => simp [intOf]; omega
      · have hlt' : ¬ (m : Int) < 4 * (roomN room : Int) := by omega
        have HkM := Lib.hid (show k = 4 * roomN room - 4 * N by omega)
        clear hmk hlt HQ
        obtain ⟨fs, hfs⟩ : ∃ fs : Array Value, fs.toList = lgCells (.slice A2 bl c2) (.slice PA2 vl pc2) base room (N : Nat) last'.fst := ⟨_, rfl⟩
        have hfA := LogA.of hll.out hfs
        have hfz := hfA.z; have hfn := hfA.n; have hfi := hfA.i
        have HfA := Lib.hid hfA
        have HB6 : Hid (Blk wr w.heap.size 36 fs.toList) := by rw [hfs]; exact HB.out
        clear hfA hfs
        obtain ⟨w8, hst8, hb8, hg8⟩ := run_store_blk (P := Tryd.prog) fs.toList HR.out (by simp [hz1, hfz]) HfA.out.o
        have Hb8 := Lib.hid hb8; have Hg8 := Lib.hid hg8
        clear hb8 hg8
        go_wp2_with (first
          | (go_at_call 59; refine (records_any _ _).mono ?_; rintro e wq ⟨rfl, rfl⟩)
          | ((with_reducible refine load_arr w.heap.size fs (Eq.trans ?_ rfl) HB6.out _ Tryd.underlying36 rfl hfi ?_); rfl))
        have hb8 := Hb8.out
        refine bodyPost_ret (v := .agg fs) (results_cell_row Tryd.results49 _ _ (w.heap.size + 1) _ _ _ _ rfl hb8 Tryd.underlying36 rfl (by rw [List.size_toArray, Array.length_toList]; exact hfi)) rfl ⟨A2, c2, PA2, pc2, vs, fs, rfl, ?_, ?_, fun W hW => ?_, Hkr.out.grown Hg8.out Hkr.out.size (fun q hq => by injection hq with hq; omega)⟩
        · rw [Hvl.out]; exact HfA.out
        · rw [HC.out, ← HkM.out]; exact Hvs.out
        · refine Hd.out W ⟨hW.1, fun q h1 h2 => ?_⟩
          have hz8 := Hg8.out.size
          rw [hW.2 q (by omega) (by omega)]
          exact Hg8.out.block q h2 (fun e => by have e2 : q = w.heap.size + 1 := Option.some.inj e; omega)
end Go.Proofs.YtbomnldpmkedbaaDoor

namespace Go.Proofs.YtbomnldpmkedbaaDoor
open Go.RowKit
attribute [local go_sem ↓] Go.wp_at_zero Go.wp_at_succ

/-- May a record be laid at a number? -/
def appOk (b : List UInt8) (base : Int) (N : Nat) (ps : List WP) : Bool := saneP b.length ps && layOk b.length ps.length (wrap64 (base + (4 * N : Nat))) 4
/-- What comes of one more: the error, how many, the last sum, what is pending. -/
def appendD (b : List UInt8) (base room : Int) (N : Nat) (last : List UInt8) (h : Hd) (ps : List WP) : Int × Nat × List UInt8 × List WP :=
  if roomN room ≤ N then (12, N, last, ps)
  else if appOk b base N ps then (0, N + 1, recSum last N h, ps ++ layWs (wrap64 (base + (4 * N : Nat))) (recB last N h) 4)
  else (14, N, last, ps)
theorem lay_rec (b : List UInt8) (vs : List WriteR) (i : Int) (r : List UInt8) (hr : r.length = 128) :
    ((saneP b.length (vs.map WriteR.pl) && layOk b.length (vs.map WriteR.pl).length i 4) = true → (layD b vs i r).2 = 0 ∧ tkB b vs = b ∧ (layD b vs i r).1 = vs.map WriteR.pl ++ layWs i r 4) ∧
    ((saneP b.length (vs.map WriteR.pl) && layOk b.length (vs.map WriteR.pl).length i 4) = false → (layD b vs i r).2 = 14) := by
  have e : layD b vs i r = if layOk (tkB b vs).length (tkW b vs).length i 4 then ((tkW b vs).map WriteR.pl ++ layWs i r 4, 0) else ((tkW b vs).map WriteR.pl, 14) := by
    unfold layD
    rw [hr, if_neg (by omega), if_neg (by omega)]
  have ht := tk_pl b vs
  have hl : (tkW b vs).length = ((tkW b vs).map WriteR.pl).length := by rw [List.length_map]
  rw [e]
  by_cases hs : saneP b.length (vs.map WriteR.pl) = true
  · rw [if_pos hs, if_pos hs] at ht
    rw [hl, ht.1, ht.2, hs, Bool.true_and]
    by_cases hk : layOk b.length (vs.map WriteR.pl).length i 4 = true
    · rw [if_pos hk]
      exact ⟨fun _ => ⟨rfl, rfl, rfl⟩, fun h => by rw [hk] at h; exact absurd h (by decide)⟩
    · rw [if_neg hk]
      exact ⟨fun h => absurd h hk, fun _ => rfl⟩
  · rw [if_neg hs, if_neg hs] at ht
    rw [hl, ht.1, ht.2]
    have hk : ¬ layOk ([] : List UInt8).length ([] : List WP).length i 4 = true := by
      unfold layOk; rw [decide_eq_true_eq]; simp; omega
    rw [if_neg hk]
    have hs2 : saneP b.length (vs.map WriteR.pl) = false := by simpa using hs
    rw [hs2, Bool.false_and]
    exact ⟨fun h => absurd h (by decide), fun _ => rfl⟩
theorem lg_setN (d0 d1 : Value) (base room n m : Int) (last : List UInt8) : (lgCells d0 d1 base room n last).set 4 (.int .i64 m) = lgCells d0 d1 base room m last := rfl
theorem lg_last {d0 d1 : Value} {base room n : Int} {last : List UInt8} (hl : last.length = 32) : ((lgCells d0 d1 base room n last).drop 5).take 32 = last.map u8v := by
  unfold lgCells
  rw [List.drop_left' (by rfl), List.take_of_length_le (by rw [List.length_map]; omega)]
theorem lg_setLast {d0 d1 : Value} {base room n : Int} {last s : List UInt8} (hl : last.length = 32) (hs : s.length = 32) : splice (lgCells d0 d1 base room n last) 5 (s.map u8v) = lgCells d0 d1 base room n s := by
  unfold splice lgCells
  rw [List.take_left' (by rfl), List.drop_eq_nil_of_le (by simp; omega), List.append_nil]
theorem LogA.last {l : List Value} {cs : Array Value} (h : LogA l cs) : True := trivial

set_option maxRecDepth 100000 in
set_option maxHeartbeats 6000000 in
theorem append_anyF (A : Option Addr) (b : List UInt8) (c : Nat) (PA : Option Addr) (ws : List WriteR) (pc : Nat) (base room n : Int) (last : List UInt8) (ls : Array Value) (h : Hd) (hd : Array Value) (w : World) (F : World → Prop) (hF : ∀ W, Keep w W → F W) (h0 : ∀ W, F W → DOk W A b c PA ws pc) (hS : ShaOk w) (hb1 : -9223372036854775808 ≤ base ∧ base ≤ 9223372036854775807)
    (hls : LogA (lgCells (.slice A b.length c) (.slice PA ws.length pc) base room n last) ls) (hk : h.ok) (hhd : HdA h hd) :
    Calls Tryd.prog 41 #[.agg ls, .agg hd] w fun e w' => ∃ A' c' PA' pc' vs cs AP, AP = appendD b base room (openL base room (bytesD b ws)).1 (openL base room (bytesD b ws)).2.1 h (ws.map WriteR.pl) ∧ e = .returned (.tuple #[.agg cs, .int .i64 AP.1]) ∧
      LogA (lgCells (.slice A' b.length c') (.slice PA' vs.length pc') base room (AP.2.1 : Nat) AP.2.2.1) cs ∧
      vs.map WriteR.pl = AP.2.2.2 ∧ (∀ W, MidF F w w' W → DOk W A' b c' PA' vs pc') ∧ Keep w w' := by
  have T1 : Hid (∀ w', Keep w w' → Calls Tryd.prog 58 #[.agg ls] w' fun e w'' => ∃ cs, e = .returned (.agg cs) ∧ LogA (lgCells (.slice A b.length c) (.slice PA ws.length pc) base room ((openL base room (bytesD b ws)).1 : Nat) (openL base room (bytesD b ws)).2.1) cs ∧ Keep w' w'') := fun w' hk => jtaken_any A b c PA ws pc base room n last ls w' (h0 _ (hF _ hk)) (hS.keep hk) hb1 hls
  have hll : Hid ((openL base room (bytesD b ws)).2.1.length = 32) := openL_len _ _ _
  have hle := openL_le base room (bytesD b ws)
  generalize openL base room (bytesD b ws) = OP at *
  obtain ⟨N, last', hs'⟩ := OP
  obtain ⟨AP, hAP⟩ : ∃ AP, AP = appendD b base room N last' h (ws.map WriteR.pl) := ⟨_, rfl⟩
  have R1 : Hid (∀ w' lv, Keep w w' → HashA last' lv → Calls Tryd.prog 60 #[.agg lv, .int .i64 (N : Int), .agg hd] w' fun e w'' => ∃ A c ds, e = .returned (.tuple #[.slice A 128 c, .agg ds]) ∧ HashA (recSum last' N h) ds ∧ w''.ownsRow w'.heap.size 5 1 (.slice A 128 c) 128 ((recB last' N h).map u8v) ∧ Keep w' w'') := fun w' lv hkk hlv =>
    record_any last' lv N h hd w' hlv hll.out hk hhd (hS.keep hkk)
  have HA1 : Hid (roomN room ≤ N → AP = (12, N, last', ws.map WriteR.pl)) := fun h1 => by rw [hAP]; unfold appendD; exact if_pos h1
  have hrl := recB_len last' N hk
  have L1 : Hid (¬ roomN room ≤ N → ∀ (RB RS : List UInt8), recB last' N h = RB → recSum last' N h = RS → ∀ (D : Option Addr) (cd : Nat) (w' : World) (Fr : World → Prop) (j : Int), j = wrap64 (base + (4 * N : Nat)) → (∀ W, Keep w' W → Fr W) → (∀ W, Fr W → DOk W A b c PA ws pc) → Rd w' D (RB.map u8v) →
      Calls Tryd.prog 61 #[DV A b.length c PA ws.length pc, .int .i64 j, .slice D 128 cd] w' fun e w'' => ∃ A' tl c' PA' pc' us er, e = .returned (.tuple #[DV A' tl c' PA' us.length pc', .int .i64 er]) ∧
        (er = 0 → tl = b.length ∧ AP = (0, N + 1, RS, us.map WriteR.pl) ∧ ∀ W, MidF Fr w' w'' W → DOk W A' b c' PA' us pc') ∧ (er ≠ 0 → AP = (er, N, last', ws.map WriteR.pl)) ∧ Keep w' w'') := fun hn RB RS e1 e2 D cd w' Fr j hj hFr hd hD => by
    subst e1 e2
    have hr := recB_len last' N hk
    have hc := lay_anyF A b c PA ws pc j D (recB last' N h) cd w' Fr hFr hd hD (by omega) (by rw [hj]; unfold wrap64; omega)
    rw [hr] at hc
    have hlr := lay_rec b ws j _ hr
    refine hc.mono fun e w'' ⟨A', c', PA', pc', us, h1, h2, h3, h4⟩ => ⟨A', _, c', PA', pc', us, _, h1, fun hz => ?_, fun hz => ?_, h4⟩
    · have ha : appOk b base N (ws.map WriteR.pl) = true := by
        cases hq : appOk b base N (ws.map WriteR.pl) with
        | true => rfl
        | false =>
          unfold appOk at hq
          rw [← hj] at hq
          have := hlr.2 hq
          omega
      have ha2 := ha
      unfold appOk at ha2
      rw [← hj] at ha2
      obtain ⟨_, q1, q2⟩ := hlr.1 ha2
      rw [q1] at h3 ⊢
      rw [q2] at h2
      refine ⟨rfl, ?_, h3⟩
      rw [hAP, h2, hj]; unfold appendD
      rw [if_neg hn, if_pos ha]
    · have ha : appOk b base N (ws.map WriteR.pl) = false := by
        cases hq : appOk b base N (ws.map WriteR.pl) with
        | false => rfl
        | true =>
          unfold appOk at hq
          rw [← hj] at hq
          exact absurd (hlr.1 hq).1 hz
      have ha2 := ha
      unfold appOk at ha2
      rw [← hj] at ha2
      rw [hlr.2 ha2, hAP]; unfold appendD
      rw [if_neg hn, if_neg (by rw [ha]; decide)]
  have HR0 : Hid ((recB last' N h).length = 128) := hrl
  obtain ⟨RB, hRB⟩ : ∃ RB, recB last' N h = RB := ⟨_, rfl⟩
  obtain ⟨RS, hRS⟩ : ∃ RS, recSum last' N h = RS := ⟨_, rfl⟩
  have L2 : Hid (¬ roomN room ≤ N → ∀ (D : Option Addr) (cd : Nat) (w' : World) (Fr : World → Prop) (j : Int), j = wrap64 (base + (4 * N : Nat)) → (∀ W, Keep w' W → Fr W) → (∀ W, Fr W → DOk W A b c PA ws pc) → Rd w' D (RB.map u8v) →
      Calls Tryd.prog 61 #[DV A b.length c PA ws.length pc, .int .i64 j, .slice D 128 cd] w' fun e w'' => ∃ A' tl c' PA' pc' us er, e = .returned (.tuple #[DV A' tl c' PA' us.length pc', .int .i64 er]) ∧
        (er = 0 → tl = b.length ∧ AP = (0, N + 1, RS, us.map WriteR.pl) ∧ ∀ W, MidF Fr w' w'' W → DOk W A' b c' PA' us pc') ∧ (er ≠ 0 → AP = (er, N, last', ws.map WriteR.pl)) ∧ Keep w' w'') := fun hn => L1.out hn RB RS hRB hRS
  rw [hRB, hRS] at R1
  rw [hRB] at HR0
  obtain ⟨zs, hz1, hz2, hz3⟩ := zlog_letter
  obtain ⟨sz, hSZ, szz⟩ := zhash_A
  have szs := hSZ.z; have szn := hSZ.n; have szi := hSZ.i
  have hdz := hhd.z; have hdn := hhd.n; have hdi := hhd.i
  have hlz := hls.z; have hln := hls.n; have hli := hls.i
  have Hls := Lib.hid hls; have HF := Lib.hid hF; have Hh := Lib.hid h0; have Hhd := Lib.hid hhd; have HSZ := Lib.hid hSZ
  have HAP := Lib.hid hAP
  clear hls h0 hS hF hhd hSZ hAP L1 hRB hRS hrl
  have hrm : roomN room ≤ 1024 := by unfold roomN; omega
  generalize hbl : b.length = bl at *
  generalize hwl : ws.length = wl at *
  have Hbl := Lib.hid hbl; have Hwl := Lib.hid hwl
  clear hbl hwl
  go_enter Tryd.func41, Tryd.ntmps41
  go_upto_region 1 with fail
  obtain ⟨w1, hw1⟩ : ∃ w1, w1 = ((w.alloc (.cells ls 36)).alloc (.cells hd 65)).alloc (.cells zs 36) := ⟨_, rfl⟩
  have HL1 : Hid (Blk w1 w.heap.size 36 ls.toList) := by rw [hw1]; exact ((Blk.new w _ ls.toList).alloc _).alloc _
  have HH1 : Hid (Blk w1 (w.heap.size + 1) 65 hd.toList) := by
    rw [hw1]
    have h1 := Blk.new (w.alloc (.cells ls 36)) 65 hd.toList
    rw [World.size_alloc] at h1
    exact h1.alloc _
  have HR1 : Hid (Blk w1 (w.heap.size + 1 + 1) 36 zs.toList) := by
    rw [hw1]
    have h1 := Blk.new ((w.alloc (.cells ls 36)).alloc (.cells hd 65)) 36 zs.toList
    rw [World.size_alloc, World.size_alloc] at h1
    exact h1
  have HK1 : Hid (Keep w w1) := by rw [hw1]; exact keep_trans (keep_trans (keep_new _ _) (keep_new _ _)) (keep_new _ _)
  have hz11 : w.heap.size + 3 ≤ w1.heap.size := by rw [hw1]; simp
  rw [← hw1]
  clear hw1
  go_wp2_with ((with_reducible refine load_arr w.heap.size ls (Eq.trans ?_ rfl) HL1.out _ Tryd.underlying36 rfl hli ?_); rfl)
  refine (T1.out w1 HK1.out).mono ?_
  rintro e w2 ⟨cs, rfl, hcs, k2⟩
  have hcz := hcs.z; have hcn := hcs.n; have hci := hcs.i
  have Hcs := Lib.hid hcs
  have HR2 := Lib.hid (HR1.out.keep k2); have HH2 := Lib.hid (HH1.out.keep k2)
  have HK2 := Lib.hid (keep_trans HK1.out k2)
  obtain ⟨w3, hst, hb3, hg3⟩ := run_store_blk (P := Tryd.prog) cs.toList (HL1.out.keep k2) (by simp [hlz, hcz]) Hcs.out.o
  have hb3' := hb3
  rw [Hcs.out.l] at hb3
  have HB3 := Lib.hid hb3; have HB3' := Lib.hid hb3'
  have HR3 := Lib.hid (HR2.out.grown hg3 (fun e => by have e2 : w.heap.size = w.heap.size + 1 + 1 := Option.some.inj e; omega))
  have HH3 := Lib.hid (HH2.out.grown hg3 (fun e => by have e2 : w.heap.size = w.heap.size + 1 := Option.some.inj e; omega))
  have HK3 : Hid (Keep w w3) := HK2.out.grown hg3 HK2.out.size (fun q hq => by injection hq with hq; omega)
  have hz3' : w1.heap.size ≤ w3.heap.size := Nat.le_trans k2.size hg3.size
  clear hcs k2 hb3 hb3' hg3
  go_upto_region 2 with fail
  clear hst
  obtain ⟨c0, c1, c2, c3, c4⟩ := lg_d HB3.out
  have a3 := aft_cell c3; have a4 := aft_cell c4
  refine wp_region_aft (by kernel_rfl) (by kernel_rfl) w3 (Below.refl _ _) ?_
  repeat (go_big_quiet_step ((go_at_call 59; exact quiet_aft_same (records_any _ _))))
  refine wpQuiet_nil ?_
  rintro _ ⟨z2, rfl⟩
  have j2 := aft_keep w3 z2
  generalize aft w3 z2 = w4 at j2 ⊢
  have HB4 := Lib.hid (HB3.out.keep j2); have HB4' := Lib.hid (HB3'.out.keep j2); have HR4 := Lib.hid (HR3.out.keep j2); have HH4 := Lib.hid (HH3.out.keep j2)
  have HK4 := Lib.hid (keep_trans HK3.out j2)
  have hz4' : w1.heap.size ≤ w4.heap.size := Nat.le_trans hz3' j2.size
  clear a3 a4 c0 c1 c2 c3 c4 j2 HB3 HB3' HR3 HH3 HK3 HR2 HH2 HK2
  by_cases hn : roomN room ≤ N
  · have hn' : ((roomN room : Nat) : Int) ≤ (N : Int) := by omega
    obtain ⟨w8, hst8, hb8, hg8⟩ := run_store_blk (P := Tryd.prog) cs.toList HR4.out (by simp [hz1, hcz]) Hcs.out.o
    have Hb8 := Lib.hid hb8; have Hg8 := Lib.hid hg8
    have HE := Lib.hid (HA1.out hn)
    clear hb8 hg8 hn L2
    go_wp2_with ((with_reducible refine load_arr w.heap.size cs (Eq.trans ?_ rfl) HB4'.out _ Tryd.underlying36 rfl hci ?_); rfl)
    have hb8 := Hb8.out
    refine bodyPost_ret (v := .tuple #[.agg cs, .int .i64 12]) (results_cell_tmp_row Tryd.results41 _ _ (w.heap.size + 1 + 1) _ _ _ _ rfl hb8 Tryd.underlying36 rfl (by rw [List.size_toArray, Array.length_toList]; exact hci)) rfl ⟨A, c, PA, pc, ws, cs, AP, HAP.out, ?_, ?_, ?_, fun W hW => Hh.out W hW.1, HK4.out.grown Hg8.out HK4.out.size (fun q hq => by injection hq with hq; omega)⟩
    · rw [HE.out]
    · rw [HE.out, Hwl.out]; exact Hcs.out
    · rw [HE.out]
  · have hn' : ¬ ((roomN room : Nat) : Int) ≤ (N : Int) := by omega
    have L3 := Lib.hid (L2.out hn)
    clear HA1 L2 hn
    go_upto_region 4 with fail
    obtain ⟨lv, hlv⟩ : ∃ lv, HashA last' lv := ⟨_, HashA.of hll.out⟩
    have hvz := hlv.z; have hvn := hlv.n; have hvi := hlv.i
    have Hlv := Lib.hid hlv
    obtain ⟨c0, c1, c2, c3, c4⟩ := lg_d HB4.out
    have Hrg : Hid (w4.rangeAt w.heap.size 5 lv.toList) := range_of HB4.out 5 lv.toList (by rw [hlv.l, List.length_map, hll.out]; exact lg_last hll.out)
    clear hlv
    go_wp2_with (first
      | ((with_reducible refine load_part w.heap.size 5 lv (Eq.trans ?_ rfl) Hrg.out (.array 32 5) hash_under (arr_row _ _) hvi ?_); rfl)
      | ((with_reducible refine load_arr (w.heap.size + 1) hd (Eq.trans ?_ rfl) HH4.out _ Tryd.underlying65 rfl hdi ?_); rfl))
    refine (R1.out w4 lv HK4.out Hlv.out).mono ?_
    rintro e w5 ⟨D, cd, ds, rfl, hds, own5, k5⟩
    have dsz := hds.z; have dsn := hds.n; have dsi := hds.i
    have Hds := Lib.hid hds; have Own5 := Lib.hid own5
    have HB5 := Lib.hid (HB4.out.keep k5); have HB5' := Lib.hid (HB4'.out.keep k5); have HR5 := Lib.hid (HR4.out.keep k5)
    have HK5 := Lib.hid (keep_trans HK4.out k5)
    have hz5' : w4.heap.size ≤ w5.heap.size := k5.size
    have hst5 : (storeCells ⟨w5.heap.size, 0, none⟩ ds.toList 0).run Tryd.prog (w5.alloc (.cells sz 34)) = .ok () (w5.alloc (.cells ds 34)) := run_storeCells_new (P := Tryd.prog) w5 34 sz ds dsi (szs.trans dsz.symm) (by have := all_oneCell_toArray Hds.out.o; rwa [Array.toArray_toList] at this)
    clear hds own5 k5 c0 c1 c2 c3 c4
    go_upto_region 5 with fail
    clear hst5
    obtain ⟨w6, hw6⟩ : ∃ w6, w6 = w5.alloc (.cells ds 34) := ⟨_, rfl⟩
    have HS6 : Hid (Blk w6 w5.heap.size 34 ds.toList) := by rw [hw6]; exact Blk.new w5 _ ds.toList
    have k6 : Keep w5 w6 := by rw [hw6]; exact keep_new _ _
    rw [← hw6]
    clear hw6
    have HB6 := Lib.hid (HB5.out.keep k6); have HB6' := Lib.hid (HB5'.out.keep k6); have HR6 := Lib.hid (HR5.out.keep k6); have HK6 := Lib.hid (keep_trans HK5.out k6)
    have HD6 := Lib.hid ((own_rd Own5.out).keep k6)
    have hz6' : w5.heap.size < w6.heap.size := HS6.out.lt
    generalize hsx : w5.heap.size = S at *
    clear k6 HB5 HB5' HR5 HK5 Own5 HR4 HH4 hsx
    obtain ⟨c0, c1, c2, c3, c4⟩ := lg_d HB6.out
    have HQ : Hid (∀ j, j = wrap64 (base + (4 * N : Nat)) → Calls Tryd.prog 61 #[DV A bl c PA wl pc, .int .i64 j, .slice D 128 cd] w6 fun e w'' => ∃ A' tl c' PA' pc' us er, e = .returned (.tuple #[DV A' tl c' PA' us.length pc', .int .i64 er]) ∧
        (er = 0 → tl = bl ∧ AP = (0, N + 1, RS, us.map WriteR.pl) ∧ ∀ W, MidF (MidX (w.heap.size + 3) F w6) w6 w'' W → DOk W A' b c' PA' us pc') ∧ (er ≠ 0 → AP = (er, N, last', ws.map WriteR.pl)) ∧ Keep w6 w'') := fun j hj =>
      L3.out D cd w6 (MidX (w.heap.size + 3) F w6) j hj (fun W hW => MidX.keep HF.out HK6.out hW) (fun W hW => Hh.out W hW.1) HD6.out
    clear L3
    go_wp2_with fail
    refine (HQ.out _ (by (congr 1) <;> omega)).mono ?_
    rintro e w7 ⟨A5, tl, c5, PA5, pc5, us, er, rfl, hy, hn2, k7⟩
    have Hy := Lib.hid hy; have Hn2 := Lib.hid hn2; have K7 := Lib.hid k7
    have HB7 := Lib.hid (HB6.out.keep k7); have HB7' := Lib.hid (HB6'.out.keep k7); have HR7 := Lib.hid (HR6.out.keep k7); have HS7 := Lib.hid (HS6.out.keep k7)
    have hz7' : w6.heap.size ≤ w7.heap.size := k7.size
    have f0 := HB7.out.frozen 0; have f1 := HB7.out.frozen 1
    generalize hul : us.length = ul
    have Hul := Lib.hid hul
    clear hy hn2 k7 c0 c1 c2 c3 c4 hul HQ HB6 HB6' HR6 HS6
    obtain ⟨c0, c1, c2', c3, c4⟩ := lg_d HB7.out
    by_cases he : er = 0
    · subst he
      obtain ⟨rfl, hps, hdd⟩ := Hy.out rfl
      have Hps := Lib.hid hps; have Hdd := Lib.hid hdd
      clear hps hdd
      go_upto_region 8 with fail
      obtain ⟨w8, hw8⟩ : ∃ w8, w8 = w7.alloc (.cells #[.slice A5 tl c5, .slice PA5 ul pc5] 32) := ⟨_, rfl⟩
      have HB8 : Hid (Blk w8 w.heap.size 36 (lgCells (.slice A tl c) (.slice PA wl pc) base room N last')) := by rw [hw8]; exact HB7.out.alloc _
      have d0 : w8.cell? ⟨w7.heap.size, 0, none⟩ = some (.slice A5 tl c5) := by rw [hw8]; exact box_cell _ _ _ 0
      have d1 : w8.cell? ⟨w7.heap.size, 1, none⟩ = some (.slice PA5 ul pc5) := by rw [hw8]; exact box_cell _ _ _ 1
      have K8 : Hid (Keep w7 w8) := by rw [hw8]; exact (Below.refl _ _).alloc (Nat.le_refl _) _
      rw [← hw8]
      clear hw8 c0 c1 c2' c3 c4 f0 f1
      have HR8 := Lib.hid (HR7.out.keep K8.out); have HS8 := Lib.hid (HS7.out.keep K8.out)
      obtain ⟨c0, c1, c2', c3, c4⟩ := lg_d HB8.out
      have f0 := HB8.out.frozen 0; have f1 := HB8.out.frozen 1; have f4 := HB8.out.frozen 4
      go_upto_region 10 with fail
      obtain ⟨w9, hw9⟩ : ∃ w9, w9 = ((w8.setCell ⟨w.heap.size, 0, none⟩ (.slice A5 tl c5)).setCell ⟨w.heap.size, 1, none⟩ (.slice PA5 ul pc5)).setCell ⟨w.heap.size, 4, none⟩ (.int .i64 ((N : Int) + 1)) := ⟨_, rfl⟩
      have HB9 : Hid (Blk w9 w.heap.size 36 (lgCells (.slice A5 tl c5) (.slice PA5 ul pc5) base room ((N : Int) + 1) last')) := by
        rw [hw9, ← lg_setN _ _ _ _ (N : Int), ← lg_setD (.slice A tl c) (.slice PA wl pc)]; exact ((HB8.out.set_ 0 _).set_ 1 _).set_ 4 _
      have HR9 : Hid (Blk w9 (w.heap.size + 1 + 1) 36 zs.toList) := by rw [hw9]; exact ((HR8.out.far (by simp; omega) _).far (by simp; omega) _).far (by simp; omega) _
      have HS9 : Hid (Blk w9 S 34 ds.toList) := by rw [hw9]; exact ((HS8.out.far (by simp; omega) _).far (by simp; omega) _).far (by simp; omega) _
      have HK9 : Hid (Keep w w9) := by rw [hw9]; exact (((keep_trans (keep_trans HK6.out K7.out) K8.out).setCell (by simp) _).setCell (by simp) _).setCell (by simp) _
      have HG9 : Hid (w8.grownBy w9 (some w.heap.size)) := by rw [hw9]; exact grown_set (grown_set (grown_set (grown_refl _ _)))
      rw [← hw9]
      clear hw9 c0 c1 c2' c3 c4 f0 f1 f4
      obtain ⟨wa, hsta, hba, hga⟩ := run_store_part (P := Tryd.prog) 5 ds.toList HB9.out (by rw [lg_len hll.out, Array.length_toList, dsz]; omega) Hds.out.o
      have hrl : last'.length = 32 := hll.out
      have hRl : RS.length = 32 := by have h1 := congrArg List.length Hds.out.l; rw [Array.length_toList, dsz, List.length_map] at h1; omega
      rw [Hds.out.l, lg_setLast hrl hRl] at hba
      have HBa := Lib.hid hba
      have HRa := Lib.hid (HR9.out.grown hga (fun e => by have e2 : w.heap.size = w.heap.size + 1 + 1 := Option.some.inj e; omega))
      have HKa : Hid (Keep w wa) := HK9.out.grown hga HK9.out.size (fun q hq => by injection hq with hq; omega)
      have HGa : Hid (w8.grownBy wa (some w.heap.size)) := grown_trans2 HG9.out hga
      clear hba hga hrl
      go_upto_region 11 with ((with_reducible refine load_arr S ds (Eq.trans ?_ rfl) HS9.out (.array 32 5) hash_under (arr_row _ _) dsi ?_); rfl)
      clear hsta
      obtain ⟨fs, hfs⟩ : ∃ fs : Array Value, fs.toList = lgCells (.slice A5 tl c5) (.slice PA5 ul pc5) base room ((N : Int) + 1) RS := ⟨_, rfl⟩
      have hfA := LogA.of hRl hfs
      have hfz := hfA.z; have hfn := hfA.n; have hfi := hfA.i
      have HfA := Lib.hid hfA
      have HBb : Hid (Blk wa w.heap.size 36 fs.toList) := by rw [hfs]; exact HBa.out
      clear hfA hfs hRl
      obtain ⟨wc, hstc, hbc, hgc⟩ := run_store_blk (P := Tryd.prog) fs.toList HRa.out (by simp [hz1, hfz]) HfA.out.o
      have Hbc := Lib.hid hbc; have Hgc := Lib.hid hgc
      clear hbc hgc
      go_wp2_with ((with_reducible refine load_arr w.heap.size fs (Eq.trans ?_ rfl) HBb.out _ Tryd.underlying36 rfl hfi ?_); rfl)
      have hbc := Hbc.out
      refine bodyPost_ret (v := .tuple #[.agg fs, .int .i64 0]) (results_cell_tmp_row Tryd.results41 _ _ (w.heap.size + 1 + 1) _ _ _ _ rfl hbc Tryd.underlying36 rfl (by rw [List.size_toArray, Array.length_toList]; exact hfi)) rfl ⟨A5, c5, PA5, pc5, us, fs, AP, HAP.out, ?_, ?_, ?_, fun W hW => ?_, HKa.out.grown Hgc.out HKa.out.size (fun q hq => by injection hq with hq; omega)⟩
      · rw [Hps.out]
      · rw [Hps.out, Hul.out]; exact HfA.out
      · rw [Hps.out]
      · have hz8 : w7.heap.size ≤ w8.heap.size := K8.out.size
        have hza : w8.heap.size ≤ wa.heap.size := HGa.out.size
        have hzc : wa.heap.size ≤ wc.heap.size := Hgc.out.size
        refine Hdd.out W (MidX.call (w3 := wc) (by omega) K7.out (by omega) (fun q h1 h2 => ?_) ⟨hW.1, fun k h1 h2 => hW.2 k (by omega) h2⟩)
        rw [Hgc.out.block q (by omega) (fun e => by have e2 : q = w.heap.size + 1 + 1 := Option.some.inj e; omega), HGa.out.block q (by omega) (fun e => by have e2 : q = w.heap.size := Option.some.inj e; omega)]
        exact K8.out.block q h2
    · have g1 : (er == 0) = false := by simpa using he
      have Hn3 := Lib.hid (Hn2.out he)
      clear he c0 c1 c2' c3 c4 f0 f1
      go_upto_region 7 with fail
      obtain ⟨w8, hw8⟩ : ∃ w8, w8 = w7.alloc (.cells #[.slice A5 tl c5, .slice PA5 ul pc5] 32) := ⟨_, rfl⟩
      have K8 : Hid (Keep w7 w8) := by rw [hw8]; exact (Below.refl _ _).alloc (Nat.le_refl _) _
      rw [← hw8]
      clear hw8
      have HB8' := Lib.hid (HB7'.out.keep K8.out)
      obtain ⟨w9, hst9, hb9, hg9⟩ := run_store_blk (P := Tryd.prog) cs.toList (HR7.out.keep K8.out) (by simp [hz1, hcz]) Hcs.out.o
      have Hb9 := Lib.hid hb9; have Hg9 := Lib.hid hg9
      have HK9 : Hid (Keep w w9) := (keep_trans (keep_trans HK6.out K7.out) K8.out).grown hg9 (keep_trans (keep_trans HK6.out K7.out) K8.out).size (fun q hq => by injection hq with hq; omega)
      clear hb9 hg9
      go_wp2_with ((with_reducible refine load_arr w.heap.size cs (Eq.trans ?_ rfl) HB8'.out _ Tryd.underlying36 rfl hci ?_); rfl)
      have hb9 := Hb9.out
      refine bodyPost_ret (v := .tuple #[.agg cs, .int .i64 er]) (results_cell_tmp_row Tryd.results41 _ _ (w.heap.size + 1 + 1) _ _ _ _ rfl hb9 Tryd.underlying36 rfl (by rw [List.size_toArray, Array.length_toList]; exact hci)) rfl ⟨A, c, PA, pc, ws, cs, AP, HAP.out, ?_, ?_, ?_, fun W hW => Hh.out W hW.1, HK9.out⟩
      · rw [Hn3.out]
      · rw [Hn3.out, Hwl.out]; exact Hcs.out
      · rw [Hn3.out]
end Go.Proofs.YtbomnldpmkedbaaDoor

namespace Go.Proofs.YtbomnldpmkedbaaDoor
open Go.RowKit
attribute [local go_sem ↓] Go.wp_at_zero Go.wp_at_succ

theorem HashA.cell {l : List UInt8} {cs : Array Value} (h : HashA l cs) : cs = (l.map Extern.Stop.cell).toArray := h.e.symm
theorem u8_size (w : World) : (sizeOf 5).run Tryd.prog w = .ok 1 w := by kernel_rfl
theorem hash_eqIn (d : Nat) {l m : List UInt8} {cs ds : Array Value} (h : HashA l cs) (g : HashA m ds) (hl : l.length = 32) (hm : m.length = 32) (w : World) :
    (Op.equalIn (d + 2) 34 (.agg cs) (.agg ds)).run Tryd.prog w = .ok (l == m) w := by
  rw [h.cell, g.cell]
  exact run_equalIn_bytes w d _ 5 32 hash_under Tryd.underlying5 u8_size l m hl hm
theorem hash_eql {l m : List UInt8} {cs ds : Array Value} (h : HashA l cs) (g : HashA m ds) (hl : l.length = 32) (hm : m.length = 32) (w : World) :
    (Go.binOp .eql 34 (.agg cs) (.agg ds)).run Tryd.prog w = .ok (.bool (l == m)) w := by
  rw [run_eql_struct, show (10000 : Nat) = 9998 + 2 from rfl, hash_eqIn 9998 h g hl hm]
  rfl
theorem hash_guard : Tryd.prog.eqGuardType Tryd.prog.depth 34 = false := by kernel_rfl

/-- Are headers the same? -/
def hdEq (a b : Hd) : Bool := a.ver == b.ver && (a.prev == b.prev && (a.root == b.root && (a.time == b.time && (a.bits == b.bits && a.nonce == b.nonce))))
theorem hdEq_iff (a b : Hd) : hdEq a b = true ↔ a = b := by
  unfold hdEq
  simp only [Bool.and_eq_true, beq_iff_eq]
  constructor
  · rintro ⟨h1, h2, h3, h4, h5, h6⟩
    cases a; cases b
    simp only at h1 h2 h3 h4 h5 h6
    subst h1 h2 h3 h4 h5 h6
    rfl
  · rintro rfl; exact ⟨rfl, rfl, rfl, rfl, rfl, rfl⟩
instance hdDec : DecidableEq Hd := fun a b => decidable_of_iff _ (hdEq_iff a b)
theorem hd_guard : Tryd.prog.eqGuardType Tryd.prog.depth 65 = false := by kernel_rfl
theorem hd_stood : Tryd.prog.stoodInHeld 65 = false := by kernel_rfl
theorem hash_size (w : World) : (sizeOf 34).run Tryd.prog w = .ok 32 w := by kernel_rfl
theorem hash_agg (w : World) : (isAgg 34).run Tryd.prog w = .ok true w := by kernel_rfl
theorem part_hash (cs : Array Value) (off : Nat) (w : World) : (part 34 cs off).run Tryd.prog w = .ok (.agg (cs.extract off (off + 32))) w := by
  simp only [part, Sem.run_bind, hash_agg, hash_size, Result.andThen_ok, if_true, Sem.run_pure]
theorem u32_agg (w : World) : (isAgg 63).run Tryd.prog w = .ok false w := by kernel_rfl
theorem part_u32 {cs : Array Value} {off : Nat} {v : Value} (h : cs[off]? = some v) (w : World) : (part 63 cs off).run Tryd.prog w = .ok v w := by
  simp only [part, Sem.run_bind, u32_agg, Result.andThen_ok, Bool.false_eq_true, if_false, h, Sem.run_pure]
theorem eq_u32 (d : Nat) (x y : UInt32) (w : World) : (Op.equalIn (d + 1) 63 (u32v x) (u32v y)).run Tryd.prog w = .ok (x == y) w := by
  unfold u32v
  rw [run_equalIn_int w d _ .u32 .u32 _ _ Tryd.underlying63]
  congr 1
  rw [Bool.eq_iff_iff]
  simp [← UInt32.toNat_inj]
  exact Int.ofNat_inj
theorem part_of {cs : Array Value} {all : List Value} (hc : cs.toList = all) (off : Nat) {l : List UInt8} (hl : l.length = 32) (h : (all.drop off).take 32 = l.map u8v) : HashA l (cs.extract off (off + 32)) := by
  have e : cs.extract off (off + 32) = (l.map u8v).toArray := by
    apply Array.ext'
    rw [Array.toList_extract, List.extract_eq_take_drop, hc, Nat.add_sub_cancel_left, h]
  rw [e]; exact HashA.of hl
theorem HdA.parts {h : Hd} {cs : Array Value} (hA : HdA h cs) (hk : h.ok) : cs[0]? = some (u32v h.ver) ∧ HashA h.prev (cs.extract 1 33) ∧ HashA h.root (cs.extract 33 65) ∧ cs[65]? = some (u32v h.time) ∧ cs[66]? = some (u32v h.bits) ∧ cs[67]? = some (u32v h.nonce) := by
  have hg : ∀ k, cs[k]? = h.cells[k]? := fun k => by rw [← hA.l, Array.getElem?_toList]
  refine ⟨(hg 0).trans rfl, part_of hA.l 1 hk.1 ?_, part_of hA.l 33 hk.2 ?_, (hg 65).trans (hd_tail hk 0), (hg 66).trans (hd_tail hk 1), (hg 67).trans (hd_tail hk 2)⟩
  · unfold Hd.cells
    rw [List.drop_succ_cons, List.drop_zero, List.take_left' (by simp [hk.1])]
  · unfold Hd.cells
    rw [List.drop_succ_cons, List.drop_left' (by simp [hk.1]), List.take_left' (by simp [hk.2])]
def eqF (P : Program) (d : Nat) (xs ys : Array Value) : List (Bool × TypeId × Nat) → Sem Bool
  | [] => pure true
  | f :: fs =>
    if f.1 = true then do
      let a ← part f.2.1 xs f.2.2
      let b ← part f.2.1 ys f.2.2
      let r ← Op.equalIn d f.2.1 a b
      if (!r) = true then pure false else eqF P d xs ys fs
    else eqF P d xs ys fs
theorem eqF_of (P : Program) (d : Nat) (xs ys : Array Value) : ∀ fs : List Field, Op.eqFields d xs ys fs = eqF P d xs ys (fs.map fun f => (f.name != "_", f.type, f.offset))
  | [] => rfl
  | f :: fs => by
    rw [List.map_cons, Op.eqFields, eqF, eqF_of P d xs ys fs]
    simp
theorem eqF_step {P : Program} {d : Nat} {xs ys : Array Value} {t : TypeId} {o : Nat} {fs : List (Bool × TypeId × Nat)} {a b : Value} {r s : Bool} {w : World} (ha : (part t xs o).run P w = .ok a w) (hb : (part t ys o).run P w = .ok b w)
    (hr : (Op.equalIn d t a b).run P w = .ok r w) (hs : (eqF P d xs ys fs).run P w = .ok s w) : (eqF P d xs ys ((true, t, o) :: fs)).run P w = .ok (r && s) w := by
  rw [eqF, if_pos rfl]
  simp only [Sem.run_bind, ha, hb, hr, Result.andThen_ok]
  cases r
  · simp
  · simpa using hs
theorem hd_fields : ((Tryd.prog.fieldsOf 65).toList.map fun f => (f.name != "_", f.type, f.offset)) = [(true, 63, 0), (true, 34, 1), (true, 34, 33), (true, 63, 65), (true, 63, 66), (true, 63, 67)] := by kernel_rfl
theorem hd_struct : Tryd.prog.underlying 65 = some (.struct (Tryd.prog.fieldsOf 65)) := by kernel_rfl
theorem hd_eqIn (d : Nat) {h g : Hd} {cs ds : Array Value} (hc : HdA h cs) (hd : HdA g ds) (hk : h.ok) (gk : g.ok) (w : World) :
    (Op.equalIn (d + 3) 65 (.agg cs) (.agg ds)).run Tryd.prog w = .ok (hdEq h g) w := by
  obtain ⟨a0, a1, a2, a3, a4, a5⟩ := hc.parts hk
  obtain ⟨b0, b1, b2, b3, b4, b5⟩ := hd.parts gk
  rw [run_equalIn_agg w (d + 2) _ _ _ hd_struct hd_stood, eqF_of Tryd.prog, hd_fields]
  have e : hdEq h g = (h.ver == g.ver && (h.prev == g.prev && (h.root == g.root && (h.time == g.time && (h.bits == g.bits && (h.nonce == g.nonce && true)))))) := by rw [Bool.and_true]; rfl
  rw [e]
  refine eqF_step (part_u32 a0 w) (part_u32 b0 w) (eq_u32 _ _ _ w) (eqF_step (part_hash _ _ w) (part_hash _ _ w) (hash_eqIn d a1 b1 hk.1 gk.1 w) (eqF_step (part_hash _ _ w) (part_hash _ _ w) (hash_eqIn d a2 b2 hk.2 gk.2 w) (eqF_step (part_u32 a3 w) (part_u32 b3 w) (eq_u32 _ _ _ w) (eqF_step (part_u32 a4 w) (part_u32 b4 w) (eq_u32 _ _ _ w) (eqF_step (part_u32 a5 w) (part_u32 b5 w) (eq_u32 _ _ _ w) ?_)))))
  rw [eqF]; rfl
theorem hd_eql {h g : Hd} {cs ds : Array Value} (hc : HdA h cs) (hd : HdA g ds) (hk : h.ok) (gk : g.ok) (w : World) :
    (Go.binOp .eql 65 (.agg cs) (.agg ds)).run Tryd.prog w = .ok (.bool (hdEq h g)) w := by
  rw [run_eql_struct, show (10000 : Nat) = 9997 + 3 from rfl, hd_eqIn 9997 hc hd hk gk]
  rfl
theorem hd_neq {h g : Hd} {cs ds : Array Value} (hc : HdA h cs) (hd : HdA g ds) (hk : h.ok) (gk : g.ok) (w : World) :
    (Go.binOp .neq 65 (.agg cs) (.agg ds)).run Tryd.prog w = .ok (.bool (!hdEq h g)) w := by
  rw [run_neq_struct, show (10000 : Nat) = 9997 + 3 from rfl, hd_eqIn 9997 hc hd hk gk]
  rfl

/-- A part of a variable is loaded by an operation that is guarded. -/
theorem load_partg {P : Program} {w : World} {ops : Array Oper} {rest : List Oper} {a : Act} {Q : Exit → Act → World → Prop} {x : Operand} {dst : Option Tmp} {ty ty' : TypeId} {pos : String} {af : Array Edge} {gd : Option (Nat × Bool)}
    (g off : Nat) (cs : Array Value) (hx : a.eval x = .pointer (some ⟨g, off, none⟩)) (hr : w.rangeAt g off cs.toList) (d : TypeDesc) (hu : P.underlying ty = some d) (hd : d.isRow = true) (hi : (P.info? ty).map (·.size) = some cs.size)
    (hw : Region.wanted { dst := dst, op := .load ty x, type := ty', pos := pos, after := af, guard := gd } (yielded ops a.tmps) = true)
    (h : wpList P ops Q rest (a.put dst (.agg cs)) w) : wpList P ops Q ({ dst := dst, op := .load ty x, type := ty', pos := pos, after := af, guard := gd } :: rest) a w := by
  unfold wpList
  rw [if_pos hw]
  left
  exact wp_load_mid ty x rfl g off hx cs.toList d hr hu hd (by simpa using hi) h

end Go.Proofs.YtbomnldpmkedbaaDoor

namespace Go.Proofs.YtbomnldpmkedbaaDoor
open Go.RowKit
attribute [local go_sem ↓] Go.wp_at_zero Go.wp_at_succ

/-- A disk's bytes, of what is pending as plain writes. -/
def bytesQ (b : List UInt8) (ps : List WP) : List UInt8 := if saneP b.length ps then bytesP b ps else []
theorem bytesD_Q (b : List UInt8) (ws : List WriteR) : bytesD b ws = bytesQ b (ws.map WriteR.pl) := by
  rw [bytesD_tk]
  have ht := tk_pl b ws
  unfold bytesQ
  by_cases hs : saneP b.length (ws.map WriteR.pl) = true
  · rw [if_pos hs, if_pos hs] at ht
    rw [if_pos hs, ht.1, ht.2]
  · rw [if_neg hs, if_neg hs] at ht
    rw [if_neg hs, ht.1, ht.2]; rfl
/-- What lies there when a log is opened again. -/
def reopB (b : List UInt8) (ps : List WP) (base room : Int) : List UInt8 := bytesQ b (clearP b base room (openL base room (bytesQ b ps)).1 ps)

set_option maxRecDepth 100000 in
set_option maxHeartbeats 3000000 in
theorem reopen_any (A : Option Addr) (b : List UInt8) (c : Nat) (PA : Option Addr) (ws : List WriteR) (pc : Nat) (base room : Int) (w : World) (h : DOk w A b c PA ws pc) (hS : ShaOk w) (hb1 : -9223372036854775808 ≤ base ∧ base ≤ 9223372036854775807) :
    Calls Tryd.prog 31 #[DV A b.length c PA ws.length pc, .int .i64 base, .int .i64 room] w fun e w' => ∃ B, B = reopB b (ws.map WriteR.pl) base room ∧ ∃ A' c' cs hv, e = .returned (.tuple #[.agg cs, hv]) ∧
      LogA (lgCells (.slice A' B.length c') (.slice none 0 0) base room ((openL base room B).1 : Nat) (openL base room B).2.1) cs ∧
      w'.ownsRow w.heap.size 5 1 (.slice A' B.length c') B.length (B.map u8v) ∧
      w'.ownsRow w.heap.size 65 68 hv (openL base room (bytesQ b (ws.map WriteR.pl))).2.2.length ((openL base room (bytesQ b (ws.map WriteR.pl))).2.2.flatMap Hd.cells) ∧ Keep w w' := by
  obtain ⟨B, hB⟩ : ∃ B, B = reopB b (ws.map WriteR.pl) base room := ⟨_, rfl⟩
  have HB := Lib.hid hB
  have O1 : Hid (∀ w', Keep w w' → Calls Tryd.prog 36 #[DV A b.length c PA ws.length pc, .int .i64 base, .int .i64 room] w' fun e w'' => ∃ cs hv, e = .returned (.tuple #[.agg cs, hv]) ∧
      LogA (lgCells (.slice A b.length c) (.slice PA ws.length pc) base room ((openL base room (bytesQ b (ws.map WriteR.pl))).1 : Nat) (openL base room (bytesQ b (ws.map WriteR.pl))).2.1) cs ∧
      w''.ownsRow w'.heap.size 65 68 hv (openL base room (bytesQ b (ws.map WriteR.pl))).2.2.length ((openL base room (bytesQ b (ws.map WriteR.pl))).2.2.flatMap Hd.cells) ∧ Keep w' w'') := fun w' hk =>
    (open_any A b c PA ws pc base room w' (h.keep hk) (hS.keep hk) hb1).mono fun e w'' ⟨cs, hv, h1, h2, h3, h4⟩ => by
      rw [bytesD_Q] at h2 h3
      exact ⟨cs, hv, h1, LogA.of (openL_len _ _ _) h2, h3, h4⟩
  have C1 : Hid (∀ w' ls, Keep w w' → LogA (lgCells (.slice A b.length c) (.slice PA ws.length pc) base room ((openL base room (bytesQ b (ws.map WriteR.pl))).1 : Nat) (openL base room (bytesQ b (ws.map WriteR.pl))).2.1) ls →
      Calls Tryd.prog 49 #[.agg ls] w' fun e w'' => ∃ us, e = .returned (.agg us) ∧ Keep w' w'' ∧ Calls Tryd.prog 46 #[.agg us] w'' fun e w3 => ∃ A' c' cs, e = .returned (.agg cs) ∧
        LogA (lgCells (.slice A' B.length c') (.slice none 0 0) base room ((openL base room B).1 : Nat) (openL base room B).2.1) cs ∧
        w3.ownsRow w'.heap.size 5 1 (.slice A' B.length c') B.length (B.map u8v) ∧ Keep w'' w3) := fun w' ls hk hls =>
    (clear_anyF A b c PA ws pc base room _ _ ls w' (fun W => Keep w W) (fun W hW => keep_trans hk hW) (fun W hW => h.keep hW) (hS.keep hk) hb1 hls).mono fun e w'' ⟨A', c', PA', pc', vs, cs, h1, h2, h3, h4, h5⟩ => by
      refine ⟨cs, h1, h5, ?_⟩
      have hd := h4 w'' ⟨keep_trans hk h5, fun k _ _ => rfl⟩
      have e1 : bytesD b vs = B := by rw [bytesD_Q, h3, hB, bytesD_Q]; rfl
      have hc := jsync_any A' b c' PA' vs pc' base room _ _ cs w'' hd (hS.keep (keep_trans hk h5)) hb1 h2
      rw [e1] at hc
      exact hc.mono fun e w3 ⟨A2, c2, ds, q1, q2, q3, q4⟩ => ⟨A2, c2, ds, q1, q2, own_lowH q3 h5.size, q4⟩
  clear hB
  generalize openL base room (bytesQ b (ws.map WriteR.pl)) = OP at *
  obtain ⟨N, last, hs⟩ := OP
  obtain ⟨zs, hz1, hz2, hz3⟩ := zlog_letter
  clear h hS
  generalize hOB : openL base room B = OB at *
  obtain ⟨N2, last2, hs2⟩ := OB
  have HOB := Lib.hid hOB
  clear hOB
  generalize hbl : b.length = bl at *
  generalize hwl : ws.length = wl at *
  clear hbl hwl
  go_enter Tryd.func31, Tryd.ntmps31
  go_upto_region 1 with fail
  obtain ⟨w1, hw1⟩ : ∃ w1, w1 = (w.alloc (.cells #[.slice A bl c, .slice PA wl pc] 32)).alloc (.cells zs 36) := ⟨_, rfl⟩
  have HD1 : Blk w1 w.heap.size 32 [.slice A bl c, .slice PA wl pc] := by rw [hw1]; exact (Blk.new w _ [.slice A bl c, .slice PA wl pc]).alloc _
  have HR1 : Hid (Blk w1 (w.heap.size + 1) 36 zs.toList) := by
    rw [hw1]
    have h1 := Blk.new (w.alloc (.cells #[.slice A bl c, .slice PA wl pc] 32)) 36 zs.toList
    rw [World.size_alloc] at h1
    exact h1
  have HK1 : Hid (Keep w w1) := by rw [hw1]; exact keep_trans (keep_new _ _) (keep_new _ _)
  have hz11 : w.heap.size + 2 ≤ w1.heap.size := by rw [hw1]; simp
  rw [← hw1]
  clear hw1
  have d0 := HD1.cell 0; have d1 := HD1.cell 1
  simp only [List.getElem?_cons_zero, List.getElem?_cons_succ] at d0 d1
  clear HD1
  go_wp2_with fail
  refine (O1.out w1 HK1.out).mono ?_
  rintro e w2 ⟨cs, hv, rfl, hcs, own2, k2⟩
  have hcz := hcs.z; have hcn := hcs.n; have hci := hcs.i
  have Hcs := Lib.hid hcs; have Own2 := Lib.hid own2
  have HR2 := Lib.hid (HR1.out.keep k2); have HK2 := Lib.hid (keep_trans HK1.out k2)
  have hz2' : w1.heap.size ≤ w2.heap.size := k2.size
  have hst : (storeCells ⟨w2.heap.size, 0, none⟩ cs.toList 0).run Tryd.prog (w2.alloc (.cells zs 36)) = .ok () (w2.alloc (.cells cs 36)) := run_storeCells_new (P := Tryd.prog) w2 36 zs cs hci (hz1.trans hcz.symm) (by have := all_oneCell_toArray Hcs.out.o; rwa [Array.toArray_toList] at this)
  clear hcs own2 k2 d0 d1
  go_upto_region 2 with fail
  clear hst
  obtain ⟨w3, hw3⟩ : ∃ w3, w3 = w2.alloc (.cells cs 36) := ⟨_, rfl⟩
  have HC3 : Hid (Blk w3 w2.heap.size 36 cs.toList) := by rw [hw3]; exact Blk.new w2 _ cs.toList
  have k3 : Keep w2 w3 := by rw [hw3]; exact keep_new _ _
  rw [← hw3]
  clear hw3
  have HR3 := Lib.hid (HR2.out.keep k3); have HK3 := Lib.hid (keep_trans HK2.out k3); have Own3 := Lib.hid (own_keep Own2.out k3)
  have hz3' : w2.heap.size ≤ w3.heap.size := k3.size
  generalize w2.heap.size = C at *
  clear k3
  go_wp2_with ((with_reducible refine load_arr C cs (Eq.trans ?_ rfl) HC3.out _ Tryd.underlying36 rfl hci ?_); rfl)
  refine (C1.out w3 cs HK3.out Hcs.out).mono ?_
  rintro e w4 ⟨us, rfl, k4, hsync⟩
  have HSy := Lib.hid hsync
  have HR4 := Lib.hid (HR3.out.keep k4); have HK4 := Lib.hid (keep_trans HK3.out k4); have Own4 := Lib.hid (own_keep Own3.out k4)
  have hz4' : w3.heap.size ≤ w4.heap.size := k4.size
  clear hsync k4
  go_wp2_with fail
  refine HSy.out.mono ?_
  rintro e w5 ⟨A5, c5, fs, rfl, hfA, own5, k5⟩
  have hfz := hfA.z; have hfn := hfA.n; have hfi := hfA.i
  have HfA := Lib.hid hfA; have OwnB := Lib.hid own5
  have HR5 := Lib.hid (HR4.out.keep k5); have HK5 := Lib.hid (keep_trans HK4.out k5); have Own5 := Lib.hid (own_keep Own4.out k5)
  clear hfA own5 k5
  obtain ⟨w8, hst8, hb8, hg8⟩ := run_store_blk (P := Tryd.prog) fs.toList HR5.out (by simp [hz1, hfz]) HfA.out.o
  have Hb8 := Lib.hid hb8; have Hg8 := Lib.hid hg8
  clear hb8 hg8
  go_wp2_with fail
  have hb8 := Hb8.out
  refine bodyPost_ret (v := .tuple #[.agg fs, hv]) (results_cell_tmp_row Tryd.results31 _ _ (w.heap.size + 1) _ _ _ _ rfl hb8 Tryd.underlying36 rfl (by rw [List.size_toArray, Array.length_toList]; exact hfi)) rfl ⟨B, HB.out, A5, c5, fs, hv, rfl, ?_, ?_, ?_, HK5.out.grown Hg8.out HK5.out.size (fun q hq => by injection hq with hq; omega)⟩
  · rw [HOB.out]; exact HfA.out
  · exact own_lowH (OwnB.out.kept Hg8.out (.inr (fun e => by have h1 := (OwnB.out.lt _ e).1; omega))) (by omega)
  · exact own_lowH (Own5.out.kept Hg8.out (.inr (fun e => by have h1 := (Own5.out.lt _ e).1; omega))) (by omega)
end Go.Proofs.YtbomnldpmkedbaaDoor
