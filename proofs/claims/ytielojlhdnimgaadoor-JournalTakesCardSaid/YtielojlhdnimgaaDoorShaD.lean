/- SHA-256: more summed. -/
import Derived.Test.YtielojlhdnimgaaDoorShaC
set_option linter.unusedSimpArgs false
set_option linter.unusedVariables false
namespace Go.Proofs.YtielojlhdnimgaaDoor
open Go.RowKit
attribute [local go_sem ↓] Go.wp_at_zero Go.wp_at_succ

set_option maxHeartbeats 1000000 in
theorem ssane_any (v : H8) (A : Option Addr) (n c N : Nat) (w : World) (hn : n < 64) (hN : N ≤ 1000000000000) (h : n = N % 64) :
    Calls Tryd.prog 51 #[SV v A n c N] w fun e w' => e = .returned (.bool true) ∧ Keep w w' := by
  have t : ((n : Int) == (N : Int) % 64) = true := by simp; omega
  go_enter Tryd.func51, Tryd.ntmps51
  go_wp2
  go_ret
  exact ⟨ret_bool (by first | rfl | (simp; omega)), keep_new _ _⟩

/-- The blocks of l behind v, so many. -/
def blocks (v : H8) (l : List UInt8) : Nat → H8
  | 0 => v
  | k + 1 => blockH (blocks v l k) ((l.drop (64 * k)).take 64)
theorem blocks_head (v : H8) (l : List UInt8) : ∀ k, blocks (blockH v (l.take 64)) (l.drop 64) k = blocks v l (k + 1)
  | 0 => rfl
  | k + 1 => by
    rw [blocks, blocks_head v l k, List.drop_drop, show 64 + 64 * k = 64 * (k + 1) by omega]
    rfl

structure StCells (w : World) (g : Nat) (v : H8) (A : Option Addr) (n c : Nat) (N : Int) : Prop where
  b : Blk w g 96 (v.cells ++ [.slice A n c, .int .u64 N])
theorem StCells.all {w : World} {g : Nat} {v : H8} {A : Option Addr} {n c : Nat} {N : Int} (h : StCells w g v A n c N) :
    w.cell? ⟨g, 0, none⟩ = some (u32v v.a) ∧ w.cell? ⟨g, 1, none⟩ = some (u32v v.b) ∧ w.cell? ⟨g, 2, none⟩ = some (u32v v.c) ∧ w.cell? ⟨g, 3, none⟩ = some (u32v v.d) ∧ w.cell? ⟨g, 4, none⟩ = some (u32v v.e) ∧ w.cell? ⟨g, 5, none⟩ = some (u32v v.f) ∧ w.cell? ⟨g, 6, none⟩ = some (u32v v.g) ∧ w.cell? ⟨g, 7, none⟩ = some (u32v v.h) ∧ w.cell? ⟨g, 8, none⟩ = some (.slice A n c) ∧ w.cell? ⟨g, 9, none⟩ = some (.int .u64 N) :=
  ⟨h.b.cell 0, h.b.cell 1, h.b.cell 2, h.b.cell 3, h.b.cell 4, h.b.cell 5, h.b.cell 6, h.b.cell 7, h.b.cell 8, h.b.cell 9⟩
theorem StCells.fr {w : World} {g : Nat} {v : H8} {A : Option Addr} {n c : Nat} {N : Int} (h : StCells w g v A n c N) :
    w.frozen? ⟨g, 0, none⟩ = false ∧ w.frozen? ⟨g, 1, none⟩ = false ∧ w.frozen? ⟨g, 2, none⟩ = false ∧ w.frozen? ⟨g, 3, none⟩ = false ∧ w.frozen? ⟨g, 4, none⟩ = false ∧ w.frozen? ⟨g, 5, none⟩ = false ∧ w.frozen? ⟨g, 6, none⟩ = false ∧ w.frozen? ⟨g, 7, none⟩ = false ∧ w.frozen? ⟨g, 8, none⟩ = false ∧ w.frozen? ⟨g, 9, none⟩ = false :=
  ⟨h.b.frozen 0, h.b.frozen 1, h.b.frozen 2, h.b.frozen 3, h.b.frozen 4, h.b.frozen 5, h.b.frozen 6, h.b.frozen 7, h.b.frozen 8, h.b.frozen 9⟩

theorem StCells.keep {w w' : World} {g : Nat} {v : H8} {A : Option Addr} {n c : Nat} {N : Int} (h : StCells w g v A n c N) (hk : Keep w w') : StCells w' g v A n c N := ⟨h.b.keep hk⟩
theorem StCells.grown {w w' : World} {g : Nat} {v : H8} {A : Option Addr} {n c : Nat} {N : Int} {row : Option Nat} (h : StCells w g v A n c N) (hg : w.grownBy w' row) (hne : row ≠ some g) : StCells w' g v A n c N := ⟨h.b.grown hg hne⟩
theorem StCells.new (w : World) (g : Nat) (v : H8) (A : Option Addr) (n c : Nat) (N : Int) (hg : g = w.heap.size) : StCells (w.alloc (.cells #[u32v v.a, u32v v.b, u32v v.c, u32v v.d, u32v v.e, u32v v.f, u32v v.g, u32v v.h, .slice A n c, .int .u64 N] 96)) g v A n c N :=
  ⟨hg ▸ Blk.new w _ (v.cells ++ [.slice A n c, .int .u64 N])⟩
/-- The words of a state set. -/
theorem StCells.set8 {w : World} {g : Nat} {v : H8} {A : Option Addr} {n c : Nat} {N : Int} (h : StCells w g v A n c N) (u : H8) :
    StCells ((((((((w.setCell ⟨g, 0, none⟩ (u32v u.a)).setCell ⟨g, 1, none⟩ (u32v u.b)).setCell ⟨g, 2, none⟩ (u32v u.c)).setCell ⟨g, 3, none⟩ (u32v u.d)).setCell ⟨g, 4, none⟩ (u32v u.e)).setCell ⟨g, 5, none⟩ (u32v u.f)).setCell ⟨g, 6, none⟩ (u32v u.g)).setCell ⟨g, 7, none⟩ (u32v u.h)) g u A n c N :=
  ⟨(((((((h.b.set_ 0 (u32v u.a)).set_ 1 (u32v u.b)).set_ 2 (u32v u.c)).set_ 3 (u32v u.d)).set_ 4 (u32v u.e)).set_ 5 (u32v u.f)).set_ 6 (u32v u.g)).set_ 7 (u32v u.h)⟩
theorem StCells.set10 {w : World} {g : Nat} {v : H8} {A : Option Addr} {n c : Nat} {N : Int} (h : StCells w g v A n c N) (u : H8) (A' : Option Addr) (n' c' : Nat) (N' : Int) :
    ((((((((((w.setCell ⟨g, 0, none⟩ (u32v u.a)).setCell ⟨g, 1, none⟩ (u32v u.b)).setCell ⟨g, 2, none⟩ (u32v u.c)).setCell ⟨g, 3, none⟩ (u32v u.d)).setCell ⟨g, 4, none⟩ (u32v u.e)).setCell ⟨g, 5, none⟩ (u32v u.f)).setCell ⟨g, 6, none⟩ (u32v u.g)).setCell ⟨g, 7, none⟩ (u32v u.h)).setCell ⟨g, 8, none⟩ (.slice A' n' c')).setCell ⟨g, 9, none⟩ (.int .u64 N')).heap[g]? = some (.cells #[u32v u.a, u32v u.b, u32v u.c, u32v u.d, u32v u.e, u32v u.f, u32v u.g, u32v u.h, .slice A' n' c', .int .u64 N'] 96 (0, 0)) :=
  (((((((((h.b.set_ 0 (u32v u.a)).set_ 1 (u32v u.b)).set_ 2 (u32v u.c)).set_ 3 (u32v u.d)).set_ 4 (u32v u.e)).set_ 5 (u32v u.f)).set_ 6 (u32v u.g)).set_ 7 (u32v u.h)).set_ 8 (.slice A' n' c')).set_ 9 (.int .u64 N')
theorem own_made {w : World} {base g c : Nat} {e : TypeId} (h : Blk w g e ((List.replicate c (0 : UInt8)).map u8v)) (hb : base ≤ g) (hc : c ≤ maxLen) : w.ownsRow base e 1 (.slice (some ⟨g, 0, none⟩) 0 c) 0 [] := by
  have h2 : w.heap[g]? = some (.cells (splice ((List.replicate c (0 : UInt8)).map u8v) 0 []).toArray e (0, 0)) := by
    rw [show splice ((List.replicate c (0 : UInt8)).map u8v) 0 [] = (List.replicate c (0 : UInt8)).map u8v by simp [splice]]
    exact h
  exact own_fill h2 hb rfl (by simp) (Nat.zero_le _) hc

theorem Rd.dropS {w : World} {A : Option Addr} {xs : List Value} (h : Rd w A xs) (k c : Nat) (hk : k ≤ xs.length) (hc : xs.length ≤ c) :
    Rd w (if c = k then A else A.map (fun x => (⟨x.block, x.off + k, none⟩ : Addr))) (xs.drop k) := by
  split
  · exact .inl (List.drop_eq_nil_of_le (by omega))
  · rcases h with rfl | ⟨b, off, rfl, hcell⟩
    · exact .inl (by simp)
    · refine .inr ⟨b, off + k, rfl, fun j hj => ?_⟩
      simp at hj
      rw [Nat.add_assoc, hcell (k + j) (by omega)]; simp

/-- So far the blocks of F have been summed. -/
structure Summed (F : List UInt8) (v : H8) (bk : List UInt8) (vk : H8) : Prop where
  at_ : ∃ m, F.drop (64 * m) = bk ∧ 64 * m + bk.length = F.length ∧ vk = blocks v F m

theorem Summed.first {F r b : List UInt8} (v : H8) (h : r ++ b = F) (h1 : r.length < 64) (h2 : 64 ≤ r.length + b.length) : Summed F v (b.drop (64 - r.length)) (blockH v (r ++ b.take (64 - r.length))) := by
  subst h
  refine ⟨1, ?_, ?_, ?_⟩
  · rw [List.drop_append, List.drop_eq_nil_of_le (by omega), List.nil_append]
  · rw [List.length_drop, List.length_append]; omega
  · show _ = blockH v (((r ++ b).drop (64 * 0)).take 64)
    rw [Nat.mul_zero, List.drop_zero, List.take_append, List.take_of_length_le (l := r) (by omega)]
theorem Summed.zero {F r b : List UInt8} (v : H8) (h : r ++ b = F) (h1 : r = []) : Summed F v b v := by
  subst h h1
  exact ⟨0, rfl, by simp, rfl⟩
theorem Summed.next {F bk : List UInt8} {v vk : H8} (h : Summed F v bk vk) (hl : 64 ≤ bk.length) : Summed F v (bk.drop 64) (blockH vk (bk.take 64)) := by
  obtain ⟨m, h1, h2, h3⟩ := h
  refine ⟨m + 1, ?_, ?_, ?_⟩
  · rw [← h1, List.drop_drop, Nat.mul_succ]
  · rw [List.length_drop]; omega
  · rw [blocks, h1, h3]
theorem Summed.done {F bk : List UInt8} {v vk : H8} (h : Summed F v bk vk) (hl : bk.length < 64) : blocks v F (F.length / 64) = vk ∧ F.length % 64 = bk.length ∧ F.drop (64 * (F.length / 64)) = bk := by
  obtain ⟨m, h1, h2, h3⟩ := h
  have e : F.length / 64 = m := by omega
  rw [e]
  exact ⟨h3.symm, by omega, h1⟩

set_option maxRecDepth 100000 in
set_option maxHeartbeats 3000000 in
theorem write_any (v : H8) (RA : Option Addr) (r : List UInt8) (rc N : Nat) (A : Option Addr) (b : List UInt8) (c : Nat) (w : World) (hS : ShaOk w) (hr : Rd w RA (r.map u8v)) (hrl : r.length = N % 64) (hb : Rd w A (b.map u8v)) (hbc : b.length ≤ c) (hcm : c ≤ maxLen) (hbl : b.length ≤ 100000000) (hN : N ≤ 100000000000) (hrb : r = [] ∨ 64 ≤ r.length + b.length) :
    Calls Tryd.prog 49 #[SV v RA r.length rc N, .slice A b.length c] w fun e w' => ∃ A' c', e = .returned (SV (blocks v (r ++ b) ((r ++ b).length / 64)) A' ((r ++ b).length % 64) c' ((N + b.length : Nat) : Int)) ∧ Rd w' A' (((r ++ b).drop (64 * ((r ++ b).length / 64))).map u8v) ∧ Keep w w' := by
  have Hrl := Lib.hid hrl; have Hrb := Lib.hid hrb
  have hrn : r.length < 64 := by omega
  unfold maxLen at hcm
  clear hrl hrb
  obtain ⟨F, hF⟩ : ∃ F, r ++ b = F := ⟨_, rfl⟩
  rw [hF]
  have HF := Lib.hid hF; clear hF
  have Hr := Lib.hid hr; have Hb := Lib.hid hb; have HS := Lib.hid hS
  clear hr hb hS
  go_enter Tryd.func49, Tryd.ntmps49
  go_wp2_with fail
  refine (ssane_any v RA r.length rc N _ hrn (by omega) Hrl.out).mono ?_
  rintro e w1 ⟨rfl, k1⟩
  have HX1 := Lib.hid (((StCells.new w w.heap.size v RA r.length rc N rfl).b.alloc (.cells (h80.cells ++ ([.slice none 0 0, .int .u64 0] : List Value)).toArray 96)).keep k1)
  have HR1 : Hid (StCells w1 (w.heap.size + 1) h80 none 0 0 0) := (StCells.new _ _ h80 none 0 0 0 (by simp)).keep k1
  have hz1 : w.heap.size + 2 ≤ w1.heap.size := by have := k1.size; simpa using this
  have hzl : w.heap.size < w1.heap.size := by omega
  have kw := keep_trans (keep_trans (keep_new _ _) (keep_new _ _)) k1
  clear k1
  obtain ⟨x0, x1, x2, x3, x4, x5, x6, x7, x8, x9⟩ := (show StCells w1 w.heap.size v RA r.length rc N from ⟨HX1.out⟩).all
  go_upto_if 24 with fail
  have HO2 : Hid (StCells (w1.alloc (.cells #[.int .u32 v.a.toNat, .int .u32 v.b.toNat, .int .u32 v.c.toNat, .int .u32 v.d.toNat, .int .u32 v.e.toNat, .int .u32 v.f.toNat, .int .u32 v.g.toNat, .int .u32 v.h.toNat, .slice none 0 0, .int .u64 ((N : Int) + (b.length : Int))] 96)) w1.heap.size v none 0 0 ((N : Int) + (b.length : Int))) := StCells.new w1 w1.heap.size v none 0 0 _ rfl
  have k2 := keep_new w1 (.cells #[.int .u32 v.a.toNat, .int .u32 v.b.toNat, .int .u32 v.c.toNat, .int .u32 v.d.toNat, .int .u32 v.e.toNat, .int .u32 v.f.toNat, .int .u32 v.g.toNat, .int .u32 v.h.toNat, .slice none 0 0, .int .u64 ((N : Int) + (b.length : Int))] 96)
  have hz2 : w1.heap.size < (w1.alloc (.cells #[.int .u32 v.a.toNat, .int .u32 v.b.toNat, .int .u32 v.c.toNat, .int .u32 v.d.toNat, .int .u32 v.e.toNat, .int .u32 v.f.toNat, .int .u32 v.g.toNat, .int .u32 v.h.toNat, .slice none 0 0, .int .u64 ((N : Int) + (b.length : Int))] 96)).heap.size := by simp
  generalize w1.alloc (.cells #[.int .u32 v.a.toNat, .int .u32 v.b.toNat, .int .u32 v.c.toNat, .int .u32 v.d.toNat, .int .u32 v.e.toNat, .int .u32 v.f.toNat, .int .u32 v.g.toNat, .int .u32 v.h.toNat, .slice none 0 0, .int .u64 ((N : Int) + (b.length : Int))] 96) = w2 at HO2 k2 hz2 ⊢
  clear x0 x1 x2 x3 x4 x5 x6 x7 x8 x9
  have HX2 := Lib.hid (HX1.out.keep k2); have HR2 := Lib.hid (HR1.out.keep k2)
  replace kw := keep_trans kw k2
  clear HX1 HR1 k2
  go_cut [1] (fun s wx => ∃ A1 b1 c1 v1, s = .slice A1 b1.length c1 ∧ b1.length ≤ c1 ∧ c1 ≤ 9223372036854775807 ∧ b1.length ≤ 100000000 ∧ Rd w A1 (b1.map u8v) ∧ Hid (Summed F v b1 v1) ∧ Hid (StCells wx w1.heap.size v1 none 0 0 ((N : Int) + (b.length : Int))) ∧ Hid (StCells wx (w.heap.size + 1) h80 none 0 0 0) ∧ Keep w wx)
  case first =>
    by_cases hr0 : 0 < r.length
    · have hge : 64 ≤ r.length + b.length := by
        rcases Hrb.out with h | h
        · rw [h] at hr0; simp at hr0
        · exact h
      obtain ⟨_, _, _, _, _, _, _, _, x8, _⟩ := (show StCells w2 w.heap.size v RA r.length rc N from ⟨HX2.out⟩).all
      obtain ⟨wm, hmk, hbm, km, hsz⟩ := make_blk 0 64 0 64 rfl rfl (by omega) (by omega) w2
      have x8m := keep_cell km x8
      have own0 := own_made hbm (Nat.le_refl _) (by unfold maxLen; omega)
      have Own0 := Lib.hid own0; have Km := Lib.hid km
      have hqb : 64 - r.length ≤ b.length := by omega
      have x8m := keep_cell km x8
      have own0 := own_made hbm (Nat.le_refl _) (by unfold maxLen; omega)
      have Own0 := Lib.hid own0; have Km := Lib.hid km
      obtain ⟨q, hq⟩ : ∃ q, r.length + q = 64 := ⟨64 - r.length, by omega⟩
      have hmin : min (64 - (r.length : Int)) (b.length : Int) = (q : Int) := by omega
      have hqb : q ≤ b.length := by omega
      have Hq := Lib.hid hq; clear hq
      clear hbm own0
      go_upto_region 8 with (at_builtin; refine wpList_app byteW (by rfl) _ _ (by rfl) w2.heap.size _ 0 _ (by rfl) Own0.out _ r.length rc (r.map u8v) (by rfl) (by simp) (Hr.out.keep (keep_trans kw Km.out)) (one_w8 _) (by omega) (by unfold maxLen; omega) (by omega) ?_; intro v3 w3 own3 hg3 hat3)
      rw [Nat.zero_add, List.nil_append] at own3
      obtain ⟨A3, c3, rfl, hc3, hm3, hr3⟩ := own_form own3
      have Own3 := Lib.hid own3
      have k3 := keep_grown Km.out Km.out.size hg3 Own0.out
      clear own3 hr3
      have Brd := Lib.hid (((Hb.out.take (64 - r.length)).keep (keep_trans kw k3)))
      have hbk : (r ++ b.take (64 - r.length)).length = 64 := by rw [List.length_append, List.length_take]; omega
      go_upto_if 44 with (at_builtin; refine wpList_app byteW (by rfl) _ _ (by rfl) w2.heap.size _ r.length _ (by rfl) Own3.out _ (64 - r.length) c ((b.map u8v).take (64 - r.length)) (by rfl) (by simp; omega) Brd.out (fun u hu => one_w8 b u (List.mem_of_mem_take hu)) (by omega) (by unfold maxLen; omega) (by have := k3.size; omega) ?_; intro v4 w4 own4 hg4 hat4; have own5 := own_eq own4 (n' := 64) (xs' := (r ++ b.take (64 - r.length)).map u8v) (by omega) (by rw [List.map_append, List.map_take]); obtain ⟨A4, c4, rfl, hc4, hm4, hr4⟩ := own_form own5)
      have k4 := keep_grown k3 k3.size hg4 Own3.out
      have HO4 := Lib.hid (HO2.out.keep k4); have HR4 := Lib.hid (HR2.out.keep k4)
      have kw4 := keep_trans kw k4
      obtain ⟨x0, x1, x2, x3, x4, x5, x6, x7, _, _⟩ := HO4.out.all
      have Hr4 := Lib.hid hr4; have Hbk := Lib.hid hbk
      clear own4 own5 hg3 hg4 hat3 hat4 hr4 x8 x8m hmk
      go_wp2_with fail
      refine (block_any v A4 _ c4 _ Hbk.out Hr4.out (HS.out.keep kw4)).mono ?_
      rintro e w5 ⟨rfl, k5⟩
      have HO5 := Lib.hid (HO4.out.keep k5); have HR5 := Lib.hid (HR4.out.keep k5)
      have kw5 := keep_trans kw4 k5
      obtain ⟨y0, y1, y2, y3, y4, y5, y6, y7, _, _⟩ := HO5.out.all
      obtain ⟨f0, f1, f2, f3, f4, f5, f6, f7, _, _⟩ := HO5.out.fr
      clear x0 x1 x2 x3 x4 x5 x6 x7
      have HF' := HF.out
      generalize hu : blockH v (r ++ b.take (64 - r.length)) = u
      have Hu := Lib.hid hu; clear hu
      go_wp2
      all_goals go_meet
      all_goals refine ⟨_, b.drop (64 - r.length), _, u, by rw [List.length_drop], by rw [List.length_drop]; omega, by omega, by rw [List.length_drop]; omega, ?_, by rw [← Hu.out]; exact Summed.first v HF.out hrn hge, HO5.out.set8 u, ?_, ?_⟩
      all_goals first
        | (rw [List.map_drop]; exact Hb.out.dropN (by simp; omega))
        | (rw [List.drop_eq_nil_of_le (by omega)]; exact .inl rfl)
        | (repeat (refine Below.setCell ?_ (by simp; omega) _)
           exact kw5)
        | (refine ⟨?_⟩
           repeat (refine Blk.far ?_ (by simp; omega) _)
           exact HR5.out.b)
    · have HF' := HF.out
      have hr1 : r = [] := List.eq_nil_of_length_eq_zero (by omega)
      have Hr1 := Lib.hid hr1; clear hr1
      go_wp2
      all_goals go_meet
      all_goals exact ⟨A, b, c, v, rfl, hbc, hcm, hbl, Hb.out, Summed.zero v HF.out Hr1.out, HO2.out, HR2.out, kw⟩
  case rest =>
    obtain ⟨A1, b1, c1, v1, rfl, hbc1, hcm1, hbl1, hb1, HS1, HO1, HR1, kw1⟩ := hcut
    have Hb1 := Lib.hid hb1; clear hb1
    go_wp2_with fail
    go_loopw [1] (fun s wr => ∃ A2 b2 c2 v2, s = .slice A2 b2.length c2 ∧ b2.length ≤ c2 ∧ c2 ≤ 9223372036854775807 ∧ b2.length ≤ 100000000 ∧ Rd w A2 (b2.map u8v) ∧ Hid (Summed F v b2 v2) ∧ Hid (StCells wr w1.heap.size v2 none 0 0 ((N : Int) + (b.length : Int))) ∧ Hid (StCells wr (w.heap.size + 1) h80 none 0 0 0) ∧ Keep w wr) (fun s _ => match s with | .slice _ n _ => n | _ => 0)
    case atStart => exact ⟨A1, b1, c1, v1, rfl, hbc1, hcm1, hbl1, Hb1.out, HS1, HO1, HR1, kw1⟩
    case round =>
      obtain ⟨A2, b2, c2, v2, rfl, hbc2, hcm2, hbl2, hb2, HS2, HO2, HR2, kw2⟩ := hrel
      have Hb2 := Lib.hid hb2; clear hb2
      by_cases hlt : 64 ≤ b2.length
      · obtain ⟨x0, x1, x2, x3, x4, x5, x6, x7, _, _⟩ := HO2.out.all
        have HBl : Hid (∀ w', Keep w w' → ∀ c', Calls Tryd.prog 53 #[v2.agg, .slice A2 64 c'] w' fun e w'' => e = .returned (blockH v2 (b2.take 64)).agg ∧ Keep w' w'') := fun w' h c' => block_any v2 A2 (b2.take 64) c' w' (by rw [List.length_take]; omega) (by rw [List.map_take]; exact (Hb2.out.keep h).take 64) (HS.out.keep h)
        generalize hu : blockH v2 (b2.take 64) = u at HBl
        have Hu := Lib.hid hu; clear hu
        go_wp2
        refine wp_region_tree (.take [0,1,2,3] (.force [4] (.take [5] .done))) [6] (by kernel_rfl) (by kernel_rfl) (fun w3 k3 => ?_)
        have a0 := aft_cell (keep_cell k3 x0); have a1 := aft_cell (keep_cell k3 x1); have a2 := aft_cell (keep_cell k3 x2); have a3 := aft_cell (keep_cell k3 x3)
        have a4 := aft_cell (keep_cell k3 x4); have a5 := aft_cell (keep_cell k3 x5); have a6 := aft_cell (keep_cell k3 x6); have a7 := aft_cell (keep_cell k3 x7)
        refine mt_take w3 (Below.refl _ _) ?_
        simp only [pick_cons, pick_nil, nth_zero, nth_succ]
        repeat (go_big_quiet_step (fail))
        refine wpQuiet_nil ?_
        clear a0 a1 a2 a3 a4 a5 a6 a7 x0 x1 x2 x3 x4 x5 x6 x7
        refine mt_force ?_
        simp only [pick_cons, pick_nil, nth_zero, nth_succ]
        refine fc_step rfl (fun K hK => ?_)
        go_simp
        have kw3 := keep_trans kw2 k3
        (with_reducible refine (HBl.out _ kw3 _).mono ?_)
        rintro e w4 ⟨rfl, hk⟩
        refine hK _ _ hk ?_
        clear hK K
        refine fc_nil ?_
        refine mt_take w4 (Below.refl _ _) ?_
        simp only [pick_cons, pick_nil, nth_zero, nth_succ]
        repeat (go_big_quiet_step (fail))
        refine wpQuiet_nil (mt_end ?_)
        have k4 := keep_trans k3 hk
        have HO4 := Lib.hid (HO2.out.keep k4); have HR4 := Lib.hid (HR2.out.keep k4)
        have kw4 := keep_trans kw3 hk
        obtain ⟨x0, x1, x2, x3, x4, x5, x6, x7, _, _⟩ := HO4.out.all
        obtain ⟨f0, f1, f2, f3, f4, f5, f6, f7, _, _⟩ := HO4.out.fr
        clear hk
        go_wp2
        go_roundw
        case rel =>
          refine ⟨_, b2.drop 64, c2 - 64, u, by rw [List.length_drop], by rw [List.length_drop]; omega, by omega, by rw [List.length_drop]; omega, by rw [List.map_drop]; exact Hb2.out.dropS 64 c2 (by simpa using hlt) (by simpa using hbc2), by rw [← Hu.out]; exact Summed.next HS2.out hlt, HO4.out.set8 u, ?_, ?_⟩
          · refine ⟨?_⟩
            repeat (refine Blk.far ?_ (by simp; omega) _)
            exact HR4.out.b
          · repeat (refine Below.setCell ?_ (by simp; omega) _)
            exact kw4
        case measure => simp; omega
      · have hlt2 : b2.length < 64 := by omega
        have Hd := Lib.hid (HS2.out.done hlt2)
        have hnn : ¬ (64 : Int) ≤ (b2.length : Int) := by omega
        go_upto_region 18 with (at_builtin; refine wpList_app byteW (by rfl) _ _ (by rfl) wr.heap.size _ 0 [] (by rfl) (own_zero _ _ _) _ b2.length c2 (b2.map u8v) (by rfl) (by simp) (Hb2.out.keep (keep_trans kw2 (keep_new _ _))) (one_w8 _) (by omega) (by unfold maxLen; omega) (by simp) ?_; intro v9 w9 own9 hg9 hat9; have own10 := own_eq own9 (n' := b2.length) (xs' := b2.map u8v) (by omega) (by simp); obtain ⟨A9, c9, rfl, hc9, hm9, hr9⟩ := own_form own10; have Hf9 := Lib.hid (own_fresh own10); have k9 := keep_grown (keep_new wr _) (by simp) hg9 (own_zero _ _ 1); have HO9 := Lib.hid (HO2.out.keep k9); have HR9 := Lib.hid (HR2.out.keep k9); obtain ⟨x0, x1, x2, x3, x4, x5, x6, x7, x8, x9⟩ := HO9.out.all; obtain ⟨f0, f1, f2, f3, f4, f5, f6, f7, f8, f9⟩ := HO9.out.fr; obtain ⟨y0, y1, y2, y3, y4, y5, y6, y7, y8, y9⟩ := HR9.out.all; obtain ⟨g0, g1, g2, g3, g4, g5, g6, g7, g8, g9⟩ := HR9.out.fr; have Hr9 := Lib.hid hr9; clear own9 own10 hr9 hg9 hat9)
        go_wp2
        have hws := kw2.size
        have hw1 := HO2.out.b.lt
        have hw2 := HR2.out.b.lt
        refine bodyPost_ret (v := SV v2 A9 b2.length c9 ((N : Int) + (b.length : Int))) (results_cell_row Tryd.results49 _ _ (w.heap.size + 1) _ _ _ _ rfl (StCells.set10 ⟨HR9.out.b.far (p := ⟨w1.heap.size, 8, none⟩) (by simp; omega) _⟩ v2 A9 b2.length c9 _) Tryd.underlying96 rfl (by kernel_rfl)) rfl ?_
        obtain ⟨e1, e2, e3⟩ := Hd.out
        rw [e1, e2, ← List.map_drop, e3]
        refine ⟨A9, ⟨c9, rfl⟩, ?_, ?_⟩
        · rcases Hf9.out with h0 | ⟨g, off, rfl, hg⟩
          · rw [List.eq_nil_of_length_eq_zero h0]; exact .inl rfl
          · iterate 11 (refine Rd.far ?_ (by simp; omega) _)
            exact Hr9.out
        · iterate 11 (refine Below.setCell ?_ (by first | (simp; omega) | simp) _)
          exact keep_trans kw2 k9
end Go.Proofs.YtielojlhdnimgaaDoor
