/- The times of headers. -/
import Derived.Test.YtbkapapffnmebaaClkK
set_option linter.unusedSimpArgs false
set_option linter.unusedVariables false
namespace Go.Proofs.Ytbkapapffnmebaa
open Go.RowKit
attribute [local go_sem ↓] Go.wp_at_zero Go.wp_at_succ

structure HdR where
  pre : List Value
  t : UInt32
  post : List Value
  h1 : pre.length = 65
  h2 : post.length = 2
  h3 : ∀ u ∈ pre, u.oneCell' = true
  h4 : ∀ u ∈ post, u.oneCell' = true
def HdR.cells (h : HdR) : List Value := h.pre ++ u32v h.t :: h.post
theorem HdR.len (h : HdR) : h.cells.length = 68 := by simp [HdR.cells, h.h1, h.h2]
theorem HdR.time (h : HdR) : h.cells[65]? = some (u32v h.t) := by
  unfold HdR.cells
  rw [List.getElem?_append_right (by rw [h.h1]; omega), h.h1]; rfl
theorem HdR.at {w : World} {A : Option Addr} {hs : List HdR} (hr : Rd w A (hs.flatMap HdR.cells)) {k : Nat} (hk : k < hs.length) :
    ∃ b off, A = some ⟨b, off, none⟩ ∧ b < w.heap.size ∧ ∀ j, j < 68 → w.cell? ⟨b, off + k * 68 + j, none⟩ = hs[k].cells[j]? := by
  obtain ⟨b, off, rfl, hb, F⟩ := hr.at (k := k * 68) (by rw [flatMap_len _ 68 HdR.len]; omega)
  exact ⟨b, off, rfl, hb, fun j hj => Rd.field HdR.len F k j hk hj⟩

theorem times_snoc (hs : List HdR) (k : Nat) (h : k < hs.length) : (hs.take (k + 1)).map HdR.t = (hs.take k).map HdR.t ++ [hs[k].t] := by
  rw [List.take_succ_eq_append_getElem h, List.map_append]; rfl

set_option maxRecDepth 100000 in
set_option maxHeartbeats 4000000 in
theorem rtimes_any (A : Option Addr) (hs : List HdR) (c : Nat) (w : World) (hl : hs.length ≤ 100) (hr : Rd w A (hs.flatMap HdR.cells)) :
    Calls Try.prog 17 #[.slice A hs.length c] w (Lasted w.heap.size (hs.map HdR.t) w) := by
  go_enter Try.func17, Try.ntmps17
  go_wp2
  go_loopw [3, 4] (fun v i wr => ∃ k : Nat, k ≤ hs.length ∧ i = .int .i64 k ∧ wr.ownsRow w.heap.size 24 1 v k (((hs.take k).map HdR.t).map u32v) ∧ Keep w wr) (fun _ i _ => hs.length - (intOf i).toNat)
  case atStart => exact ⟨0, Nat.zero_le _, rfl, World.ownsRow_nil _ _ _ _, Below.refl _ _⟩
  case round =>
    obtain ⟨k, hk, rfl, hown, hkr⟩ := hrel
    have hz := hkr.size
    by_cases hlt : k < hs.length
    · obtain ⟨b, off, rfl, hb, F⟩ := HdR.at hr hlt
      have r0 := keep_cell hkr ((F 65 (by omega)).trans (HdR.time _))
      have hts := times_snoc hs k hlt
      generalize hs[k].t = x at r0 hts
      have Hts := Lib.hid hts
      obtain ⟨Av, cv, rfl, hcv, hmv, hrv⟩ := own_form hown
      have Hown := Lib.hid hown
      clear F hts hown hrv
      go_wp2_with (at_builtin; refine wpList_app wordT (by rfl) _ _ (by rfl) w.heap.size _ k _ (by rfl) (Hown.out.alloc _) _ 1 1 [u32v x] (by rfl) (by rfl) (Rd.new _ _ _) (by simp [Value.oneCell']) (by omega) (by unfold maxLen; omega) (by simp; omega) ?_; intro v4 w4 own4 hg4 hat4; have k4 := keep_grown (keep_trans hkr (keep_new _ _)) (by simp; omega) hg4 (Hown.out.alloc _); obtain ⟨A4, c4, rfl, hc4, hm4, hrd4⟩ := own_form own4; have Own4 := Lib.hid own4; clear own4 hrd4 hg4 hat4)
      go_roundw
      case rel =>
        refine ⟨k + 1, by omega, by go_num, ?_, k4⟩
        rw [Hts.out, List.map_append]
        exact Own4.out
      case measure => simp [intOf]; omega
    · obtain rfl : hs.length = k := by omega
      rw [List.take_length] at hown
      obtain ⟨Av, cv, rfl, hcv, hmv, hrv⟩ := own_form hown
      have Hown := Lib.hid hown
      clear hown hrv
      go_wp2
      go_ret
      exact ⟨_, rfl, by rw [List.length_map]; exact Hown.out, hkr⟩
end Go.Proofs.Ytbkapapffnmebaa
