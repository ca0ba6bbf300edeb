import Derived.Test.YteoilddiilegmaaDoorClkB
set_option linter.unusedSimpArgs false
set_option linter.unusedVariables false
namespace Go.Proofs.YteoilddiilegmaaDoor
open Go.RowKit
attribute [local go_sem ↓] Go.wp_at_zero Go.wp_at_succ

def Put1 (B : Nat) (ys : List UInt32) (w : World) (e : Ending) (w' : World) : Prop :=
  e = .returned (.tuple #[]) ∧ ∃ v', w'.cell? ⟨B, 0, none⟩ = some v' ∧ w'.frozen? ⟨B, 0, none⟩ = false ∧ w'.ownsRow (B + 1) 22 1 v' ys.length (ys.map u32v) ∧ Below B w w' ∧ B < w'.heap.size

set_option maxRecDepth 100000 in
set_option maxHeartbeats 2000000 in
theorem put1_any (B : Nat) (v : Value) (xs : List UInt32) (t : UInt32) (w : World) (hB : w.cell? ⟨B, 0, none⟩ = some v) (hf : w.frozen? ⟨B, 0, none⟩ = false) (hown : w.ownsRow (B + 1) 22 1 v xs.length (xs.map u32v)) (hs : xs.Pairwise le32) (hl : xs.length ≤ 1000) :
    Calls Tryd.prog 44 #[u32v t, .pointer (some ⟨B, 0, none⟩)] w (Put1 B (insAt xs t) w) := by
  have hlb := lb_le xs t
  obtain ⟨A, c, rfl, hc, hm, hrd⟩ := own_form hown
  have hbl := cell_lt hB
  have hln := insAt_len xs t
  go_enter Tryd.func44, Tryd.ntmps44
  go_wp2_with fail
  refine (search_any A xs c t w hs (by omega) hrd).mono ?_
  rintro e w1 ⟨f, rfl, rfl⟩
  have Hown := Lib.hid hown; clear hown hrd
  go_wp2_with fail
  refine (insert_any (B + 1) _ xs (lb xs t) t w.heap.size _ (Hown.out.alloc _) hlb (by omega) (Blk.new w 22 [u32v t]) (own_ne Hown.out (Nat.le_refl _)) (by simp; omega)).mono ?_
  rintro e w2 ⟨v', rfl, hown2, hg2, hat2⟩
  have hne : (Value.slice A xs.length c).ownBlock ≠ some B := fun h => by have := (Hown.out.lt B h).1; omega
  have b2 := grown_cell hg2 (keep_cell (keep_new w _) hB) hne
  have f2 := grown_frozen hg2 hB (keep_new w _) hf hne
  have k2 : Below B w w2 := ((keep_new w _).mono (by omega)).grown hg2 (by simp; omega) (fun g hg => by have := (Hown.out.lt g hg).1; omega)
  obtain ⟨A', c', rfl, hc', hm', hrd'⟩ := own_form hown2
  clear hrd'
  have Hown2 := Lib.hid hown2; clear hown2 hg2
  go_wp2
  go_end0
  refine ⟨rfl, .slice A' (lb xs t + (xs.length - lb xs t + 1)) c', by go_simp, by go_simp, ?_, k2.setCell (Nat.le_refl _) _, ?_⟩
  · have hj : (xs.take (lb xs t) ++ t :: xs.drop (lb xs t)).length = lb xs t + (xs.length - lb xs t + 1) := by rw [List.length_append, List.length_take, List.length_cons, List.length_drop, Nat.min_eq_left hlb]
    rw [← hj]
    exact ownsRow_setCell_below Hown2.out (a := ⟨B, 0, none⟩) (Nat.lt_succ_self B) _
  · have := cell_lt b2; simpa using this
end Go.Proofs.YteoilddiilegmaaDoor
