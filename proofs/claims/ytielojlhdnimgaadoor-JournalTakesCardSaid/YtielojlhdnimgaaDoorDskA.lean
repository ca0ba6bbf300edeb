import Derived.Test.YtielojlhdnimgaaDoorRows
import Derived.Test.YtielojlhdnimgaaDoorBase
import Derived.Deep.RegionHeld3
import Derived.Deep.DrawnRows
import Derived.Deep.DeepCutAuto
import Derived.Deep.RegionLaw
set_option linter.unusedSimpArgs false
set_option linter.unusedVariables false
namespace Go.Proofs.YtielojlhdnimgaaDoor
open Go.RowKit
attribute [local go_sem ↓] Go.wp_at_zero Go.wp_at_succ

/-- A write, and where its bytes lie. -/
structure WriteR where
  at_ : Int
  A : Option Addr
  cap : Nat
  d : List UInt8
def WriteR.cells (s : WriteR) : List Value := [.int .i64 s.at_, .slice s.A s.d.length s.cap]
def WriteR.pl (s : WriteR) : Int × List UInt8 := (s.at_, s.d)
def OkW (w : World) (s : WriteR) : Prop := Rd w s.A (s.d.map u8v) ∧ s.d.length ≤ s.cap ∧ s.cap ≤ maxLen
theorem OkW.keep {w w' : World} {s : WriteR} (h : OkW w s) (hk : Keep w w') : OkW w' s := ⟨h.1.keep hk, h.2⟩

theorem byteT : ElT Tryd.prog 22 5 (.int .u8 0) 1 1 := ElT.mk' Tryd.underlying22 (by kernel_rfl) rfl (by omega)
theorem writeT : ElT Tryd.prog 29 69 (.agg #[.int .i64 0, .slice none 0 0]) 2 32 := ElT.mk' Tryd.underlying29 (by kernel_rfl) rfl (by omega)
theorem rwriteT : ElT Tryd.prog 23 68 (.agg #[.int .i64 0, .slice none 0 0]) 2 32 := ElT.mk' Tryd.underlying23 (by kernel_rfl) rfl (by omega)

theorem one_bytes (l : List UInt8) : ∀ u ∈ l.map u8v, u.oneCell' = true := by
  intro u hu; obtain ⟨x, _, rfl⟩ := List.mem_map.1 hu; rfl

theorem WriteR.at2 {w : World} {A : Option Addr} {vs : List WriteR} (hr : Rd w A (vs.flatMap WriteR.cells)) {k : Nat} (hlt : k < vs.length) :
    ∃ b off, A = some ⟨b, off, none⟩ ∧ b < w.heap.size ∧ ∀ w', Keep w w' → w'.cell? ⟨b, off + k * 2, none⟩ = some (.int .i64 vs[k].at_) ∧ w'.cell? ⟨b, off + k * 2 + 1, none⟩ = some (.slice vs[k].A vs[k].d.length vs[k].cap) := by
  obtain ⟨b, off, rfl, hb, _, hc⟩ := hr.at2 (Below.refl _ _) (k := k * 2) (by rw [flatMap_len _ 2 (fun _ => rfl)]; omega)
  refine ⟨b, off, rfl, hb, fun w' hw => ?_⟩
  have F := Rd.field (size := 2) (fun _ => rfl) (hc w' hw) k
  exact ⟨F 0 hlt (by omega), F 1 hlt (by omega)⟩

set_option maxHeartbeats 400000 in
theorem sectors_any (A : Option Addr) (n c : Nat) (x : Value) (w : World) (hl : n ≤ 9223372036854775807) :
    Calls Tryd.prog 39 #[.agg #[.slice A n c, x]] w fun e w' => e = .returned (.int .i64 (n / 32 : Nat)) ∧ Keep w w' := by
  go_enter Tryd.func39, Tryd.ntmps39
  go_wp2
  go_ret
  exact ⟨ret_int rfl, (Below.refl _ _).alloc (Nat.le_refl _) _⟩

set_option maxHeartbeats 400000 in
theorem sector_any (b off n c at_ : Nat) (w : World) (h1 : 32 * at_ + 32 ≤ n) (h2 : n ≤ c) (h3 : c ≤ 9223372036854775807) (i : Int) (hi : i = at_) :
    Calls Tryd.prog 42 #[.slice (some ⟨b, off, none⟩) n c, .int .i64 i] w fun e w' => e = .returned (.slice (some ⟨b, off + 32 * at_, none⟩) 32 32) ∧ w = w' := by
  subst hi
  go_enter Tryd.func42, Tryd.ntmps42
  go_wp2
  go_ret
  refine ⟨?_, rfl⟩
  show Ending.returned (Value.slice (some ⟨b, off + at_ * 32, none⟩) (at_ * 32 + 32 - at_ * 32) (at_ * 32 + 32 - at_ * 32)) = _
  rw [show at_ * 32 + 32 - at_ * 32 = 32 by omega, Nat.mul_comm at_ 32]

set_option maxHeartbeats 400000 in
theorem clone_any (A : Option Addr) (l : List UInt8) (c : Nat) (w : World) (hl : l.length ≤ 140737488355328) (hr : Rd w A (l.map u8v)) :
    Calls Tryd.prog 41 #[.slice A l.length c] w fun e w' => ∃ v, e = .returned v ∧ w'.ownsRow w.heap.size 5 1 v l.length (l.map u8v) ∧ Keep w w' := by
  have hq := fun W => run_eql_slice_nil (P := Tryd.prog) W A l.length c Tryd.underlying22
  cases A with
  | none =>
    obtain rfl : l = [] := by
      rcases hr with h | ⟨b, off, h, _⟩
      · simpa using h
      · cases h
    simp only [List.length_nil, Option.isNone_none] at hq
    go_enter Tryd.func41, Tryd.ntmps41
    go_wp2
    go_ret
    exact ⟨_, rfl, World.ownsRow_nil _ _ _ _, Below.refl _ _⟩
  | some a =>
    go_enter Tryd.func41, Tryd.ntmps41
    simp only [Option.isNone_some] at hq
    go_wp2_with (at_builtin; refine wpList_app byteT (by rfl) (.tmp 5) (.tmp 6) (by rfl) w.heap.size _ 0 [] (by rfl) (own_zero _ _ _) _ l.length c (l.map u8v) (by rfl) (by simp) (hr.alloc _) (one_bytes _) (by omega) (by unfold maxLen; omega) (by simp) ?_; intro v1 w1 hown1 hg1 hat1)
    go_ret
    rw [List.nil_append, Nat.zero_add] at hown1
    exact ⟨_, rfl, hown1, keep_grown ((Below.refl _ _).alloc (Nat.le_refl _) _) (by simp) hg1 (own_zero _ _ 1)⟩

def zeros (n : Nat) : Array Value := madeCells #[.int .u8 0] (n * 1)

theorem zeros_list (n : Nat) : (zeros n).toList = (List.replicate n (0 : UInt8)).map u8v := by
  apply List.ext_getElem
  · simp [zeros, madeCells]
  · intro i h1 h2
    simp [zeros, madeCells, Nat.mod_one]

set_option maxHeartbeats 400000 in
theorem new_any (s : Int) (m : Nat) (w : World) (hm : (m : Int) = max 0 (min s 4096)) :
    Calls Tryd.prog 24 #[.int .i64 s] w fun e w' => ∃ A c, e = .returned (.agg #[.slice A (32 * m) c, .slice none 0 0]) ∧ w'.ownsRow w.heap.size 5 1 (.slice A (32 * m) c) (32 * m) ((List.replicate (32 * m) 0).map u8v) ∧ Keep w w' := by
  have key : ∀ (v : Value) (k : Nat), k ≤ 4096 → (v = .int .i64 (k * 32 : Nat)) → ∀ W, (Instr.makeSlice 22 v v).run Tryd.prog W = .ok (.slice (some ⟨W.heap.size, 0, none⟩) (32 * k) (32 * k)) (W.alloc (.cells (zeros (32 * k)) 5)) := fun v k hk hv W => by
    subst hv
    rw [byteT.make (k * 32) (k * 32) (by omega) (by omega) (by omega) W, Nat.mul_comm k 32]; rfl
  have fin : ∀ (k : Nat) (W : World) (H : Nat), W.heap.size = H → k ≤ 4096 → w.heap.size ≤ W.heap.size → ((W.alloc (.cells (zeros (32 * k)) 5)).ownsRow w.heap.size 5 1 (.slice (some ⟨H, 0, none⟩) (32 * k) (32 * k)) (32 * k) ((List.replicate (32 * k) 0).map u8v)) := fun k W H hH hk hW => by
    subst hH
    have h := World.ownsRow_lit W (base := w.heap.size) (e := 5) (size := 1) (zeros (32 * k)) (32 * k) hW (by unfold maxLen; omega) (by simp [zeros, madeCells])
    rwa [zeros_list] at h
  rcases (show s < 0 ∨ 4096 < s ∨ (0 ≤ s ∧ s ≤ 4096) by omega) with h | h | h
  · obtain rfl : m = 0 := by omega
    have hmk := key (.int .i64 0) 0 (by omega) rfl
    clear key hm
    go_enter Tryd.func24, Tryd.ntmps24
    go_wp2
    exact bodyPost_ret (v := .agg #[.slice (some ⟨w.heap.size + 1, 0, none⟩) 0 0, .slice none 0 0]) (by simp [results, Tryd.results24, go_sem]) rfl ⟨_, _, rfl, (fin 0 _ (w.heap.size + 1) (by simp) (by omega) (by simp)), ((Below.refl _ _).alloc (Nat.le_refl _) _).alloc (by simp) _⟩
  · obtain rfl : m = 4096 := by omega
    have hmk := key (.int .i64 131072) 4096 (by omega) rfl
    clear key hm
    go_enter Tryd.func24, Tryd.ntmps24
    go_wp2
    exact bodyPost_ret (v := .agg #[.slice (some ⟨w.heap.size + 1, 0, none⟩) 131072 131072, .slice none 0 0]) (by simp [results, Tryd.results24, go_sem]) rfl ⟨_, _, rfl, (fin 4096 _ (w.heap.size + 1) (by simp) (by omega) (by simp)), ((Below.refl _ _).alloc (Nat.le_refl _) _).alloc (by simp) _⟩
  · obtain rfl : s = m := by omega
    have hmk := key (.int .i64 ((m : Int) * 32)) m (by omega) (by rw [Int.natCast_mul]; rfl)
    obtain ⟨h1, h2⟩ := h
    clear key hm
    go_enter Tryd.func24, Tryd.ntmps24
    go_wp2
    exact bodyPost_ret (v := .agg #[.slice (some ⟨w.heap.size + 1, 0, none⟩) (32 * m) (32 * m), .slice none 0 0]) (by simp [results, Tryd.results24, go_sem]) rfl ⟨_, _, rfl, (fin m _ (w.heap.size + 1) (by simp) (by omega) (by simp)), ((Below.refl _ _).alloc (Nat.le_refl _) _).alloc (by simp) _⟩
end Go.Proofs.YtielojlhdnimgaaDoor
