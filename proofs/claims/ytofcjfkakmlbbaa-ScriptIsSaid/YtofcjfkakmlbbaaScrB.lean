import Derived.Test.YtofcjfkakmlbbaaScrA
import Derived.Deep.RegionHeld3
import Derived.Deep.DrawnRows
namespace Go.Proofs.Ytofcjfkakmlbbaa
open Go.RowKit
attribute [local go_sem ↓] Go.wp_at_zero Go.wp_at_succ

def StepR.cells (s : StepR) : List Value := [.int .i64 s.k, .int .i64 s.p, .int .i64 s.n, .slice s.A s.d.length s.cap]

theorem stepT : ElT Try.prog 29 28 (.agg #[.int .i64 0, .int .i64 0, .int .i64 0, .slice none 0 0]) 4 48 :=
  ElT.mk' Try.underlying29 (by kernel_rfl) rfl (by omega)

theorem take_flat {α β : Type} (f : α → List β) (l : List α) (k : Nat) (h : k < l.length) : (l.take (k + 1)).flatMap f = (l.take k).flatMap f ++ f l[k] := by
  rw [List.take_succ_eq_append_getElem h, List.flatMap_append]; simp

theorem StepR.at4 {w : World} {A : Option Addr} {vs : List StepR} (hr : Rd w A (vs.flatMap StepR.cells)) {k : Nat} (hlt : k < vs.length) :
    ∃ b off, A = some ⟨b, off, none⟩ ∧ b < w.heap.size ∧ ∀ w', Keep w w' → w'.cell? ⟨b, off + k * 4, none⟩ = some (.int .i64 vs[k].k) ∧ w'.cell? ⟨b, off + k * 4 + 1, none⟩ = some (.int .i64 vs[k].p) ∧
          w'.cell? ⟨b, off + k * 4 + 2, none⟩ = some (.int .i64 vs[k].n) ∧ w'.cell? ⟨b, off + k * 4 + 3, none⟩ = some (.slice vs[k].A vs[k].d.length vs[k].cap) := by
  obtain ⟨b, off, rfl, hb, _, hc⟩ := hr.at2 (Below.refl _ _) (k := k * 4) (by rw [flatMap_len _ 4 (fun _ => rfl)]; omega)
  refine ⟨b, off, rfl, hb, fun w' hw => ?_⟩
  have F := Rd.field (size := 4) (fun _ => rfl) (hc w' hw) k
  exact ⟨F 0 hlt (by omega), F 1 hlt (by omega), F 2 hlt (by omega), F 3 hlt (by omega)⟩

set_option maxRecDepth 100000 in
set_option maxHeartbeats 1000000 in
theorem steps_any (A : Option Addr) (vs : List StepR) (cap : Nat) (w : World) (hl : vs.length ≤ 100000) (hr : Rd w A (vs.flatMap StepR.cells)) :
    Calls Try.prog 9 #[.slice A vs.length cap] w fun e w' =>
      ∃ v, e = .returned v ∧ w'.ownsRow w.heap.size 28 4 v vs.length (vs.flatMap StepR.cells) ∧ Keep w w' := by
  go_enter Try.func9, Try.ntmps9
  go_wp2
  go_loopw [3, 4] (fun v i wr => ∃ k : Nat, k ≤ vs.length ∧ i = .int .i64 k ∧ wr.ownsRow w.heap.size 28 4 v k ((vs.take k).flatMap StepR.cells) ∧ Keep w wr)
    (fun _ i _ => vs.length - (intOf i).toNat)
  case atStart => exact ⟨0, Nat.zero_le _, rfl, World.ownsRow_nil _ _ _ _, Below.refl _ _⟩
  case round =>
    obtain ⟨k, hk, rfl, hown, hkeep⟩ := hrel
    have hsz := hkeep.size
    by_cases hlt : k < vs.length
    · obtain ⟨b, off, rfl, hb, F⟩ := StepR.at4 hr hlt
      have hts := take_flat StepR.cells vs k hlt
      generalize vs[k] = x at F hts
      have Hts := Lib.hid hts
      have HF := Lib.hid F
      obtain ⟨c0, c1, c2, c3⟩ := F wr hkeep
      clear F hts hr
      go_wp2
      go_region_held3 (fun w' => w'.cell? ⟨b, off + k * 4, none⟩ = some (.int .i64 x.k) ∧ w'.cell? ⟨b, off + k * 4 + 1, none⟩ = some (.int .i64 x.p) ∧
          w'.cell? ⟨b, off + k * 4 + 2, none⟩ = some (.int .i64 x.n) ∧ w'.cell? ⟨b, off + k * 4 + 3, none⟩ = some (.slice x.A x.d.length x.cap))
        (first
          | go_keep
          | exact HF.out _ hk1)
        ((refine step_app stepT (by rfl) _ _ (by rfl) w.heap.size _ k _ (by rfl) ((hown.alloc _).drew) _ 1 1 (StepR.cells x) (by rfl) (by rfl) (Rd.new _ _ _).drew (by simp [StepR.cells, Value.oneCell']) (by omega) (by unfold maxLen; omega) (by simp; omega) ?_
          intro v' w1 hown1 hgrow hat
          have hk1 : Keep w w1 := keep_grown ((hkeep.alloc hsz _).drew) (by simp; omega) hgrow ((hown.alloc _).drew)))
      go_wp2
      go_roundw
      case rel => exact ⟨k + 1, by omega, by go_num, by rw [Hts.out]; exact hown1, hk1⟩
      case measure => simp [intOf]; omega
    · have hk' : k = vs.length := by omega
      go_wp2
      go_ret
      exact ⟨_, rfl, by simpa [hk'] using hown, hkeep⟩
end Go.Proofs.Ytofcjfkakmlbbaa
