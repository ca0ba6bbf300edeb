/- What the journal's functions answer, said of the records. -/
import Derived.Test.YtbomnldpmkedbaaDoorJoP
set_option linter.unusedSimpArgs false
set_option linter.unusedVariables false
namespace Go.Proofs.YtbomnldpmkedbaaDoor
open Go.RowKit

theorem DOk.own {w : World} {base : Nat} {e : TypeId} {A : Option Addr} {n c : Nat} {b : List UInt8} (h : w.ownsRow base e 1 (.slice A n c) n (b.map u8v)) : DOk w A b c none [] 0 := by
  have hl : b.length = n := by have := h.1; simpa using this
  obtain ⟨A5, c5, h5, hc5, hm5, hrd5⟩ := own_form h
  injection h5 with h5 _ h6
  subst h5 h6
  exact ⟨hrd5, by omega, hm5, .inl rfl, Nat.le_refl _, Nat.zero_le _, by simp⟩

/-- Behind w: no block from lo on has turned, but those of X. -/
def Fr (lo : Nat) (X : Nat → Prop) (w W : World) : Prop := ∀ k, lo ≤ k → k < w.heap.size → ¬ X k → W.heap[k]? = w.heap[k]?
theorem Fr.of_keep {lo : Nat} {X : Nat → Prop} {w W : World} (h : Keep w W) : Fr lo X w W := fun k _ h2 _ => h.block k h2
theorem own_fr {w W : World} {base size n c : Nat} {e : TypeId} {A : Option Addr} {xs : List Value} {X : Nat → Prop} (h : w.ownsRow base e size (.slice A n c) n xs) (hf : Fr base X w W) (hx : ∀ k, (Value.slice A n c).ownBlock = some k → ¬ X k) :
    W.ownsRow base e size (.slice A n c) n xs :=
  ⟨h.1, h.2.imp id fun ⟨g, cap, cur, e1, e2, e3, e4⟩ => ⟨g, cap, cur, e1, e2, (hf g e2 (Array.getElem?_eq_some_iff.1 e3).1 (hx g (by rw [e1]; rfl))).trans e3, e4⟩⟩
theorem own_apart {w : World} {base base' size size' n n' : Nat} {e e' : TypeId} {v v' : Value} {xs xs' : List Value} (h : w.ownsRow base e size v n xs) (h' : w.ownsRow base' e' size' v' n' xs') (he : e ≠ e') : ∀ k, v.ownBlock = some k → ¬ v'.ownBlock = some k := by
  intro k hk hk'
  rcases h.2 with ⟨rfl, _⟩ | ⟨g, cap, cur, rfl, _, hg, _⟩
  · simp [Value.ownBlock] at hk
  · rcases h'.2 with ⟨rfl, _⟩ | ⟨g', cap', cur', rfl, _, hg', _⟩
    · simp [Value.ownBlock] at hk'
    · have e1 : g = k := Option.some.inj hk
      have e2 : g' = k := Option.some.inj hk'
      subst e1 e2
      rw [hg] at hg'
      injection hg' with hg'
      injection hg' with _ hg'
      exact he hg'

section
variable {A : Option Addr} {b : List UInt8} {c : Nat} {PA : Option Addr} {ws : List WriteR} {pc : Nat} {base room : Int} {w : World} {hs : List Hd} {cs : Array Value}

theorem reop_w (A : Option Addr) (b : List UInt8) (c : Nat) (PA : Option Addr) (ws : List WriteR) (pc : Nat) (base room : Int) (w : World) (h : DOk w A b c PA ws pc) (hS : ShaOk w) (hb : -9223372036854775808 ≤ base ∧ base ≤ 9223372036854775807) (hp : ws.length ≤ 300) :
    Calls Tryd.prog 31 #[DV A b.length c PA ws.length pc, .int .i64 base, .int .i64 room] w fun e w' => ∃ B hs A' c' cs Ah ch, e = .returned (.tuple #[.agg cs, .slice Ah hs.length ch]) ∧ Reop b (ws.map WriteR.pl) base room B hs ∧
      LogA (lgCells (.slice A' B.length c') (.slice none 0 0) base room (hs.length : Nat) (lastL 0 z32 hs)) cs ∧ (∀ W, Fr w.heap.size (fun k => (Value.slice Ah hs.length ch).ownBlock = some k) w' W → DOk W A' B c' none [] 0) ∧
      w'.ownsRow w.heap.size 65 68 (.slice Ah hs.length ch) hs.length (hs.flatMap Hd.cells) ∧ (∀ x ∈ hs, x.ok) ∧ Keep w w' := by
  refine (reopen_any A b c PA ws pc base room w h hS hb).mono fun e w' ⟨B, hB, A', c', cs, hv, h1, h2, h3, h4, h5⟩ => ?_
  have R := reop_inv hb (by rw [List.length_map]; exact hp) hB rfl
  have eB : bytesQ B [] = B := bytesQ_nil R.sane
  have e1 := R.inv.fnd.eq
  rw [eB] at e1
  rw [e1] at h2
  generalize (openL base room (bytesQ b (ws.map WriteR.pl))).2.2 = hs at *
  obtain ⟨Ah, ch, rfl, _, _, _⟩ := own_form h4
  exact ⟨B, hs, A', c', cs, Ah, ch, h1, R, h2, fun W hW => DOk.own (own_fr h3 hW (own_apart h3 h4 (by decide))), h4, recsAt_ok _ _ _ _ _ R.fnd.recs, h5⟩

/-- What one more leaves. -/
structure AppR (b : List UInt8) (base : Int) (hs : List Hd) (h : Hd) (ps qs : List WP) : Prop where
  b0 : 0 ≤ base
  eq : qs = ps ++ layWs (base.toNat + 4 * hs.length : Nat) (recB (lastL 0 z32 hs) hs.length h) 4
  fit : 32 * (base.toNat + 4 * hs.length + 4) ≤ b.length
  san : saneP b.length qs = true
  san0 : saneP b.length ps = true
theorem app_w (A : Option Addr) (b : List UInt8) (c : Nat) (PA : Option Addr) (ws : List WriteR) (pc : Nat) (base room : Int) (hs : List Hd) (cs : Array Value) (h : Hd) (hd : Array Value) (w : World) (F : World → Prop) (hF : ∀ W, Keep w W → F W) (h0 : ∀ W, F W → DOk W A b c PA ws pc) (hS : ShaOk w) (hb : -9223372036854775808 ≤ base ∧ base ≤ 9223372036854775807)
    (hi : LogInv b (ws.map WriteR.pl) base room hs) (hls : LogA (lgCells (.slice A b.length c) (.slice PA ws.length pc) base room (hs.length : Nat) (lastL 0 z32 hs)) cs) (hk : h.ok) (hhd : HdA h hd) :
    Calls Tryd.prog 41 #[.agg cs, .agg hd] w fun e w' => ∃ A' c' PA' pc' vs cs' er, e = .returned (.tuple #[.agg cs', .int .i64 er]) ∧ er = (appendD b base room hs.length (lastL 0 z32 hs) h (ws.map WriteR.pl)).1 ∧ (∀ W, MidF F w w' W → DOk W A' b c' PA' vs pc') ∧ Keep w w' ∧
      (er = 0 → LogA (lgCells (.slice A' b.length c') (.slice PA' vs.length pc') base room ((hs ++ [h]).length : Nat) (lastL 0 z32 (hs ++ [h]))) cs' ∧ LogInv b (vs.map WriteR.pl) base room (hs ++ [h]) ∧ AppR b base hs h (ws.map WriteR.pl) (vs.map WriteR.pl)) ∧
      (er ≠ 0 → (er = 12 ∨ er = 14) ∧ LogA (lgCells (.slice A' b.length c') (.slice PA' vs.length pc') base room (hs.length : Nat) (lastL 0 z32 hs)) cs' ∧ vs.map WriteR.pl = ws.map WriteR.pl) := by
  have hc := append_anyF A b c PA ws pc base room (hs.length : Nat) (lastL 0 z32 hs) cs h hd w F hF h0 hS hb hls hk hhd
  have eO : openL base room (bytesD b ws) = (hs.length, lastL 0 z32 hs, hs) := by rw [bytesD_Q]; exact hi.fnd.eq
  rw [eO] at hc
  refine hc.mono fun e w' ⟨A', c', PA', pc', vs, cs', AP, hA, h1, h2, h3, h4, h5⟩ => ⟨A', c', PA', pc', vs, cs', AP.1, h1, by rw [hA], h4, h5, fun hz => ?_, fun hz => ?_⟩
  · obtain ⟨q0, q1, q2, q3, q4, q5, q6, q7⟩ := (append_inv hi hk hb hA).1 hz
    rw [q1, q2] at h2
    rw [← h3] at q3 q4 q5
    rw [List.length_append, List.length_singleton]
    exact ⟨h2, q3, ⟨q0, q5, q6, q4, q7⟩⟩
  · obtain ⟨q1, q2⟩ := (append_inv hi hk hb hA).2 hz
    have q3 : AP.2.1 = hs.length := by rw [q2]
    have q4 : AP.2.2.1 = lastL 0 z32 hs := by rw [q2]
    have q5 : AP.2.2.2 = ws.map WriteR.pl := by rw [q2]
    rw [q3, q4] at h2
    exact ⟨q1, h2, h3.trans q5⟩

theorem open_w (A : Option Addr) (b : List UInt8) (c : Nat) (PA : Option Addr) (ws : List WriteR) (pc : Nat) (base room : Int) (w : World) (h : DOk w A b c PA ws pc) (hS : ShaOk w) (hb : -9223372036854775808 ≤ base ∧ base ≤ 9223372036854775807) :
    Calls Tryd.prog 36 #[DV A b.length c PA ws.length pc, .int .i64 base, .int .i64 room] w fun e w' => ∃ hs cs Ah ch, e = .returned (.tuple #[.agg cs, .slice Ah hs.length ch]) ∧ Found base room (bytesQ b (ws.map WriteR.pl)) hs ∧
      LogA (lgCells (.slice A b.length c) (.slice PA ws.length pc) base room (hs.length : Nat) (lastL 0 z32 hs)) cs ∧
      w'.ownsRow w.heap.size 65 68 (.slice Ah hs.length ch) hs.length (hs.flatMap Hd.cells) ∧ (∀ x ∈ hs, x.ok) ∧ Keep w w' := by
  refine (open_any A b c PA ws pc base room w h hS hb).mono fun e w' ⟨cs, hv, h1, h2, h3, h4⟩ => ?_
  have F := open_found base room (bytesD b ws)
  have e1 := F.eq
  have hll : (openL base room (bytesD b ws)).2.1.length = 32 := openL_len _ _ _
  have h2' := LogA.of hll h2
  generalize hO : openL base room (bytesD b ws) = O at *
  obtain ⟨N, last, hs⟩ := O
  dsimp only at *
  obtain ⟨e1, e2⟩ : N = hs.length ∧ last = lastL 0 z32 hs := by
    injection e1 with e1 e2
    injection e2 with e2 e3
    exact ⟨e1, e2⟩
  subst e1 e2
  obtain ⟨Ah, ch, rfl, _, _, _⟩ := own_form h3
  rw [bytesD_Q] at F
  exact ⟨hs, cs, Ah, ch, h1, F, h2', h3, recsAt_ok _ _ _ _ _ F.recs, h4⟩
theorem Found.uniq {base room : Int} {bs : List UInt8} {hs gs : List Hd} (h : Found base room bs hs) (g : Found base room bs gs) : hs = gs := by
  have e := h.eq.symm.trans g.eq
  injection e with _ e
  injection e with _ e

theorem sync_w (A : Option Addr) (b : List UInt8) (c : Nat) (PA : Option Addr) (ws : List WriteR) (pc : Nat) (base room : Int) (hs : List Hd) (cs : Array Value) (w : World) (h : DOk w A b c PA ws pc) (hS : ShaOk w) (hb : -9223372036854775808 ≤ base ∧ base ≤ 9223372036854775807)
    (hi : LogInv b (ws.map WriteR.pl) base room hs) (hls : LogA (lgCells (.slice A b.length c) (.slice PA ws.length pc) base room (hs.length : Nat) (lastL 0 z32 hs)) cs) :
    Calls Tryd.prog 46 #[.agg cs] w fun e w' => ∃ B A' c' ds, B = bytesQ b (ws.map WriteR.pl) ∧ e = .returned (.agg ds) ∧ LogA (lgCells (.slice A' B.length c') (.slice none 0 0) base room (hs.length : Nat) (lastL 0 z32 hs)) ds ∧ LogInv B [] base room hs ∧
      (∀ W, Fr w.heap.size (fun _ => False) w' W → DOk W A' B c' none [] 0) ∧ Keep w w' := by
  have hc := jsync_any A b c PA ws pc base room (hs.length : Nat) (lastL 0 z32 hs) cs w h hS hb hls
  have eO : openL base room (bytesD b ws) = (hs.length, lastL 0 z32 hs, hs) := by rw [bytesD_Q]; exact hi.fnd.eq
  rw [eO, bytesD_Q] at hc
  exact hc.mono fun e w' ⟨A', c', ds, h1, h2, h3, h4⟩ => ⟨_, A', c', ds, rfl, h1, h2, hi.sync, fun W hW => DOk.own (own_fr h3 hW (fun _ _ h => h)), h4⟩
theorem lastL_len : ∀ (hs : List Hd) (k : Nat) (last : List UInt8), last.length = 32 → (lastL k last hs).length = 32
  | [], _, _, h => h
  | x :: hs, k, last, _ => lastL_len hs (k + 1) _ (by unfold recSum; exact dblL_len _)
end
end Go.Proofs.YtbomnldpmkedbaaDoor
