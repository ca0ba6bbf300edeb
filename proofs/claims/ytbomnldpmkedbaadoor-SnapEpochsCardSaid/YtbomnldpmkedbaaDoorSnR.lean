/- Compact keeps what is to be kept; wherever it stops, the old or the new is there: plainly. -/
import Derived.Test.YtbomnldpmkedbaaDoorSnQ
set_option linter.unusedSimpArgs false
set_option linter.unusedVariables false
namespace Go.Proofs.YtbomnldpmkedbaaDoor
open Go.RowKit

/-- A store on synced bytes, to be written anew. -/
structure CHyp (b : List UInt8) (gl : List Hd) (ep : Int) (rm a slot : Nat) (r : Int) : Prop where
  san : saneP b.length [] = true
  n4 : 4 ≤ b.length / 32
  rmE : rm = roomS ((b.length / 32 : Nat) : Int)
  rE : r = 1 - (lookB b).2.1
  aE : (a : Int) = begS r rm
  sE : (slot : Int) = if (lookB b).2.2 = 0 then 1 else 0
  gle : gl.length ≤ rm
  ok : ∀ x ∈ gl, x.ok
  epE : ep = (lookB b).1
  epm : ep ≤ 2147483646
/-- What behind it the disk is. -/
structure NewB (b : List UInt8) (gl : List Hd) (ep : Int) (rm a slot : Nat) (r : Int) (c : List UInt8) : Prop where
  len : c.length = b.length
  san : saneP c.length [] = true
  look : lookB c = (ep + 1, r, (slot : Int))
  fnd : Found (a : Int) (rm : Int) c gl
  inv : LogInv c [] (a : Int) (rm : Int) gl
  far : ∀ m, 32 * m + 32 ≤ b.length → ¬ (a ≤ m ∧ m < a + 4 * rm) → ¬ (2 * slot ≤ m ∧ m < 2 * slot + 2) → sec c m = sec b m
section
variable {b : List UInt8} {gl : List Hd} {ep : Int} {rm a slot : Nat} {r : Int}
theorem CHyp.bnd (h : CHyp b gl ep rm a slot r) : (r = 0 ∨ r = 1) ∧ rm ≤ 1024 ∧ 4 ≤ a ∧ 32 * (a + 4 * rm) ≤ b.length ∧ slot ≤ 1 ∧ 0 ≤ ep ∧ b.length % 32 = 0 ∧ ((r = 0 ∧ a = 4) ∨ (r = 1 ∧ a = 4 + 4 * rm)) ∧ 32 * (4 + 8 * rm) ≤ b.length := by
  have hr : r = 0 ∨ r = 1 := by
    have := h.rE
    rcases (look_told b).r with e | e <;> omega
  have h1 : rm ≤ 1024 := by rw [h.rmE]; exact roomS_le _
  have h2 := roomS_nat (n := ((b.length / 32 : Nat) : Int)) (by have := h.n4; omega)
  rw [← h.rmE] at h2
  have h3 := h.aE
  unfold begS at h3
  have h4 := h.sE
  have h5 := (look_told b).e
  have h6 := ((saneP_iff _ _).1 h.san).1
  have h7 := h.epE
  have h8 : slot ≤ 1 := by split at h4 <;> omega
  rcases hr with e | e
  · subst e
    simp only [Int.zero_mul] at h3
    exact ⟨.inl rfl, h1, by omega, by omega, h8, by omega, h6.1, .inl ⟨rfl, by omega⟩, by omega⟩
  · subst e
    simp only [Int.one_mul] at h3
    exact ⟨.inr rfl, h1, by omega, by omega, h8, by omega, h6.1, .inr ⟨rfl, by omega⟩, by omega⟩
theorem CHyp.ops (h : CHyp b gl ep rm a slot r) : opsS b [] gl ep = .sync :: ((zerP a (4 * rm) ++ recsP a 0 z32 gl) ++ [.sync, .lay ((2 * slot : Nat) : Int) (supB (ep + 1) r), .sync]) := by
  unfold opsS
  rw [bytesQ_nil h.san, ← h.rE, ← h.rmE, ← h.aE, ← h.sE]
  unfold opsP
  rw [List.append_assoc, show ((slot : Int) * 2) = ((2 * slot : Nat) : Int) by omega]
theorem CHyp.lays (h : CHyp b gl ep rm a slot r) : AllLay a (a + 4 * rm) (zerP a (4 * rm) ++ recsP a 0 z32 gl) := fun x hx => by
  rcases List.mem_append.1 hx with hx | hx
  · exact zer_lay a (4 * rm) _ (by omega) x hx
  · exact rec_lay a _ gl 0 z32 h.ok (by have := h.gle; omega) x hx
theorem CHyp.full (h : CHyp b gl ep rm a slot r) : ∃ ps, doP (zerP a (4 * rm) ++ recsP a 0 z32 gl) b [] = (b, ps, 0) ∧ LogInv b ps (a : Int) (rm : Int) gl ∧ saneP b.length ps = true ∧
    ∀ m, 32 * m + 32 ≤ b.length → ¬ (a ≤ m ∧ m < a + 4 * rm) → sec (bytesQ b ps) m = sec b m := by
  obtain ⟨_, h1, _, h3, _⟩ := h.bnd
  obtain ⟨zps, z1, z2, z3, z4⟩ := zer_run (a := a) (nn := 4 * rm) h.san (by omega) (by omega) (4 * rm) (Nat.le_refl _)
  have hi := zer_inv (a := a) (rm := rm) z2 h3 h1 (fun m hm q1 q2 => by rw [z4 m hm, if_pos ⟨q1, q2⟩])
  obtain ⟨ps, r1, r2, r3, r4⟩ := rec_run (a := a) (rm := rm) h3 h1 gl [] zps hi z2 h.ok (by have := h.gle; simp; omega) (by have := h.gle; omega)
  refine ⟨ps, ?_, r2, r3, fun m hm hn => ?_⟩
  · rw [doP_app _ _ _ _ z1]; exact r1
  · rw [r4 m hm hn, z4 m hm, if_neg hn]

/-- The disk with the new region, synced; and what holds of it, whatever lies in the slot. -/
theorem CHyp.one (h : CHyp b gl ep rm a slot r) {ps : List WP} (hi : LogInv b ps (a : Int) (rm : Int) gl) (hs : saneP b.length ps = true) (hf : ∀ m, 32 * m + 32 ≤ b.length → ¬ (a ≤ m ∧ m < a + 4 * rm) → sec (bytesQ b ps) m = sec b m)
    {c : List UInt8} (hl : c.length = b.length) (hc : ∀ m, 32 * m + 32 ≤ b.length → ¬ (2 * slot ≤ m ∧ m < 2 * slot + 2) → sec c m = sec (bytesQ b ps) m) :
    Found (a : Int) (rm : Int) c gl ∧ LogInv c [] (a : Int) (rm : Int) gl ∧ (∀ m, 32 * m + 32 ≤ b.length → ¬ (a ≤ m ∧ m < a + 4 * rm) → ¬ (2 * slot ≤ m ∧ m < 2 * slot + 2) → sec c m = sec b m) ∧ saneP c.length [] = true := by
  obtain ⟨_, h1, h2, h3, h4, _⟩ := h.bnd
  have hq := bytesQ_len b ps hs
  have hsn : saneP c.length [] = true := by rw [hl]; exact h.san
  have hF : Found (a : Int) (rm : Int) c gl := found_same h1 hi.fnd (by rw [hq, hl]) (by rw [hq]; exact h3) (fun m q1 q2 => (hc m (by omega) (by omega)).symm)
  refine ⟨hF, ⟨by rw [bytesQ_nil hsn]; exact hF, fun q0 m q1 q2 q3 => ?_⟩, fun m hm n1 n2 => (hc m hm n2).trans (hf m hm n1), hsn⟩
  rw [bytesQ_nil hsn] at q3 ⊢
  rw [roomN_nat h1, Int.toNat_natCast] at q2
  rw [Int.toNat_natCast] at q1
  rw [hc m (by omega) (by omega)]
  exact hi.zero q0 m (by rw [Int.toNat_natCast]; exact q1) (by rw [roomN_nat h1, Int.toNat_natCast]; exact q2) (by rw [hq]; omega)
theorem CHyp.look (h : CHyp b gl ep rm a slot r) {c : List UInt8} (hl : c.length = b.length) (hc : ∀ m, m < 4 → ¬ (2 * slot ≤ m ∧ m < 2 * slot + 2) → sec c m = sec b m) :
    (slotB c slot = supB (ep + 1) r → lookB c = (ep + 1, r, (slot : Int))) ∧ ((takeS (slotB c slot)).2.2 = false → lookB c = lookB b) := by
  obtain ⟨hr, h1, h2, h3, h4, h5, h6, h7, h8⟩ := h.bnd
  have hn := h.n4
  have hL := look_two (bs := b) (by omega)
  rw [look_two (bs := c) (by omega)]
  have hsE := h.sE
  have heE := h.epE
  have hem := h.epm
  by_cases e : (lookB b).2.2 = 0
  · rw [if_pos e] at hsE
    obtain rfl : slot = 1 := by omega
    have e0 : slotB c 0 = slotB b 0 := slot_same (fun i hi => hc _ (by omega) (by omega))
    rw [e0]
    refine ⟨fun hx => ?_, fun hx => (look_torn hL hx).1 e⟩
    have hN : takeS (slotB c 1) = ((lookB b).1 + 1, r, true) := by rw [hx, takeS_sup (by omega) hr, heE]
    rw [(look_new hL hN).1 e, heE]; rfl
  · rw [if_neg e] at hsE
    obtain rfl : slot = 0 := by omega
    have e0 : slotB c 1 = slotB b 1 := slot_same (fun i hi => hc _ (by omega) (by omega))
    rw [e0]
    refine ⟨fun hx => ?_, fun hx => (look_torn hL hx).2 e⟩
    have hN : takeS (slotB c 0) = ((lookB b).1 + 1, r, true) := by rw [hx, takeS_sup (by omega) hr, heE]
    rw [(look_new hL hN).2 e, heE]; rfl
theorem sec_sup (e r : Int) (i : Nat) (hi : i < 2) : (sec (supB e r) i).length = 32 := sec_len (by rw [supB_len]; omega)
theorem CHyp.lastP (h : CHyp b gl ep rm a slot r) {c : List UInt8} (hl : c.length = b.length) (hs : saneP c.length [] = true) :
    saneP c.length (layWs ((2 * slot : Nat) : Int) (supB (ep + 1) r) 2) = true ∧ (∀ l, doP (.lay ((2 * slot : Nat) : Int) (supB (ep + 1) r) :: l) c [] = doP l c (layWs ((2 * slot : Nat) : Int) (supB (ep + 1) r) 2)) ∧
    ∀ m, 32 * m + 32 ≤ b.length → sec (bytesQ c (layWs ((2 * slot : Nat) : Int) (supB (ep + 1) r) 2)) m = if 2 * slot ≤ m ∧ m < 2 * slot + 2 then sec (supB (ep + 1) r) (m - 2 * slot) else sec c m := by
  obtain ⟨hr, h1, h2, h3, h4, h5, h6, h7, h8⟩ := h.bnd
  have hsl := supB_len (ep + 1) r
  have h2' : 32 * (2 * slot + 2) ≤ c.length := by omega
  refine ⟨?_, fun l => ?_, fun m hm => ?_⟩
  · have := lay_sane (ps := []) (a := 2 * slot) (data := supB (ep + 1) r) (n := 2) hs h2' (by omega) (by simp)
    rwa [List.nil_append] at this
  · have := doP_lay (ps := []) l hs (a := 2 * slot) (n := 2) (i := ((2 * slot : Nat) : Int)) rfl (s := supB (ep + 1) r) (by omega) (by omega) h2' (by simp)
    rwa [List.nil_append] at this
  · have := bytesQ_lay (ps := []) (a := 2 * slot) (data := supB (ep + 1) r) (n := 2) hs h2' (by omega) (by simp) m (by omega)
    rwa [List.nil_append, bytesQ_nil hs] at this

theorem CHyp.comp (h : CHyp b gl ep rm a slot r) : ∃ c, doP (opsS b [] gl ep) b [] = (c, [], 0) ∧ NewB b gl ep rm a slot r c := by
  obtain ⟨ps, f1, f2, f3, f4⟩ := h.full
  obtain ⟨hr, h1, h2, h3, h4, h5, h6, h7, h8⟩ := h.bnd
  have hq := bytesQ_len b ps f3
  have hs1 : saneP (bytesQ b ps).length [] = true := bytesQ_sane b ps
  obtain ⟨l1, l2, l3⟩ := h.lastP hq hs1
  refine ⟨bytesQ (bytesQ b ps) (layWs ((2 * slot : Nat) : Int) (supB (ep + 1) r) 2), ?_, ?_⟩
  · rw [h.ops, doP_sync, bytesQ_nil h.san, doP_app _ _ _ _ f1, doP_sync, l2, doP_sync]
    rfl
  · have hl : (bytesQ (bytesQ b ps) (layWs ((2 * slot : Nat) : Int) (supB (ep + 1) r) 2)).length = b.length := (bytesQ_len _ _ l1).trans hq
    obtain ⟨o1, o2, o3, o4⟩ := h.one f2 f3 f4 hl (fun m hm hn => by rw [l3 m hm, if_neg hn])
    refine ⟨hl, o4, (h.look hl (fun m hm hn => o3 m (by omega) (by omega) hn)).1 (slot_lay (supB_len _ _) (fun i hi => ?_)), o1, o2, o3⟩
    rw [l3 _ (by omega), if_pos (by omega)]
    congr 1; omega

/-- What lies there behind a stop and a crash. -/
def StopSt (b : List UInt8) (gl old : List Hd) (ep : Int) (rm a a0 slot : Nat) (r : Int) (c : List UInt8) : Prop :=
  (lookB c = lookB b ∧ Found (a0 : Int) (rm : Int) c old) ∨ (lookB c = (ep + 1, r, (slot : Int)) ∧ Found (a : Int) (rm : Int) c gl) ∨ ((takeS (slotB c slot)).2.2 = true ∧ slotB c slot ≠ supB (ep + 1) r)
theorem CHyp.stop (h : CHyp b gl ep rm a slot r) {a0 : Nat} (ha0 : (a0 : Int) = begS (lookB b).2.1 rm) {old : List Hd} (ho : Found (a0 : Int) (rm : Int) b old) (plan : List UInt8) (n : Nat) :
    ∃ b' ps', doP ((opsS b [] gl ep).take n) b [] = (b', ps', 0) ∧ saneP b'.length ps' = true ∧ b'.length = b.length ∧ StopSt b gl old ep rm a a0 slot r (crashP plan 0 ps' b') := by
  obtain ⟨ps, f1, f2, f3, f4⟩ := h.full
  obtain ⟨hr, h1, h2, h3, h4, h5, h6, h7, h8⟩ := h.bnd
  have hd : 4 ≤ a0 ∧ a0 + 4 * rm ≤ 4 + 8 * rm ∧ (a0 + 4 * rm ≤ a ∨ a + 4 * rm ≤ a0) := by
    unfold begS at ha0
    have hrE := h.rE
    rcases h7 with ⟨e1, e2⟩ | ⟨e1, e2⟩
    · have e3 : (lookB b).2.1 = 1 := by omega
      rw [e3, Int.one_mul] at ha0
      omega
    · have e3 : (lookB b).2.1 = 0 := by omega
      rw [e3, Int.zero_mul, Int.zero_mul] at ha0
      omega
  obtain ⟨d1, d2, d3⟩ := hd
  have hq := bytesQ_len b ps f3
  have hs1 : saneP (bytesQ b ps).length [] = true := bytesQ_sane b ps
  obtain ⟨l1, l2, l3⟩ := h.lastP hq hs1
  -- the old, where the slots and its region are as they were
  have hold : ∀ c : List UInt8, c.length = b.length → (∀ m, 32 * m + 32 ≤ b.length → ¬ (a ≤ m ∧ m < a + 4 * rm) → ¬ (2 * slot ≤ m ∧ m < 2 * slot + 2) → sec c m = sec b m) → Found (a0 : Int) (rm : Int) c old := fun c hl hc =>
    found_same h1 ho hl.symm (by omega) (fun m q1 q2 => (hc m (by omega) (by omega) (by omega)).symm)
  have hsame : ∀ c : List UInt8, c.length = b.length → (∀ m, 32 * m + 32 ≤ b.length → ¬ (a ≤ m ∧ m < a + 4 * rm) → sec c m = sec b m) → StopSt b gl old ep rm a a0 slot r c := fun c hl hc =>
    .inl ⟨look_same hl (fun m hm => hc m (by omega) (by omega)), hold c hl (fun m hm n1 _ => hc m hm n1)⟩
  rw [h.ops]
  by_cases hn0 : n = 0
  · subst hn0
    exact ⟨b, [], rfl, h.san, rfl, hsame b rfl (fun _ _ _ => rfl)⟩
  obtain ⟨k, rfl⟩ : ∃ k, n = k + 1 := ⟨n - 1, by omega⟩
  rw [List.take_succ_cons, doP_sync, bytesQ_nil h.san, List.take_append]
  by_cases hk : k < (zerP a (4 * rm) ++ recsP a 0 z32 gl).length
  · rw [show k - (zerP a (4 * rm) ++ recsP a 0 z32 gl).length = 0 by omega, List.take_zero, List.append_nil]
    have hle : (zerP a (4 * rm) ++ recsP a 0 z32 gl).length ≤ 8000 := by
      rw [List.length_append, recsP_len]; unfold zerP; rw [List.length_map, List.length_range]; have := h.gle; omega
    obtain ⟨ps', p1, p2, p3⟩ := lays_run (b := b) (lo := a) (hi := a + 4 * rm) h3 ((zerP a (4 * rm) ++ recsP a 0 z32 gl).take k) [] h.san (fun x hx => h.lays x (List.mem_of_mem_take hx)) (by rw [List.length_take]; simp; omega) (fun p hp => by cases hp)
    refine ⟨b, ps', p1, p2, rfl, hsame _ (crashP_len plan b.length ps' 0 b rfl (sane_all p2)) (fun m hm hn => crash_sec plan hm ps' 0 b rfl (sane_all p2) (fun p hp => ?_))⟩
    have := p3 p hp
    omega
  · rw [List.take_of_length_le (by omega : (zerP a (4 * rm) ++ recsP a 0 z32 gl).length ≤ k), doP_app _ _ _ _ f1]
    generalize k - (zerP a (4 * rm) ++ recsP a 0 z32 gl).length = j
    have hone : ∀ c : List UInt8, c.length = b.length → (∀ m, 32 * m + 32 ≤ b.length → ¬ (2 * slot ≤ m ∧ m < 2 * slot + 2) → sec c m = sec (bytesQ b ps) m) → StopSt b gl old ep rm a a0 slot r c := fun c hl hc => by
      obtain ⟨o1, o2, o3, o4⟩ := h.one f2 f3 f4 hl hc
      obtain ⟨k1, k2⟩ := h.look hl (fun m hm hn => o3 m (by omega) (by omega) hn)
      by_cases hx : slotB c slot = supB (ep + 1) r
      · exact .inr (.inl ⟨k1 hx, o1⟩)
      · cases ht : (takeS (slotB c slot)).2.2 with
        | false => exact .inl ⟨k2 ht, hold c hl o3⟩
        | true => exact .inr (.inr ⟨ht, hx⟩)
    match j with
    | 0 =>
      refine ⟨b, ps, rfl, f3, rfl, hsame _ (crashP_len plan b.length ps 0 b rfl (sane_all f3)) (fun m hm hn => crash_sec plan hm ps 0 b rfl (sane_all f3) (fun p hp => ?_))⟩
      obtain ⟨ps', p1, p2, p3⟩ := lays_run (b := b) (lo := a) (hi := a + 4 * rm) h3 (zerP a (4 * rm) ++ recsP a 0 z32 gl) [] h.san h.lays (by
        rw [List.length_append, recsP_len]; unfold zerP; rw [List.length_map, List.length_range]; have := h.gle; simp; omega) (fun p hp => by cases hp)
      rw [f1] at p1
      injection p1 with _ p1
      injection p1 with p1 _
      subst p1
      have := p3 p hp
      omega
    | 1 =>
      refine ⟨bytesQ b ps, [], rfl, hs1, hq, hone _ hq (fun _ _ _ => rfl)⟩
    | 2 =>
      refine ⟨bytesQ b ps, layWs ((2 * slot : Nat) : Int) (supB (ep + 1) r) 2, by rw [show [POp.sync, POp.lay ((2 * slot : Nat) : Int) (supB (ep + 1) r), POp.sync].take 2 = [POp.sync, POp.lay ((2 * slot : Nat) : Int) (supB (ep + 1) r)] from rfl, doP_sync, l2]; rfl, l1, hq,
        hone _ ((crashP_len plan _ _ 0 _ rfl (sane_all l1)).trans hq) (fun m hm hn => crash_sec plan (nb := (bytesQ b ps).length) (by omega) _ 0 _ rfl (sane_all l1) (fun p hp => ?_))⟩
      obtain ⟨i, hi, rfl⟩ := List.mem_map.1 hp
      have hi := List.mem_range.1 hi
      show (m : Int) ≠ ((2 * slot : Nat) : Int) + i
      omega
    | j + 3 =>
      have hb2 := (bytesQ_len _ _ l1).trans hq
      refine ⟨bytesQ (bytesQ b ps) (layWs ((2 * slot : Nat) : Int) (supB (ep + 1) r) 2), [], ?_, bytesQ_sane _ _, hb2, hone _ hb2 (fun m hm hn => by show sec (bytesQ (bytesQ b ps) _) m = _; rw [l3 m hm, if_neg hn])⟩
      rw [show [POp.sync, POp.lay ((2 * slot : Nat) : Int) (supB (ep + 1) r), POp.sync].take (j + 3) = [POp.sync, POp.lay ((2 * slot : Nat) : Int) (supB (ep + 1) r), POp.sync] from List.take_of_length_le (by simp), doP_sync, l2, doP_sync]
      rfl
end
end Go.Proofs.YtbomnldpmkedbaaDoor
