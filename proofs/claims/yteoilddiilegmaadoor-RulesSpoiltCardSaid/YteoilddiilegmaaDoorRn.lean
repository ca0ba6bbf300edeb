/- retarget.Next, Chain. -/
import Derived.Test.YteoilddiilegmaaDoorRs
set_option linter.unusedSimpArgs false
set_option linter.unusedVariables false
namespace Go.Proofs.YteoilddiilegmaaDoor
open Go.RowKit
attribute [local go_sem ↓] Go.wp_at_zero Go.wp_at_succ

def hd0 : Hd := ⟨0, [], [], 0, 0, 0⟩
def actR (p : Par) (h : Hd) (f : UInt32) : Nat := (btw ((h.time.toNat : Int) - f.toNat) (p.span.tdiv 4) (4 * p.span)).toNat
def nextR (p : Par) (n : Int) (h : Hd) (f : UInt32) : UInt32 :=
  if saneR p = false then p.limit else if n.tmod p.itv ≠ 0 then h.bits else scaN h.bits (actR p h f) p.span.toNat p.limit
def chainR (p : Par) (l : List Hd) : UInt32 :=
  if l.length = 0 then p.limit else nextR p l.length (l.getD (l.length - 1) hd0) (l.getD (firstI l.length p.itv).toNat hd0).time

theorem hd_time {h : Hd} (hk : h.ok) : h.cells[65]? = some (u32v h.time) := by
  have e : h.cells = (u32v h.ver :: (h.prev.map u8v ++ h.root.map u8v)) ++ (u32v h.time :: [u32v h.bits, u32v h.nonce]) := by simp [Hd.cells]
  rw [e, List.getElem?_append_right (by simp [hk.1, hk.2])]
  simp [hk.1, hk.2]
theorem hd_bits {h : Hd} (hk : h.ok) : h.cells[66]? = some (u32v h.bits) := by
  have e : h.cells = (u32v h.ver :: (h.prev.map u8v ++ h.root.map u8v) ++ [u32v h.time]) ++ (u32v h.bits :: [u32v h.nonce]) := by simp [Hd.cells]
  rw [e, List.getElem?_append_right (by simp [hk.1, hk.2])]
  simp [hk.1, hk.2]
theorem heads_at {w : World} {B : Option Addr} {l : List Hd} (hr : Rd w B (l.flatMap Hd.cells)) (hk : ∀ h ∈ l, h.ok) {k : Nat} (h : k < l.length) :
    ∃ b off, B = some ⟨b, off, none⟩ ∧ b < w.heap.size ∧ w.rangeAt b (off + k * 68) l[k].cells := by
  have hlen : ∀ a ∈ l, a.cells.length = 68 := fun a ha => Hd.len (hk a ha)
  obtain ⟨b, off, rfl, hb, F⟩ := hr.at (k := k * 68) (by rw [flatMap_len' _ 68 _ hlen]; omega)
  refine ⟨b, off, rfl, hb, fun j v hv => ?_⟩
  have hj : j < 68 := by rw [← hlen l[k] (List.getElem_mem h)]; exact (List.getElem?_eq_some_iff.1 hv).1
  have hg := flatMap_get' Hd.cells 68 l hlen k j h hj
  have hlt : k * 68 + j < (l.flatMap Hd.cells).length := by rw [flatMap_len' _ 68 _ hlen]; omega
  have hc := F (k * 68 + j) hlt
  rw [Nat.add_assoc, hc, ← hv, ← hg, List.getElem?_eq_getElem hlt]

set_option maxRecDepth 100000 in
set_option maxHeartbeats 4000000 in
theorem next_any (p : Par) (A : Option Addr) (c : Nat) (n : Int) (h : Hd) (cs : Array Value) (f : UInt32) (w : World) (hn : 1 ≤ n) (hn2 : n ≤ 1000000) (hk : h.ok) (hcs : HdA h cs) :
    Calls Tryd.prog 32 #[parV p A c, iv n, .agg cs, u32v f] w fun e w' => e = .returned (u32v (nextR p n h f)) ∧ Keep w w' := by
  have S1 : Hid (∀ y, Calls Tryd.prog 10 #[parV p A c] y fun e w' => e = .returned (.bool (saneR p)) ∧ Keep y w') := Lib.hid fun y => sane_any p A c y
  have ht := hd_time hk; have hbt := hd_bits hk
  have HI := Lib.hid (saneR_iff p)
  have HN : Hid (∀ r, nextR p n h f = r → r = if saneR p = false then p.limit else if n.tmod p.itv ≠ 0 then h.bits else scaN h.bits (actR p h f) p.span.toNat p.limit) := Lib.hid fun r e => by subst e; rfl
  replace HN := Lib.hid (HN.out _ rfl)
  have HA : Hid (actR p h f = (btw ((h.time.toNat : Int) - f.toNat) (p.span.tdiv 4) (4 * p.span)).toNat) := Lib.hid rfl
  generalize nextR p n h f = R at *
  generalize actR p h f = k at *
  unfold parV at *
  generalize saneR p = S at *
  generalize p.limit = limit at *
  generalize p.itv = itv at *
  generalize p.span = span at *
  generalize p.fut = fut at *
  generalize p.idx = idx at *
  generalize p.orp = orp at *
  generalize hm : p.chks.length = m at *
  clear hm
  obtain ⟨tm, htm⟩ : ∃ x, h.time = x := ⟨_, rfl⟩
  obtain ⟨bt, hbi⟩ : ∃ x, h.bits = x := ⟨_, rfl⟩
  rw [htm] at ht HA; rw [hbi] at hbt HN
  have hcz := hcs.z; have hcn := hcs.n; have hci := hcs.i
  rw [← hcs.l] at ht hbt
  have Ht := Lib.hid ht; have Hbt := Lib.hid hbt
  clear htm hbi ht hbt hk hcs
  go_enter Tryd.func32, Tryd.ntmps32
  go_upto_region 1 with fail
  obtain ⟨w1, hw1⟩ : ∃ w1, w1 = (w.alloc (.cells #[u32v limit, iv itv, iv span, iv fut, iv idx, iv orp, .slice A m c] 25)).alloc (.cells cs 30) := ⟨_, rfl⟩
  have HP1 : Hid (Blk w1 w.heap.size 25 [u32v limit, iv itv, iv span, iv fut, iv idx, iv orp, .slice A m c]) := by rw [hw1]; exact Lib.hid ((Blk.new w 25 [u32v limit, iv itv, iv span, iv fut, iv idx, iv orp, .slice A m c]).alloc _)
  have HH1 : Hid (Blk w1 (w.heap.size + 1) 30 cs.toList) := by
    rw [hw1]
    have h2 := Blk.new (w.alloc (.cells #[u32v limit, iv itv, iv span, iv fut, iv idx, iv orp, .slice A m c] 25)) 30 cs.toList
    rw [World.size_alloc] at h2
    exact Lib.hid h2
  have HK1 : Hid (Keep w w1) := by rw [hw1]; exact Lib.hid (keep_trans (keep_new _ _) (keep_new _ _))
  rw [← hw1]
  clear hw1
  have p0 := HP1.out.cell 0
  have p1 := HP1.out.cell 1
  have p2 := HP1.out.cell 2
  have p3 := HP1.out.cell 3
  have p4 := HP1.out.cell 4
  have p5 := HP1.out.cell 5
  have p6 := HP1.out.cell 6
  simp only [List.getElem?_cons_succ, List.getElem?_cons_zero] at p0 p1 p2 p3 p4 p5 p6
  go_wp2_with fail
  refine (S1.out _).mono ?_
  clear S1 p0 p1 p2 p3 p4 p5 p6
  rintro e w2 ⟨rfl, k2⟩
  have p0 := (HP1.out.keep k2).cell 0
  have p1 := (HP1.out.keep k2).cell 1
  have p2 := (HP1.out.keep k2).cell 2
  have q0 := (HH1.out.keep k2).cell 65
  have q1 := (HH1.out.keep k2).cell 66
  rw [Ht.out] at q0
  rw [Hbt.out] at q1
  simp only [List.getElem?_cons_succ, List.getElem?_cons_zero] at p0 p1 p2
  have HK2 := Lib.hid (keep_trans HK1.out k2)
  clear k2 HP1 HH1 HK1 Ht Hbt
  cases S with
  | false =>
    have hR := HN.out
    rw [if_pos rfl] at hR
    subst hR
    clear HN HI
    go_wp2
    exact bodyPost_ret (v := u32v R) (by simp [results, Tryd.results32]) rfl ⟨rfl, HK2.out⟩
  | true =>
    obtain ⟨⟨i1, i2⟩, ⟨s1, s2⟩, -⟩ := HI.out.1 rfl
    clear HI
    have hR := HN.out
    rw [if_neg (by simp)] at hR
    replace HN := Lib.hid hR
    clear hR
    have g1 : ¬ n ≤ 0 := by omega
    have g2 : ¬ itv = 0 := by omega
    have g3 : (itv == 0) = false := by simp [g2]
    have tb1 : 0 ≤ n.tmod itv := Int.tmod_nonneg _ (by omega)
    have tb2 : n.tmod itv ≤ n := by rw [Int.tmod_eq_emod_of_nonneg (by omega)]; by_cases hq : n < itv; (· rw [Int.emod_eq_of_lt (by omega) hq]; omega); (· have := Int.emod_lt_of_pos n (show 0 < itv by omega); omega)
    have g4 : IntKind.i64.wrap (n.tmod itv) = n.tmod itv := IntWalk.i64_in _ (by omega)
    clear tb1 tb2
    obtain ⟨x, hx⟩ : ∃ x, n.tmod itv = x := ⟨_, rfl⟩
    rw [hx] at g4 HN
    by_cases h0 : x = 0
    · subst h0
      have hR := HN.out
      rw [if_neg (by simp)] at hR
      clear HN g4
      have hd4 : span.tdiv 4 = span / 4 := Int.tdiv_eq_ediv_of_nonneg (by omega)
      have bt1 := tm.toNat_lt
      have bt2 := f.toNat_lt
      have hkb : btw ((tm.toNat : Int) - f.toNat) (span.tdiv 4) (4 * span) = (k : Int) ∧ k < 18446744073709551616 := by
        have h1 := HA.out
        unfold btw at h1 ⊢
        omega
      have C1 : Hid (∀ y, Calls Tryd.prog 42 #[iv ((tm.toNat : Int) - f.toNat), iv span] y fun e w' => e = .returned (iv k) ∧ w' = y) := Lib.hid fun y => by
        have h1 := clamp_any ((tm.toNat : Int) - f.toNat) span y s1 s2
        rw [hkb.1] at h1
        exact h1
      have hk2 := hkb.2
      have v1 : IntKind.i64.wrap (tm.toNat : Int) = tm.toNat := IntWalk.i64_in _ (by omega)
      have v2 : IntKind.i64.wrap (f.toNat : Int) = f.toNat := IntWalk.i64_in _ (by omega)
      have v3 : IntKind.i64.wrap ((tm.toNat : Int) - f.toNat) = (tm.toNat : Int) - f.toNat := IntWalk.i64_in _ (by omega)
      obtain ⟨s, rfl⟩ : ∃ s : Nat, span = s := ⟨span.toNat, by omega⟩
      have hs2 : s < 18446744073709551616 := by omega
      have v4 : IntKind.u64.wrap (k : Int) = k := IntWalk.u64_in _ (by omega)
      have v5 : IntKind.u64.wrap (s : Int) = s := IntWalk.u64_in _ (by omega)
      rw [Int.toNat_natCast] at hR
      have C2 : Hid (∀ y, Calls Tryd.prog 43 #[u32v bt, n64 k, n64 s, u32v limit] y fun e w' => e = .returned (u32v R) ∧ Keep y w') := Lib.hid fun y => by
        rw [hR]
        exact scale_any bt limit k s y hk2 hs2
      obtain ⟨d, hd⟩ : ∃ d, (tm.toNat : Int) - f.toNat = d := ⟨_, rfl⟩
      rw [hd] at C1 v3
      clear hR HA hd4 hkb bt1 bt2 hk2 hs2 s1 s2
      go_wp2_with fail
      refine (C1.out _).mono ?_
      clear C1
      rintro e w3 ⟨rfl, rfl⟩
      go_wp2_with fail
      refine (C2.out _).mono ?_
      clear C2
      rintro e w4 ⟨rfl, k4⟩
      go_wp2
      exact bodyPost_ret (v := u32v R) (by simp [results, Tryd.results32]) rfl ⟨rfl, keep_trans HK2.out k4⟩
    · have hR := HN.out
      rw [if_pos h0] at hR
      subst hR
      have g5 : (x != 0) = true := by simp [h0]
      have g6 : (x == 0) = false := by simp [h0]
      clear HN
      go_wp2
      exact bodyPost_ret (v := u32v R) (by simp [results, Tryd.results32]) rfl ⟨rfl, HK2.out⟩
end Go.Proofs.YteoilddiilegmaaDoor
