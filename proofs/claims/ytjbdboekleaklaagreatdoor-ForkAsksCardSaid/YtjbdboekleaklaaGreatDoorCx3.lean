/- Texts merged by pack.py: ClkB, ClkC, ClkD, ClkE, ClkMz, ClkN. -/
import Derived.Test.YtjbdboekleaklaaGreatDoorCx2
import Derived.Deep.MidRow
import Derived.Deep.WholeRow
set_option linter.unusedSimpArgs false
set_option linter.unusedVariables false
namespace Go.Proofs.YtjbdboekleaklaaGreatDoor
open Go.RowKit
attribute [local go_sem ↓] Go.wp_at_zero Go.wp_at_succ

theorem splice_getE {α : Type} {b d : List α} {o k : Nat} (hk : k < b.length) (ho : o + d.length ≤ b.length) : (splice b o d)[k]? = if o ≤ k ∧ k < o + d.length then d[k - o]? else b[k]? := by
  unfold splice
  by_cases h1 : k < o
  · rw [if_neg (by omega), List.getElem?_append_left (by simp; omega), List.getElem?_take, if_pos h1]
  · by_cases h2 : k < o + d.length
    · rw [if_pos ⟨by omega, h2⟩, List.getElem?_append_right (by simp; omega), List.getElem?_append_left (by simp; omega)]
      congr 1; simp; omega
    · rw [if_neg (by omega), List.getElem?_append_right (by simp; omega), List.getElem?_append_right (by simp; omega), List.getElem?_drop]
      congr 1; simp; omega
theorem ins_get {α : Type} (L : List α) (i k : Nat) (t : α) (hi : i ≤ L.length) : (L.take i ++ t :: L.drop i)[k]? = if k < i then L[k]? else if k = i then some t else L[k - 1]? := by
  by_cases h1 : k < i
  · rw [if_pos h1, List.getElem?_append_left (by simp; omega), List.getElem?_take, if_pos h1]
  · rw [if_neg h1, List.getElem?_append_right (by simp; omega), List.length_take, Nat.min_eq_left hi]
    by_cases h2 : k = i
    · rw [if_pos h2, show k - i = 0 by omega]; rfl
    · rw [if_neg h2, show k - i = (k - i - 1) + 1 by omega, List.getElem?_cons_succ, List.getElem?_drop]
      congr 1; omega
/-- In place: what stands from i on is shifted up, t is laid at i. -/
theorem ins_place {α : Type} (cur L : List α) (i : Nat) (t : α) (hL : cur.take L.length = L) (hi : i < L.length) (hc : L.length + 1 ≤ cur.length) :
    (splice (splice cur (i + 1) (L.drop i)) i [t]).take (L.length + 1) = L.take i ++ t :: L.drop i := by
  have hl : (splice cur (i + 1) (L.drop i)).length = cur.length := by rw [length_splice]; simp; omega
  have hg : ∀ k, k < L.length → cur[k]? = L[k]? := fun k hk => by rw [← hL, List.getElem?_take, if_pos hk]
  apply List.ext_getElem?
  intro k
  rw [ins_get _ _ _ _ (by omega), List.getElem?_take]
  by_cases hk : k < L.length + 1
  · rw [if_pos hk, splice_getE (by omega) (by rw [hl]; simp; omega), splice_getE (by omega) (by simp; omega)]
    by_cases h1 : k < i
    · rw [if_neg (by simp; omega), if_neg (by simp; omega), if_pos h1, hg k (by omega)]
    · by_cases h2 : k = i
      · subst h2; rw [if_pos (by simp), if_neg h1, if_pos rfl, Nat.sub_self]; rfl
      · rw [if_neg (by simp; omega), if_pos (by simp; omega), if_neg h1, if_neg h2, List.getElem?_drop]
        congr 1; omega
  · rw [if_neg hk, if_neg (by omega), if_neg (by omega), List.getElem?_eq_none (by omega)]
/-- In a new row. -/
theorem ins_new {α : Type} (cur L : List α) (i : Nat) (t : α) (hL : cur.take i = L.take i) (hi : i < L.length) (hc : L.length + 1 ≤ cur.length) :
    (splice (splice cur i [t]) (i + 1) (L.drop i)).take (L.length + 1) = L.take i ++ t :: L.drop i := by
  have hl : (splice cur i [t]).length = cur.length := by rw [length_splice]; simp; omega
  have hg : ∀ k, k < i → cur[k]? = L[k]? := fun k hk => by
    have := congrArg (fun l => l[k]?) hL
    simp only [List.getElem?_take, if_pos hk] at this
    exact this
  apply List.ext_getElem?
  intro k
  rw [ins_get _ _ _ _ (by omega), List.getElem?_take]
  by_cases hk : k < L.length + 1
  · rw [if_pos hk, splice_getE (by omega) (by rw [hl]; simp; omega), splice_getE (by omega) (by simp; omega)]
    by_cases h1 : k < i
    · rw [if_neg (by simp; omega), if_neg (by simp; omega), if_pos h1, hg k h1]
    · by_cases h2 : k = i
      · subst h2; rw [if_neg (by simp; omega), if_pos (by simp), if_neg h1, if_pos rfl, Nat.sub_self]; rfl
      · rw [if_pos (by simp; omega), if_neg h1, if_neg h2, List.getElem?_drop]
        congr 1; omega
  · rw [if_neg hk, if_neg (by omega), if_neg (by omega), List.getElem?_eq_none (by omega)]

theorem own_full {w : World} {base : Nat} {e : TypeId} {g n c : Nat} {xs : List Value} (h : w.ownsRow base e 1 (.slice (some ⟨g, 0, none⟩) n c) n xs) :
    ∃ cur : List Value, w.heap[g]? = some (.cells cur.toArray e (0, 0)) ∧ cur.length = c ∧ n ≤ c ∧ c ≤ maxLen ∧ cur.take n = xs ∧ base ≤ g := by
  rcases h.2 with ⟨h0, _⟩ | ⟨g', cap, cur', hv, hb, hg, hnc, hcm, hcs, htake⟩
  · cases h0
  · injection hv with h1 _ h3
    injection h1 with h1; injection h1 with h1
    subst h1 h3
    exact ⟨cur'.toList, by simpa using hg, by simpa using hcs, hnc, hcm, by simpa using htake, hb⟩
theorem own_of {w : World} {base : Nat} {e : TypeId} {g n c : Nat} {cur xs : List Value} (hg : w.heap[g]? = some (.cells cur.toArray e (0, 0))) (hb : base ≤ g) (hc : cur.length = c) (hn : n ≤ c) (hm : c ≤ maxLen) (ht : cur.take n = xs) : w.ownsRow base e 1 (.slice (some ⟨g, 0, none⟩) n c) n xs := by
  refine ⟨by rw [← ht]; simp; omega, .inr ⟨g, c, _, rfl, hb, hg, hn, hm, by simpa using hc, by simpa using ht⟩⟩

/-- A copy of just those cells that are copied. -/
theorem wpList_cpy2 {P : Program} {t e : TypeId} {z : Value} {bytes : Nat} (T : ElT P t e z 1 bytes) {w : World} {ops : Array Oper} {rest : List Oper} {o : Oper} {a : Act} {Q : Exit → Act → World → Prop} (hgd : o.guard = none) (d x : Operand)
    (ho : o.op = .call { callee := .builtin .copy, args := #[d, x], argTypes := #[t, t] }) (g off dLen dCap : Nat) (hd : a.eval d = .slice (some ⟨g, off, none⟩) dLen dCap)
    (b o2 n c : Nat) (hx : a.eval x = .slice (some ⟨b, o2, none⟩) n c) (xs : List Value) (hl : xs.length = min n dLen) (hr : Rd w (some ⟨b, o2, none⟩) xs) (h1 : ∀ u ∈ xs, u.oneCell' = true)
    (cur : List Value) (t' : TypeId) (hg : w.heap[g]? = some (.cells cur.toArray t' (0, 0))) (hfit : off + xs.length ≤ cur.length)
    (h : ∀ w', Hid (w'.heap[g]? = some (.cells (splice cur off xs).toArray t' (0, 0))) → w.grownBy w' (some g) → wpList P ops Q rest (a.put o.dst (.int .i64 (xs.length : Nat))) w') : wpList P ops Q (o :: rest) a w := by
  refine wpList_plain hgd fun K hK => ?_
  have hsz : (P.info? e).map (·.size) = some 1 := by obtain ⟨i, hi, _, h2, _⟩ := T.info; simp [hi, h2]
  by_cases h0 : xs.length = 0
  · obtain rfl : xs = [] := List.eq_nil_of_length_eq_zero h0
    have hrun := run_copy_none (P := P) w t t o.type e (some ⟨g, off, none⟩) (some ⟨b, o2, none⟩) dLen dCap n c T.und hsz (by have := hl.symm; simpa using this)
    unfold Oper.wp
    simp [execOp, ho, resolve, invoke, builtin, hd, hx, hrun, Result.andThen]
    have hk := h w (show _ = _ by simpa [splice] using hg) (World.grownBy.refl w _)
    exact hK _ _ hk
  · have hrun := run_copy_row (P := P) w t t o.type e g off dLen dCap ⟨b, o2, none⟩ n c cur.toArray t' xs T.und hsz hg hl (fun j v hv => by
      obtain ⟨hj, rfl⟩ := List.getElem?_eq_some_iff.1 hv
      rcases hr with h | ⟨b', o', e', hc⟩
      · rw [h] at h0; simp at h0
      · injection e' with e'; injection e' with e1 e2; subst e1 e2
        rw [add_lit0]; exact hc j hj) (by simpa using hfit) h1
    unfold Oper.wp
    simp only [execOp, ho, resolve, invoke, builtin, Sem.run_bind, Sem.run_pure, Result.andThen_ok, List.map_toArray, List.map_cons, List.map_nil, hd, hx, hrun, Oper.upon]
    refine hK _ _ (h _ ?_ ⟨rfl, rfl, rfl, by simp [World.setRow], fun k _ hne => setRow_other w g k _ (fun e => hne (by rw [e]))⟩)
    have hs : splice cur off xs = cur.take off ++ xs ++ cur.drop (off + xs.length) := by rw [splice, List.append_assoc]
    rw [hs]
    exact setRow_heap w g cur.toArray _ t' (0, 0) hg

theorem grown_keep {w w' : World} {row : Option Nat} (h : Keep w w') : w.grownBy w' row := ⟨h.os, h.tape, h.output, h.size, fun k hk _ => h.block k hk⟩
theorem grown_trans {a b c : World} {row : Option Nat} (h : a.grownBy b row) (g : b.grownBy c row) : a.grownBy c row :=
  ⟨g.os.trans h.os, g.tape.trans h.tape, g.output.trans h.output, Nat.le_trans h.size g.size, fun k hk hne => (g.block k (Nat.lt_of_lt_of_le hk h.size) hne).trans (h.block k hk hne)⟩

def Ins (base : Nat) (v : Value) (ys : List UInt32) (w : World) (e : Ending) (w' : World) : Prop :=
  ∃ v', e = .returned v' ∧ w'.ownsRow base 37 1 v' ys.length (ys.map u32v) ∧ w.grownBy w' v.ownBlock ∧ (v'.ownBlock = v.ownBlock ∨ v'.ownBlock = some w.heap.size)
theorem ins_len (xs : List UInt32) (i : Nat) (t : UInt32) (hi : i ≤ xs.length) : (xs.take i ++ t :: xs.drop i).length = xs.length + 1 := by simp; omega

set_option maxRecDepth 100000 in
set_option maxHeartbeats 2000000 in
theorem insert_end (base : Nat) (v : Value) (xs : List UInt32) (t : UInt32) (G : Nat) (w : World) (hown : w.ownsRow base 37 1 v xs.length (xs.map u32v)) (hl : xs.length ≤ 100000) (hG : Blk w G 37 [u32v t]) (hb : base ≤ w.heap.size) :
    Calls Tryz.prog 88 #[v, .int .i64 xs.length, .slice (some ⟨G, 0, none⟩) 1 1] w (Ins base v (xs.take xs.length ++ t :: xs.drop xs.length) w) := by
  have e0 : xs.take xs.length ++ t :: xs.drop xs.length = xs ++ [t] := by simp
  rw [e0]
  clear e0
  have Hown := Lib.hid hown
  obtain ⟨A, c, rfl, hc, hm, hrd⟩ := own_form hown
  have Hrd := Lib.hid hG.rd
  unfold maxLen at hm
  clear hown hrd hG
  have hcA : A = none → xs.length = 0 ∧ c = 0 := fun h => by
    rcases Hown.out.2 with ⟨h1, _⟩ | ⟨g, cap, cur, h1, _⟩
    · injection h1 with _ h2 h3; exact ⟨h2, h3⟩
    · rw [h] at h1; injection h1 with h1; cases h1
  cases A with
  | none =>
    obtain ⟨h1, rfl⟩ := hcA rfl
    obtain rfl : xs = [] := List.eq_nil_of_length_eq_zero h1
    clear hcA h1
    go_enter Tryz.func88, Tryz.ntmps88
    go_wp2_with (at_builtin; refine wpList_app wordT (by rfl) _ _ (by rfl) base _ 0 _ (by rfl) Hown.out _ 1 1 [u32v t] (by rfl) (by rfl) Hrd.out (by simp [Value.oneCell']) (by omega) (by unfold maxLen; omega) hb ?_; intro v2 w2 own2 hg2 hat2; have Own2 := Lib.hid own2; clear own2)
    go_ret
    exact ⟨_, rfl, by simpa using Own2.out, hg2, hat2⟩
  | some a =>
    obtain ⟨g, cap, hga, hgb, hgl⟩ : ∃ g cap, (Value.slice (some a) xs.length c) = .slice (some ⟨g, 0, none⟩) xs.length cap ∧ base ≤ g ∧ g < w.heap.size := by
      rcases Hown.out.2 with ⟨h1, _⟩ | ⟨g, cap, cur, h1, h2, h3, _⟩
      · cases h1
      · exact ⟨g, cap, h1, h2, (Array.getElem?_eq_some_iff.1 h3).1⟩
    injection hga with hga _ hgc
    injection hga with hga
    subst hga hgc
    clear hcA
    by_cases hcn : c = xs.length
    · subst hcn
      go_enter Tryz.func88, Tryz.ntmps88
      go_wp2_with (at_builtin; refine wpList_app wordT (by rfl) _ _ (by rfl) base _ xs.length _ (by rfl) Hown.out _ 1 1 [u32v t] (by rfl) (by rfl) Hrd.out (by simp [Value.oneCell']) (by omega) (by unfold maxLen; omega) hb ?_; intro v2 w2 own2 hg2 hat2; have Own2 := Lib.hid own2; clear own2)
      go_ret
      exact ⟨_, rfl, by simpa using Own2.out, hg2, hat2⟩
    · go_enter Tryz.func88, Tryz.ntmps88
      go_wp2_with (at_builtin; refine wpList_app wordT (by rfl) _ _ (by rfl) base _ xs.length _ (by rfl) Hown.out _ 1 1 [u32v t] (by rfl) (by rfl) Hrd.out (by simp [Value.oneCell']) (by omega) (by unfold maxLen; omega) hb ?_; intro v2 w2 own2 hg2 hat2; have Own2 := Lib.hid own2; clear own2)
      go_ret
      exact ⟨_, rfl, by simpa using Own2.out, hg2, hat2⟩

set_option maxRecDepth 100000 in
set_option maxHeartbeats 2000000 in
theorem insert_place (base g cap : Nat) (xs : List UInt32) (i : Nat) (t : UInt32) (G : Nat) (w : World) (hown : w.ownsRow base 37 1 (.slice (some ⟨g, 0, none⟩) xs.length cap) xs.length (xs.map u32v)) (hi : i < xs.length) (hl : xs.length ≤ 100000) (hG : Blk w G 37 [u32v t]) (hGg : G ≠ g) (hb : base ≤ w.heap.size)
    (hroom : xs.length + 1 ≤ cap) :
    Calls Tryz.prog 88 #[.slice (some ⟨g, 0, none⟩) xs.length cap, .int .i64 i, .slice (some ⟨G, 0, none⟩) 1 1] w (Ins base (.slice (some ⟨g, 0, none⟩) xs.length cap) (xs.take i ++ t :: xs.drop i) w) := by
  obtain ⟨cur, hcur, hcl, hnc, hm, hct, hbg⟩ := own_full hown
  have hov : ∀ lb cb, (callFunc 94 #[.slice (some ⟨G, 0, none⟩) 1 1, .slice (some ⟨g, i + 1, none⟩) lb cb]).run Tryz.prog w = .ok (.value (.bool false)) w := fun lb cb => by
    rw [run_callFunc_extern Tryz.func94 (by kernel_rfl) (by kernel_rfl) (by kernel_rfl) (e := Extern.SlicesOverlaps.overlaps #[92, 92] #[4]) (by kernel_rfl),
      Lib.run_overlaps_apart w 92 4 37 Tryz.underlying92 1 (fun w => by kernel_rfl) ⟨G, 0, none⟩ ⟨g, i + 1, none⟩ 1 1 lb cb hGg 37 37 1 cap (by unfold Blk at hG; simp [World.shape?, hG]) (by simp [World.shape?, hcur, hcl]) (by omega) (hG.frozen 0) (hG.frozen 1)]
    rfl
  have Hcur := Lib.hid hcur; have Hct := Lib.hid hct; have Hcl := Lib.hid hcl
  have hgl : g < w.heap.size := (Array.getElem?_eq_some_iff.1 hcur).1
  clear hcur hct hcl hown
  unfold maxLen at hm
  have hz2 : ((i : Int) == (xs.length : Int)) = false := by simp; omega
  have hz3 : (xs.length : Int) + 1 ≤ (cap : Int) := by omega
  have hi' : (i : Int) < (xs.length : Int) := by omega
  have hc1 : cap ≠ i := by omega
  have hc2 : cap ≠ i + 1 := by omega
  go_enter Tryz.func88, Tryz.ntmps88
  go_wp2_with (simp only [hov])
  refine wp_region_tree (.take [0,1,2,3,4,5,6,7] .done) [8] (by kernel_rfl) (by kernel_rfl) (fun w1 k1 => ?_)
  refine mt_take w1 (Below.refl _ _) ?_
  simp only [pick_cons, pick_nil, nth_zero, nth_succ]
  repeat (go_big_quiet_step (fail))
  refine wpQuiet_nil (mt_end ?_)
  have hmapd : ((xs.map u32v).drop i).length = xs.length - i := by simp
  have hrd1 : Rd w1 (some ⟨g, i, none⟩) ((xs.map u32v).drop i) := by
    have hb1 : Blk w1 g 37 cur := (show Blk w g 37 cur from Hcur.out).keep k1
    have h1 := hb1.rd.sub i (xs.length - i) (by rw [Hcl.out]; omega)
    rw [Nat.zero_add] at h1
    have e : (cur.drop i).take (xs.length - i) = (xs.map u32v).drop i := by rw [← Hct.out, List.drop_take]
    rwa [e] at h1
  have hG1 : Blk w1 G 37 [u32v t] := hG.keep k1
  have Hmd := Lib.hid hmapd; have Hrd1 := Lib.hid hrd1; have HG1 := Lib.hid hG1
  have Hcur1 : Hid (w1.heap[g]? = some (.cells cur.toArray 37 (0, 0))) := (k1.block g hgl).trans Hcur.out
  clear hmapd hrd1 hG1 hG
  go_wp2_with (first
    | (refine wpList_cpy2 wordT (by rfl) _ _ (by rfl) g (i + 1) _ _ (by rfl) g i _ _ (by rfl) ((xs.map u32v).drop i) (by rw [Hmd.out]; omega) Hrd1.out (fun u hu => one_words xs u (List.mem_of_mem_drop hu)) cur 37 Hcur1.out (by rw [Hmd.out, Hcl.out]; omega) ?_; intro w2 hcur2 hg2)
    | (refine wpList_cpy2 wordT (by rfl) _ _ (by rfl) g i _ _ (by rfl) G 0 1 1 (by rfl) [u32v t] (by simp; omega) (HG1.out.grown hg2 (fun h => hGg (by injection h with h; exact h.symm))).rd (by simp [Value.oneCell']) _ 37 hcur2.out (by rw [length_splice _ _ _ (by rw [Hmd.out, Hcl.out]; omega), Hcl.out]; simp; omega) ?_; intro w3 hcur3 hg3))
  go_ret
  refine ⟨_, rfl, ?_, grown_trans (grown_trans (grown_keep k1) hg2) hg3, .inl rfl⟩
  rw [ins_len xs i t (by omega)]
  refine own_of hcur3.out hbg ?_ hroom (by unfold maxLen; omega) ?_
  · rw [length_splice, length_splice, Hcl.out]
    · rw [Hmd.out, Hcl.out]; omega
    · rw [length_splice _ _ _ (by rw [Hmd.out, Hcl.out]; omega), Hcl.out]; simp; omega
  · have h1 := ins_place cur (xs.map u32v) i (u32v t) (by rw [List.length_map]; exact Hct.out) (by simpa using hi) (by rw [List.length_map, Hcl.out]; exact hroom)
    rw [List.length_map] at h1
    rw [h1, List.map_append, List.map_cons, List.map_take, List.map_drop]

set_option maxRecDepth 100000 in
set_option maxHeartbeats 2000000 in
theorem insert_new (base g cap : Nat) (xs : List UInt32) (i : Nat) (t : UInt32) (G : Nat) (w : World) (hown : w.ownsRow base 37 1 (.slice (some ⟨g, 0, none⟩) xs.length cap) xs.length (xs.map u32v)) (hi : i < xs.length) (hl : xs.length ≤ 100000) (hG : Blk w G 37 [u32v t]) (hb : base ≤ w.heap.size)
    (hroom : cap < xs.length + 1) :
    Calls Tryz.prog 88 #[.slice (some ⟨g, 0, none⟩) xs.length cap, .int .i64 i, .slice (some ⟨G, 0, none⟩) 1 1] w (Ins base (.slice (some ⟨g, 0, none⟩) xs.length cap) (xs.take i ++ t :: xs.drop i) w) := by
  obtain ⟨cur, hcur, hcl, hnc, hm, hct, hbg⟩ := own_full hown
  have hgl : g < w.heap.size := (Array.getElem?_eq_some_iff.1 hcur).1
  have hGl : G < w.heap.size := hG.lt
  obtain ⟨i0, hi0, hz0, hzs, hzb⟩ := wordT.info
  have hrd : Rd w (some ⟨g, 0, none⟩) (xs.map u32v) := own_rd hown
  have hold : (Builtin.firstCells i0.size i (.slice (some ⟨g, 0, none⟩) i cap)).run Tryz.prog w.drew = .ok ((xs.map u32v).take i).toArray w.drew := by
    rw [hzs]
    exact run_firstCells_some w.drew 1 i ⟨g, 0, none⟩ i cap ((xs.map u32v).take i) (by simp; omega) (fun j v hj => by
      obtain ⟨hj2, rfl⟩ := List.getElem?_eq_some_iff.1 hj
      rcases hrd.take i with h | ⟨b', o', e', hc⟩
      · rw [h] at hj2; simp at hj2
      · injection e' with e'; injection e' with e1 e2; subst e1 e2
        rw [add_lit0]; exact hc j hj2)
  obtain ⟨Gc, hGc⟩ : ∃ Gc, Gc = grownCap w (xs.length + 1) cap 37 := ⟨_, rfl⟩
  obtain ⟨row, hrow⟩ : ∃ row : List Value, row = (((xs.map u32v).take i).toArray ++ Builtin.zeroCells (Value.int .u32 0).cells (xs.length + 1 - i) ++ Builtin.zeroCells (Value.int .u32 0).cells (Gc - (xs.length + 1))).toList := ⟨_, rfl⟩
  have hrz : ∀ ty, (Builtin.append_ #[92, 3] ty #[.slice (some ⟨g, 0, none⟩) i cap, .int .i64 ((xs.length : Int) + 1 - (i : Int))]).run Tryz.prog w =
      .ok (.slice (some ⟨w.heap.size, 0, none⟩) (xs.length + 1) Gc) (w.drew.alloc (.cells row.toArray 37)) := fun ty => by
    have h := Lib.run_append_grow_zeros w 92 3 ty 37 i0 _ .i64 .i64 Tryz.underlying92 Tryz.underlying3 hi0 hz0 (some ⟨g, 0, none⟩) i cap ((xs.map u32v).take i) hold (xs.length + 1 - i) (by omega) (by omega) (by omega) (by omega) (by rw [hzb]; omega) (by rw [hzb]; exact growslice_fits (by omega) (by omega))
    rw [show i + (xs.length + 1 - i) = xs.length + 1 by omega, ← hGc] at h
    rw [show (xs.length : Int) + 1 - (i : Int) = ((xs.length + 1 - i : Nat) : Int) by omega, h, hrow, Array.toArray_toList]
  have hGn : xs.length + 1 ≤ Gc := by rw [hGc]; exact grownCap_ge w _ _ _
  have hG63 : Gc ≤ 9223372036854775807 := by
    have := grownCap_le_maxLen w (xs.length + 1) cap 37 (by unfold maxLen; omega)
    rw [← hGc] at this
    unfold maxLen at this
    omega
  have hrl : row.length = Gc := by rw [hrow]; simp [Builtin.zeroCells, Value.cells]; omega
  have hrt : row.take i = (xs.map u32v).take i := by
    rw [hrow, Array.toList_append, Array.toList_append, List.append_assoc, List.take_append_of_le_length (by simp; omega)]
    rw [List.toList_toArray, List.take_take, Nat.min_self]
  obtain ⟨w1, hw1⟩ : ∃ w1, w1 = w.drew.alloc (.cells row.toArray 37) := ⟨_, rfl⟩
  rw [← hw1] at hrz
  have k1 : Keep w w1 := by rw [hw1]; exact ((Below.refl _ _).drew).alloc (Nat.le_refl _) _
  obtain ⟨g1, hg1⟩ : ∃ g1, g1 = w.heap.size := ⟨_, rfl⟩
  have hcur1 : w1.heap[g1]? = some (.cells row.toArray 37 (0, 0)) := by rw [hw1, hg1]; exact heap_alloc_new w.drew _
  have Hcur1 := Lib.hid hcur1; have Hrl := Lib.hid hrl; have Hrt := Lib.hid hrt; have Hg1 := Lib.hid hg1
  rw [← hg1] at hrz
  have hmapd : ((xs.map u32v).drop i).length = xs.length - i := by simp
  have hrd1 : Rd w1 (some ⟨g, i, none⟩) ((xs.map u32v).drop i) := by
    have h1 := ((hrd.keep k1).sub i (xs.length - i) (by simp; omega))
    rw [Nat.zero_add, List.take_of_length_le (by rw [hmapd]; omega)] at h1
    exact h1
  have HG1 := Lib.hid (hG.keep k1)
  have Hmd := Lib.hid hmapd; have Hrd1 := Lib.hid hrd1
  have hgg : g ≠ g1 := by omega
  have hGg : G ≠ g1 := by omega
  clear hmapd hrd1 hG hcur hcl hct hold hrow hGc hw1 hcur1 hrl hrt hg1 hrd hown
  unfold maxLen at hm
  have hz2 : ((i : Int) == (xs.length : Int)) = false := by simp; omega
  have hz3 : (cap : Int) < (xs.length : Int) + 1 := by omega
  have hi' : (i : Int) < (xs.length : Int) := by omega
  have hc1 : cap ≠ i := by omega
  have hc2 : Gc ≠ i := by omega
  have hc3 : Gc ≠ i + 1 := by omega
  go_enter Tryz.func88, Tryz.ntmps88
  go_wp2_with (first
    | (at_builtin; refine Lib.wpList_append_run _ rfl _ _ _ _ rfl _ _ rfl rfl _ _ (hrz _) ?_)
    | (refine wpList_cpy2 wordT (by rfl) _ _ (by rfl) g1 i _ _ (by rfl) G 0 1 1 (by rfl) [u32v t] (by simp; omega) HG1.out.rd (by simp [Value.oneCell']) row 37 Hcur1.out (by rw [Hrl.out]; simp; omega) ?_; intro w2 hcur2 hg2))
  simp only [List.length_cons, List.length_nil, Act.put, Array.set!_eq_setIfInBounds, List.setIfInBounds_toArray, List.set_cons_succ, List.set_cons_zero]
  refine wp_region_tree (.take [0,1,2,3,4,5,6,7] .done) [8] (by kernel_rfl) (by kernel_rfl) (fun w3 k3 => ?_)
  refine mt_take w3 (Below.refl _ _) ?_
  simp only [pick_cons, pick_nil, nth_zero, nth_succ]
  repeat (go_big_quiet_step (fail))
  refine wpQuiet_nil (mt_end ?_)
  have hcur3 : Hid (w3.heap[g1]? = some (.cells (splice row i [u32v t]).toArray 37 (0, 0))) := (k3.block g1 (Array.getElem?_eq_some_iff.1 hcur2.out).1).trans hcur2.out
  have Hrd3 : Hid (Rd w3 (some ⟨g, i, none⟩) ((xs.map u32v).drop i)) := by
    refine Rd.keep ?_ k3
    rcases Hrd1.out with h | ⟨b', o', e', hc⟩
    · exact .inl h
    · injection e' with e'; injection e' with e1 e2; subst e1 e2
      exact .inr ⟨_, _, rfl, fun j hj => grown_cell hg2 (hc j hj) (fun e => hgg (by injection e with e; exact e.symm))⟩
  go_wp2_with (refine wpList_cpy2 wordT (by rfl) _ _ (by rfl) g1 (i + 1) _ _ (by rfl) g i _ _ (by rfl) ((xs.map u32v).drop i) (by rw [Hmd.out]; omega) Hrd3.out (fun u hu => one_words xs u (List.mem_of_mem_drop hu)) _ 37 hcur3.out (by rw [length_splice _ _ _ (by rw [Hrl.out]; simp; omega), Hrl.out, Hmd.out]; omega) ?_; intro w4 hcur4 hg4)
  go_ret
  refine ⟨_, rfl, ?_, ?_, .inr (by rw [Hg1.out]; rfl)⟩
  · rw [ins_len xs i t (by omega)]
    refine own_of hcur4.out (by rw [Hg1.out]; exact hb) ?_ hGn (by unfold maxLen; omega) ?_
    · rw [length_splice, length_splice, Hrl.out]
      · rw [Hrl.out]; simp; omega
      · rw [length_splice _ _ _ (by rw [Hrl.out]; simp; omega), Hrl.out, Hmd.out]; omega
    · have h1 := ins_new row (xs.map u32v) i (u32v t) Hrt.out (by simpa using hi) (by rw [List.length_map, Hrl.out]; exact hGn)
      rw [List.length_map] at h1
      rw [h1, List.map_append, List.map_cons, List.map_take, List.map_drop]
  · have e : ∀ a b : World, a.grownBy b (some g1) → w.heap.size ≤ a.heap.size → Keep w a → Keep w b := fun a b h hs hk => hk.grown h hs (fun k hk2 => by injection hk2 with hk2; have := Hg1.out; omega)
    have k2 := e _ _ hg2 k1.size k1
    have k3' := keep_trans k2 k3
    exact grown_keep (e _ _ hg4 k3'.size k3')

theorem insert_any (base : Nat) (v : Value) (xs : List UInt32) (i : Nat) (t : UInt32) (G : Nat) (w : World) (hown : w.ownsRow base 37 1 v xs.length (xs.map u32v)) (hi : i ≤ xs.length) (hl : xs.length ≤ 100000) (hG : Blk w G 37 [u32v t]) (hGv : v.ownBlock ≠ some G) (hb : base ≤ w.heap.size) :
    Calls Tryz.prog 88 #[v, .int .i64 i, .slice (some ⟨G, 0, none⟩) 1 1] w (Ins base v (xs.take i ++ t :: xs.drop i) w) := by
  by_cases h : i = xs.length
  · subst h; exact insert_end base v xs t G w hown hl hG hb
  · obtain ⟨g, cap, rfl, hgb, hgl⟩ := hown.form (by omega)
    by_cases hr : xs.length + 1 ≤ cap
    · exact insert_place base g cap xs i t G w hown (by omega) hl hG (fun e => hGv (by rw [e]; rfl)) hb hr
    · exact insert_new base g cap xs i t G w hown (by omega) hl hG hb (by omega)
end Go.Proofs.YtjbdboekleaklaaGreatDoor

set_option linter.unusedSimpArgs false
set_option linter.unusedVariables false
namespace Go.Proofs.YtjbdboekleaklaaGreatDoor
open Go.RowKit
attribute [local go_sem ↓] Go.wp_at_zero Go.wp_at_succ

def Put1 (B : Nat) (ys : List UInt32) (w : World) (e : Ending) (w' : World) : Prop :=
  e = .returned (.tuple #[]) ∧ ∃ v', w'.cell? ⟨B, 0, none⟩ = some v' ∧ w'.frozen? ⟨B, 0, none⟩ = false ∧ w'.ownsRow (B + 1) 37 1 v' ys.length (ys.map u32v) ∧ Below B w w' ∧ B < w'.heap.size

set_option maxRecDepth 100000 in
set_option maxHeartbeats 2000000 in
theorem put1_any (B : Nat) (v : Value) (xs : List UInt32) (t : UInt32) (w : World) (hB : w.cell? ⟨B, 0, none⟩ = some v) (hf : w.frozen? ⟨B, 0, none⟩ = false) (hown : w.ownsRow (B + 1) 37 1 v xs.length (xs.map u32v)) (hs : xs.Pairwise le32) (hl : xs.length ≤ 1000) :
    Calls Tryz.prog 86 #[u32v t, .pointer (some ⟨B, 0, none⟩)] w (Put1 B (insAt xs t) w) := by
  have hlb := lb_le xs t
  obtain ⟨A, c, rfl, hc, hm, hrd⟩ := own_form hown
  have hbl := cell_lt hB
  have hln := insAt_len xs t
  go_enter Tryz.func86, Tryz.ntmps86
  go_wp2_with fail
  refine (search_any A xs c t w hs (by omega) hrd).mono ?_
  rintro e w1 ⟨f, rfl, rfl⟩
  have Hown := Lib.hid hown; clear hown hrd
  go_wp2_with fail
  refine (insert_any (B + 1) _ xs (lb xs t) t w.heap.size _ (Hown.out.alloc _) hlb (by omega) (Blk.new w 37 [u32v t]) (own_ne Hown.out (Nat.le_refl _)) (by simp; omega)).mono ?_
  rintro e w2 ⟨v', rfl, hown2, hg2, hat2⟩
  have hne : (Value.slice A xs.length c).ownBlock ≠ some B := fun h => by have := (Hown.out.lt B h).1; omega
  have b2 := grown_cell hg2 (keep_cell (keep_new w _) hB) hne
  have f2 := grown_frozen hg2 hB (keep_new w _) hf hne
  have k2 : Below B w w2 := ((keep_new w _).mono (by omega)).grown hg2 (by simp; omega) (fun g hg => by have := (Hown.out.lt g hg).1; omega)
  obtain ⟨A', c', rfl, hc', hm', hrd'⟩ := own_form hown2
  clear hrd'
  have Hown2 := Lib.hid hown2; clear hown2 hg2
  go_wp2
  go_end0
  refine ⟨rfl, .slice A' (lb xs t + (xs.length - lb xs t + 1)) c', by go_simp, by go_simp, ?_, k2.setCell (Nat.le_refl _) _, ?_⟩
  · have hj : (xs.take (lb xs t) ++ t :: xs.drop (lb xs t)).length = lb xs t + (xs.length - lb xs t + 1) := by rw [List.length_append, List.length_take, List.length_cons, List.length_drop, Nat.min_eq_left hlb]
    rw [← hj]
    exact ownsRow_setCell_below Hown2.out (a := ⟨B, 0, none⟩) (Nat.lt_succ_self B) _
  · have := cell_lt b2; simpa using this
end Go.Proofs.YtjbdboekleaklaaGreatDoor

set_option linter.unusedSimpArgs false
set_option linter.unusedVariables false
namespace Go.Proofs.YtjbdboekleaklaaGreatDoor
open Go.RowKit
attribute [local go_sem ↓] Go.wp_at_zero Go.wp_at_succ

def Lasted (B : Nat) (ys : List UInt32) (w : World) (e : Ending) (w' : World) : Prop :=
  ∃ v, e = .returned v ∧ w'.ownsRow B 37 1 v ys.length (ys.map u32v) ∧ Keep w w'

theorem fold_take (xs : List UInt32) (k : Nat) (h : k < xs.length) : sortL (xs.take (k + 1)) = insAt (sortL (xs.take k)) xs[k] := by
  rw [List.take_succ_eq_append_getElem h, sortL_snoc]

set_option maxRecDepth 100000 in
set_option maxHeartbeats 2000000 in
theorem last_any (A : Option Addr) (l : List UInt32) (c : Nat) (w : World) (hc : l.length ≤ c) (hm : c ≤ maxLen) (hr : Rd w A (l.map u32v)) :
    Calls Tryz.prog 78 #[.slice A l.length c] w (Lasted (w.heap.size + 1) (lasT l) w) := by
  unfold maxLen at hm
  have hmf : ∀ (fn : Fn) (first cap : Array Value) (w : World), (Instr.makeFunc fn first cap).run Tryz.prog w = .ok (.func fn first cap) w := fun _ _ _ _ => rfl
  have hd : (l.drop (l.length - 11)).length ≤ 11 := by simp; omega
  go_enter Tryz.func78, Tryz.ntmps78
  go_upto_region 3 with fail
  obtain ⟨d, hdd⟩ : ∃ d, d = l.drop (l.length - 11) := ⟨_, rfl⟩
  have hdl : d.length = l.length - (l.length - 11) := by rw [hdd]; simp
  have Hd := Lib.hid hdd; have Hdl := Lib.hid hdl
  have hd11 : d.length ≤ 11 := by omega
  have Hr := Lib.hid hr
  clear hdd hd hdl hr
  have hnb : (w.alloc (.cells #[.slice none 0 0] 92)).cell? ⟨w.heap.size, 0, none⟩ = some (.slice none 0 0) := by go_simp
  have hnf : (w.alloc (.cells #[.slice none 0 0] 92)).frozen? ⟨w.heap.size, 0, none⟩ = false := by go_simp
  go_cut [13, 14, 15] (fun s n i wx => ∃ A2 c2, s = .slice A2 d.length c2 ∧ n = .int .i64 d.length ∧ i = .int .i64 0 ∧ Rd w A2 (d.map u32v) ∧ wx = w.alloc (.cells #[.slice none 0 0] 92))
  case first =>
    by_cases h11 : 11 ≤ l.length
    · obtain ⟨b, off, rfl, hb, F⟩ := Hr.out.at (k := 0) (by simp; omega)
      clear F
      go_wp2
      go_meet
      refine ⟨_, _, by rw [Hdl.out], by rw [Hdl.out], rfl, ?_, rfl⟩
      rw [Hd.out, List.map_drop]
      have h := Hr.out.dropN (k := l.length - 11) (by simp)
      rwa [Option.map_some, add_lit0] at h
    · have hdl0 : d = l := by rw [Hd.out, show l.length - 11 = 0 by omega, List.drop_zero]
      subst hdl0
      by_cases h0 : d.length = 0
      · obtain rfl := List.eq_nil_of_length_eq_zero h0
        go_wp2_with fail
        all_goals go_meet
        all_goals exact ⟨A, c, rfl, rfl, rfl, Rd.nil _ _, rfl⟩
      · obtain ⟨b, off, rfl, hb, F⟩ := Hr.out.at (k := 0) (by simp; omega)
        clear F
        go_wp2
        go_meet
        exact ⟨some ⟨b, off, none⟩, c, rfl, rfl, rfl, Hr.out, rfl⟩
  case rest =>
    obtain ⟨A2, c2, rfl, rfl, rfl, hr2, rfl⟩ := hcut
    go_wp2
    go_loopw [15] (fun i wr => ∃ (k : Nat) (v : Value), k ≤ d.length ∧ i = .int .i64 k ∧ wr.cell? ⟨w.heap.size, 0, none⟩ = some v ∧ wr.frozen? ⟨w.heap.size, 0, none⟩ = false ∧ wr.ownsRow (w.heap.size + 1) 37 1 v k ((sortL (d.take k)).map u32v) ∧ Keep w wr) (fun i _ => d.length - (intOf i).toNat)
    case atStart => exact ⟨0, .slice none 0 0, Nat.zero_le _, rfl, hnb, hnf, World.ownsRow_nil _ _ _ _, keep_new _ _⟩
    case round =>
      obtain ⟨k, v, hk, rfl, e1, f1, hown, hkeep⟩ := hrel
      have hz := hkeep.size
      have hlen : (sortL (d.take k)).length = k := by rw [sortL_len, List.length_take]; omega
      by_cases hlt : k < d.length
      · obtain ⟨b, off, rfl, hb, F⟩ := hr2.at (k := k) (by simpa using hlt)
        have hx := keep_cell hkeep (F k (by simpa using hlt))
        have hts := fold_take d k hlt
        simp only [List.getElem_map] at hx
        generalize d[k] = x at hx hts
        have hp := put1_any w.heap.size v (sortL (d.take k)) x wr e1 f1 (by rw [hlen]; exact hown) (sortL_sorted _) (by omega)
        rw [← hts] at hp
        have Hts := Lib.hid hts; have Hr2 := Lib.hid hr2
        clear F hts hr2 hnb hnf
        go_wp2_with (go_at_call 86; refine hp.mono ?_; rintro e w2 ⟨rfl, v2, e2, f2, hown2, hbel2, hsz2⟩)
        go_roundw
        case rel =>
          exact ⟨k + 1, v2, by omega, by go_num, e2, f2, by have h3 := sortL_len (d.take (k + 1)); rw [List.length_take, Nat.min_eq_left (by omega)] at h3; rw [h3] at hown2; exact hown2, Below.trans hkeep hbel2⟩
        case measure => simp [intOf]; omega
      · have hk' : k = d.length := by omega
        subst hk'
        rw [List.take_length] at hown
        go_wp2
        go_ret
        refine ⟨v, rfl, ?_, hkeep⟩
        unfold lasT
        rw [← Hd.out, sortL_len]
        exact hown
end Go.Proofs.YtjbdboekleaklaaGreatDoor

set_option linter.unusedSimpArgs false
set_option linter.unusedVariables false
namespace Go.Proofs.YtjbdboekleaklaaGreatDoor
open Go.RowKit
attribute [local go_sem ↓] Go.wp_at_zero Go.wp_at_succ

def Gave (v : Value) (w : World) (e : Ending) (w' : World) : Prop := e = .returned v ∧ Keep w w'

set_option maxRecDepth 100000 in
set_option maxHeartbeats 2000000 in
theorem median_any (A : Option Addr) (l : List UInt32) (c : Nat) (w : World) (hc : l.length ≤ c) (hm : c ≤ maxLen) (hr : Rd w A (l.map u32v)) :
    Calls Tryz.prog 64 #[.slice A l.length c] w (Gave (u32v (medL l)) w) := by
  have hlast := last_any A l c w hc hm hr
  have hll := lasT_len l
  have hmed : medL l = (lasT l).getD ((lasT l).length / 2) 0 := rfl
  unfold maxLen at hm
  generalize medL l = m at hmed ⊢
  generalize lasT l = ys at hlast hll hmed
  have Hmed := Lib.hid hmed; clear hmed
  have hy : ys.length ≤ 11 := by omega
  clear hll
  go_enter Tryz.func64, Tryz.ntmps64
  go_wp2_with fail
  refine hlast.mono ?_
  rintro e w1 ⟨v, rfl, hown, hk⟩
  obtain ⟨A1, c1, rfl, hc1, hm1, hrd⟩ := own_form hown
  clear hown
  by_cases h0 : ys.length = 0
  · go_wp2
    go_ret
    refine ⟨?_, hk⟩
    rw [Hmed.out, List.eq_nil_of_length_eq_zero h0]; rfl
  · have hlt : ys.length / 2 < ys.length := by omega
    obtain ⟨b, off, rfl, hb, F⟩ := hrd.at (k := ys.length / 2) (by simpa using hlt)
    have hx := F (ys.length / 2) (by simpa using hlt)
    have he : m = ys[ys.length / 2] := by rw [Hmed.out, List.getD_eq_getElem?_getD, List.getElem?_eq_getElem hlt]; rfl
    simp only [List.getElem_map] at hx
    rw [← he] at hx
    clear F he
    go_wp2
    go_ret
    exact ⟨rfl, hk⟩

def clampI (x : Int) : Int := min (max x 0) 1099511627776
def chkI (t : UInt32) (l : List UInt32) (n f : Int) : Int := if (l ≠ [] ∧ t.toNat ≤ (medL l).toNat) ∨ clampI n + clampI f < (t.toNat : Int) then 8 else 0
theorem clampI_bd (x : Int) : 0 ≤ clampI x ∧ clampI x ≤ 1099511627776 := by unfold clampI; omega

set_option maxRecDepth 100000 in
set_option maxHeartbeats 2000000 in
theorem check_any (t : UInt32) (A : Option Addr) (l : List UInt32) (c : Nat) (n f : Int) (w : World) (hc : l.length ≤ c) (hm : c ≤ maxLen) (hr : Rd w A (l.map u32v)) :
    Calls Tryz.prog 46 #[u32v t, .slice A l.length c, .int .i64 n, .int .i64 f] w (Gave (.int .i64 (chkI t l n f)) w) := by
  have hmed := median_any A l c w hc hm hr
  have Hchk := Lib.hid (show chkI t l n f = if (l ≠ [] ∧ t.toNat ≤ (medL l).toNat) ∨ clampI n + clampI f < (t.toNat : Int) then 8 else 0 from rfl)
  have ht := t.toNat_lt
  unfold maxLen at hm
  generalize medL l = m at *
  generalize chkI t l n f = r at *
  go_enter Tryz.func46, Tryz.ntmps46
  by_cases h0 : l.length = 0
  · have h0' : l = [] := List.eq_nil_of_length_eq_zero h0
    go_wp2_with fail
    all_goals go_ret
    all_goals refine ⟨?_, Below.refl _ _⟩
    all_goals (have hQ := Hchk.out; rw [hQ]; clear hQ Hchk hmed; subst h0'; unfold clampI)
    all_goals (split <;> first | rfl | (exfalso; simp at *; omega))
  · have hne : l ≠ [] := fun h => h0 (by rw [h]; rfl)
    go_wp2_with fail
    refine hmed.mono ?_
    rintro e w2 ⟨rfl, hk2⟩
    go_wp2_with fail
    all_goals go_ret
    all_goals refine ⟨?_, hk2⟩
    all_goals (have hQ := Hchk.out; rw [hQ]; clear hQ Hchk; simp only [hne, not_false_eq_true, true_and, ne_eq]; unfold clampI)
    all_goals (split <;> first | rfl | (exfalso; simp at *; omega))
end Go.Proofs.YtjbdboekleaklaaGreatDoor

/- Headers by their times. -/
set_option linter.unusedSimpArgs false
set_option linter.unusedVariables false
namespace Go.Proofs.YtjbdboekleaklaaGreatDoor
open Go.RowKit
attribute [local go_sem ↓] Go.wp_at_zero Go.wp_at_succ

structure HdR where
  pre : List Value
  t : UInt32
  post : List Value
  h1 : pre.length = 65
  h2 : post.length = 2
  h3 : ∀ u ∈ pre, u.oneCell' = true
  h4 : ∀ u ∈ post, u.oneCell' = true
def HdR.cells (h : HdR) : List Value := h.pre ++ u32v h.t :: h.post
theorem HdR.len (h : HdR) : h.cells.length = 68 := by simp [HdR.cells, h.h1, h.h2]
theorem HdR.time (h : HdR) : h.cells[65]? = some (u32v h.t) := by
  unfold HdR.cells
  rw [List.getElem?_append_right (by rw [h.h1]; omega), h.h1]; rfl
theorem HdR.at {w : World} {A : Option Addr} {hs : List HdR} (hr : Rd w A (hs.flatMap HdR.cells)) {k : Nat} (hk : k < hs.length) :
    ∃ b off, A = some ⟨b, off, none⟩ ∧ b < w.heap.size ∧ ∀ j, j < 68 → w.cell? ⟨b, off + k * 68 + j, none⟩ = hs[k].cells[j]? := by
  obtain ⟨b, off, rfl, hb, F⟩ := hr.at (k := k * 68) (by rw [flatMap_len _ 68 HdR.len]; omega)
  exact ⟨b, off, rfl, hb, fun j hj => Rd.field HdR.len F k j hk hj⟩

theorem times_snoc (hs : List HdR) (k : Nat) (h : k < hs.length) : (hs.take (k + 1)).map HdR.t = (hs.take k).map HdR.t ++ [hs[k].t] := by
  rw [List.take_succ_eq_append_getElem h, List.map_append]; rfl

end Go.Proofs.YtjbdboekleaklaaGreatDoor

/- clock.Times. -/
set_option linter.unusedSimpArgs false
set_option linter.unusedVariables false
namespace Go.Proofs.YtjbdboekleaklaaGreatDoor
open Go.RowKit
attribute [local go_sem ↓] Go.wp_at_zero Go.wp_at_succ

theorem HdR.one (h : HdR) : ∀ u ∈ h.cells, u.oneCell' = true := by
  intro u hu
  unfold HdR.cells at hu
  rcases List.mem_append.1 hu with hu | hu
  · exact h.h3 u hu
  · rcases List.mem_cons.1 hu with rfl | hu
    · rfl
    · exact h.h4 u hu
theorem hd_size : (Tryz.prog.info? 39).map (·.size) = some 68 := by kernel_rfl

noncomputable def zcs : Array Value := match (Tryz.prog.info? 39).bind (·.zero) with | some (.agg c) => c | _ => #[]
theorem zcs_size : zcs.size = 68 := by kernel_rfl
theorem zcs_zero (w : World) : (zeroValue 39).run Tryz.prog w = .ok (.agg zcs) w := by kernel_rfl

set_option maxRecDepth 100000 in
set_option maxHeartbeats 4000000 in
theorem times_any (A : Option Addr) (hs : List HdR) (c : Nat) (w : World) (hl : hs.length ≤ 100) (hr : Rd w A (hs.flatMap HdR.cells)) :
    Calls Tryz.prog 47 #[.slice A hs.length c] w (Lasted w.heap.size (hs.map HdR.t) w) := by
  obtain ⟨zs, hzs⟩ : ∃ zs, zs = zcs := ⟨_, rfl⟩
  have hz1 : zs.size = 68 := by rw [hzs]; exact zcs_size
  have hz2 : ∀ w, (zeroValue 39).run Tryz.prog w = .ok (.agg zs) w := fun w => by rw [hzs]; exact zcs_zero w
  have hz3 : ¬ zs = #[] := fun h => by rw [h] at hz1; cases hz1
  clear hzs
  go_enter Tryz.func47, Tryz.ntmps47
  go_wp2
  go_loopw [3, 8] (fun v i wr => ∃ k : Nat, k ≤ hs.length ∧ i = .int .i64 k ∧ wr.ownsRow w.heap.size 37 1 v k (((hs.take k).map HdR.t).map u32v) ∧ Keep w wr) (fun _ i _ => hs.length - (intOf i).toNat)
  case atStart => exact ⟨0, Nat.zero_le _, rfl, World.ownsRow_nil _ _ _ _, Below.refl _ _⟩
  case round =>
    obtain ⟨k, hk, rfl, hown, hkr⟩ := hrel
    have hz := hkr.size
    by_cases hlt : k < hs.length
    · obtain ⟨b, off, rfl, hb, F⟩ := HdR.at hr hlt
      have hts := times_snoc hs k hlt
      have hlen := HdR.len hs[k]
      have hone := HdR.one hs[k]
      have htm := HdR.time hs[k]
      have hrg : wr.rangeAt b (off + k * 68) hs[k].cells := fun j v hv => by
        have hj : j < 68 := by rw [← hlen]; exact (List.getElem?_eq_some_iff.1 hv).1
        exact keep_cell hkr ((F j hj).trans hv)
      generalize hs[k].t = x at hts htm
      generalize hs[k].cells = cs at *
      have Hts := Lib.hid hts; have Hrg := Lib.hid hrg; have Hone := Lib.hid hone; have Hlen := Lib.hid hlen; have Htm := Lib.hid htm
      obtain ⟨Av, cv, rfl, hcv, hmv, hrv⟩ := own_form hown
      have Hown := Lib.hid hown
      clear F hts hown hrv hrg hone hlen htm hr
      have hst : (storeCells ⟨wr.heap.size, 0, none⟩ cs 0).run Tryz.prog (wr.alloc (.cells zs 39)) = .ok () (wr.alloc (.cells cs.toArray 39)) := by
        have h := run_storeCells_new (P := Tryz.prog) wr 39 zs cs.toArray (by rw [List.size_toArray, Hlen.out]; exact hd_size) (hz1.trans (by rw [List.size_toArray, Hlen.out])) (all_oneCell_toArray Hone.out)
        exact h
      go_upto_region 5 with (refine wpList_load_mid rfl 39 _ rfl b (off + k * 68) rfl cs _ Hrg.out Tryz.underlying39 rfl (by rw [Hlen.out]; exact hd_size) ?_)
      clear hst
      have r0 : (wr.alloc (.cells cs.toArray 39)).cell? ⟨wr.heap.size, 65, none⟩ = some (u32v x) := (cell_of_row _ _ 65 _ _ _ (heap_alloc_new wr _)).trans (by simpa using Htm.out)
      have k0 := keep_trans hkr (keep_new wr (.cells cs.toArray 39))
      have Own0 := Lib.hid (Hown.out.alloc (.cells cs.toArray 39))
      have hz0 : (wr.alloc (.cells cs.toArray 39)).heap.size = wr.heap.size + 1 := by simp
      obtain ⟨w0, hw0⟩ : ∃ w0, w0 = wr.alloc (.cells cs.toArray 39) := ⟨_, rfl⟩
      rw [← hw0] at r0 k0 Own0 hz0 ⊢
      clear hw0
      have hzw : w.heap.size ≤ w0.heap.size := by omega
      clear hz0
      go_wp2_with (at_builtin; refine wpList_app wordT (by rfl) _ _ (by rfl) w.heap.size _ k _ (by rfl) (Own0.out.alloc _) _ 1 1 [u32v x] (by rfl) (by rfl) (Rd.new _ _ _) (by simp [Value.oneCell']) (by omega) (by unfold maxLen; omega) (by first | (simp; omega) | (rw [World.size_alloc]; omega)) ?_; intro v4 w4 own4 hg4 hat4; have k4 := keep_grown (keep_trans k0 (keep_new _ _)) (by simp; omega) hg4 (Own0.out.alloc _); obtain ⟨A4, c4, rfl, hc4, hm4, hrd4⟩ := own_form own4; have Own4 := Lib.hid own4; clear own4 hrd4 hg4 hat4)
      go_roundw
      case rel =>
        refine ⟨k + 1, by omega, by go_num, ?_, k4⟩
        rw [Hts.out, List.map_append]
        exact Own4.out
      case measure => simp [intOf]; omega
    · obtain rfl : hs.length = k := by omega
      rw [List.take_length] at hown
      obtain ⟨Av, cv, rfl, hcv, hmv, hrv⟩ := own_form hown
      have Hown := Lib.hid hown
      clear hown hrv
      go_wp2
      go_ret
      exact ⟨_, rfl, by rw [List.length_map]; exact Hown.out, hkr⟩
end Go.Proofs.YtjbdboekleaklaaGreatDoor
