/- florinref18.Bytes. (printed by gen_drc.py) -/
import Derived.Test.YtmhbfjcehmjllaaDrb
set_option linter.unusedSimpArgs false
set_option linter.unusedVariables false
namespace Go.Proofs.Ytmhbfjcehmjllaa
open Go.RowKit
attribute [local go_sem ↓] Go.wp_at_zero Go.wp_at_succ
theorem splice_one {α : Type} (l : List α) (k : Nat) (v : α) (h : k < l.length) : splice l k [v] = l.set k v := by
  unfold splice
  rw [List.set_eq_take_append_cons_drop, if_pos h]
  simp
/-- A byte of a row of one's own is set. -/
theorem own_set1 {w : World} {base : Nat} {e : TypeId} {g n c : Nat} {xs : List Value} (h : w.ownsRow base e 1 (.slice (some ⟨g, 0, none⟩) n c) n xs) {k : Nat} (hk : k < n) (v : Value) :
    (w.setCell ⟨g, k, none⟩ v).ownsRow base e 1 (.slice (some ⟨g, 0, none⟩) n c) n (splice xs k [v]) := by
  obtain ⟨cur, hcur, hl, _⟩ := own_cur h
  refine own_splice h (by simp; omega) hcur ?_
  rw [splice_one _ _ _ (by omega)]
  exact Blk.set_ hcur k v
theorem own_at1 {w : World} {base : Nat} {e : TypeId} {g n c : Nat} {xs : List Value} (h : w.ownsRow base e 1 (.slice (some ⟨g, 0, none⟩) n c) n xs) {k : Nat} (hk : k < n) : (∃ v, w.cell? ⟨g, k, none⟩ = some v) ∧ w.frozen? ⟨g, k, none⟩ = false := by
  obtain ⟨cur, hcur, hl, _⟩ := own_cur h
  exact ⟨⟨cur[k], by rw [Blk.cell hcur, List.getElem?_eq_getElem (by omega)]⟩, Blk.frozen hcur k⟩
theorem layN_zero (b : List UInt8) (x : WriteR) : layN b x 0 = b := by simp [layN, splice]
theorem layN_full (b : List UInt8) (x : WriteR) (h : x.d.length = 32) : layN b x 32 = layW b x := by
  unfold layN layW; rw [List.take_of_length_le (by omega)]
theorem splice_next {α : Type} (b : List α) (o : Nat) (xs ys : List α) (h : o + xs.length ≤ b.length) : splice (splice b o xs) (o + xs.length) ys = splice b o (xs ++ ys) := by
  have hl : (b.take o ++ xs).length = o + xs.length := by rw [List.length_append, List.length_take]; omega
  have e1 : splice b o xs = (b.take o ++ xs) ++ b.drop (o + xs.length) := by unfold splice; simp only [List.append_assoc]
  have e2 : splice b o (xs ++ ys) = (b.take o ++ xs) ++ (ys ++ b.drop (o + xs.length + ys.length)) := by unfold splice; simp only [List.append_assoc, List.length_append, Nat.add_assoc]
  have e3 : ∀ l : List α, splice l (o + xs.length) ys = l.take (o + xs.length) ++ (ys ++ l.drop (o + xs.length + ys.length)) := fun l => by unfold splice; simp only [List.append_assoc]
  rw [e2, e3, e1, List.take_left' hl, List.drop_append, List.drop_of_length_le (by omega), List.nil_append, hl, List.drop_drop]
  congr 3
  omega
theorem layN_succ (b : List UInt8) (x : WriteR) (j : Nat) (hj : j < x.d.length) (hb : 32 * x.at_.toNat + x.d.length ≤ b.length) : splice (layN b x j) (32 * x.at_.toNat + j) [x.d[j]] = layN b x (j + 1) := by
  unfold layN
  have e1 : (x.d.take j).length = j := by rw [List.length_take]; omega
  have q := splice_next b (32 * x.at_.toNat) (x.d.take j) [x.d[j]] (by rw [e1]; omega)
  rw [e1] at q
  rw [q, List.take_succ_eq_append_getElem hj]
theorem splice_map1 (l : List UInt8) (k : Nat) (v : UInt8) : splice (l.map u8v) k [u8v v] = (splice l k [v]).map u8v := splice_map u8v l k [v]
set_option maxRecDepth 100000 in
set_option maxHeartbeats 4000000 in
theorem rbytes_any (A : Option Addr) (b : List UInt8) (c : Nat) (PA : Option Addr) (ws : List WriteR) (pc : Nat) (w : World) (h : DOk w A b c PA ws pc) :
    Calls Try.prog 18 #[DV A b.length c PA ws.length pc] w fun e w' => ∃ v, e = .returned v ∧ w'.ownsRow w.heap.size 5 1 v (bytesD b ws).length ((bytesD b ws).map u8v) ∧ Keep w w' := by
  have RS : Hid (∀ y, Keep w y → Calls Try.prog 16 #[DV A b.length c PA ws.length pc] y fun e w' => e = .returned (.bool (saneD b.length ws)) ∧ Keep y w') := Lib.hid fun y hy => rdsane_any _ _ _ _ _ _ _ (h.keep hy)
  cases hs : saneD b.length ws with
  | false =>
    have e0 : bytesD b ws = [] := by unfold bytesD tkB tkW; rw [if_neg (by rw [hs]; simp), if_neg (by rw [hs]; simp)]; rfl
    rw [hs] at RS
    rw [e0]
    clear h hs e0
    go_enter Try.func18, Try.ntmps18
    go_wp2_with (go_at_call 16; refine (RS.out _ ((Below.refl _ _).alloc (Nat.le_refl _) _)).mono ?_; rintro e w2 ⟨rfl, hk2⟩; have k2 : Keep w w2 := keep_trans ((Below.refl _ _).alloc (Nat.le_refl _) _) hk2)
    exact bodyPost_ret (v := .slice none 0 0) (by simp [results, Try.results18]) rfl ⟨_, rfl, ⟨by simp, .inl ⟨rfl, rfl⟩⟩, k2⟩
  | true =>
    have e0 : bytesD b ws = ws.foldl layW b := by unfold bytesD tkB tkW; rw [if_pos hs, if_pos hs]
    have hsl := sane_len hs
    have hok := ok_of_sane hs
    rw [hs] at RS
    rw [e0]
    obtain ⟨N, hN⟩ : ∃ N, b.length = N := ⟨_, rfl⟩
    obtain ⟨M, hM⟩ : ∃ M, ws.length = M := ⟨_, rfl⟩
    obtain ⟨R, hR⟩ : ∃ R, ws.foldl layW b = R := ⟨_, rfl⟩
    have hRl : R.length = N := by
      rw [← hR, ← hN]
      clear hR RS h e0 hM hN hs hsl
      revert hok
      generalize hn : b.length = n
      induction ws generalizing b with
      | nil => intro _; exact hn
      | cons x l ih =>
        intro hok
        have h1 := len_layW b x (by rw [hn]; exact hok x (by simp))
        exact ih (layW b x) (h1.trans hn) (fun y hy => hok y (by simp [hy]))
    have HF : Hid (∀ k (hk : k < M), ∃ bp off x, PA = some ⟨bp, off, none⟩ ∧ (∀ w', Keep w w' → w'.cell? ⟨bp, off + k * 2, none⟩ = some (.int .i64 x.at_) ∧ w'.cell? ⟨bp, off + k * 2 + 1, none⟩ = some (.slice x.A x.d.length x.cap)) ∧ OkW w x ∧ x.ok N = true ∧ ∀ l, (ws.drop k).foldl layW l = (ws.drop (k + 1)).foldl layW (layW l x)) := Lib.hid fun k hk => by
      rw [← hM] at hk
      obtain ⟨bp, off, h1, _, h2⟩ := WriteR.at2 h.rp hk
      exact ⟨bp, off, ws[k], h1, h2, h.ok _ (List.getElem_mem hk), by rw [← hN]; exact hok _ (List.getElem_mem hk), fun l => by rw [drop_cons ws k hk]; rfl⟩
    have RB := Lib.hid h.rb
    have hpl := h.pl; have hpm := h.pm; have hbc := h.bc; have hcm := h.cm
    unfold maxLen at hpm hcm
    rw [hM] at hpl
    rw [hN] at hbc
    have HN := Lib.hid hN; have HM := Lib.hid hM; have HR := Lib.hid hR; have HRL := Lib.hid hRl
    have hN1 : N ≤ 131072 := by omega
    have hM1 : M ≤ 100000 := by omega
    rw [hN, hM] at RS
    rw [hN, hM, hR, hRl]
    clear h hs hok e0 hN hM hR hRl hsl
    go_enter Try.func18, Try.ntmps18
    go_upto_region 3 with (go_at_call 16; refine (RS.out _ ((Below.refl _ _).alloc (Nat.le_refl _) _)).mono ?_; rintro e w2 ⟨rfl, hk2⟩; have b0 : w2.cell? ⟨w.heap.size, 0, none⟩ = some (.slice A N c) := keep_cell hk2 (by go_simp); have b1 : w2.cell? ⟨w.heap.size, 1, none⟩ = some (.slice PA M pc) := keep_cell hk2 (by go_simp); have K2 : Hid (Keep w w2) := Lib.hid (keep_trans ((Below.refl _ _).alloc (Nat.le_refl _) _) hk2); have hz2 := hk2.size; simp at hz2; clear hk2)
    have B1 := Lib.hid b1
    have b0a := keep_cell (keep_new w2 (.cells #[] 5)) b0
    have RB2 := Lib.hid (RB.out.keep K2.out)
    go_upto_region 4 with (at_builtin; refine wpList_app byteT (by rfl) _ _ (by rfl) w2.heap.size _ 0 [] (by rfl) (own_zero w2 5 1) _ N c (b.map u8v) (by rfl) (by rw [List.length_map, HN.out, Nat.mul_one]) (RB2.out.alloc _) (one_bytes _) (by omega) (by unfold maxLen; omega) (by simp) ?_; intro v4 w4 own4 hg4 hat4)
    have k4 : Keep w2 w4 := keep_grown (keep_new w2 (.cells #[] 5)) (by simp) hg4 (own_zero w2 5 1)
    rw [List.nil_append, Nat.zero_add] at own4
    obtain ⟨A4, c4, rfl, hc4, hm4, -⟩ := own_form own4
    have OW := Lib.hid own4; have K4 := Lib.hid k4
    unfold maxLen at hm4
    clear RS own4 hg4 hat4 k4 RB RB2 b0 b1 b0a
    have B14 := Lib.hid (keep_cell K4.out B1.out)
    have b14 := B14.out
    go_wp2_with fail
    clear b14
    go_loopw [4] (fun i wr => ∃ (k : Nat) (bk : List UInt8), k ≤ M ∧ i = .int .i64 k ∧ Hid (bk.length = N) ∧ Hid ((ws.drop k).foldl layW bk = R) ∧ Hid (wr.ownsRow w2.heap.size 5 1 (.slice A4 N c4) N (bk.map u8v)) ∧ Hid (Keep w2 wr)) (fun i _ => M - (intOf i).toNat)
    case atStart => exact ⟨0, b, Nat.zero_le _, rfl, HN, HR, OW, K4⟩
    case round =>
      obtain ⟨k, bk, hk, rfl, HBL, HFO, HOW, HKr⟩ := hrel
      clear OW K4 B14
      have b1 := keep_cell HKr.out B1.out
      by_cases hlt : k < M
      · have hlt2 : (k : Int) < M := by omega
        obtain ⟨bp, off, x, rfl, hc, hxw, hxo, hfd⟩ := HF.out k hlt
        have hxo2 := of_decide_eq_true hxo
        obtain ⟨hx0, hx1, hx2⟩ := hxo2
        obtain ⟨at_, hat⟩ : ∃ n : Nat, x.at_ = n := ⟨x.at_.toNat, by omega⟩
        have h32 : 32 * at_ + 32 ≤ N := by omega
        have hxc := hxw.2.1; have hxm := hxw.2.2
        unfold maxLen at hxm
        have HXW := Lib.hid hxw; have HFD := Lib.hid (hfd bk); have HXO := Lib.hid hxo; have HX2 := Lib.hid hx2; have HAT := Lib.hid hat
        have HC : Hid (∀ w', Keep w2 w' → w'.cell? ⟨bp, off + k * 2, none⟩ = some (.int .i64 at_) ∧ w'.cell? ⟨bp, off + k * 2 + 1, none⟩ = some (.slice x.A x.d.length x.cap)) := Lib.hid fun w' hk => by rw [← HAT.out]; exact hc w' (keep_trans K2.out hk)
        obtain ⟨g, cap, hv, hgb, hgl⟩ := HOW.out.form (by omega)
        injection hv with hv1 _ hv3
        subst hv1 hv3
        have HGB := Lib.hid hgb
        clear hc hxw hfd hxo hx0 hx1 hat HF hgl hgb
        have HOW0 := HOW; have HKr0 := HKr
        go_wp2_with fail
        clear b1
        go_loopw [5] (fun j wr => ∃ (n : Nat), n ≤ 32 ∧ j = .int .i64 n ∧ Hid (wr.ownsRow w2.heap.size 5 1 (.slice (some ⟨g, 0, none⟩) N c4) N ((layN bk x n).map u8v)) ∧ Hid (Keep w2 wr)) (fun j _ => 32 - (intOf j).toNat)
        case atStart => exact ⟨0, Nat.zero_le _, rfl, by rw [layN_zero]; exact HOW0, HKr0⟩
        case round =>
          obtain ⟨n, hn, rfl, HOn, HKn⟩ := hrel
          clear HOW HKr HOW0 HKr0
          have b1 := keep_cell HKn.out B1.out
          obtain ⟨c0, c1⟩ := HC.out _ HKn.out
          by_cases hlt3 : n < 32
          · have hlt4 : (n : Int) < 32 := by omega
            have hnd : n < x.d.length := by omega
            obtain ⟨xb, xo, hxA, hxb, hxc2⟩ := HXW.out.1.at (k := n) (by simpa using hnd)
            have cd : ‹World›.cell? ⟨xb, xo + n, none⟩ = some (u8v x.d[n]) := keep_cell (keep_trans K2.out HKn.out) (by have q := hxc2 n (by simpa using hnd); simpa using q)
            have HXA := Lib.hid hxA
            have hfit : 32 * at_ + n < N := by omega
            have hls : splice (layN bk x n) (32 * at_ + n) [x.d[n]] = layN bk x (n + 1) := by
              have q := layN_succ bk x n hnd (by rw [HAT.out, HBL.out]; simp only [Int.toNat_natCast]; omega)
              rwa [HAT.out, Int.toNat_natCast] at q
            have HLS : Hid (∀ W : World, W.ownsRow w2.heap.size 5 1 (.slice (some ⟨g, 0, none⟩) N c4) N ((layN bk x n).map u8v) → (W.setCell ⟨g, 32 * at_ + n, none⟩ (u8v x.d[n])).ownsRow w2.heap.size 5 1 (.slice (some ⟨g, 0, none⟩) N c4) N ((layN bk x (n + 1)).map u8v)) := Lib.hid fun W hW => by
              have q := own_set1 hW hfit (u8v x.d[n])
              rwa [splice_map1, hls] at q
            obtain ⟨vd, hvd⟩ : ∃ v, x.d[n] = v := ⟨_, rfl⟩
            rw [hvd] at HLS cd
            clear hxb hxc2 hls hvd
            go_upto_region 10 with fail
            refine wp_region_tree (.take [0,1,2,3,4,5,6,7,8,9,10,11,12,13,14,15,16,17,18,19] .done) [20] (by kernel_rfl) (by kernel_rfl) (fun y0 hk => ?_)
            have q1 := aft_cell (keep_cell hk b1); have q2 := aft_cell (keep_cell hk c0); have q3 := aft_cell (keep_cell hk c1); have q4 := aft_cell (keep_cell hk cd)
            have HOy := Lib.hid (own_keep HOn.out hk)
            have HKy := Lib.hid (keep_trans HKn.out hk)
            rw [hxA] at q3
            clear hk b1 c0 c1 cd HOn HKn hxA HXA
            refine mt_take y0 (Below.refl _ _) ?_
            simp only [pick_cons, pick_nil, nth_zero, nth_succ]
            repeat (go_big_quiet_step (fail))
            clear q1 q2 q3 q4
            refine wpQuiet_nil (mt_end ?_)
            obtain ⟨⟨vo, co⟩, fo⟩ := own_at1 HOy.out hfit
            have HNX := Lib.hid (HLS.out y0 HOy.out)
            have HKN : Hid (Keep w2 (y0.setCell ⟨g, 32 * at_ + n, none⟩ (u8v vd))) := Lib.hid (Below.setCell HKy.out (by show w2.heap.size ≤ g; exact HGB.out) _)
            clear HOy HKy HLS
            go_wp2
            obtain ⟨wn, hwn⟩ : ∃ x, x = y0.setCell ⟨g, 32 * at_ + n, none⟩ (u8v vd) := ⟨_, rfl⟩
            rw [← hwn] at HNX HKN ⊢
            clear hwn co fo
            go_roundw
            case rel => exact ⟨n + 1, by omega, by go_num, HNX, HKN⟩
            case measure => simp [intOf]; omega
          · obtain rfl : n = 32 := by omega
            have hlt4 : ¬ (32 : Int) < 32 := by omega
            have HO2 : Hid (wr.ownsRow w2.heap.size 5 1 (.slice (some ⟨g, 0, none⟩) N c4) N ((layW bk x).map u8v)) := by rw [← layN_full bk x HX2.out]; exact HOn
            have HBL2 : Hid ((layW bk x).length = N) := Lib.hid ((len_layW bk x (by rw [HBL.out]; exact HXO.out)).trans HBL.out)
            have HFO2 : Hid ((ws.drop (k + 1)).foldl layW (layW bk x) = R) := Lib.hid (HFD.out.symm.trans HFO.out)
            clear HOn b1 c0 c1 HBL HFO HFD HC HXW HXO HX2 HAT HGB
            go_wp2
            go_roundw
            case rel => exact ⟨k + 1, layW bk x, by omega, by go_num, HBL2, HFO2, HO2, HKn⟩
            case measure => simp [intOf]; omega
      · obtain rfl : k = M := by omega
        have hlt2 : ¬ (k : Int) < k := by omega
        have e9 : bk = R := by
          have q := HFO.out
          rwa [List.drop_of_length_le (by rw [HM.out]; omega)] at q
        have HO9 : Hid (wr.ownsRow w2.heap.size 5 1 (.slice A4 N c4) N (R.map u8v)) := by rw [← e9]; exact HOW
        clear HFO HOW HF HBL e9 HR HRL
        go_wp2
        exact bodyPost_ret (v := .slice A4 N c4) (by simp [results, Try.results18]) rfl ⟨_, rfl, own_base HO9.out (by omega), keep_trans K2.out HKr.out⟩
end Go.Proofs.Ytmhbfjcehmjllaa
