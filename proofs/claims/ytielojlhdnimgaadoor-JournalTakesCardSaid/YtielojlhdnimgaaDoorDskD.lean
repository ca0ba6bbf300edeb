import Derived.Test.YtielojlhdnimgaaDoorDskC
set_option linter.unusedSimpArgs false
set_option linter.unusedVariables false
namespace Go.Proofs.YtielojlhdnimgaaDoor
open Go.RowKit
attribute [local go_sem ↓] Go.wp_at_zero Go.wp_at_succ

def layN (b : List UInt8) (x : WriteR) (n : Nat) : List UInt8 := splice b (32 * x.at_.toNat) (x.d.take n)
def layW (b : List UInt8) (x : WriteR) : List UInt8 := splice b (32 * x.at_.toNat) x.d
theorem len_layW (b : List UInt8) (x : WriteR) (h : x.ok b.length = true) : (layW b x).length = b.length := by
  have := of_decide_eq_true h
  unfold layW; rw [length_splice]; omega
theorem len_layN (b : List UInt8) (x : WriteR) (n : Nat) (h : x.ok b.length = true) : (layN b x n).length = b.length := by
  have := of_decide_eq_true h
  unfold layN; rw [length_splice]; simp; omega
theorem splice_map {α β : Type} (f : α → β) (b : List α) (off : Nat) (d : List α) : splice (b.map f) off (d.map f) = (splice b off d).map f := by
  simp [splice, List.map_append, List.map_take, List.map_drop]

theorem drop_cons {α : Type} (l : List α) (k : Nat) (h : k < l.length) : l.drop k = l[k] :: l.drop (k + 1) := List.drop_eq_getElem_cons h

def bytesD (b : List UInt8) (ws : List WriteR) : List UInt8 := (tkW b ws).foldl layW (tkB b ws)

theorem tk_sane (b : List UInt8) (ws : List WriteR) : saneD (tkB b ws).length (tkW b ws) = true := by
  unfold tkB tkW; split
  · assumption
  · rfl
theorem ok_of_sane {nb : Nat} {ws : List WriteR} (h : saneD nb ws = true) : ∀ x ∈ ws, x.ok nb = true := fun x hx => by
  unfold saneD at h
  exact List.all_eq_true.1 (Bool.and_eq_true_iff.1 h).2 x hx
theorem sane_len {nb : Nat} {ws : List WriteR} (h : saneD nb ws = true) : nb % 32 = 0 ∧ nb / 32 ≤ 4096 ∧ ws.length ≤ 100000 := by
  unfold saneD at h
  exact of_decide_eq_true (Bool.and_eq_true_iff.1 h).1

set_option maxRecDepth 100000 in
set_option maxHeartbeats 2000000 in
theorem bytes_any (A : Option Addr) (b : List UInt8) (c : Nat) (PA : Option Addr) (ws : List WriteR) (pc : Nat) (w : World) (h : DOk w A b c PA ws pc) :
    Calls Tryd.prog 23 #[DV A b.length c PA ws.length pc] w fun e w' => ∃ v, e = .returned v ∧ w'.ownsRow w.heap.size 5 1 v (bytesD b ws).length ((bytesD b ws).map u8v) ∧ Keep w w' := by
  have hsane := tk_sane b ws
  go_enter Tryd.func23, Tryd.ntmps23
  go_wp2_with (first
    | (go_at_call 40; refine (taken_any _ _ _ _ _ _ _ w ((Below.refl _ _).alloc (Nat.le_refl _) _) h).mono ?_; rintro e w2 ⟨A2, c2, PA2, pc2, rfl, hd, hk2⟩
       have b0 : w2.cell? ⟨w.heap.size, 0, none⟩ = some (.slice A b.length c) := keep_cell hk2 (by go_simp)
       have b1 : w2.cell? ⟨w.heap.size, 1, none⟩ = some (.slice PA ws.length pc) := keep_cell hk2 (by go_simp)
       have f0 : w2.frozen? ⟨w.heap.size, 0, none⟩ = false := keep_frozen hk2 (by simp) (by go_simp)
       have f1 : w2.frozen? ⟨w.heap.size, 1, none⟩ = false := keep_frozen hk2 (by simp) (by go_simp)
       have k2 : Keep w w2 := keep_trans ((Below.refl _ _).alloc (Nat.le_refl _) _) hk2))
  have k3 := (k2.setCell (p := ⟨w.heap.size, 0, none⟩) (by simp) (.slice A2 (tkB b ws).length c2)).setCell (p := ⟨w.heap.size, 1, none⟩) (by simp) (.slice PA2 (tkW b ws).length pc2)
  have hd3 := hd _ k3
  have e1 : ((w2.setCell ⟨w.heap.size, 0, none⟩ (.slice A2 (tkB b ws).length c2)).setCell ⟨w.heap.size, 1, none⟩ (.slice PA2 (tkW b ws).length pc2)).cell? ⟨w.heap.size, 1, none⟩ = some (.slice PA2 (tkW b ws).length pc2) := by go_simp
  have hbd : bytesD b ws = (tkW b ws).foldl layW (tkB b ws) := rfl
  generalize tkB b ws = bb at hsane k3 hd3 e1 hbd ⊢
  generalize tkW b ws = wv at hsane k3 hd3 e1 hbd ⊢
  have Hbd := Lib.hid hbd; clear hbd
  generalize ((w2.setCell ⟨w.heap.size, 0, none⟩ (.slice A2 bb.length c2)).setCell ⟨w.heap.size, 1, none⟩ (.slice PA2 wv.length pc2)) = w3 at k3 hd3 e1 ⊢
  clear b0 b1 f0 f1 hk2 hd
  have hsl := sane_len hsane
  have hok := ok_of_sane hsane
  have Hok := Lib.hid hok; clear hok
  refine (clone_any _ bb _ _ (by omega) hd3.rb).mono ?_
  rintro e w4 ⟨v4, rfl, hown4, hk4⟩
  have e4 := keep_cell hk4 e1
  have Hd3 := Lib.hid hd3
  have hbc := hd3.bc; have hcm := hd3.cm; have hpl := hd3.pl; have hpm := hd3.pm
  unfold maxLen at hcm hpm
  obtain ⟨A4, c4, rfl, hc4, hm4, hrd4⟩ := own_form hown4
  unfold maxLen at hm4
  clear hrd4 hd3 e1 hsl
  have k4 := keep_trans k3 hk4
  have hzk := k3.size
  go_wp2_with fail
  go_loopw [14] (fun i wr => ∃ (k : Nat) (bk : List UInt8), k ≤ wv.length ∧ i = .int .i64 k ∧ bk.length = bb.length ∧ (wv.drop k).foldl layW bk = wv.foldl layW bb ∧ wr.ownsRow w3.heap.size 5 1 (.slice A4 bb.length c4) bb.length (bk.map u8v) ∧ Below w3.heap.size w3 wr)
    (fun i _ => wv.length - (intOf i).toNat)
  case atStart => exact ⟨0, bb, Nat.zero_le _, rfl, rfl, rfl, hown4, hk4⟩
  case round =>
    obtain ⟨k, bk, hk, rfl, hbl, hfold, hown, hkr⟩ := hrel
    have Hbl := Lib.hid hbl; have Hfold := Lib.hid hfold; have Hown := Lib.hid hown
    clear hbl hfold hown
    by_cases hlt : k < wv.length
    · obtain ⟨bp, off, rfl, hb, F⟩ := WriteR.at2 (Hd3.out.rp) hlt
      have hx := Hd3.out.ok _ (List.getElem_mem hlt)
      have hxo := of_decide_eq_true (Hok.out _ (List.getElem_mem hlt))
      have hxo' := Hok.out _ (List.getElem_mem hlt)
      have hdc := drop_cons wv k hlt
      generalize wv[k] = x at F hx hxo hdc hxo'
      have Hdc := Lib.hid hdc; have Hxo := Lib.hid hxo'
      obtain ⟨hx0, hx1, hx2⟩ := hxo
      obtain ⟨at_, hat⟩ : ∃ n : Nat, x.at_ = n := ⟨x.at_.toNat, by omega⟩
      have h32 : 32 * at_ + 32 ≤ bb.length := by omega
      have hxl : x.d.length ≤ 32 := by omega
      have Hx2 := Lib.hid hx2
      obtain ⟨c0, c1⟩ := F wr hkr
      have Hat := Lib.hid hat
      rw [hat] at c0
      have Hx := Lib.hid hx
      have hxc := hx.2.1; have hxm := hx.2.2
      unfold maxLen at hxm
      obtain ⟨g, cap, hv, hgb, hgl⟩ := Hown.out.form (by omega)
      injection hv with hv1 _ hv3
      subst hv1 hv3
      obtain ⟨cur, hcur, hcl, _⟩ := own_cur Hown.out
      have Hcur := Lib.hid hcur
      clear F hdc hxo' hx hx0 hx1 hat hcur hx2
      go_wp2
      go_region_held3 (fun w' => w'.cell? ⟨wr.heap.size, 0, none⟩ = some (.int .i64 at_) ∧ w'.cell? ⟨wr.heap.size, 1, none⟩ = some (.slice x.A x.d.length x.cap))
        (first
          | go_keep
          | exact ⟨grown_cell hg7 (by go_simp) (by simp; omega), grown_cell hg7 (by go_simp) (by simp; omega)⟩)
        (first
          | (go_at_call 42; refine (sector_any _ _ _ _ at_ _ (by omega) (by omega) (by omega) _ rfl).mono ?_; rintro e w5 ⟨rfl, rfl⟩)
          | (refine stp_cpy byteT g (32 * at_) 32 32 (by rfl) x.A x.d.length x.cap (x.d.map u8v) (by rfl) (by simp) (Rd.keep Hx.out.1 (by exact ((hkr.alloc (by omega) _).drew))) (one_bytes _) cur 5 (by exact (Blk.alloc Hcur.out _)) (by omega) ?_
             intro w7 hcur7 hg7))
      go_wp2
      go_roundw
      case rel =>
        have hat' : x.at_.toNat = at_ := by rw [Hat.out]; rfl
        have hso : x.ok bk.length = true := by rw [Hbl.out]; exact Hxo.out
        have hl := len_layW bk x hso
        rw [Hbl.out] at hl
        refine ⟨k + 1, layW bk x, by omega, by go_num, hl, by rw [← Hfold.out, Hdc.out]; rfl, ?_, ?_⟩
        · have hh := own_splice Hown.out (off := 32 * at_) (ys := (x.d.map u8v).take 32) (by simp; have := Hx2.out; omega) Hcur.out hcur7.out
          rw [List.take_of_length_le (by simp; omega), splice_map] at hh
          unfold layW; rw [hat']; exact hh
        · exact ((hkr.alloc (by omega) _).drew).grown hg7 (by simp; omega) (fun q hq => by injection hq with hq; omega)
      case measure => simp [intOf]; omega
    · obtain rfl : k = wv.length := by omega
      rw [List.drop_length] at Hfold
      go_wp2
      go_ret
      have hbk : bk = bytesD b ws := by rw [Hbd.out, ← Hfold.out]; rfl
      refine ⟨_, rfl, ?_, keep_trans k3 hkr⟩
      rw [← hbk, Hbl.out]
      have h1 := Hown.out
      exact ⟨h1.1, h1.2.imp id fun ⟨g, cap, cur, e1, e2, e3⟩ => ⟨g, cap, cur, e1, by omega, e3⟩⟩
end Go.Proofs.YtielojlhdnimgaaDoor
