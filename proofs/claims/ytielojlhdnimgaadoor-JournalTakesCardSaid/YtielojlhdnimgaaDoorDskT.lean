/- Sectors of bytes; what Lay answers. -/
import Derived.Test.YtielojlhdnimgaaDoorDskP
set_option linter.unusedSimpArgs false
set_option linter.unusedVariables false
namespace Go.Proofs.YtielojlhdnimgaaDoor
open Go.RowKit

def sec (b : List UInt8) (k : Nat) : List UInt8 := (b.drop (32 * k)).take 32
theorem sec_get (b : List UInt8) (k i : Nat) (hi : i < 32) : (sec b k)[i]? = b[32 * k + i]? := by
  unfold sec; rw [List.getElem?_take, if_pos hi, List.getElem?_drop]
theorem sec_ext {b : List UInt8} {k : Nat} {d : List UInt8} (hd : d.length = 32) (h : ∀ i, i < 32 → b[32 * k + i]? = d[i]?) : sec b k = d := by
  apply List.ext_getElem?
  intro i
  by_cases hi : i < 32
  · rw [sec_get b k i hi, h i hi]
  · rw [List.getElem?_eq_none (by unfold sec; rw [List.length_take]; omega), List.getElem?_eq_none (by omega)]
theorem sec_same {b b' : List UInt8} {k : Nat} (h : ∀ i, i < 32 → b[32 * k + i]? = b'[32 * k + i]?) : sec b k = sec b' k := by
  apply List.ext_getElem?
  intro i
  by_cases hi : i < 32
  · rw [sec_get b k i hi, sec_get b' k i hi, h i hi]
  · rw [List.getElem?_eq_none (by unfold sec; rw [List.length_take]; omega), List.getElem?_eq_none (by unfold sec; rw [List.length_take]; omega)]
theorem sec_splice {b d : List UInt8} {m k : Nat} (hd : d.length = 32) (hm : 32 * m + 32 ≤ b.length) (hk : 32 * k + 32 ≤ b.length) : sec (splice b (32 * m) d) k = if k = m then d else sec b k := by
  split
  · rename_i h
    subst h
    refine sec_ext hd fun i hi => ?_
    rw [splice_get (by omega) (by omega), if_pos (by omega)]
    congr 1; omega
  · refine sec_same fun i hi => ?_
    rw [splice_get (by omega) (by omega), if_neg (by omega)]

theorem layWs_succ (at_ : Int) (data : List UInt8) (n : Nat) : layWs at_ data (n + 1) = layWs at_ data n ++ [(at_ + n, sec data n)] := by
  unfold layWs; rw [List.range_succ, List.map_append]; rfl
theorem layWs_ok {nb : Nat} {at_ : Nat} {data : List UInt8} {n : Nat} (h1 : 32 * (at_ + n) ≤ nb) (h2 : 32 * n ≤ data.length) : (layWs at_ data n).all (okP nb) = true := by
  rw [List.all_eq_true]
  intro p hp
  obtain ⟨k, hk, rfl⟩ := List.mem_map.1 hp
  have hk := List.mem_range.1 hk
  exact decide_eq_true ⟨by simp; omega, by simp; omega, by simp; omega⟩
theorem bytes_lay (b : List UInt8) (at_ : Nat) (data : List UInt8) (k : Nat) (hk : 32 * k + 32 ≤ b.length) : ∀ (n : Nat), 32 * (at_ + n) ≤ b.length → 32 * n ≤ data.length →
    sec (bytesP b (layWs at_ data n)) k = if at_ ≤ k ∧ k < at_ + n then sec data (k - at_) else sec b k
  | 0, _, _ => by rw [if_neg (by omega)]; rfl
  | n + 1, h1, h2 => by
    have ih := bytes_lay b at_ data k hk n (by omega) (by omega)
    have hl := bytesP_len b.length (layWs at_ data n) b rfl (layWs_ok (by omega) (by omega))
    have hsd : (sec data n).length = 32 := by unfold sec; rw [List.length_take, List.length_drop]; omega
    have e : bytesP b (layWs at_ data (n + 1)) = splice (bytesP b (layWs at_ data n)) (32 * (at_ + n)) (sec data n) := by
      rw [layWs_succ]
      unfold bytesP
      rw [List.foldl_append]
      show splice _ (32 * ((at_ : Int) + (n : Int)).toNat) _ = _
      rw [show ((at_ : Int) + (n : Int)).toNat = at_ + n by omega]
    rw [e, sec_splice hsd (by omega) (by omega), ih]
    by_cases h : k = at_ + n
    · rw [if_pos h, if_pos (by omega), h]; congr 1; omega
    · rw [if_neg h]
      by_cases h3 : at_ ≤ k ∧ k < at_ + n
      · rw [if_pos h3, if_pos (by omega)]
      · rw [if_neg h3, if_neg (by omega)]
theorem bytes_app (b : List UInt8) (ps qs : List WP) : bytesP b (ps ++ qs) = bytesP (bytesP b ps) qs := by unfold bytesP; rw [List.foldl_append]

theorem layD_err (b : List UInt8) (ws : List WriteR) (at_ : Int) (data : List UInt8) : (layD b ws at_ data).2 = 0 ∨ ((layD b ws at_ data).2 = 14 ∧ (layD b ws at_ data).1 = (tkW b ws).map WriteR.pl) := by
  unfold layD
  split
  · exact .inr ⟨rfl, rfl⟩
  · split
    · exact .inl rfl
    · split
      · exact .inl rfl
      · exact .inr ⟨rfl, rfl⟩
/-- Where all went well. -/
theorem layD_ok {b : List UInt8} {ws : List WriteR} {at_ : Int} {data : List UInt8} (h : (layD b ws at_ data).2 = 0) : data.length % 32 = 0 ∧
    ((data.length = 0 ∧ (layD b ws at_ data).1 = (tkW b ws).map WriteR.pl) ∨
     (0 ≤ at_ ∧ at_ + (data.length / 32 : Nat) ≤ ((tkB b ws).length / 32 : Nat) ∧ (layD b ws at_ data).1 = (tkW b ws).map WriteR.pl ++ layWs at_ data (data.length / 32))) := by
  unfold layD at h ⊢
  split at h
  · simp at h
  · rename_i h1
    rw [if_neg h1]
    refine ⟨by omega, ?_⟩
    split at h
    · rename_i h2
      rw [if_pos h2]
      exact .inl ⟨by omega, rfl⟩
    · rename_i h2
      rw [if_neg h2]
      split at h
      · rename_i h3
        rw [if_pos h3]
        have h3 := of_decide_eq_true h3
        exact .inr ⟨h3.1, by omega, rfl⟩
      · simp at h

theorem tk_saneP (b : List UInt8) (ws : List WriteR) : saneP (tkB b ws).length ((tkW b ws).map WriteR.pl) = true := by rw [← sane_pl]; exact tk_sane b ws
theorem bytesD_tk (b : List UInt8) (ws : List WriteR) : bytesD b ws = bytesP (tkB b ws) ((tkW b ws).map WriteR.pl) := by unfold bytesD; exact bytes_pl _ _
theorem bytesD_len (b : List UInt8) (ws : List WriteR) : (bytesD b ws).length = (tkB b ws).length := by rw [bytesD_tk]; exact bytesP_len _ _ _ rfl (sane_all (tk_saneP b ws))
theorem layD_sane {b : List UInt8} {ws : List WriteR} {at_ : Int} {data : List UInt8} : saneP (tkB b ws).length (layD b ws at_ data).1 = true := by
  have h := tk_saneP b ws
  have e : layD b ws at_ data = layP (tkB b ws) ((tkW b ws).map WriteR.pl) at_ data := by
    unfold layD layP; rw [List.length_map]
  rw [e]; exact layP_sane h at_ data

end Go.Proofs.YtielojlhdnimgaaDoor
