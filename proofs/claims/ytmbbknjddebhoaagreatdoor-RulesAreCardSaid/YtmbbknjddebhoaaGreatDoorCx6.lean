/- Texts merged by pack.py: UQ, Ml, Dv, US, UI, UJ, UK, Rt, Rs. -/
import Derived.Test.YtmbbknjddebhoaaGreatDoorCx1
import Derived.WalkKit
import Derived.Lib.Mul64
import Derived.Laws.Bits64b
import Derived.Laws.Externs
import Derived.Test.YtmbbknjddebhoaaGreatDoorCx5
import Derived.Test.YtmbbknjddebhoaaGreatDoorCx4
import Derived.Great.BuildSlice
/- Two words divided by one, by halves: plainly. -/
set_option linter.unusedSimpArgs false
set_option linter.unusedVariables false
namespace Go.Proofs.YtmbbknjddebhoaaGreatDoor
structure DStep (y1 y0 u n q r : Nat) : Prop where
  e : q * y1 + r = u
  ge : (u * 4294967296 + n) / (y1 * 4294967296 + y0) ≤ q
  q2 : q ≤ 4294967297
  rl : r < 4294967296
section
variable {y1 y0 u n q r : Nat}
theorem d_start (h1 : 2147483648 ≤ y1) (h2 : y1 < 4294967296) (h3 : y0 < 4294967296) (hu : u < y1 * 4294967296 + y0) (hn : n < 4294967296) : DStep y1 y0 u n (u / y1) (u % y1) := by
  have hp : 0 < y1 := by omega
  have hm := Nat.mod_lt u hp
  have hd := Nat.div_add_mod u y1
  refine ⟨by rw [Nat.mul_comm]; exact hd, ?_, ?_, by omega⟩
  · apply Nat.le_of_lt_succ
    rw [Nat.div_lt_iff_lt_mul (by omega), Nat.succ_mul, Nat.mul_add, ← Nat.mul_assoc]
    generalize hb : u / y1 * y0 = b
    rw [Nat.mul_comm y1] at hd
    generalize u / y1 * y1 = a at *
    omega
  · apply Nat.le_of_lt_succ
    rw [Nat.div_lt_iff_lt_mul hp]
    show u < 4294967298 * y1
    omega
theorem d_le (hu : u < y1 * 4294967296 + y0) (hn : n < 4294967296) : (u * 4294967296 + n) / (y1 * 4294967296 + y0) < 4294967296 := by
  rw [Nat.div_lt_iff_lt_mul (by omega)]
  omega
theorem d_exit (hp : 0 < y1) (h : DStep y1 y0 u n q r) (hb : q * y0 ≤ 4294967296 * r + n) : q = (u * 4294967296 + n) / (y1 * 4294967296 + y0) := by
  refine Nat.le_antisymm ?_ h.ge
  rw [Nat.le_div_iff_mul_le (by omega), Nat.mul_add, ← Nat.mul_assoc]
  have he := h.e
  generalize q * y1 = a at *
  generalize q * y0 = b at *
  omega
theorem d_step (hp : 0 < y1) (hu : u < y1 * 4294967296 + y0) (hn : n < 4294967296) (h : DStep y1 y0 u n q r) (hb : ¬ (q < 4294967296 ∧ q * y0 ≤ 4294967296 * r + n)) :
    1 ≤ q ∧ (u * 4294967296 + n) / (y1 * 4294967296 + y0) ≤ q - 1 ∧ (q - 1) * y1 + (r + y1) = u ∧ q - 1 ≤ 4294967296 := by
  have hQ := d_le hu hn
  have hlt : (u * 4294967296 + n) / (y1 * 4294967296 + y0) < q := by
    by_cases hq : q < 4294967296
    · have hb2 : ¬ q * y0 ≤ 4294967296 * r + n := fun e => hb ⟨hq, e⟩
      rw [Nat.div_lt_iff_lt_mul (by omega), Nat.mul_add, ← Nat.mul_assoc]
      have he := h.e
      generalize q * y1 = a at *
      generalize q * y0 = b at *
      omega
    · exact Nat.lt_of_lt_of_le hQ (Nat.le_of_not_lt hq)
  generalize (u * 4294967296 + n) / (y1 * 4294967296 + y0) = Q at *
  have h1 : 1 ≤ q := by omega
  have h2 := h.q2
  refine ⟨h1, by omega, ?_, by omega⟩
  have he := h.e
  obtain ⟨p, rfl⟩ : ∃ p, q = p + 1 := ⟨q - 1, by omega⟩
  rw [Nat.add_mul, Nat.one_mul] at he
  rw [Nat.add_sub_cancel]
  omega
theorem d_break (hp : 0 < y1) (h3 : y0 < 4294967296) (he : q * y1 + r = u) (hge : (u * 4294967296 + n) / (y1 * 4294967296 + y0) ≤ q) (h2 : q ≤ 4294967296) (hr : 4294967296 ≤ r) : q = (u * 4294967296 + n) / (y1 * 4294967296 + y0) := by
  refine Nat.le_antisymm ?_ hge
  rw [Nat.le_div_iff_mul_le (by omega), Nat.mul_add, ← Nat.mul_assoc]
  have hb : q * y0 ≤ 4294967296 * 4294967295 := Nat.mul_le_mul h2 (by omega)
  generalize q * y1 = a at *
  generalize q * y0 = b at *
  omega
end
theorem d_all {N y s y' u32 n1 n0 q1 q0 r1 r0 : Nat} (hy : 0 < y) (hy' : y' = y * 2 ^ s) (hU : N * 2 ^ s = (u32 * 4294967296 + n1) * 4294967296 + n0)
    (e1 : q1 = (u32 * 4294967296 + n1) / y') (e2 : r1 = (u32 * 4294967296 + n1) % y') (e3 : q0 = (r1 * 4294967296 + n0) / y') (e4 : r0 = (r1 * 4294967296 + n0) % y') :
    q1 * 4294967296 + q0 = N / y ∧ r0 / 2 ^ s = N % y := by
  have hp : 0 < 2 ^ s := Nat.two_pow_pos s
  have hyp : 0 < y' := by rw [hy']; exact Nat.mul_pos hy hp
  have a1 := Nat.div_add_mod (u32 * 4294967296 + n1) y'
  have a2 := Nat.div_add_mod (r1 * 4294967296 + n0) y'
  have a3 : r0 < y' := by rw [e4]; exact Nat.mod_lt _ hyp
  rw [← e1, ← e2] at a1
  rw [← e3, ← e4] at a2
  have hE : N * 2 ^ s = y' * (q1 * 4294967296 + q0) + r0 := by
    rw [hU, ← a1, Nat.mul_add, Nat.add_mul, ← Nat.mul_assoc]
    generalize y' * q1 = b at *
    omega
  have hd : N * 2 ^ s / y' = q1 * 4294967296 + q0 := by
    rw [hE, Nat.mul_add_div hyp, Nat.div_eq_of_lt a3, Nat.add_zero]
  have hm : N * 2 ^ s % y' = r0 := by
    rw [hE, Nat.mul_add_mod, Nat.mod_eq_of_lt a3]
  rw [hy', Nat.mul_div_mul_right _ _ hp] at hd
  rw [hy', Nat.mul_mod_mul_right] at hm
  exact ⟨hd.symm, by rw [← hm]; exact Nat.mul_div_cancel _ hp⟩
end Go.Proofs.YtmbbknjddebhoaaGreatDoor
/- math/bits.Mul64, Len64's LeadingZeros64, Add64: this cut's numbers. -/
set_option linter.unusedSimpArgs false
set_option linter.unusedVariables false
namespace Go.Proofs.YtmbbknjddebhoaaGreatDoor
open Go.RowKit
namespace Mul64
theorem maskN (a : Nat) (ha : a < 18446744073709551616) : bits .and .u64 (a : Int) 4294967295 = ((a % 4294967296 : Nat) : Int):=by
 have h:=bits_and_u64_nat a 4294967295 ha (by omega)
 have e : a &&& 4294967295 = a % 4294967296:=Nat.and_two_pow_sub_one_eq_mod a 32
 rw [e] at h
 exact h
theorem divN (a : Nat) : (a : Int) / 4294967296 = ((a / 4294967296 : Nat) : Int):=by omega
theorem mulN (a b : Nat) : (a : Int) * (b : Int) = ((a * b : Nat) : Int):=(Int.natCast_mul a b).symm
theorem addN (a b : Nat) : (a : Int) + (b : Int) = ((a + b : Nat) : Int):=(Int.natCast_add a b).symm
theorem wrapN (a : Nat) (ha : a < 18446744073709551616) : IntKind.u64.wrap (a : Int) = (a : Int):=by rw [IntKind.wrap_u64];omega
theorem wrapM (a : Nat) : IntKind.u64.wrap (a : Int) = ((a % 18446744073709551616 : Nat) : Int):=by rw [IntKind.wrap_u64];omega
end Mul64
set_option maxHeartbeats 1000000 in
theorem bits_Mul64 (x y : Nat) (hx : x < 18446744073709551616) (hy : y < 18446744073709551616) (w : World) :
  Calls Tryz.prog 92 #[.int .u64 x,.int .u64 y] w fun e w' => e = .returned (.tuple #[.int .u64 ((x * y / 18446744073709551616 : Nat) : Int),.int .u64 ((x * y % 18446744073709551616 : Nat) : Int)])∧w' = w:=by
 obtain ⟨bd,bt,bw,hhi⟩:=Lib.mul64_hi x y hx hy
 have ba:=Lib.half_mul_le (a:=x / 4294967296) (b:=y / 4294967296) (by omega) (by omega)
 have bb:=Lib.half_mul_le (a:=x / 4294967296) (b:=y % 4294967296) (by omega) (by omega)
 have bc:=Lib.half_mul_le (a:=x % 4294967296) (b:=y / 4294967296) (by omega) (by omega)
 have ba' : x / 4294967296 * (y / 4294967296) < 18446744073709551616:=by omega
 have bb' : x / 4294967296 * (y % 4294967296) < 18446744073709551616:=by omega
 have bc' : x % 4294967296 * (y / 4294967296) < 18446744073709551616:=by omega
 have bh1 : x / 4294967296 * (y / 4294967296) + (x / 4294967296 * (y % 4294967296) + x % 4294967296 * (y % 4294967296) / 4294967296) / 4294967296 < 18446744073709551616:=by omega
 have bh : x / 4294967296 * (y / 4294967296) + (x / 4294967296 * (y % 4294967296) + x % 4294967296 * (y % 4294967296) / 4294967296) / 4294967296 + ((x / 4294967296 * (y % 4294967296) + x % 4294967296 * (y % 4294967296) / 4294967296) % 4294967296 + x % 4294967296 * (y / 4294967296)) / 4294967296 < 18446744073709551616:=by omega
 go_enter Tryz.func92,Tryz.ntmps92
 go_wp2
 simp only [Mul64.maskN x hx,Mul64.maskN y hy,Mul64.divN,Mul64.mulN,Mul64.addN,Mul64.wrapN _ bd,Mul64.wrapN _ bb',Mul64.wrapN _ bt,Mul64.maskN _ bt,Mul64.wrapN _ bc',Mul64.wrapN _ bw,Mul64.wrapN _ ba',Mul64.wrapN _ bh1,Mul64.wrapN _ bh,Mul64.wrapM (x * y)]
 rw [hhi]
 go_ret2
 exact ⟨rfl,rfl⟩
theorem bits_Add64_0 (x y : Nat) (hx : x < 18446744073709551616) (hy : y < 18446744073709551616) (w : World) :
  (callFunc 93 #[.int .u64 x,.int .u64 y,.int .u64 0]).run Tryz.prog w =
   .ok (.value (.tuple #[.int .u64 (((x + y) % 18446744073709551616 : Nat) : Int),.int .u64 (((x + y) / 18446744073709551616 : Nat) : Int)])) w:=by
 rw [run_callFunc_extern Tryz.func93 (by kernel_rfl) (by kernel_rfl) (by kernel_rfl) (e:=add64Entry) (by kernel_rfl),run_add64 x y 0 (by omega) (by omega) (by omega) (by omega)]
 simp only [Result.andThen]
 congr 5 <;> omega
set_option maxHeartbeats 400000 in
theorem bits_Lead64 (x : Int) (w : World) (h0 : 0 ≤ x) (h1 : x ≤ 18446744073709551615) (hb : Lib.bitLen x.toNat ≤ 64) :
  Calls Tryz.prog 108 #[.int .u64 x] w fun e w' => e = .returned (.int .i64 ((64 - Lib.bitLen x.toNat : Nat) : Int))∧w' = w:=by
 have hL:=bits_Len64 x w h0 h1
 generalize Lib.bitLen x.toNat = m at *
 go_enter Tryz.func108,Tryz.ntmps108
 go_wp2_with (go_at_call 91;refine hL.mono ?_;rintro e w' ⟨rfl,hw⟩;rw [hw])
 go_ret
 exact ⟨by rw [show ((64 - m : Nat) : Int) = 64 - (m : Int) by omega];rfl,rfl⟩
end Go.Proofs.YtmbbknjddebhoaaGreatDoor
/- math/bits.Div64: the walk. -/
set_option linter.unusedSimpArgs false
set_option linter.unusedVariables false
namespace Go.Proofs.YtmbbknjddebhoaaGreatDoor
open Go.RowKit
attribute [local go_sem ↓] Go.wp_at_zero Go.wp_at_succ
theorem norm_y {y : Nat} (h0 : y ≠ 0) (h1 : y < 2 ^ 64) : 2 ^ 63 ≤ y * 2 ^ (64 - lenN y)∧y * 2 ^ (64 - lenN y) < 2 ^ 64:=by
 obtain ⟨n,e1,e2,e3⟩:=lenN_pos h0
 have hn : n + 1 ≤ 64:=by rw [← e1];exact lenN_le h1
 rw [e1]
 constructor
 ·have : 2 ^ 63 = 2 ^ n * 2 ^ (64 - (n + 1)):=by rw [← Nat.pow_add];congr 1;omega
  rw [this];exact Nat.mul_le_mul_right _ e2
 ·have : 2 ^ 64 = 2 ^ (n + 1) * 2 ^ (64 - (n + 1)):=by rw [← Nat.pow_add];congr 1;omega
  rw [this];exact Nat.mul_lt_mul_of_pos_right e3 (Nat.two_pow_pos _)
set_option maxRecDepth 100000 in
set_option maxHeartbeats 4000000 in
theorem bits_Div64 (hi lo y : Nat) (hy : hi < y) (h1 : lo < 18446744073709551616) (h2 : y < 18446744073709551616) (w : World) :
  Calls Tryz.prog 94 #[n64 hi,n64 lo,n64 y] w fun e w' => e = .returned (.tuple #[n64 ((hi * 18446744073709551616 + lo) / y),n64 ((hi * 18446744073709551616 + lo) % y)])∧Keep w w':=by
 have y0 : (y : Int) ≠ 0:=by omega
 have y0' : ((y : Int) == 0) = false:=by rw [beq_eq_false_iff_ne];exact y0
 have y0'' : (y == 0) = false:=by rw [beq_eq_false_iff_ne];omega
 have y1 : decide (y ≤ hi) = false:=decide_eq_false (by omega)
 by_cases hh : hi = 0
 ·subst hh
  rw [Nat.zero_mul,Nat.zero_add]
  go_enter Tryz.func94,Tryz.ntmps94
  have q1 : Int.tdiv (lo : Int) (y : Int) = ((lo / y : Nat) : Int):=rfl
  have q2 : Int.tmod (lo : Int) (y : Int) = ((lo % y : Nat) : Int):=rfl
  have q3 : lo / y < 18446744073709551616:=Nat.lt_of_le_of_lt (Nat.div_le_self _ _) h1
  have q4 : lo % y < 18446744073709551616:=Nat.lt_of_le_of_lt (Nat.mod_le _ _) h1
  have q5 : IntKind.u64.wrap ((lo / y : Nat) : Int) = ((lo / y : Nat) : Int):=Mul64.wrapN _ q3
  generalize lo / y = Q at *
  generalize lo % y = R at *
  go_upto_region 6 with fail
  refine wp_region_aft (by kernel_rfl) (by kernel_rfl) w (Below.refl _ _) ?_
  repeat (go_big_quiet_step (fail))
  refine wpQuiet_nil ?_
  rintro _ ⟨y',rfl⟩
  have j:=aft_keep w y'
  generalize aft w y' = wz at j ⊢
  clear q1 q2
  go_wp2
  exact bodyPost_ret (v:=.tuple #[n64 Q,n64 R]) (by simp [results,Tryz.results94]) rfl ⟨rfl,j⟩
 ·have hh0 : (hi == 0) = false:=by rw [beq_eq_false_iff_ne];exact hh
  have hh1 : ((hi : Int) == 0) = false:=by rw [beq_eq_false_iff_ne];omega
  have hyl : y < 2 ^ 64:=h2
  have hbl : Lib.bitLen (y : Int).toNat = lenN y:=by rw [Int.toNat_natCast];exact bitLen_eq hyl
  have L1:=bits_Lead64 (y : Int) w (by omega) (by omega) (by rw [hbl];exact lenN_le hyl)
  rw [hbl] at L1
  obtain ⟨n1,n2⟩:=norm_y (by omega) hyl
  obtain ⟨s,hs⟩ : ∃ s,64 - lenN y = s:=⟨_,rfl⟩
  rw [hs] at L1 n1 n2
  have hs64 : s ≤ 64:=by omega
  have HL:=Lib.hid L1
  have hp : 0 < 2 ^ s:=Nat.two_pow_pos s
  have hss : 2 ^ s * 2 ^ (64 - s) = 2 ^ 64:=by rw [← Nat.pow_add];congr 1;omega
  obtain ⟨Y,hY⟩ : ∃ Y,y * 2 ^ s = Y:=⟨_,rfl⟩
  rw [hY] at n1 n2
  have hY64 : Y < 18446744073709551616:=n2
  have hY63 : 9223372036854775808 ≤ Y:=n1
  have hhs : hi * 2 ^ s < Y:=by rw [← hY];exact Nat.mul_lt_mul_of_pos_right hy hp
  obtain ⟨H,hH⟩ : ∃ H,hi * 2 ^ s = H:=⟨_,rfl⟩
  obtain ⟨l1,hl1⟩ : ∃ l1,lo / 2 ^ (64 - s) = l1:=⟨_,rfl⟩
  obtain ⟨l2,hl2⟩ : ∃ l2,lo * 2 ^ s % 18446744073709551616 = l2:=⟨_,rfl⟩
  have hl1s : l1 < 2 ^ s:=by
   rw [← hl1,Nat.div_lt_iff_lt_mul (Nat.two_pow_pos _),hss];exact h1
  have hlo : lo * 2 ^ s = l1 * 18446744073709551616 + l2:=by
   have e1 : lo * 2 ^ s / 18446744073709551616 = l1:=by
    rw [← hl1,show (18446744073709551616 : Nat) = 2 ^ (64 - s) * 2 ^ s by rw [Nat.mul_comm,hss],Nat.mul_div_mul_right _ _ hp]
   have e2:=Nat.div_add_mod (lo * 2 ^ s) 18446744073709551616
   rw [e1,hl2] at e2
   omega
  have hu : H + l1 < Y:=by
   have e3 : (hi + 1) * 2 ^ s ≤ y * 2 ^ s:=Nat.mul_le_mul_right _ hy
   rw [Nat.add_mul,Nat.one_mul,hH,hY] at e3
   omega
  have hor : H ||| l1 = H + l1:=by
   rw [← hH,Nat.mul_comm hi,← Nat.two_pow_add_eq_or_of_lt hl1s]
  have hNs : (hi * 18446744073709551616 + lo) * 2 ^ s = ((H + l1) * 4294967296 + l2 / 4294967296) * 4294967296 + l2 % 4294967296:=by
   rw [Nat.add_mul,hlo,Nat.mul_right_comm,hH]
   omega
  obtain ⟨U,hU⟩ : ∃ U,H + l1 = U:=⟨_,rfl⟩
  rw [hU] at hNs hu hor
  obtain ⟨m1,hm1⟩ : ∃ m1,l2 / 4294967296 = m1:=⟨_,rfl⟩
  obtain ⟨m0,hm0⟩ : ∃ m0,l2 % 4294967296 = m0:=⟨_,rfl⟩
  obtain ⟨v1,hv1⟩ : ∃ v1,Y / 4294967296 = v1:=⟨_,rfl⟩
  obtain ⟨v0,hv0⟩ : ∃ v0,Y % 4294967296 = v0:=⟨_,rfl⟩
  rw [hm1,hm0] at hNs
  have hl264 : l2 < 18446744073709551616:=by rw [← hl2];exact Nat.mod_lt _ (by decide)
  have HN:=Lib.hid hNs;have HY:=Lib.hid hY
  -- the values as the walk shows them
  have f1 : IntKind.u64.wrap ((y : Int) * 2 ^ s) = (Y : Int):=by
   rw [show (y : Int) * 2 ^ s = ((y * 2 ^ s : Nat) : Int) by rw [Int.natCast_mul];rfl,hY];exact Mul64.wrapN _ hY64
  have f2 : bits .and .u64 (Y : Int) 4294967295 = (v0 : Int):=by rw [Mul64.maskN Y hY64,hv0]
  have f3 : (Y : Int) / 4294967296 = (v1 : Int):=by rw [Mul64.divN,hv1]
  have f4 : IntKind.u64.wrap ((hi : Int) * 2 ^ s) = (H : Int):=by
   rw [show (hi : Int) * 2 ^ s = ((hi * 2 ^ s : Nat) : Int) by rw [Int.natCast_mul];rfl,hH];exact Mul64.wrapN _ (by omega)
  have f5 : bits .or .u64 (H : Int) ((lo : Int) / 2 ^ (64 - s)) = (U : Int):=by
   rw [show (lo : Int) / 2 ^ (64 - s) = ((lo / 2 ^ (64 - s) : Nat) : Int) by rw [Int.natCast_ediv];rfl,hl1,bits_or_u64_nat _ _ (by omega) (by omega),hor]
  have f6 : IntKind.u64.wrap ((lo : Int) * 2 ^ s) = (l2 : Int):=by
   rw [show (lo : Int) * 2 ^ s = ((lo * 2 ^ s : Nat) : Int) by rw [Int.natCast_mul];rfl,Mul64.wrapM,hl2]
  have f7 : (l2 : Int) / 4294967296 = (m1 : Int):=by rw [Mul64.divN,hm1]
  have f8 : bits .and .u64 (l2 : Int) 4294967295 = (m0 : Int):=by rw [Mul64.maskN l2 hl264,hm0]
  have b1 : 2147483648 ≤ v1∧v1 < 4294967296∧v0 < 4294967296∧Y = v1 * 4294967296 + v0∧m1 < 4294967296∧m0 < 4294967296:=by omega
  obtain ⟨b1,b2,b3,b4,b5,b6⟩:=b1
  have hUv : U < v1 * 4294967296 + v0:=by rw [← b4];exact hu
  have D0:=d_start (n:=m1) b1 b2 b3 hUv b5
  have B4:=Lib.hid b4
  clear b4
  obtain ⟨q,hq⟩ : ∃ q,U / v1 = q:=⟨_,rfl⟩
  obtain ⟨r,hr⟩ : ∃ r,U % v1 = r:=⟨_,rfl⟩
  rw [hq,hr] at D0
  have f9 : Int.tdiv (U : Int) (v1 : Int) = (q : Int):=by show ((U / v1 : Nat) : Int) = q;rw [hq]
  have f9' : (U : Int) / (v1 : Int) = (q : Int):=by rw [← hq];rfl
  have f9b : IntKind.u64.wrap (q : Int) = (q : Int):=Mul64.wrapN _ (by have:=D0.q2;omega)
  obtain ⟨a,ha⟩ : ∃ a,q * v1 = a:=⟨_,rfl⟩
  have hea : a + r = U:=by rw [← ha];exact D0.e
  have f10 : (q : Int) * (v1 : Int) = (a : Int):=by rw [← ha];exact Mul64.mulN _ _
  have f11 : IntKind.u64.wrap (a : Int) = (a : Int):=Mul64.wrapN _ (by omega)
  have f12 : IntKind.u64.wrap ((U : Int) - (a : Int)) = (r : Int):=by rw [show (U : Int) - (a : Int) = (r : Int) by omega];exact Mul64.wrapN _ (by omega)
  have hD0:=Lib.hid D0
  have g1 : ((v1 : Int) == 0) = false:=by rw [beq_eq_false_iff_ne];omega
  have g2 : (v1 : Int) ≠ 0:=by omega
  have hs64' : s < 64:=by
   apply Nat.lt_of_not_le
   intro e
   have : s = 64:=by omega
   rw [this] at hY
   omega
  clear D0 hNs hY hH hl1 hl2 hl1s hlo hor hU hm1 hm0 hv1 hv0 hq hr ha n1 n2 hs hyl hp hss hhs hY63 hh
  go_enter Tryz.func94,Tryz.ntmps94
  go_wp2_with fail
  refine HL.out.mono ?_
  rintro e w2 ⟨rfl,rfl⟩
  go_upto_region 16 with fail
  go_cut [15,16] (fun sq sr wx => sq = .int .u64 q∧sr = .int .u64 r∧w2 = wx)
  case first =>
   go_wp2
   go_meet
   exact ⟨rfl,rfl,rfl⟩
  case rest =>
   obtain ⟨rfl,rfl,rfl⟩:=hcut
   refine (by assumption : ∀ a w,Code.wp _ _ _ a w → _) _ _ ?_
   refine wp_seq_k (fun KL hKL => ?_)
   go_cut [15,16] (fun sq sr wx => ∃ Q R : Nat,sq = .int .u64 Q∧sr = .int .u64 R∧Hid (Q = (U * 4294967296 + m1) / (v1 * 4294967296 + v0))∧Hid (Keep w2 wx))
   case first =>
    go_wp2_with fail
    go_loopw [15,16] (fun sq sr wr => ∃ q r : Nat,sq = .int .u64 q∧sr = .int .u64 r∧Hid (DStep v1 v0 U m1 q r)∧Hid (Keep w2 wr)) (fun sq _ _ => (intOf sq).toNat)
    case atStart => exact ⟨q,r,rfl,rfl,hD0,Lib.hid (Below.refl _ _)⟩
    case round =>
     obtain ⟨p,t,rfl,rfl,HD,HK⟩:=hrel
     have hp2:=HD.out.q2;have ht:=HD.out.rl
     obtain ⟨b,hb⟩ : ∃ b,p * v0 = b:=⟨_,rfl⟩
     have F1 : (p : Int) * (v0 : Int) = (b : Int):=by rw [← hb];exact Mul64.mulN _ _
     have F3 : IntKind.u64.wrap (4294967296 * (t : Int) + (m1 : Int)) = 4294967296 * (t : Int) + (m1 : Int):=by rw [IntKind.wrap_u64];omega
     by_cases hA : p < 4294967296∧b ≤ 4294967296 * t + m1
     ·have hex:=d_exit (by omega) HD.out (by rw [hb];exact hA.2)
      have Hex:=Lib.hid hex
      obtain ⟨hA1,hA2⟩:=hA
      have F2 : IntKind.u64.wrap (b : Int) = (b : Int):=Mul64.wrapN _ (by omega)
      have d1 : decide (4294967296 ≤ p) = false:=decide_eq_false (by omega)
      have d1' : ¬ (4294967296 : Int) ≤ (p : Int):=by omega
      have d2 : ¬ 4294967296 * (t : Int) + (m1 : Int) < (b : Int):=by omega
      clear hex hb HD
      go_wp2
      go_meet
      exact ⟨p,t,rfl,rfl,Hex,HK⟩
     ·have hst:=d_step (by omega) hUv b5 HD.out (by rw [hb];exact hA)
      obtain ⟨s1,s2,s3,s4⟩:=hst
      obtain ⟨p',rfl⟩ : ∃ p',p = p' + 1:=⟨p - 1,by omega⟩
      rw [Nat.add_sub_cancel] at s2 s3 s4
      have F1' : ((p' : Int) + 1) * (v0 : Int) = (b : Int):=F1
      have S2:=Lib.hid s2;have S3:=Lib.hid s3
      clear s2 s3 HD s1
      have hcond : Hid (4294967296 ≤ p' + 1 ∨ (p' + 1 < 4294967296∧4294967296 * t + m1 < b)):=by
       refine Lib.hid ?_
       by_cases h : p' + 1 < 4294967296
       ·exact Or.inr ⟨h,by apply Nat.lt_of_not_le;exact fun e => hA ⟨h,e⟩⟩
       ·exact Or.inl (by omega)
      clear hA
      have hbm : p' + 1 < 4294967296 → b < 18446744073709551616:=fun h => by
       rw [← hb]
       have h1 : (p' + 1) * v0 ≤ 4294967295 * 4294967295:=Nat.mul_le_mul (by omega) (by omega)
       omega
      have Hbm:=Lib.hid hbm
      clear hbm hb
      go_upto_region 17 with fail
      go_cut [78] (fun v wx => v = .bool true∧wr = wx)
      case first =>
       rcases hcond.out with h | ⟨h,h'⟩
       ·have d1 : decide (4294967296 ≤ p' + 1) = true:=decide_eq_true h
        have d1' : (4294967296 : Int) ≤ (p' : Int) + 1:=by omega
        clear h hcond
        go_wp2
        go_meet
        exact ⟨rfl,rfl⟩
       ·have hb64:=Hbm.out h
        have F2 : IntKind.u64.wrap (b : Int) = (b : Int):=Mul64.wrapN _ hb64
        have d1 : decide (4294967296 ≤ p' + 1) = false:=decide_eq_false (by omega)
        have d1' : ¬ (4294967296 : Int) ≤ (p' : Int) + 1:=by omega
        have d2 : 4294967296 * (t : Int) + (m1 : Int) < (b : Int):=by omega
        clear h h' hcond
        go_wp2
        go_meet
        exact ⟨rfl,rfl⟩
      case rest =>
       obtain ⟨rfl,rfl⟩:=hcut
       clear F1 F1' F3 hcond
       by_cases hbr : 4294967296 ≤ t + v1
       ·have hex:=d_break (by omega) b3 S3.out S2.out s4 hbr
        have Hex:=Lib.hid hex
        have d3 : decide (4294967296 ≤ t + v1) = true:=decide_eq_true hbr
        have d3' : (4294967296 : Int) ≤ (t : Int) + (v1 : Int):=by omega
        clear hex hbr
        go_wp2
        go_meet
        exact ⟨p',t + v1,by go_num,by go_num,Hex,HK⟩
       ·have hD' : Hid (DStep v1 v0 U m1 p' (t + v1)):=Lib.hid ⟨S3.out,S2.out,by omega,by omega⟩
        have d3 : decide (4294967296 ≤ t + v1) = false:=decide_eq_false hbr
        have d3' : ¬ (4294967296 : Int) ≤ (t : Int) + (v1 : Int):=by omega
        clear hbr
        go_wp2
        go_roundw
        case rel => exact ⟨p',t + v1,by go_num,by go_num,hD',HK⟩
        case measure => simp [intOf];try omega
   case rest =>
    obtain ⟨Q,R,rfl,rfl,HQ,HK⟩:=hcut
    have hQB : Q < 4294967296:=by rw [HQ.out];exact d_le hUv b5
    obtain ⟨c,hc⟩ : ∃ c,Q * Y = c:=⟨_,rfl⟩
    have P1 : (Q : Int) * (Y : Int) = (c : Int):=by rw [← hc];exact Mul64.mulN _ _
    clear f1 f2 f3 f4 f5 f6 f7 f8 f9 f9' f9b f10 f11 f12 hea
    obtain ⟨r1,hr1⟩ : ∃ r1,(U * 4294967296 + m1) % Y = r1:=⟨_,rfl⟩
    have hY0 : 0 < Y:=by omega
    have hQY : Q = (U * 4294967296 + m1) / Y:=by rw [HQ.out,B4.out]
    have hcr : c + r1 = U * 4294967296 + m1:=by
     have h1:=Nat.div_add_mod (U * 4294967296 + m1) Y
     rw [← hQY,hr1,Nat.mul_comm,hc] at h1
     exact h1
    have hr1Y : r1 < Y:=by rw [← hr1];exact Nat.mod_lt _ hY0
    have hRv : r1 < v1 * 4294967296 + v0:=by rw [← B4.out];exact hr1Y
    have g21 : IntKind.u64.wrap (IntKind.u64.wrap (IntKind.u64.wrap ((U : Int) * 4294967296) + (m1 : Int)) - IntKind.u64.wrap (c : Int)) = (r1 : Int):=by
     rw [IntKind.wrap_u64,IntKind.wrap_u64,IntKind.wrap_u64,IntKind.wrap_u64];omega
    have HR1:=Lib.hid hr1;have HQY:=Lib.hid hQY
    have D1:=d_start (n:=m0) b1 b2 b3 hRv b6
    obtain ⟨q2,hq2⟩ : ∃ q,r1 / v1 = q:=⟨_,rfl⟩
    obtain ⟨r2,hr2⟩ : ∃ r,r1 % v1 = r:=⟨_,rfl⟩
    rw [hq2,hr2] at D1
    have f9 : Int.tdiv (r1 : Int) (v1 : Int) = (q2 : Int):=by show ((r1 / v1 : Nat) : Int) = q2;rw [hq2]
    have f9' : (r1 : Int) / (v1 : Int) = (q2 : Int):=by rw [← hq2];rfl
    have f9b : IntKind.u64.wrap (q2 : Int) = (q2 : Int):=Mul64.wrapN _ (by have:=D1.q2;omega)
    obtain ⟨a2,ha2⟩ : ∃ a,q2 * v1 = a:=⟨_,rfl⟩
    have hea2 : a2 + r2 = r1:=by rw [← ha2];exact D1.e
    have f10 : (q2 : Int) * (v1 : Int) = (a2 : Int):=by rw [← ha2];exact Mul64.mulN _ _
    have f11 : IntKind.u64.wrap (a2 : Int) = (a2 : Int):=Mul64.wrapN _ (by omega)
    have f12 : IntKind.u64.wrap ((r1 : Int) - (a2 : Int)) = (r2 : Int):=by rw [show (r1 : Int) - (a2 : Int) = (r2 : Int) by omega];exact Mul64.wrapN _ (by omega)
    have hD1:=Lib.hid D1
    clear D1 hq2 hr2 ha2 hcr hQY hr1 hc
    go_upto_region 23 with fail
    go_cut [16,17,18] (fun sr su sq wx => sq = .int .u64 q2∧sr = .int .u64 r2∧su = .int .u64 r1∧wc = wx)
    case first =>
     go_wp2
     go_meet
     exact ⟨rfl,rfl,rfl,rfl⟩
    case rest =>
     obtain ⟨rfl,rfl,rfl,rfl⟩:=hcut
     obtain ⟨w3,hw3⟩ : ∃ x : World,x = wc:=⟨_,rfl⟩
     subst hw3
     refine (by assumption : ∀ a w,Code.wp _ _ _ a w → _) _ _ ?_
     refine wp_seq_k (fun KL hKL => ?_)
     go_cut [16,18] (fun sr sq wx => ∃ Q R : Nat,sq = .int .u64 Q∧sr = .int .u64 R∧Hid (Q = (r1 * 4294967296 + m0) / (v1 * 4294967296 + v0))∧Hid (Keep w3 wx))
     case first =>
      clear g21 f9 f9' f9b f10 f11 f12 hea2 P1
      go_wp2_with fail
      go_loopw [16,18] (fun sr sq wr => ∃ q r : Nat,sq = .int .u64 q∧sr = .int .u64 r∧Hid (DStep v1 v0 r1 m0 q r)∧Hid (Keep w3 wr)) (fun _ sq _ => (intOf sq).toNat)
      case atStart => exact ⟨q2,r2,rfl,rfl,hD1,Lib.hid (Below.refl _ _)⟩
      case round =>
      obtain ⟨p,t,rfl,rfl,HD,HK2⟩:=hrel
      have hp2:=HD.out.q2;have ht:=HD.out.rl
      obtain ⟨b,hb⟩ : ∃ b,p * v0 = b:=⟨_,rfl⟩
      have F1 : (p : Int) * (v0 : Int) = (b : Int):=by rw [← hb];exact Mul64.mulN _ _
      have F3 : IntKind.u64.wrap (4294967296 * (t : Int) + (m0 : Int)) = 4294967296 * (t : Int) + (m0 : Int):=by rw [IntKind.wrap_u64];omega
      by_cases hA : p < 4294967296∧b ≤ 4294967296 * t + m0
      ·have hex:=d_exit (by omega) HD.out (by rw [hb];exact hA.2)
       have Hex:=Lib.hid hex
       obtain ⟨hA1,hA2⟩:=hA
       have F2 : IntKind.u64.wrap (b : Int) = (b : Int):=Mul64.wrapN _ (by omega)
       have d1 : decide (4294967296 ≤ p) = false:=decide_eq_false (by omega)
       have d1' : ¬ (4294967296 : Int) ≤ (p : Int):=by omega
       have d2 : ¬ 4294967296 * (t : Int) + (m0 : Int) < (b : Int):=by omega
       clear hex hb HD
       go_wp2
       go_meet
       exact ⟨p,t,rfl,rfl,Hex,HK2⟩
      ·have hst:=d_step (by omega) hRv b6 HD.out (by rw [hb];exact hA)
       obtain ⟨s1,s2,s3,s4⟩:=hst
       obtain ⟨p',rfl⟩ : ∃ p',p = p' + 1:=⟨p - 1,by omega⟩
       rw [Nat.add_sub_cancel] at s2 s3 s4
       have F1' : ((p' : Int) + 1) * (v0 : Int) = (b : Int):=F1
       have S2:=Lib.hid s2;have S3:=Lib.hid s3
       clear s2 s3 HD s1
       have hcond : Hid (4294967296 ≤ p' + 1 ∨ (p' + 1 < 4294967296∧4294967296 * t + m0 < b)):=by
        refine Lib.hid ?_
        by_cases h : p' + 1 < 4294967296
        ·exact Or.inr ⟨h,by apply Nat.lt_of_not_le;exact fun e => hA ⟨h,e⟩⟩
        ·exact Or.inl (by omega)
       clear hA
       have hbm : p' + 1 < 4294967296 → b < 18446744073709551616:=fun h => by
        rw [← hb]
        have h1 : (p' + 1) * v0 ≤ 4294967295 * 4294967295:=Nat.mul_le_mul (by omega) (by omega)
        omega
       have Hbm:=Lib.hid hbm
       clear hbm hb
       go_upto_region 24 with fail
       go_cut [113] (fun v wx => v = .bool true∧wr = wx)
       case first =>
        rcases hcond.out with h | ⟨h,h'⟩
        ·have d1 : decide (4294967296 ≤ p' + 1) = true:=decide_eq_true h
         have d1' : (4294967296 : Int) ≤ (p' : Int) + 1:=by omega
         clear h hcond
         go_wp2
         go_meet
         exact ⟨rfl,rfl⟩
        ·have hb64:=Hbm.out h
         have F2 : IntKind.u64.wrap (b : Int) = (b : Int):=Mul64.wrapN _ hb64
         have d1 : decide (4294967296 ≤ p' + 1) = false:=decide_eq_false (by omega)
         have d1' : ¬ (4294967296 : Int) ≤ (p' : Int) + 1:=by omega
         have d2 : 4294967296 * (t : Int) + (m0 : Int) < (b : Int):=by omega
         clear h h' hcond
         go_wp2
         go_meet
         exact ⟨rfl,rfl⟩
       case rest =>
        obtain ⟨rfl,rfl⟩:=hcut
        clear F1 F1' F3 hcond
        by_cases hbr : 4294967296 ≤ t + v1
        ·have hex:=d_break (by omega) b3 S3.out S2.out s4 hbr
         have Hex:=Lib.hid hex
         have d3 : decide (4294967296 ≤ t + v1) = true:=decide_eq_true hbr
         have d3' : (4294967296 : Int) ≤ (t : Int) + (v1 : Int):=by omega
         clear hex hbr
         go_wp2
         go_meet
         exact ⟨p',t + v1,by go_num,by go_num,Hex,HK2⟩
        ·have hD' : Hid (DStep v1 v0 r1 m0 p' (t + v1)):=Lib.hid ⟨S3.out,S2.out,by omega,by omega⟩
         have d3 : decide (4294967296 ≤ t + v1) = false:=decide_eq_false hbr
         have d3' : ¬ (4294967296 : Int) ≤ (t : Int) + (v1 : Int):=by omega
         clear hbr
         go_wp2
         go_roundw
         case rel => exact ⟨p',t + v1,by go_num,by go_num,hD',HK2⟩
         case measure => simp [intOf];try omega
     case rest =>
      obtain ⟨Q0,R0,rfl,rfl,HQ0,HK0⟩:=hcut
      clear g21 f9 f9' f9b f10 f11 f12 hea2 P1
      have hQ0B : Q0 < 4294967296:=by rw [HQ0.out];exact d_le hRv b6
      obtain ⟨r0,hr0⟩ : ∃ r0,(r1 * 4294967296 + m0) % Y = r0:=⟨_,rfl⟩
      have hQ0Y : Q0 = (r1 * 4294967296 + m0) / Y:=by rw [HQ0.out,B4.out]
      obtain ⟨c0,hc0⟩ : ∃ c,Q0 * Y = c:=⟨_,rfl⟩
      have hcr0 : c0 + r0 = r1 * 4294967296 + m0:=by
       have h1:=Nat.div_add_mod (r1 * 4294967296 + m0) Y
       rw [← hQ0Y,hr0,Nat.mul_comm,hc0] at h1
       exact h1
      have hr0Y : r0 < Y:=by rw [← hr0];exact Nat.mod_lt _ hY0
      obtain ⟨z1,z2⟩:=d_all (s:=s) (y:=y) (by omega) HY.out.symm HN.out HQY.out HR1.out.symm hQ0Y hr0.symm
      obtain ⟨e1,he1⟩ : ∃ e,Q * 4294967296 + Q0 = e:=⟨_,rfl⟩
      obtain ⟨e0,he0⟩ : ∃ e,r0 / 2 ^ s = e:=⟨_,rfl⟩
      rw [he1] at z1
      rw [he0] at z2
      have P2 : (Q0 : Int) * (Y : Int) = (c0 : Int):=by rw [← hc0];exact Mul64.mulN _ _
      have g28 : IntKind.u64.wrap (IntKind.u64.wrap (IntKind.u64.wrap ((r1 : Int) * 4294967296) + (m0 : Int)) - IntKind.u64.wrap (c0 : Int)) = (r0 : Int):=by
       rw [IntKind.wrap_u64,IntKind.wrap_u64,IntKind.wrap_u64,IntKind.wrap_u64];omega
      have g29 : (r0 : Int) / 2 ^ s = (e0 : Int):=by rw [← he0,Int.natCast_ediv];rfl
      have g30 : IntKind.u64.wrap (IntKind.u64.wrap ((Q : Int) * 4294967296) + (Q0 : Int)) = (e1 : Int):=by
       rw [IntKind.wrap_u64,IntKind.wrap_u64];omega
      have Z1:=Lib.hid z1;have Z2:=Lib.hid z2;have HK3:=Lib.hid (keep_trans HK.out HK0.out)
      clear z1 z2 hr0 hQ0Y hc0 hcr0 he0 he1
      clear hY0 hr0Y hQ0B hQB
      go_wp2
      rw [← Z1.out,← Z2.out]
      exact bodyPost_ret (v:=.tuple #[n64 e1,n64 e0]) (by simp [results,Tryz.results94]) rfl ⟨rfl,HK3.out⟩
end Go.Proofs.YtmbbknjddebhoaaGreatDoor
/- A product of five words, and its division: plainly. -/
set_option linter.unusedSimpArgs false
set_option linter.unusedVariables false
namespace Go.Proofs.YtmbbknjddebhoaaGreatDoor
theorem mod_step (T i : Nat) : T % 2 ^ (64 * (i + 1)) = T % 2 ^ (64 * i) + 2 ^ (64 * i) * limb T i:=by
 rw [show 64 * (i + 1) = 64 * i + 64 by omega,Nat.pow_add,Nat.mod_mul];rfl
theorem limb_add_mul {S X i j : Nat} (hj : j < i) : limb (S + 2 ^ (64 * i) * X) j = limb S j:=by
 unfold limb
 have e : 2 ^ (64 * i) * X = 2 ^ (64 * j) * (2 ^ 64 * (2 ^ (64 * (i - j - 1)) * X)):=by
  rw [← Nat.mul_assoc,← Nat.mul_assoc,← Nat.pow_add,← Nat.pow_add]
  congr 2;omega
 rw [e,Nat.add_mul_div_left _ _ (Nat.two_pow_pos _),Nat.add_mul_mod_self_left]
theorem split_at {S i : Nat} (hS : S < 2 ^ (64 * (i + 1))) : S = S % 2 ^ (64 * i) + 2 ^ (64 * i) * limb S i:=by
 have h:=mod_step S i
 rw [Nat.mod_eq_of_lt hS] at h
 exact h
theorem limb_high {r Z i k : Nat} (hr : r < 2 ^ (64 * i)) : limb (r + 2 ^ (64 * i) * Z) (i + k) = limb Z k:=by
 unfold limb
 rw [show 64 * (i + k) = 64 * i + 64 * k by omega,Nat.pow_add,← Nat.div_div_eq_div_mul,Nat.add_mul_div_left _ _ (Nat.two_pow_pos _),Nat.div_eq_of_lt hr,Nat.zero_add]
theorem prod_step {S X i : Nat} (hS : S < 2 ^ (64 * (i + 1))) (hX : limb S i + X < 2 ^ 128) :
  (∀ j,j < i → limb (S + 2 ^ (64 * i) * X) j = limb S j)∧limb (S + 2 ^ (64 * i) * X) i = (limb S i + X) % 2 ^ 64∧limb (S + 2 ^ (64 * i) * X) (i + 1) = (limb S i + X) / 2 ^ 64∧S + 2 ^ (64 * i) * X < 2 ^ (64 * (i + 1 + 1)):=by
 have hs:=split_at hS
 have hr : S % 2 ^ (64 * i) < 2 ^ (64 * i):=Nat.mod_lt _ (Nat.two_pow_pos _)
 have e : S + 2 ^ (64 * i) * X = S % 2 ^ (64 * i) + 2 ^ (64 * i) * (limb S i + X):=by
  rw [Nat.mul_add,← Nat.add_assoc,← hs]
 refine ⟨fun j hj => limb_add_mul hj,?_,?_,?_⟩
 ·have h:=limb_high (Z:=limb S i + X) (k:=0) hr
  rw [← e] at h
  rw [Nat.add_zero] at h
  rw [h];simp [limb]
 ·have h:=limb_high (Z:=limb S i + X) (k:=1) hr
  rw [← e] at h
  rw [h]
  show (limb S i + X) / 2 ^ (64 * 1) % 2 ^ 64 = _
  rw [Nat.mul_one,Nat.mod_eq_of_lt]
  rw [Nat.div_lt_iff_lt_mul (Nat.two_pow_pos _),← Nat.pow_add];exact hX
 ·rw [e]
  have h1 : 2 ^ (64 * i) * (limb S i + X + 1) ≤ 2 ^ (64 * i) * 2 ^ 128:=Nat.mul_le_mul_left _ hX
  rw [Nat.mul_add,Nat.mul_one,← Nat.pow_add] at h1
  rw [show 64 * (i + 1 + 1) = 64 * i + 128 by omega]
  omega
theorem low_high {a t num : Nat} (ha : a < 2 ^ 64) (ht : t < 2 ^ 64) (hn : num < 2 ^ 64) :
  a + t * num < 2 ^ 128∧(a + t * num) % 2 ^ 64 = (a + t * num % 2 ^ 64) % 2 ^ 64∧(a + t * num) / 2 ^ 64 = t * num / 2 ^ 64 + (a + t * num % 2 ^ 64) / 2 ^ 64∧t * num / 2 ^ 64 + (a + t * num % 2 ^ 64) / 2 ^ 64 < 2 ^ 64:=by
 have h1 : t * num ≤ (2 ^ 64 - 1) * (2 ^ 64 - 1):=Nat.mul_le_mul (by omega) (by omega)
 generalize t * num = p at *
 simp only [Nat.reducePow,Nat.reduceSub,Nat.reduceMul] at *
 omega
theorem quo_limb {P den i : Nat} (hd : 0 < den) : limb (P / den) i = (P / 2 ^ (64 * (i + 1)) % den * 2 ^ 64 + limb P i) / den:=by
 obtain ⟨h1,_,h3⟩:=div_step (P:=P) (i:=i) hd
 unfold limb
 rw [Nat.div_div_eq_div_mul,Nat.mul_comm den,← Nat.div_div_eq_div_mul,h1]
 show (_ * 2 ^ 64 + _) % 2 ^ 64 = _
 rw [Nat.mul_comm,Nat.mul_add_mod,Nat.mod_eq_of_lt h3]
 rfl
theorem top_word {P : Nat} (h : P < 2 ^ 64 * 2 ^ 256) : P / 2 ^ 256 = limb P 4:=by
 unfold limb
 rw [Nat.mod_eq_of_lt]
 rw [Nat.div_lt_iff_lt_mul (Nat.two_pow_pos _)];exact h
theorem fits_iff {P den : Nat} (h : P < 2 ^ 64 * 2 ^ 256) (hd : 0 < den) : limb P 4 / den = 0 ↔ P / den < 2 ^ 256:=by
 rw [← top_word h,Nat.div_div_eq_div_mul,Nat.mul_comm,← Nat.div_div_eq_div_mul]
 constructor
 ·intro e
  have:=Nat.div_eq_zero_iff.1 e
  rcases this with h | h
  ·exact absurd h (by decide)
  ·exact h
 ·intro e;exact Nat.div_eq_of_lt e
end Go.Proofs.YtmbbknjddebhoaaGreatDoor
/- target.share: how often a number is in a product. -/
set_option linter.unusedSimpArgs false
set_option linter.unusedVariables false
namespace Go.Proofs.YtmbbknjddebhoaaGreatDoor
open Go.RowKit
attribute [local go_sem ↓] Go.wp_at_zero Go.wp_at_succ
def qL (S : Nat) : List Value:=[n64 (limb S 0),n64 (limb S 1),n64 (limb S 2),n64 (limb S 3),n64 (limb S 4)]
theorem qL_get (S k : Nat) (h : k < 5) : (qL S)[k]? = some (n64 (limb S k)):=by
 rcases (show k = 0 ∨ k = 1 ∨ k = 2 ∨ k = 3 ∨ k = 4 by omega) with rfl | rfl | rfl | rfl | rfl <;> rfl
theorem qL_zero : qL 0 = [.int .u64 0,.int .u64 0,.int .u64 0,.int .u64 0,.int .u64 0]:=by simp [qL,n64,limb0]
def hiL (S k : Nat) : List Value:=[n64 (if k ≤ 0 then limb S 0 else 0),n64 (if k ≤ 1 then limb S 1 else 0),n64 (if k ≤ 2 then limb S 2 else 0),n64 (if k ≤ 3 then limb S 3 else 0)]
theorem hiL_zero (S : Nat) : hiL S 0 = uL S:=rfl
theorem hiL_set (S k : Nat) (hk : k < 4) : (hiL S (k + 1)).set k (n64 (limb S k)) = hiL S k:=by
 rcases (show k = 0 ∨ k = 1 ∨ k = 2 ∨ k = 3 by omega) with rfl | rfl | rfl | rfl <;> rfl
theorem hiL_len (S k : Nat) : (hiL S k).length = 4:=rfl
theorem limb_top {S i j : Nat} (h : S < 2 ^ (64 * i)) (hj : i ≤ j) : limb S j = 0:=by
 unfold limb
 rw [Nat.div_eq_of_lt (Nat.lt_of_lt_of_le h (Nat.pow_le_pow_right (by decide) (by omega))),Nat.zero_mod]
theorem qL_step {S X i : Nat} (hi : i < 4) (hS : S < 2 ^ (64 * (i + 1))) (hX : limb S i + X < 2 ^ 128) :
  ((qL S).set i (n64 ((limb S i + X) % 2 ^ 64))).set (i + 1) (n64 ((limb S i + X) / 2 ^ 64)) = qL (S + 2 ^ (64 * i) * X):=by
 obtain ⟨a1,a2,a3,a4⟩:=prod_step hS hX
 have a5 : ∀ j,i + 1 < j → limb (S + 2 ^ (64 * i) * X) j = limb S j:=fun j hj => by rw [limb_top a4 (by omega),limb_top hS (by omega)]
 generalize S + 2 ^ (64 * i) * X = Z at *
 rw [← a2,← a3]
 unfold qL
 rcases (show i = 0 ∨ i = 1 ∨ i = 2 ∨ i = 3 by omega) with rfl | rfl | rfl | rfl
 ·rw [a5 2 (by omega),a5 3 (by omega),a5 4 (by omega)];rfl
 ·rw [a1 0 (by omega),a5 3 (by omega),a5 4 (by omega)];rfl
 ·rw [a1 0 (by omega),a1 1 (by omega),a5 4 (by omega)];rfl
 ·rw [a1 0 (by omega),a1 1 (by omega),a1 2 (by omega)];rfl
set_option maxRecDepth 100000 in
set_option maxHeartbeats 4000000 in
theorem share_any (T num den : Nat) (w : World) (hT : T < 2 ^ 256) (hn : num < 18446744073709551616) (hd : 0 < den) (hd2 : den < 18446744073709551616) :
  Calls Tryz.prog 74 #[uV T,n64 num,n64 den] w fun e w' => e = .returned (.tuple #[uV (T * num / den % 2 ^ 256),.bool (decide (T * num / den < 2 ^ 256))])∧Keep w w':=by
 have hP : T * num < 2 ^ 64 * 2 ^ 256:=by
  rw [Nat.mul_comm (2 ^ 64)];exact Nat.mul_lt_mul_of_lt_of_lt hT hn
 obtain ⟨P,hPe⟩ : ∃ P,T * num = P:=⟨_,rfl⟩
 have HS : Hid (∀ i,i < 4 → ∀ S,S = T % 2 ^ (64 * i) * num → S < 2 ^ (64 * (i + 1))∧S + 2 ^ (64 * i) * (limb T i * num) = T % 2 ^ (64 * (i + 1)) * num):=Lib.hid fun i hi S hS => by
  constructor
  ·rw [hS,Nat.mul_add,Nat.pow_add];exact Nat.mul_lt_mul_of_lt_of_lt (Nat.mod_lt _ (Nat.two_pow_pos _)) hn
  ·rw [hS,mod_step,Nat.add_mul,Nat.mul_assoc]
 have HF : Hid (T % 2 ^ (64 * 4) * num = P):=Lib.hid (by rw [Nat.mod_eq_of_lt hT];exact hPe)
 rw [hPe]
 have HQ : Hid (∀ i,limb (P / den) i = (P / 2 ^ (64 * (i + 1)) % den * 18446744073709551616 + limb P i) / den∧P / 2 ^ (64 * i) % den = (P / 2 ^ (64 * (i + 1)) % den * 18446744073709551616 + limb P i) % den):=Lib.hid fun i => ⟨quo_limb hd,(div_step hd).2.1⟩
 have HT4 : Hid (P / 2 ^ (64 * 4) = limb P 4):=Lib.hid (top_word (by rw [← hPe];exact hP))
 have HFit : Hid (decide (P / den < 2 ^ 256) = decide (limb P 4 / den = 0)):=Lib.hid (decide_eq_decide.2 (fits_iff (by rw [← hPe];exact hP) hd).symm)
 have HM : Hid (∀ i,i < 4 → limb (P / den % 2 ^ 256) i = limb (P / den) i):=Lib.hid fun i hi => by
  apply Nat.eq_of_testBit_eq
  intro j
  rw [limb_bit,limb_bit,Nat.testBit_mod_two_pow]
  by_cases hj : j < 64
  ·have : decide (64 * i + j < 256) = true:=decide_eq_true (by omega)
   rw [this,Bool.true_and]
  ·rw [decide_eq_false hj,Bool.false_and,Bool.false_and]
 rw [HFit.out]
 obtain ⟨R,hR⟩ : ∃ R,P / den % 2 ^ 256 = R:=⟨_,rfl⟩
 rw [hR] at HM ⊢
 obtain ⟨tp,htp⟩ : ∃ x,limb P 4 / den = x:=⟨_,rfl⟩
 rw [htp]
 have Htp:=Lib.hid htp
 clear hP hPe hR HFit hT htp
 go_enter Tryz.func74,Tryz.ntmps74
 go_upto_region 2 with fail
 obtain ⟨w1,hw1⟩ : ∃ w1,w1 = (((w.alloc (.cells #[n64 (limb T 0),n64 (limb T 1),n64 (limb T 2),n64 (limb T 3)] 62)).alloc (.cells #[.int .u64 0,.int .u64 0,.int .u64 0,.int .u64 0] 62)).alloc (.cells #[.int .u64 0,.int .u64 0,.int .u64 0,.int .u64 0,.int .u64 0] 142)):=⟨_,rfl⟩
 have HA1 : Hid (Blk w1 w.heap.size 62 (uL T)):=by rw [hw1];exact ((Blk.new w 62 (uL T)).alloc _).alloc _
 have HR1 : Hid (Blk w1 (w.heap.size + 1) 62 [.int .u64 0,.int .u64 0,.int .u64 0,.int .u64 0]):=by
  rw [hw1]
  have h2:=Blk.new (w.alloc (.cells #[n64 (limb T 0),n64 (limb T 1),n64 (limb T 2),n64 (limb T 3)] 62)) 62 [.int .u64 0,.int .u64 0,.int .u64 0,.int .u64 0]
  rw [World.size_alloc] at h2
  exact h2.alloc _
 have HP1 : Hid (Blk w1 (w.heap.size + 1 + 1) 142 (qL (T % 2 ^ (64 * 0) * num))):=by
  rw [hw1,show T % 2 ^ (64 * 0) * num = 0 by rw [Nat.mul_zero,Nat.pow_zero,Nat.mod_one,Nat.zero_mul],qL_zero]
  have h2:=Blk.new ((w.alloc (.cells #[n64 (limb T 0),n64 (limb T 1),n64 (limb T 2),n64 (limb T 3)] 62)).alloc (.cells #[.int .u64 0,.int .u64 0,.int .u64 0,.int .u64 0] 62)) 142 [.int .u64 0,.int .u64 0,.int .u64 0,.int .u64 0,.int .u64 0]
  rw [World.size_alloc,World.size_alloc] at h2
  exact h2
 have HK1 : Hid (Keep w w1):=by rw [hw1];exact keep_trans (keep_trans (keep_new _ _) (keep_new _ _)) (keep_new _ _)
 rw [← hw1]
 clear hw1
 go_wp2_with fail
 go_loopw [9,10,11,12,17] (fun _ _ _ _ i wr => ∃ k : Nat,k ≤ 4∧i = .int .i64 (k : Int)∧Hid (Blk wr (w.heap.size + 1 + 1) 142 (qL (T % 2 ^ (64 * k) * num)))∧Hid (Blk wr w.heap.size 62 (uL T))∧Hid (Blk wr (w.heap.size + 1) 62 [.int .u64 0,.int .u64 0,.int .u64 0,.int .u64 0])∧Hid (Keep w wr)) (fun _ _ _ _ i _ => (4 - intOf i).toNat)
 case atStart => exact ⟨0,by omega,rfl,HP1,HA1,HR1,HK1⟩
 case round =>
  obtain ⟨k,hk,rfl,HPk,HA,HR,HK⟩:=hrel
  by_cases hlt : k < 4
  ·have i1 : (k : Int) < 4:=by omega
   obtain ⟨S,hSe⟩ : ∃ S,S = T % 2 ^ (64 * k) * num:=⟨_,rfl⟩
   obtain ⟨hS,hS2⟩:=HS.out k hlt S hSe
   rw [← hSe] at HPk
   have ht:=limb_lt T k
   have hp:=limb_lt S k
   obtain ⟨x1,x2,x3,x4⟩:=low_high hp ht hn
   have hst:=qL_step hlt hS x1
   rw [hS2,x2,x3] at hst
   have Hst:=Lib.hid hst
   have M1:=bits_Mul64 (limb T k) num ht hn
   have a0 : wr.cell? ⟨w.heap.size,k,none⟩ = some (n64 (limb T k)):=by rw [HA.out.cell,uL_get T k hlt]
   have p0 : wr.cell? ⟨w.heap.size + 1 + 1,k,none⟩ = some (n64 (limb S k)):=by rw [HPk.out.cell,qL_get S k (by omega)]
   have pf0 : wr.frozen? ⟨w.heap.size + 1 + 1,k,none⟩ = false:=HPk.out.frozen _
   have HM1:=Lib.hid M1
   clear M1 hst x1 x2 x3 hS hS2 hSe
   generalize limb T k = t at *
   have hlow : t * num % 18446744073709551616 < 18446744073709551616:=Nat.mod_lt _ (by decide)
   have hhigh : t * num / 18446744073709551616 < 18446744073709551616:=by rw [Nat.div_lt_iff_lt_mul (by decide)];exact Nat.mul_lt_mul_of_lt_of_lt ht hn
   have A1:=bits_Add64_0 (limb S k) (t * num % 18446744073709551616) hp hlow
   generalize limb S k = p at *
   generalize t * num % 18446744073709551616 = low at *
   generalize t * num / 18446744073709551616 = high at *
   obtain ⟨cc,hcc⟩ : ∃ cc,(p + low) / 18446744073709551616 = cc:=⟨_,rfl⟩
   obtain ⟨ll,hll⟩ : ∃ ll,(p + low) % 18446744073709551616 = ll:=⟨_,rfl⟩
   rw [hcc,hll] at A1
   have x4' : high + cc < 18446744073709551616:=by rw [← hcc];exact x4
   have Hst2 : Hid (((qL S).set k (n64 ll)).set (k + 1) (n64 (high + cc)) = qL (T % 2 ^ (64 * (k + 1)) * num)):=by rw [← hcc,← hll];exact Hst
   have w1' : IntKind.u64.wrap ((high : Int) + (cc : Int)) = (high : Int) + (cc : Int):=by rw [IntKind.wrap_u64];omega
   clear hcc hll x4 Hst
   go_upto_region 7 with (go_at_call 92;refine (HM1.out _).mono ?_;rintro e w' ⟨rfl,hw⟩;rw [hw])
   go_upto_region 8 with (simp only [A1])
   obtain ⟨w2,hw2⟩ : ∃ w2,w2 = wr.setCell ⟨w.heap.size + 1 + 1,k,none⟩ (.int .u64 (ll : Int)):=⟨_,rfl⟩
   have HP2 : Hid (Blk w2 (w.heap.size + 1 + 1) 142 ((qL S).set k (n64 ll))):=by rw [hw2];exact HPk.out.set_ _ _
   have HA2 : Hid (Blk w2 w.heap.size 62 (uL T)):=by rw [hw2];exact HA.out.far (by simp;omega) _
   have HR2 : Hid (Blk w2 (w.heap.size + 1) 62 [.int .u64 0,.int .u64 0,.int .u64 0,.int .u64 0]):=by rw [hw2];exact HR.out.far (by simp) _
   have HK2 : Hid (Keep w w2):=by rw [hw2];exact Below.setCell HK.out (by simp;omega) _
   rw [← hw2]
   clear hw2 a0 p0 pf0 HPk HA HR HK
   have p1 : w2.cell? ⟨w.heap.size + 1 + 1,k + 1,none⟩ = some (n64 (limb S (k + 1))):=by rw [HP2.out.cell,List.getElem?_set_ne (by omega),qL_get S (k + 1) (by omega)]
   have pf1 : w2.frozen? ⟨w.heap.size + 1 + 1,k + 1,none⟩ = false:=HP2.out.frozen _
   clear A1
   go_wp2
   go_roundw
   case rel =>
    refine ⟨k + 1,by omega,by go_num,Lib.hid ?_,Lib.hid (HA2.out.far (by simp;omega) _),Lib.hid (HR2.out.far (by simp) _),Lib.hid (Below.setCell HK2.out (by simp;omega) _)⟩
    have h1:=HP2.out.set_ (k + 1) (n64 (high + cc))
    rw [Hst2.out] at h1
    exact h1
   case measure => simp [intOf];omega
  ·obtain rfl : k = 4:=by omega
   have hPk:=HPk.out
   rw [HF.out] at hPk
   obtain ⟨w3,hw3⟩ : ∃ w3,w3 = wr.alloc (.cells #[.int .u64 0,.int .u64 0,.int .u64 0,.int .u64 0] 62):=⟨_,rfl⟩
   have HO3 : Hid (Blk w3 wr.heap.size 62 (hiL (P / den) 4)):=by rw [hw3];exact Blk.new wr 62 [.int .u64 0,.int .u64 0,.int .u64 0,.int .u64 0]
   have HP3 : Hid (Blk w3 (w.heap.size + 1 + 1) 142 (qL P)):=by rw [hw3];exact hPk.alloc _
   have HR3 : Hid (Blk w3 (w.heap.size + 1) 62 [.int .u64 0,.int .u64 0,.int .u64 0,.int .u64 0]):=by rw [hw3];exact HR.out.alloc _
   have HK3 : Hid (Keep w w3):=by rw [hw3];exact keep_trans HK.out (keep_new _ _)
   have hzr : w.heap.size + 1 + 1 < wr.heap.size:=HPk.out.lt
   have hp4:=limb_lt P 4
   have l4:=HQ.out 4
   have hL4 : Hid (limb P 4 % den = P / 2 ^ (64 * 4) % den):=Lib.hid (by rw [HT4.out])
   have htp:=Htp.out
   obtain ⟨lf,hlf⟩ : ∃ x,limb P 4 % den = x:=⟨_,rfl⟩
   rw [hlf] at hL4
   have q1 : Int.tdiv (limb P 4 : Int) (den : Int) = (tp : Int):=by rw [← htp];rfl
   have q1' : (limb P 4 : Int) / (den : Int) = (tp : Int):=by rw [← htp];rfl
   have q2 : Int.tmod (limb P 4 : Int) (den : Int) = (lf : Int):=by rw [← hlf];rfl
   have q2' : (limb P 4 : Int) % (den : Int) = (lf : Int):=by rw [← hlf];rfl
   have q3 : IntKind.u64.wrap (tp : Int) = (tp : Int):=Mul64.wrapN _ (by rw [← htp];exact Nat.lt_of_le_of_lt (Nat.div_le_self _ _) hp4)
   have d0 : (den : Int) ≠ 0:=by omega
   have d0' : ((den : Int) == 0) = false:=by rw [beq_eq_false_iff_ne];exact d0
   have d0'' : (den == 0) = false:=by rw [beq_eq_false_iff_ne];omega
   clear htp hlf l4 hp4 hPk HP1 HA1 HR1 HK1 HS HF HT4
   go_upto_region 11 with fail
   rw [← hw3]
   clear hw3 HPk HA HR HK
   generalize wr.heap.size = O at *
   refine wp_region_aft (by kernel_rfl) (by kernel_rfl) w3 (Below.refl _ _) ?_
   have p4:=aft_cell (show w3.cell? ⟨w.heap.size + 1 + 1,4,none⟩ = some (n64 (limb P 4)) by rw [HP3.out.cell,qL_get P 4 (by omega)])
   repeat (go_big_quiet_step (fail))
   refine wpQuiet_nil ?_
   rintro _ ⟨y',rfl⟩
   have j:=aft_keep w3 y'
   generalize aft w3 y' = w4 at j ⊢
   have HO4:=Lib.hid (HO3.out.keep j);have HP4:=Lib.hid (HP3.out.keep j);have HR4:=Lib.hid (HR3.out.keep j);have HK4:=Lib.hid (keep_trans HK3.out j)
   clear p4 q1 q1' q2 q2' q3 j HO3 HP3 HR3 HK3
   go_wp2_with fail
   go_loopw [15,16] (fun l i wr => ∃ k lf : Nat,k ≤ 4∧i = .int .i64 ((k : Int) - 1)∧l = .int .u64 (lf : Int)∧Hid (lf = P / 2 ^ (64 * k) % den)∧Hid (Blk wr O 62 (hiL (P / den) k))∧Hid (Blk wr (w.heap.size + 1 + 1) 142 (qL P))∧Hid (Blk wr (w.heap.size + 1) 62 [.int .u64 0,.int .u64 0,.int .u64 0,.int .u64 0])∧Hid (Keep w wr)) (fun _ i _ => (intOf i + 1).toNat)
   case atStart => exact ⟨4,lf,by omega,rfl,rfl,hL4,HO4,HP4,HR4,HK4⟩
   case round =>
    obtain ⟨k,lk,hk,rfl,rfl,HLk,HO,HP,HR,HK⟩:=hrel
    cases k with
    | zero =>
      have hO:=HO.out
      rw [hiL_zero,show uL (P / den) = uL R by unfold uL;rw [HM.out 0 (by omega),HM.out 1 (by omega),HM.out 2 (by omega),HM.out 3 (by omega)]] at hO
      have o0:=hO.cell 0;have o1:=hO.cell 1;have o2:=hO.cell 2;have o3:=hO.cell 3
      have hR:=HR.out
      have r0:=hR.cell 0;have r1:=hR.cell 1;have r2:=hR.cell 2;have r3:=hR.cell 3
      have f0:=hR.frozen 0;have f1:=hR.frozen 1;have f2:=hR.frozen 2;have f3:=hR.frozen 3
      simp only [uL,List.getElem?_cons_zero,List.getElem?_cons_succ] at o0 o1 o2 o3 r0 r1 r2 r3
      have hb8:=(((HR.out.set_ 0 (n64 (limb R 0))).set_ 1 (n64 (limb R 1))).set_ 2 (n64 (limb R 2))).set_ 3 (n64 (limb R 3))
      have HK8 : Hid (Keep w ((((wr.setCell ⟨w.heap.size + 1,0,none⟩ (n64 (limb R 0))).setCell ⟨w.heap.size + 1,1,none⟩ (n64 (limb R 1))).setCell ⟨w.heap.size + 1,2,none⟩ (n64 (limb R 2))).setCell ⟨w.heap.size + 1,3,none⟩ (n64 (limb R 3)))):=by
       refine Lib.hid ?_
       iterate 4 (refine Below.setCell ?_ (by simp) _)
       exact HK.out
      have Hb8:=Lib.hid hb8
      clear hb8 hO hR HO HR HLk
      go_wp2
      exact bodyPost_ret (v:=.tuple #[uV R,.bool ((tp : Int) == 0)]) (results_cell_tmp_row Tryz.results74 _ _ (w.heap.size + 1) _ _ _ _ rfl Hb8.out Tryz.underlying62 rfl (by kernel_rfl)) rfl ⟨by rw [show ((tp : Int) == 0) = decide (tp = 0) by rw [Bool.eq_iff_iff];simp],HK8.out⟩
    | succ k =>
      have hi : ((k + 1 : Nat) : Int) - 1 = (k : Int):=by omega
      rw [hi]
      have hlk : lk < den:=by rw [HLk.out];exact Nat.mod_lt _ hd
      obtain ⟨e1,e2⟩:=HQ.out k
      rw [← HLk.out] at e1 e2
      have D1:=bits_Div64 lk (limb P k) den hlk (limb_lt P k) hd2 wr
      rw [← e1,← e2] at D1
      have HD:=Lib.hid D1
      have hk4 : k < 4:=by omega
      have hset:=hiL_set (P / den) k hk4
      have Hset:=Lib.hid hset
      have p0 : wr.cell? ⟨w.heap.size + 1 + 1,k,none⟩ = some (n64 (limb P k)):=by rw [HP.out.cell,qL_get P k (by omega)]
      clear hi D1 e1 e2 hset hlk HLk
      obtain ⟨nl,hnl⟩ : ∃ x,P / 2 ^ (64 * k) % den = x:=⟨_,rfl⟩
      rw [hnl] at HD
      have Hnl:=Lib.hid hnl
      clear hnl
      generalize limb (P / den) k = qk at *
      go_wp2_with fail
      refine HD.out.mono ?_
      rintro e w5 ⟨rfl,k5⟩
      have HO5:=Lib.hid (HO.out.keep k5);have HP5:=Lib.hid (HP.out.keep k5);have HR5:=Lib.hid (HR.out.keep k5);have HK5:=Lib.hid (keep_trans HK.out k5)
      have p1 : ∃ v,w5.cell? ⟨O,k,none⟩ = some v:=⟨_,by rw [HO5.out.cell];exact List.getElem?_eq_getElem (by rw [hiL_len];omega)⟩
      obtain ⟨v1,p1⟩:=p1
      have pf1 : w5.frozen? ⟨O,k,none⟩ = false:=HO5.out.frozen _
      clear p0 HO HP HR HK HD k5
      go_wp2
      go_roundw
      case rel =>
       have h1:=HO5.out.set_ k (n64 qk)
       rw [Hset.out] at h1
       (repeat apply Exists.intro)
       exact ⟨⟨k,nl,by omega,by go_num,rfl,Lib.hid Hnl.out.symm,Lib.hid h1,Lib.hid (HP5.out.far (by simp;omega) _),Lib.hid (HR5.out.far (by simp;omega) _),Lib.hid (Below.setCell HK5.out (by simp;omega) _)⟩,rfl⟩
      case measure => simp [intOf]
end Go.Proofs.YtmbbknjddebhoaaGreatDoor
/- target.Shrink. -/
set_option linter.unusedSimpArgs false
set_option linter.unusedVariables false
namespace Go.Proofs.YtmbbknjddebhoaaGreatDoor
open Go.RowKit
attribute [local go_sem ↓] Go.wp_at_zero Go.wp_at_succ
theorem u32_or_nat (a b : Nat) (ha : a < 4294967296) (hb : b < 4294967296) : bits .or .u32 (a : Int) (b : Int) = ((a ||| b : Nat) : Int):=by
 have of : ∀ x : Nat,x < 4294967296 → (BitVec.ofInt 32 (x : Int)).toNat = x:=fun x hx => by
  rw [BitVec.ofInt_natCast,BitVec.toNat_ofNat];exact Nat.mod_eq_of_lt (by omega)
 have hlt : a ||| b < 2 ^ 32:=Nat.or_lt_two_pow ha hb
 show IntKind.u32.wrap ((BitVec.ofInt 32 (a : Int) ||| BitVec.ofInt 32 (b : Int)).toNat : Int) = _
 rw [BitVec.toNat_or,of _ ha,of _ hb,IntKind.wrap_u32]
 have : (2 : Nat) ^ 32 = 4294967296:=by decide
 omega
theorem and_bit23 (x : Nat) : x &&& 2 ^ 23 = x / 8388608 % 2 * 8388608:=by
 have hb : x.testBit 23 = decide (x / 8388608 % 2 = 1):=Nat.testBit_eq_decide_div_mod_eq
 apply Nat.eq_of_testBit_eq
 intro j
 rw [Nat.testBit_and,Nat.testBit_two_pow]
 rcases (show x / 8388608 % 2 = 0 ∨ x / 8388608 % 2 = 1 by omega) with e | e
 ·rw [e,Nat.zero_mul,Nat.zero_testBit]
  by_cases hj : 23 = j
  ·subst hj;rw [hb,e];rfl
  ·rw [decide_eq_false hj,Bool.and_false]
 ·rw [e,Nat.one_mul,show (8388608 : Nat) = 2 ^ 23 from rfl,Nat.testBit_two_pow]
  by_cases hj : 23 = j
  ·subst hj;rw [hb,e];rfl
  ·rw [decide_eq_false hj,Bool.and_false]
theorem u32_bit23 (m : Nat) : bits .and .u32 (m : Int) 8388608 = ((m / 8388608 % 2 * 8388608 : Nat) : Int):=by
 have h1 : (BitVec.ofInt 32 8388608).toNat = 2 ^ 23:=by decide
 have key : (BitVec.ofInt 32 (m : Int) &&& BitVec.ofInt 32 8388608).toNat = (((m : Int) % ((2 ^ 32 : Nat) : Int)).toNat / 8388608 % 2) * 8388608:=by
  rw [BitVec.toNat_and,BitVec.toNat_ofInt,h1,and_bit23]
 show IntKind.u32.wrap ((BitVec.ofInt 32 (m : Int) &&& BitVec.ofInt 32 8388608).toNat : Nat) = _
 rw [key,IntKind.wrap_u32]
 omega
theorem shr_zero : shrN 0 = 0:=rfl
theorem shr_val {T : Nat} (h0 : T ≠ 0) : shrN T = if ((if (lenN T + 7) / 8 < 3 then T * 2 ^ (8 * (3 - (lenN T + 7) / 8)) else T / 2 ^ (8 * ((lenN T + 7) / 8 - 3))) % 4294967296) / 8388608 % 2 = 1
  then UInt32.ofNat (((lenN T + 7) / 8 + 1) * 16777216 ||| ((if (lenN T + 7) / 8 < 3 then T * 2 ^ (8 * (3 - (lenN T + 7) / 8)) else T / 2 ^ (8 * ((lenN T + 7) / 8 - 3))) % 4294967296) / 256)
  else UInt32.ofNat ((lenN T + 7) / 8 * 16777216 ||| ((if (lenN T + 7) / 8 < 3 then T * 2 ^ (8 * (3 - (lenN T + 7) / 8)) else T / 2 ^ (8 * ((lenN T + 7) / 8 - 3))) % 4294967296)):=if_neg h0
theorem limb0_mod (N : Nat) : limb N 0 % 4294967296 = N % 4294967296:=by
 unfold limb
 rw [Nat.mul_zero,Nat.pow_zero,Nat.div_one]
 exact Nat.mod_mod_of_dvd _ (by decide)
theorem mod256_mod (N : Nat) : N % 2 ^ 256 % 4294967296 = N % 4294967296:=Nat.mod_mod_of_dvd _ (by decide)
theorem u32v_ofNat {n : Nat} (h : n < 4294967296) : u32v (UInt32.ofNat n) = .int .u32 (n : Int):=by
 unfold u32v;rw [UInt32.toNat_ofNat',Nat.mod_eq_of_lt h]
set_option maxRecDepth 100000 in
set_option maxHeartbeats 4000000 in
theorem shrink_any (T : Nat) (w : World) (hT : T < 2 ^ 256) : Calls Tryz.prog 75 #[uV T] w fun e w' => e = .returned (u32v (shrN T))∧Keep w w':=by
 have HE : ∀ W,(Go.binOp .eql 62 (uV T) u0).run Tryz.prog W = .ok (.bool (decide (T = 0))) W:=fun W => by
  have:=u_eql hT (Nat.two_pow_pos 256) W
  rw [uV_zero] at this;exact this
 have hgd:=u256_guard
 by_cases h0 : T = 0
 ·rw [decide_eq_true h0] at HE
  have hz : u32v (shrN T) = .int .u32 0:=by rw [h0,shr_zero];rfl
  rw [hz]
  clear hz h0 hT
  go_enter Tryz.func75,Tryz.ntmps75
  go_wp2
  exact bodyPost_ret (v:=.int .u32 0) (by simp [results,Tryz.results75]) rfl ⟨rfl,keep_new _ _⟩
 ·rw [decide_eq_false h0] at HE
  have hv:=shr_val h0
  have hL : lenN T ≤ 256:=lenN_le hT
  have L1 : Hid (∀ y,Calls Tryz.prog 73 #[uV T] y fun e w' => e = .returned (.int .i64 (lenN T : Nat))∧Keep y w'):=Lib.hid fun y => len_any T y hT
  obtain ⟨e,he⟩ : ∃ e,(lenN T + 7) / 8 = e:=⟨_,rfl⟩
  rw [he] at hv
  have he32 : e ≤ 32:=by omega
  have q1 : Int.tdiv ((lenN T : Int) + 7) 8 = (e : Int):=by rw [Int.tdiv_eq_ediv_of_nonneg (by omega)];omega
  generalize lenN T = L at *
  have hm4 : (if e < 3 then T * 2 ^ (8 * (3 - e)) else T / 2 ^ (8 * (e - 3))) % 4294967296 < 4294967296:=Nat.mod_lt _ (by decide)
  have HM : Hid (∀ m,(if e < 3 then T * 2 ^ (8 * (3 - e)) else T / 2 ^ (8 * (e - 3))) % 4294967296 = m → (e < 3 → T * 2 ^ (8 * (3 - e)) % 4294967296 = m)∧(¬ e < 3 → T / 2 ^ (8 * (e - 3)) % 4294967296 = m)):=Lib.hid fun m h => by
   constructor
   ·intro h3;rw [if_pos h3] at h;exact h
   ·intro h3;rw [if_neg h3] at h;exact h
  replace HM:=Lib.hid (HM.out _ rfl)
  generalize (if e < 3 then T * 2 ^ (8 * (3 - e)) else T / 2 ^ (8 * (e - 3))) % 4294967296 = m at *
  obtain ⟨m8,hm8⟩ : ∃ x,m / 256 = x:=⟨_,rfl⟩
  obtain ⟨v6,hv6⟩ : ∃ x,(e + 1) * 16777216 ||| m8 = x:=⟨_,rfl⟩
  obtain ⟨v5,hv5⟩ : ∃ x,e * 16777216 ||| m = x:=⟨_,rfl⟩
  have z5 : v5 < 4294967296:=by rw [← hv5];exact Nat.or_lt_two_pow (n:=32) (by omega) hm4
  have z6 : v6 < 4294967296:=by rw [← hv6];exact Nat.or_lt_two_pow (n:=32) (by omega) (by omega)
  have q5 : bits .or .u32 ((e : Int) * 16777216) (m : Int) = (v5 : Int):=by
   rw [show (e : Int) * 16777216 = ((e * 16777216 : Nat) : Int) by omega,← hv5];exact u32_or_nat _ _ (by omega) hm4
  have q6 : bits .or .u32 (((e : Int) + 1) * 16777216) (m8 : Int) = (v6 : Int):=by
   rw [show ((e : Int) + 1) * 16777216 = (((e + 1) * 16777216 : Nat) : Int) by omega,← hv6];exact u32_or_nat _ _ (by omega) (by omega)
  have q4 : (m : Int) / 256 = (m8 : Int):=by omega
  rw [hm8,hv6,hv5] at hv
  have Q4:=Lib.hid q4;have Q5:=Lib.hid q5;have Q6:=Lib.hid q6
  clear hm8 hv6 hv5 q4 q5 q6
  have HV:=Lib.hid hv
  have HT:=Lib.hid hT
  generalize shrN T = R at *
  clear he hv h0 hT
  go_enter Tryz.func75,Tryz.ntmps75
  go_upto_region 1 with fail
  obtain ⟨w1,hw1⟩ : ∃ w1,w1 = w.alloc (.cells #[n64 (limb T 0),n64 (limb T 1),n64 (limb T 2),n64 (limb T 3)] 62):=⟨_,rfl⟩
  have HT1 : Hid (Blk w1 w.heap.size 62 (uL T)):=by rw [hw1];exact Blk.new w 62 (uL T)
  have HK1 : Hid (Keep w w1):=by rw [hw1];exact keep_new _ _
  rw [← hw1]
  clear hw1
  have hT:=HT1.out
  have t0:=hT.cell 0;have t1:=hT.cell 1;have t2:=hT.cell 2;have t3:=hT.cell 3
  simp only [uL,List.getElem?_cons_zero,List.getElem?_cons_succ] at t0 t1 t2 t3
  clear hT
  go_wp2_with fail
  refine (L1.out _).mono ?_
  rintro e' w2 ⟨rfl,k2⟩
  have HT2:=Lib.hid (HT1.out.keep k2);have HK2:=Lib.hid (keep_trans HK1.out k2)
  clear k2 L1 HT1 HK1 t0 t1 t2 t3 HE
  go_upto_region 4 with fail
  clear q1
  go_upto_if 13 with fail
  go_cut [3] (fun v wx => ∃ X,v = .int .i64 e∧Hid (X % 4294967296 = m)∧Hid (Blk wx w.heap.size 62 (uL X))∧Hid (Keep w wx))
  case first =>
   have hT:=HT2.out
   have t0:=hT.cell 0;have t1:=hT.cell 1;have t2:=hT.cell 2;have t3:=hT.cell 3
   have g0:=hT.frozen 0;have g1:=hT.frozen 1;have g2:=hT.frozen 2;have g3:=hT.frozen 3
   simp only [uL,List.getElem?_cons_zero,List.getElem?_cons_succ] at t0 t1 t2 t3
   clear hT
   by_cases h3 : e < 3
   ·have hX:=HM.out.1 h3
    rw [← mod256_mod] at hX
    have C6 : Hid (∀ y,Calls Tryz.prog 55 #[uV T,.int .i64 (8 * (3 - (e : Int)))] y fun e' w' => e' = .returned (.tuple #[uV (T * 2 ^ (8 * (3 - e)) % 2 ^ 256),.bool (decide (2 ^ 256 ≤ T * 2 ^ (8 * (3 - e))))])∧Keep y w'):=Lib.hid fun y => by
     have h1:=shl_any T (8 * (3 - e)) y HT.out (by omega)
     rw [show ((8 * (3 - e) : Nat) : Int) = 8 * (3 - (e : Int)) by omega] at h1
     exact h1
    have HX:=Lib.hid hX
    clear hX HM
    generalize decide (2 ^ 256 ≤ T * 2 ^ (8 * (3 - e))) = ov at *
    generalize T * 2 ^ (8 * (3 - e)) % 2 ^ 256 = X at *
    have d1 : decide ((e : Int) < 3) = true:=decide_eq_true (by omega)
    have d2 : decide (e < 3) = true:=decide_eq_true h3
    have h3' : (e : Int) < 3:=by omega
    clear h3
    go_upto_region 5 with fail
    go_wp2_with fail
    refine (C6.out _).mono ?_
    rintro e' w4 ⟨rfl,k4⟩
    have HT4:=Lib.hid (HT2.out.keep k4);have HK4:=Lib.hid (keep_trans HK2.out k4)
    clear t0 t1 t2 t3 g0 g1 g2 g3 k4 C6
    have hT:=HT4.out
    have t0:=hT.cell 0;have t1:=hT.cell 1;have t2:=hT.cell 2;have t3:=hT.cell 3
    have g0:=hT.frozen 0;have g1:=hT.frozen 1;have g2:=hT.frozen 2;have g3:=hT.frozen 3
    simp only [uL,List.getElem?_cons_zero,List.getElem?_cons_succ] at t0 t1 t2 t3
    clear hT
    go_wp2
    go_meet
    refine ⟨X,rfl,HX,Lib.hid ((((HT4.out.set_ 0 _).set_ 1 _).set_ 2 _).set_ 3 _),Lib.hid ?_⟩
    iterate 4 (refine Below.setCell ?_ (by simp) _)
    exact HK4.out
   ·have hX:=HM.out.2 h3
    have C6 : Hid (∀ y,Calls Tryz.prog 54 #[uV T,.int .i64 (8 * ((e : Int) - 3))] y fun e' w' => e' = .returned (uV (T / 2 ^ (8 * (e - 3))))∧Keep y w'):=Lib.hid fun y => by
     have h1:=shr_any T (8 * (e - 3)) y HT.out (by omega)
     rw [show ((8 * (e - 3) : Nat) : Int) = 8 * ((e : Int) - 3) by omega] at h1
     exact h1
    have HX:=Lib.hid hX
    clear hX HM
    generalize T / 2 ^ (8 * (e - 3)) = X at *
    have d1 : decide ((e : Int) < 3) = false:=decide_eq_false (by omega)
    have d2 : decide (e < 3) = false:=decide_eq_false h3
    have h3' : 3 ≤ (e : Int):=by omega
    clear h3
    go_upto_region 6 with fail
    go_wp2_with fail
    refine (C6.out _).mono ?_
    rintro e' w4 ⟨rfl,k4⟩
    have HT4:=Lib.hid (HT2.out.keep k4);have HK4:=Lib.hid (keep_trans HK2.out k4)
    clear t0 t1 t2 t3 g0 g1 g2 g3 k4 C6
    have hT:=HT4.out
    have t0:=hT.cell 0;have t1:=hT.cell 1;have t2:=hT.cell 2;have t3:=hT.cell 3
    have g0:=hT.frozen 0;have g1:=hT.frozen 1;have g2:=hT.frozen 2;have g3:=hT.frozen 3
    simp only [uL,List.getElem?_cons_zero,List.getElem?_cons_succ] at t0 t1 t2 t3
    clear hT
    go_wp2
    go_meet
    refine ⟨X,rfl,HX,Lib.hid ((((HT4.out.set_ 0 _).set_ 1 _).set_ 2 _).set_ 3 _),Lib.hid ?_⟩
    iterate 4 (refine Below.setCell ?_ (by simp) _)
    exact HK4.out
  case rest =>
   obtain ⟨X,rfl,HX,HTc,HKc⟩:=hcut
   have t0:=HTc.out.cell 0
   simp only [uL,List.getElem?_cons_zero] at t0
   have q2 : IntKind.u32.wrap (limb X 0 : Int) = (m : Int):=by
    have h1:=limb0_mod X
    rw [HX.out] at h1
    rw [IntKind.wrap_u32];omega
   have q3:=u32_bit23 m
   have q4:=Q4.out;have q5:=Q5.out;have q6:=Q6.out
   by_cases hb : m / 8388608 % 2 = 1
   ·have hR:=HV.out
    rw [if_pos hb] at hR
    have hRv : u32v R = .int .u32 (v6 : Int):=by rw [hR];exact u32v_ofNat z6
    have HRv:=Lib.hid hRv
    rw [hb] at q3
    clear hR hRv HV hb q5 z5
    go_wp2
    rw [HRv.out]
    exact bodyPost_ret (v:=.int .u32 (v6 : Int)) (by simp [results,Tryz.results75]) rfl ⟨rfl,HKc.out⟩
   ·have hR:=HV.out
    rw [if_neg hb] at hR
    have hRv : u32v R = .int .u32 (v5 : Int):=by rw [hR];exact u32v_ofNat z5
    have HRv:=Lib.hid hRv
    rw [show m / 8388608 % 2 = 0 by omega] at q3
    clear hR hRv HV hb q6 z6 q4
    go_wp2
    rw [HRv.out]
    exact bodyPost_ret (v:=.int .u32 (v5 : Int)) (by simp [results,Tryz.results75]) rfl ⟨rfl,HKc.out⟩
end Go.Proofs.YtmbbknjddebhoaaGreatDoor
/- target.Scale. -/
set_option linter.unusedSimpArgs false
set_option linter.unusedVariables false
namespace Go.Proofs.YtmbbknjddebhoaaGreatDoor
open Go.RowKit
attribute [local go_sem ↓] Go.wp_at_zero Go.wp_at_succ
set_option maxRecDepth 100000 in
set_option maxHeartbeats 4000000 in
theorem scale_any (bits limit : UInt32) (num den : Nat) (w : World) (hn : num < 18446744073709551616) (hd2 : den < 18446744073709551616) :
  Calls Tryz.prog 58 #[u32v bits,n64 num,n64 den,u32v limit] w fun e w' => e = .returned (u32v (scaN bits num den limit))∧Keep w w':=by
 have E1 : Hid (∀ y,Calls Tryz.prog 33 #[u32v bits] y fun e w' => e = .returned (.tuple #[uV (expN bits).1,.int .i64 (expN bits).2])∧Keep y w'):=Lib.hid fun y => expand_any bits y
 have E2 : Hid (∀ y,Calls Tryz.prog 33 #[u32v limit] y fun e w' => e = .returned (.tuple #[uV (expN limit).1,.int .i64 (expN limit).2])∧Keep y w'):=Lib.hid fun y => expand_any limit y
 have b1:=expN_lt bits;have b2:=expN_lt limit
 have HM : Hid (∀ R,scaN bits num den limit = R → R = if (expN bits).2 ≠ 0 ∨ num = 0 ∨ den = 0 then limit else if (expN limit).2 ≠ 0 then limit else shrN (if 2 ^ 256 ≤ (expN bits).1 * num / den ∨ (expN bits).1 * num / den = 0 ∨ (expN limit).1 < (expN bits).1 * num / den then (expN limit).1 else (expN bits).1 * num / den)):=Lib.hid fun R e => by subst e;rfl
 replace HM:=Lib.hid (HM.out _ rfl)
 generalize scaN bits num den limit = R at *
 generalize expN bits = X at *
 generalize expN limit = Y at *
 obtain ⟨T,te⟩:=X
 obtain ⟨L,le⟩:=Y
 simp only at b1 b2
 have B1:=Lib.hid b1;have B2:=Lib.hid b2
 clear b1 b2
 go_enter Tryz.func58,Tryz.ntmps58
 go_wp2_with fail
 refine (E1.out _).mono ?_
 clear E1
 rintro e w2 ⟨rfl,k2⟩
 have HK2:=Lib.hid k2
 have hzw : w.heap.size ≤ w2.heap.size:=k2.size
 clear k2
 go_upto_region 2 with fail
 obtain ⟨w3,hw3⟩ : ∃ w3,w3 = w2.alloc (.cells #[n64 (limb T 0),n64 (limb T 1),n64 (limb T 2),n64 (limb T 3)] 62):=⟨_,rfl⟩
 have HT3 : Hid (Blk w3 w2.heap.size 62 (uL T)):=by rw [hw3];exact Blk.new w2 62 (uL T)
 have HK3 : Hid (Keep w w3):=by rw [hw3];exact keep_trans HK2.out (keep_new _ _)
 rw [← hw3]
 clear hw3 HK2
 generalize w2.heap.size = B at *
 by_cases hbad : te ≠ 0 ∨ num = 0 ∨ den = 0
 ·have hM:=HM.out
  rw [if_pos hbad] at hM
  subst hM
  clear HM
  by_cases h1 : te = 0
  ·subst h1
   by_cases h2 : num = 0
   ·subst h2
    clear hbad
    go_wp2
    exact bodyPost_ret (v:=u32v R) (by simp [results,Tryz.results58]) rfl ⟨rfl,HK3.out⟩
   ·have h3 : den = 0:=hbad.resolve_left (by simp) |>.resolve_left h2
    subst h3
    have d1 : (num == 0) = false:=by simp [h2]
    have d2 : ((num : Int) == 0) = false:=by rw [beq_eq_false_iff_ne];omega
    clear hbad h2
    go_wp2
    exact bodyPost_ret (v:=u32v R) (by simp [results,Tryz.results58]) rfl ⟨rfl,HK3.out⟩
  ·have d1 : (te != 0) = true:=by simp [h1]
   clear hbad h1
   go_wp2
   exact bodyPost_ret (v:=u32v R) (by simp [results,Tryz.results58]) rfl ⟨rfl,HK3.out⟩
 ·have hM:=HM.out
  rw [if_neg hbad] at hM
  replace HM:=Lib.hid hM
  have h1 : te = 0:=Classical.byContradiction fun e => hbad (Or.inl e)
  have h2 : num ≠ 0:=fun e => hbad (Or.inr (Or.inl e))
  have h3 : den ≠ 0:=fun e => hbad (Or.inr (Or.inr e))
  subst h1
  have d1 : (num == 0) = false:=by simp [h2]
  have d2 : ((num : Int) == 0) = false:=by rw [beq_eq_false_iff_ne];omega
  have d3 : (den == 0) = false:=by simp [h3]
  have d4 : ((den : Int) == 0) = false:=by rw [beq_eq_false_iff_ne];omega
  have S1 : Hid (∀ y,Calls Tryz.prog 74 #[uV T,n64 num,n64 den] y fun e w' => e = .returned (.tuple #[uV (T * num / den % 2 ^ 256),.bool (decide (T * num / den < 2 ^ 256))])∧Keep y w'):=Lib.hid fun y => share_any T num den y B1.out hn (Nat.pos_of_ne_zero h3) hd2
  clear hM hbad h2 h3
  go_wp2_with fail
  refine (E2.out _).mono ?_
  clear E2
  rintro e w4 ⟨rfl,k4⟩
  have HT4:=Lib.hid (HT3.out.keep k4);have HK4:=Lib.hid (keep_trans HK3.out k4)
  have hz4 : B < w4.heap.size:=HT4.out.lt
  clear k4 HT3 HK3 d1 d2 d3 d4
  go_upto_region 5 with fail
  obtain ⟨w5,hw5⟩ : ∃ w5,w5 = w4.alloc (.cells #[n64 (limb L 0),n64 (limb L 1),n64 (limb L 2),n64 (limb L 3)] 62):=⟨_,rfl⟩
  have HL5 : Hid (Blk w5 w4.heap.size 62 (uL L)):=by rw [hw5];exact Blk.new w4 62 (uL L)
  have HT5 : Hid (Blk w5 B 62 (uL T)):=by rw [hw5];exact HT4.out.alloc _
  have HK5 : Hid (Keep w w5):=by rw [hw5];exact keep_trans HK4.out (keep_new _ _)
  rw [← hw5]
  clear hw5 HT4 HK4
  generalize w4.heap.size = D at *
  by_cases hle : le = 0
  ·subst hle
   have hM:=HM.out
   rw [if_neg (by simp)] at hM
   replace HM:=Lib.hid hM
   clear hM
   have hT:=HT5.out
   have t0:=hT.cell 0;have t1:=hT.cell 1;have t2:=hT.cell 2;have t3:=hT.cell 3
   simp only [uL,List.getElem?_cons_zero,List.getElem?_cons_succ] at t0 t1 t2 t3
   clear hT
   have hq0 : T * num / den % 2 ^ 256 < 2 ^ 256:=Nat.mod_lt _ (Nat.two_pow_pos _)
   have HQ : Hid (∀ q,T * num / den = q → (R = shrN (if 2 ^ 256 ≤ q ∨ q = 0 ∨ L < q then L else q))):=Lib.hid fun q e => by rw [← e];exact HM.out
   obtain ⟨q,hq⟩ : ∃ q,T * num / den = q:=⟨_,rfl⟩
   have HQ2:=Lib.hid (HQ.out q hq)
   rw [hq] at S1 hq0
   clear hq HQ HM
   obtain ⟨o,ho⟩ : ∃ o,q % 2 ^ 256 = o:=⟨_,rfl⟩
   obtain ⟨ft,hft⟩ : ∃ b,decide (q < 2 ^ 256) = b:=⟨_,rfl⟩
   rw [ho,hft] at S1
   rw [ho] at hq0
   have HO:=Lib.hid ho;have HF:=Lib.hid hft
   have HE : Hid (∀ W,(Go.binOp .eql 62 (uV o) u0).run Tryz.prog W = .ok (.bool (decide (o = 0))) W):=Lib.hid fun W => by
    have:=u_eql hq0 (Nat.two_pow_pos 256) W
    rw [uV_zero] at this;exact this
   have C1 : Hid (∀ y,Calls Tryz.prog 38 #[uV o,uV L] y fun e w' => e = .returned (.int .i64 (cmpN o L))∧Keep y w'):=Lib.hid fun y => cmp_any o L y hq0 B2.out
   have g1:=cmpN_gt o L
   generalize cmpN o L = c1 at *
   have HO256:=Lib.hid hq0
   have hgd:=u256_guard
   clear ho hft hq0
   go_wp2_with fail
   refine (S1.out _).mono ?_
   clear S1
   rintro e w6 ⟨rfl,k6⟩
   have HL6:=Lib.hid (HL5.out.keep k6);have HK6:=Lib.hid (keep_trans HK5.out k6)
   have hz6 : D < w6.heap.size:=HL6.out.lt
   clear k6 HL5 HT5 HK5 t0 t1 t2 t3
   go_upto_region 8 with fail
   obtain ⟨w7,hw7⟩ : ∃ w7,w7 = w6.alloc (.cells #[n64 (limb o 0),n64 (limb o 1),n64 (limb o 2),n64 (limb o 3)] 62):=⟨_,rfl⟩
   have HO7 : Hid (Blk w7 w6.heap.size 62 (uL o)):=by rw [hw7];exact Blk.new w6 62 (uL o)
   have HL7 : Hid (Blk w7 D 62 (uL L)):=by rw [hw7];exact HL6.out.alloc _
   have HK7 : Hid (Keep w w7):=by rw [hw7];exact keep_trans HK6.out (keep_new _ _)
   rw [← hw7]
   clear hw7 HL6 HK6
   generalize w6.heap.size = E at *
   obtain ⟨V,hV⟩ : ∃ V,decide (ft = false ∨ o = 0 ∨ L < o) = V:=⟨_,rfl⟩
   have HV:=Lib.hid hV
   clear hV
   go_cut [57] (fun v wx => v = .bool V∧Hid (Keep w7 wx))
   case first =>
    have he:=HE.out
    have hO:=HO7.out
    have o0:=hO.cell 0;have o1:=hO.cell 1;have o2:=hO.cell 2;have o3:=hO.cell 3
    have hL:=HL7.out
    have l0:=hL.cell 0;have l1:=hL.cell 1;have l2:=hL.cell 2;have l3:=hL.cell 3
    simp only [uL,List.getElem?_cons_zero,List.getElem?_cons_succ] at o0 o1 o2 o3 l0 l1 l2 l3
    clear hO hL
    cases ft with
    | false =>
      obtain rfl : V = true:=by rw [← HV.out];exact decide_eq_true (Or.inl rfl)
      clear he HF HV
      go_wp2_with fail
      go_meet
      exact ⟨rfl,Lib.hid (Below.refl _ _)⟩
    | true =>
      by_cases h0 : o = 0
      ·obtain rfl : V = true:=by rw [← HV.out];exact decide_eq_true (Or.inr (Or.inl h0))
       rw [decide_eq_true h0] at he
       clear HF h0 HV
       go_wp2_with fail
       go_meet
       exact ⟨rfl,Lib.hid (Below.refl _ _)⟩
      ·rw [decide_eq_false h0] at he
       have hdec : decide (true = false ∨ o = 0 ∨ L < o) = decide (L < o):=by
        apply decide_eq_decide.2
        constructor
        ·intro h;rcases h with h | h | h
         ·cases h
         ·exact absurd h h0
         ·exact h
        ·intro h;exact Or.inr (Or.inr h)
       have hVe:=HV.out
       rw [hdec] at hVe
       have HVe:=Lib.hid hVe
       clear HF h0 hdec HV hVe
       go_wp2_with fail
       refine (C1.out _).mono ?_
       rintro e w8 ⟨rfl,k8⟩
       have K8:=Lib.hid k8
       clear he o0 o1 o2 o3 l0 l1 l2 l3 k8
       go_wp2
       go_meet
       exact ⟨by rw [← HVe.out],K8⟩
   case rest =>
    obtain ⟨rfl,HK8⟩:=hcut
    have HO8:=Lib.hid (HO7.out.keep HK8.out);have HL8:=Lib.hid (HL7.out.keep HK8.out);have HKc:=Lib.hid (keep_trans HK7.out HK8.out)
    clear HO7 HL7 HK7 HK8 HE C1 g1
    have hO:=HO8.out
    have o0:=hO.cell 0;have o1:=hO.cell 1;have o2:=hO.cell 2;have o3:=hO.cell 3
    have f0:=hO.frozen 0;have f1:=hO.frozen 1;have f2:=hO.frozen 2;have f3:=hO.frozen 3
    have hL:=HL8.out
    have l0:=hL.cell 0;have l1:=hL.cell 1;have l2:=hL.cell 2;have l3:=hL.cell 3
    simp only [uL,List.getElem?_cons_zero,List.getElem?_cons_succ] at o0 o1 o2 o3 l0 l1 l2 l3
    clear hO hL
    by_cases hc : ft = false ∨ o = 0 ∨ L < o
    ·have hR : R = shrN L:=by
      rw [HQ2.out]
      by_cases hqq : q < 2 ^ 256
      ·have e1 : o = q:=by rw [← HO.out];exact Nat.mod_eq_of_lt hqq
       have e2 : ft = true:=by rw [← HF.out];exact decide_eq_true hqq
       rw [e1,e2] at hc
       rw [if_pos (Or.inr (hc.resolve_left (by simp)))]
      ·rw [if_pos (Or.inl (Nat.le_of_not_lt hqq))]
     have S2 : Hid (∀ y,Calls Tryz.prog 75 #[uV L] y fun e w' => e = .returned (u32v R)∧Keep y w'):=Lib.hid fun y => by rw [hR];exact shrink_any L y B2.out
     obtain rfl : V = true:=by rw [← HV.out];exact decide_eq_true hc
     clear hR HQ2 HO HF hc HV
     go_upto_region 10 with fail
     obtain ⟨w9,hw9⟩ : ∃ w9,w9 = ((((wc.setCell ⟨E,0,none⟩ (n64 (limb L 0))).setCell ⟨E,1,none⟩ (n64 (limb L 1))).setCell ⟨E,2,none⟩ (n64 (limb L 2))).setCell ⟨E,3,none⟩ (n64 (limb L 3))):=⟨_,rfl⟩
     have HL9 : Hid (Blk w9 E 62 (uL L)):=by rw [hw9];exact (((HO8.out.set_ 0 _).set_ 1 _).set_ 2 _).set_ 3 _
     have HK9 : Hid (Keep w w9):=by
      rw [hw9];refine Lib.hid ?_
      iterate 4 (refine Below.setCell ?_ (by simp;omega) _)
      exact HKc.out
     rw [← hw9]
     clear hw9 o0 o1 o2 o3 f0 f1 f2 f3 l0 l1 l2 l3
     have hL:=HL9.out
     have l0:=hL.cell 0;have l1:=hL.cell 1;have l2:=hL.cell 2;have l3:=hL.cell 3
     simp only [uL,List.getElem?_cons_zero,List.getElem?_cons_succ] at l0 l1 l2 l3
     clear hL
     go_wp2_with fail
     refine (S2.out _).mono ?_
     rintro e wa ⟨rfl,ka⟩
     have HKa:=Lib.hid (keep_trans HK9.out ka)
     clear l0 l1 l2 l3 ka S2
     go_wp2
     exact bodyPost_ret (v:=u32v R) (by simp [results,Tryz.results58]) rfl ⟨rfl,HKa.out⟩
    ·have hR : R = shrN o:=by
      have hf : ft = true:=by cases ft;exact absurd (Or.inl rfl) hc;rfl
      have hqq : q < 2 ^ 256:=of_decide_eq_true (HF.out.trans hf)
      have e1 : o = q:=by rw [← HO.out];exact Nat.mod_eq_of_lt hqq
      rw [HQ2.out,if_neg,e1]
      rw [e1] at hc
      intro h
      rcases h with h | h
      ·exact absurd hqq (Nat.not_lt_of_le h)
      ·exact hc (Or.inr h)
     have S2 : Hid (∀ y,Calls Tryz.prog 75 #[uV o] y fun e w' => e = .returned (u32v R)∧Keep y w'):=Lib.hid fun y => by rw [hR];exact shrink_any o y HO256.out
     obtain rfl : V = false:=by rw [← HV.out];exact decide_eq_false hc
     clear hR HQ2 HO HF hc HV
     go_wp2_with fail
     refine (S2.out _).mono ?_
     rintro e wa ⟨rfl,ka⟩
     have HKa:=Lib.hid (keep_trans HKc.out ka)
     clear l0 l1 l2 l3 ka S2
     go_wp2
     exact bodyPost_ret (v:=u32v R) (by simp [results,Tryz.results58]) rfl ⟨rfl,HKa.out⟩
  ·have hM:=HM.out
   rw [if_pos hle] at hM
   subst hM
   have d1 : (le != 0) = true:=by simp [hle]
   clear hle HM
   go_wp2
   exact bodyPost_ret (v:=u32v R) (by simp [results,Tryz.results58]) rfl ⟨rfl,HK5.out⟩
end Go.Proofs.YtmbbknjddebhoaaGreatDoor
/- retarget: between, within, all, Clamp, First. -/
set_option linter.unusedSimpArgs false
set_option linter.unusedVariables false
namespace Go.Proofs.YtmbbknjddebhoaaGreatDoor
open Go.RowKit
attribute [local go_sem ↓] Go.wp_at_zero Go.wp_at_succ
def btw (n a b : Int) : Int:=min (max n a) b
theorem btw_eq {n a b : Int} (h : a ≤ b) : (n == btw n a b) = decide (a ≤ n∧n ≤ b):=by
 unfold btw
 rw [Bool.eq_iff_iff];simp;omega
set_option maxRecDepth 100000 in
theorem between_any (n a b : Int) (w : World) : Calls Tryz.prog 56 #[iv n,iv a,iv b] w fun e w' => e = .returned (iv (btw n a b))∧w' = w:=by
 have hM : Hid (∀ r,btw n a b = r → r = min (max n a) b):=Lib.hid fun r e => by subst e;rfl
 replace hM:=Lib.hid (hM.out _ rfl)
 generalize btw n a b = r at *
 go_enter Tryz.func56,Tryz.ntmps56
 go_wp2
 exact bodyPost_ret (v:=iv r) (by rw [hM.out];simp [results,Tryz.results56]) rfl ⟨rfl,rfl⟩
set_option maxRecDepth 100000 in
theorem within_any (n a b : Int) (hab : a ≤ b) (w : World) : Calls Tryz.prog 35 #[iv n,iv a,iv b] w fun e w' => e = .returned (.bool (decide (a ≤ n∧n ≤ b)))∧w' = w:=by
 have hb:=btw_eq (n:=n) hab
 have HB:=Lib.hid hb
 clear hb hab
 go_enter Tryz.func35,Tryz.ntmps35
 go_wp2_with fail
 refine (between_any n a b _).mono ?_
 rintro x w' ⟨rfl,rfl⟩
 go_wp2
 exact bodyPost_ret (v:=.bool (decide (a ≤ n∧n ≤ b))) (by rw [← HB.out];simp [results,Tryz.results35]) rfl ⟨rfl,rfl⟩
set_option maxRecDepth 100000 in
set_option maxHeartbeats 1000000 in
theorem all_any (A : Option Addr) (l : List Bool) (c : Nat) (w : World) (hl : l.length ≤ 100) (hr : Rd w A (l.map Value.bool)) :
  Calls Tryz.prog 34 #[.slice A l.length c] w fun e w' => e = .returned (.bool (l.all id))∧w' = w:=by
 have HA : Hid (∀ r,l.all id = r → r = l.all id):=Lib.hid fun r e => e.symm
 obtain ⟨r,hr0⟩ : ∃ r,r = l.all id:=⟨_,rfl⟩
 rw [← hr0]
 replace hr0:=Lib.hid hr0
 clear HA
 go_enter Tryz.func34,Tryz.ntmps34
 go_wp2
 go_loopw [7] (fun i wr => ∃ k : Nat,k ≤ l.length∧i = .int .i64 k∧(l.take k).all id = true∧wr = w) (fun i _ => l.length - (intOf i).toNat)
 case atStart => exact ⟨0,Nat.zero_le _,rfl,rfl,rfl⟩
 case round =>
  obtain ⟨k,hk,rfl,hall,rfl⟩:=hrel
  by_cases hkl : k < l.length
  ·have g1 : (k : Int) < l.length:=by omega
   obtain ⟨b,off,rfl,hb,F⟩:=hr.at (k:=k) (by simpa using hkl)
   have hc:=F k (by simpa using hkl)
   have hx : (l.map Value.bool)[k]'(by simpa using hkl) = .bool l[k]:=by simp
   rw [hx] at hc
   have htk : (l.take (k + 1)).all id = ((l.take k).all id && l[k]):=by rw [List.take_succ_eq_append_getElem hkl,List.all_append];simp
   by_cases hv : l[k] = true
   ·rw [hv] at hc htk
    go_wp2
    exact ⟨⟨k + 1,by omega,by simp,by rw [htk,hall];rfl,trivial⟩,by simp [intOf];omega⟩
   ·have hf : l[k] = false:=by simpa using hv
    rw [hf] at hc
    have hno : l.all id = false:=by
     rw [List.all_eq_false]
     exact ⟨l[k],List.getElem_mem hkl,by simp [hf]⟩
    have hrr : r = false:=hr0.out.trans hno
    subst hrr
    clear hno hall
    go_wp2
    go_ret
    exact ⟨rfl,rfl⟩
  ·have g1 : ¬ (k : Int) < l.length:=by omega
   have hkk : k = l.length:=by omega
   have hyes : l.all id = true:=by rw [hkk,List.take_length] at hall;exact hall
   have hrr : r = true:=hr0.out.trans hyes
   subst hrr
   clear hyes hall
   go_wp2
   go_ret
   exact ⟨rfl,rfl⟩
set_option maxRecDepth 100000 in
set_option maxHeartbeats 1000000 in
theorem clamp_any (x s : Int) (w : World) (hs1 : 4 ≤ s) (hs2 : s ≤ 1099511627776) : Calls Tryz.prog 57 #[iv x,iv s] w fun e w' => e = .returned (iv (btw x (s.tdiv 4) (4 * s)))∧w' = w:=by
 have hb : btw s 4 1099511627776 = s:=by unfold btw;omega
 have B1 : Hid (∀ w,Calls Tryz.prog 56 #[iv s,iv 4,iv 1099511627776] w fun e w' => e = .returned (iv s)∧w' = w):=Lib.hid fun w => by have:=between_any s 4 1099511627776 w;rw [hb] at this;exact this
 have B2 : Hid (∀ w,Calls Tryz.prog 56 #[iv x,iv (s.tdiv 4),iv (4 * s)] w fun e w' => e = .returned (iv (btw x (s.tdiv 4) (4 * s)))∧w' = w):=Lib.hid fun w => between_any _ _ _ w
 have hw4 : IntKind.i64.wrap (4 * s) = 4 * s:=IntWalk.i64_in _ (by omega)
 have hd1 : IntKind.i64.wrap (s.tdiv 4) = s.tdiv 4:=IntWalk.i64_in _ (by have:=Int.tdiv_eq_ediv_of_nonneg (a:=s) (b:=4) (by omega);omega)
 clear hb
 generalize btw x (s.tdiv 4) (4 * s) = r at *
 obtain ⟨q,hq⟩ : ∃ q,s.tdiv 4 = q:=⟨_,rfl⟩
 obtain ⟨m,hm⟩ : ∃ m,4 * s = m:=⟨_,rfl⟩
 rw [hq] at B2 hd1
 rw [hm] at B2 hw4
 go_enter Tryz.func57,Tryz.ntmps57
 go_wp2_with fail
 refine (B1.out _).mono ?_
 rintro e w' ⟨rfl,rfl⟩
 go_wp2_with fail
 refine (B2.out _).mono ?_
 rintro e w' ⟨rfl,rfl⟩
 go_wp2
 exact bodyPost_ret (v:=iv r) (by simp [results,Tryz.results57]) rfl ⟨rfl,rfl⟩
def firstI (n i : Int) : Int:=if n ≤ btw i 1 1048576 then 0 else n - btw i 1 1048576
set_option maxRecDepth 100000 in
theorem first_any (n i : Int) (w : World) (hn : 0 ≤ n) (hn2 : n ≤ 1000000) : Calls Tryz.prog 36 #[iv n,iv i] w fun e w' => e = .returned (iv (firstI n i))∧w' = w:=by
 have hb : 1 ≤ btw i 1 1048576∧btw i 1 1048576 ≤ 1048576:=by unfold btw;omega
 have hF : Hid (∀ r,firstI n i = r → r = if n ≤ btw i 1 1048576 then 0 else n - btw i 1 1048576):=Lib.hid fun r e => by subst e;rfl
 replace hF:=Lib.hid (hF.out _ rfl)
 generalize firstI n i = r at *
 have hB:=fun w => between_any i 1 1048576 w
 generalize btw i 1 1048576 = m at *
 obtain ⟨b1,b2⟩:=hb
 go_enter Tryz.func36,Tryz.ntmps36
 go_wp2_with fail
 refine (hB _).mono ?_
 clear hB
 rintro e w' ⟨rfl,rfl⟩
 by_cases h : n ≤ m
 ·have hr:=hF.out
  rw [if_pos h] at hr
  subst hr
  clear hF
  go_wp2
  exact bodyPost_ret (v:=iv 0) (by simp [results,Tryz.results36]) rfl ⟨rfl,rfl⟩
 ·have hr:=hF.out
  rw [if_neg h] at hr
  subst hr
  clear hF
  go_wp2
  exact bodyPost_ret (v:=iv (n - m)) (by simp [results,Tryz.results36]) rfl ⟨rfl,rfl⟩
structure Par where
 limit : UInt32
 itv : Int
 span : Int
 fut : Int
 idx : Int
 orp : Int
 chks : List (Int × List UInt8)
def parV (p : Par) (A : Option Addr) (c : Nat) : Value:=.agg #[u32v p.limit,iv p.itv,iv p.span,iv p.fut,iv p.idx,iv p.orp,.slice A p.chks.length c]
def saneL (p : Par) : List Bool:=[decide (1 ≤ p.itv∧p.itv ≤ 1048576),decide (4 ≤ p.span∧p.span ≤ 1099511627776),decide ((expN p.limit).2 = 0),decide (0 ≤ p.fut∧p.fut ≤ 4294967296),decide (0 ≤ p.idx∧p.idx ≤ 1048576),decide (0 ≤ p.orp∧p.orp ≤ 1048576),decide (p.chks.length ≤ 100)]
def saneR (p : Par) : Bool:=(saneL p).all id
theorem saneR_iff (p : Par) : saneR p = true ↔ (1 ≤ p.itv∧p.itv ≤ 1048576)∧(4 ≤ p.span∧p.span ≤ 1099511627776)∧(expN p.limit).2 = 0∧(0 ≤ p.fut∧p.fut ≤ 4294967296)∧(0 ≤ p.idx∧p.idx ≤ 1048576)∧(0 ≤ p.orp∧p.orp ≤ 1048576)∧p.chks.length ≤ 100:=by
 simp [saneR,saneL]
end Go.Proofs.YtmbbknjddebhoaaGreatDoor
/- retarget.Sane. -/
set_option linter.unusedSimpArgs false
set_option linter.unusedVariables false
namespace Go.Proofs.YtmbbknjddebhoaaGreatDoor
open Go.RowKit
attribute [local go_sem ↓] Go.wp_at_zero Go.wp_at_succ
theorem boolT : (Tryz.prog.underlying 90 = some (.slice 4))∧(Tryz.prog.info? 4).map (fun i => (i.zero,i.size)) = some (some (.bool false),1):=⟨by kernel_rfl,by kernel_rfl⟩
theorem fill7 (b0 b1 b2 b3 b4 b5 b6 : Bool) : Instr.fill (fun i => some (i * 1,1)) ((Array.range (7 * 1)).map ((Value.bool false).cells[· % (Value.bool false).cells.size]!)) [(0,.bool b0),(1,.bool b1),(2,.bool b2),(3,.bool b3),(4,.bool b4),(5,.bool b5),(6,.bool b6)] = some #[.bool b0,.bool b1,.bool b2,.bool b3,.bool b4,.bool b5,.bool b6]:=by kernel_rfl
theorem wp_build7 {o : Oper} {a : Act} {w : World} {K : Act → World → Prop} {Q : Exit → Act → World → Prop} (x0 x1 x2 x3 x4 x5 x6 : Operand) (ho : o.op = .buildSlice 90 7 #[(0,x0),(1,x1),(2,x2),(3,x3),(4,x4),(5,x5),(6,x6)])
  (b0 b1 b2 b3 b4 b5 b6 : Bool) (h0 : a.eval x0 = .bool b0) (h1 : a.eval x1 = .bool b1) (h2 : a.eval x2 = .bool b2) (h3 : a.eval x3 = .bool b3) (h4 : a.eval x4 = .bool b4) (h5 : a.eval x5 = .bool b5) (h6 : a.eval x6 = .bool b6)
  (h : K (a.put o.dst (.slice (some ⟨w.heap.size,0,none⟩) 7 7)) (w.alloc (.cells #[.bool b0,.bool b1,.bool b2,.bool b3,.bool b4,.bool b5,.bool b6] 4))) : o.wp Tryz.prog a w K Q:=by
 obtain ⟨i,hi,hh⟩:=Option.map_eq_some_iff.1 boolT.2
 simp only [Prod.mk.injEq] at hh
 refine wp_buildSlice 90 4 7 _ ho _ i (.bool false) boolT.1 hi hh.1 (by rw [hh.2];decide) (by rw [hh.2];decide) ?_ h
 rw [hh.2]
 simp only [List.map_toArray,List.map_cons,List.map_nil,h0,h1,h2,h3,h4,h5,h6]
 exact fill7 b0 b1 b2 b3 b4 b5 b6
set_option maxRecDepth 100000 in
set_option maxHeartbeats 4000000 in
theorem sane_any (p : Par) (A : Option Addr) (c : Nat) (w : World) : Calls Tryz.prog 17 #[parV p A c] w fun e w' => e = .returned (.bool (saneR p))∧Keep w w':=by
 have E1 : Hid (∀ y,Calls Tryz.prog 33 #[u32v p.limit] y fun e w' => e = .returned (.tuple #[uV (expN p.limit).1,.int .i64 (expN p.limit).2])∧Keep y w'):=Lib.hid fun y => expand_any p.limit y
 have W1 : Hid (∀ y,Calls Tryz.prog 35 #[iv p.itv,iv 1,iv 1048576] y fun e w' => e = .returned (.bool (decide (1 ≤ p.itv∧p.itv ≤ 1048576)))∧w' = y):=Lib.hid fun y => within_any _ _ _ (by decide) y
 have W2 : Hid (∀ y,Calls Tryz.prog 35 #[iv p.span,iv 4,iv 1099511627776] y fun e w' => e = .returned (.bool (decide (4 ≤ p.span∧p.span ≤ 1099511627776)))∧w' = y):=Lib.hid fun y => within_any _ _ _ (by decide) y
 have W3 : Hid (∀ y,Calls Tryz.prog 35 #[iv p.fut,iv 0,iv 4294967296] y fun e w' => e = .returned (.bool (decide (0 ≤ p.fut∧p.fut ≤ 4294967296)))∧w' = y):=Lib.hid fun y => within_any _ _ _ (by decide) y
 have W4 : Hid (∀ y,Calls Tryz.prog 35 #[iv p.idx,iv 0,iv 1048576] y fun e w' => e = .returned (.bool (decide (0 ≤ p.idx∧p.idx ≤ 1048576)))∧w' = y):=Lib.hid fun y => within_any _ _ _ (by decide) y
 have W5 : Hid (∀ y,Calls Tryz.prog 35 #[iv p.orp,iv 0,iv 1048576] y fun e w' => e = .returned (.bool (decide (0 ≤ p.orp∧p.orp ≤ 1048576)))∧w' = y):=Lib.hid fun y => within_any _ _ _ (by decide) y
 have HS : Hid (∀ r,saneR p = r → r = [decide (1 ≤ p.itv∧p.itv ≤ 1048576),decide (4 ≤ p.span∧p.span ≤ 1099511627776),decide ((expN p.limit).2 = 0),decide (0 ≤ p.fut∧p.fut ≤ 4294967296),decide (0 ≤ p.idx∧p.idx ≤ 1048576),decide (0 ≤ p.orp∧p.orp ≤ 1048576),decide (p.chks.length ≤ 100)].all id):=Lib.hid fun r e => by subst e;rfl
 replace HS:=Lib.hid (HS.out _ rfl)
 unfold parV
 generalize saneR p = R at *
 generalize p.limit = limit at *
 generalize p.itv = itv at *
 generalize p.span = span at *
 generalize p.fut = fut at *
 generalize p.idx = idx at *
 generalize p.orp = orp at *
 generalize p.chks.length = n at *
 generalize expN limit = X at *
 obtain ⟨L,le⟩:=X
 simp only at E1 HS
 obtain ⟨b0,hb0⟩ : ∃ b,decide (1 ≤ itv∧itv ≤ 1048576) = b:=⟨_,rfl⟩
 obtain ⟨b1,hb1⟩ : ∃ b,decide (4 ≤ span∧span ≤ 1099511627776) = b:=⟨_,rfl⟩
 obtain ⟨b2,hb2⟩ : ∃ b,decide (le = 0) = b:=⟨_,rfl⟩
 obtain ⟨b3,hb3⟩ : ∃ b,decide (0 ≤ fut∧fut ≤ 4294967296) = b:=⟨_,rfl⟩
 obtain ⟨b4,hb4⟩ : ∃ b,decide (0 ≤ idx∧idx ≤ 1048576) = b:=⟨_,rfl⟩
 obtain ⟨b5,hb5⟩ : ∃ b,decide (0 ≤ orp∧orp ≤ 1048576) = b:=⟨_,rfl⟩
 obtain ⟨b6,hb6⟩ : ∃ b,decide (n ≤ 100) = b:=⟨_,rfl⟩
 rw [hb0] at W1 HS;rw [hb1] at W2 HS;rw [hb2] at HS;rw [hb3] at W3 HS;rw [hb4] at W4 HS;rw [hb5] at W5 HS;rw [hb6] at HS
 have g2 : (le == 0) = b2:=by rw [← hb2];rfl
 have g6 : decide ((n : Int) ≤ 100) = b6:=by rw [← hb6];simp;omega
 clear hb0 hb1 hb2 hb3 hb4 hb5 hb6
 go_enter Tryz.func17,Tryz.ntmps17
 go_wp2_with fail
 refine (E1.out _).mono ?_
 clear E1
 rintro e w2 ⟨rfl,k2⟩
 have HK2:=Lib.hid (keep_trans (keep_new w _) k2)
 have HB2 : Hid (Blk w2 w.heap.size 25 [u32v limit,iv itv,iv span,iv fut,iv idx,iv orp,.slice A n c]):=Lib.hid ((Blk.new w 25 [u32v limit,iv itv,iv span,iv fut,iv idx,iv orp,.slice A n c]).keep k2)
 have hzw : w.heap.size < w2.heap.size:=HB2.out.lt
 clear k2
 go_upto_region 2 with fail
 obtain ⟨w3,hw3⟩ : ∃ w3,w3 = w2.alloc (.cells #[n64 (limb L 0),n64 (limb L 1),n64 (limb L 2),n64 (limb L 3)] 62):=⟨_,rfl⟩
 have HB3 : Hid (Blk w3 w.heap.size 25 [u32v limit,iv itv,iv span,iv fut,iv idx,iv orp,.slice A n c]):=by rw [hw3];exact Lib.hid (HB2.out.keep (keep_new _ _))
 have HK3 : Hid (Keep w w3):=by rw [hw3];exact Lib.hid (keep_trans HK2.out (keep_new _ _))
 rw [← hw3]
 clear hw3 HK2 HB2
 refine wp_region_tree (.take [0,1,3,4,6,7,8,9,11,12,14,15,17,18,19,20] (.force [2,5,10,13,16,21,22] (.take [23] .done))) [] (by kernel_rfl) (by kernel_rfl) (fun w9 k9 => ?_)
 have HB9:=HB3.out.keep k9
 have HK9:=Lib.hid (keep_trans HK3.out k9)
 have c1:=aft_cell (HB9.cell 1)
 have c2:=aft_cell (HB9.cell 2)
 have c3:=aft_cell (HB9.cell 3)
 have c4:=aft_cell (HB9.cell 4)
 have c5:=aft_cell (HB9.cell 5)
 have c6:=aft_cell (HB9.cell 6)
 clear HB3 HK3 k9 HB9
 refine mt_take w9 (Below.refl _ _) ?_
 simp only [pick_cons,pick_nil,nth_zero,nth_succ]
 repeat (go_big_quiet_step (fail))
 refine wpQuiet_nil ?_
 clear c1 c2 c3 c4 c5 c6
 refine mt_force ?_
 simp only [pick_cons,pick_nil,nth_zero,nth_succ]
 refine fc_step rfl (fun K hK => ?_)
 go_simp
 (with_reducible refine (W1.out _).mono ?_)
 rintro e w' ⟨rfl,rfl⟩
 refine hK _ _ (Below.refl _ _) ?_
 clear hK K
 refine fc_step rfl (fun K hK => ?_)
 go_simp
 (with_reducible refine (W2.out _).mono ?_)
 rintro e w' ⟨rfl,rfl⟩
 refine hK _ _ (Below.refl _ _) ?_
 clear hK K
 refine fc_step rfl (fun K hK => ?_)
 go_simp
 (with_reducible refine (W3.out _).mono ?_)
 rintro e w' ⟨rfl,rfl⟩
 refine hK _ _ (Below.refl _ _) ?_
 clear hK K
 refine fc_step rfl (fun K hK => ?_)
 go_simp
 (with_reducible refine (W4.out _).mono ?_)
 rintro e w' ⟨rfl,rfl⟩
 refine hK _ _ (Below.refl _ _) ?_
 clear hK K
 refine fc_step rfl (fun K hK => ?_)
 go_simp
 (with_reducible refine (W5.out _).mono ?_)
 rintro e w' ⟨rfl,rfl⟩
 refine hK _ _ (Below.refl _ _) ?_
 clear hK K
 refine fc_step rfl (fun K hK => ?_)
 refine wp_build7 _ _ _ _ _ _ _ rfl b0 b1 b2 b3 b4 b5 b6 rfl rfl rfl rfl rfl rfl rfl ?_
 refine hK _ _ (keep_new _ _) ?_
 clear hK K
 have HL : Hid (∀ y,Keep (w'.alloc (.cells #[.bool b0,.bool b1,.bool b2,.bool b3,.bool b4,.bool b5,.bool b6] 4)) y → Calls Tryz.prog 34 #[.slice (some ⟨w'.heap.size,0,none⟩) 7 7] y fun e w' => e = .returned (.bool R)∧w' = y):=Lib.hid fun y hy => by
  have h:=all_any (some ⟨w'.heap.size,0,none⟩) [b0,b1,b2,b3,b4,b5,b6] 7 y (by simp) ((Blk.new w' 4 [.bool b0,.bool b1,.bool b2,.bool b3,.bool b4,.bool b5,.bool b6]).keep hy).rd
  rw [← HS.out] at h
  exact h
 refine fc_step rfl (fun K hK => ?_)
 simp only [Act.put,Array.set!_eq_setIfInBounds,List.setIfInBounds_toArray,List.set_cons_succ,List.set_cons_zero]
 go_simp
 (with_reducible refine (HL.out _ (Below.refl _ _)).mono ?_)
 rintro e w4 ⟨rfl,rfl⟩
 refine hK _ _ (Below.refl _ _) ?_
 clear hK K
 refine fc_nil ?_
 refine mt_take _ (Below.refl _ _) ?_
 simp only [pick_cons,pick_nil,nth_zero,nth_succ]
 repeat (go_big_quiet_step (fail))
 refine wpQuiet_nil ?_
 refine mt_end ?_
 go_wp2
 exact bodyPost_ret (v:=.bool R) (by simp [results,Tryz.results17]) rfl ⟨rfl,keep_trans HK9.out (keep_new _ _)⟩
end Go.Proofs.YtmbbknjddebhoaaGreatDoor
