/- Texts merged by pack.py: Ie, If, Ig, Ih, Ii, Ij, Ik, Il, In. -/
import Derived.Test.YtffpanlpbdnafaaDoorCx5
import Derived.Test.YtffpanlpbdnafaaDoorCx2
/- wire.take: numbers. (printed by gen_ie.py) -/
set_option linter.unusedSimpArgs false
set_option linter.unusedVariables false
namespace Go.Proofs.YtffpanlpbdnafaaDoor
open Go.RowKit
attribute [local go_sem ↓] Go.wp_at_zero Go.wp_at_succ
set_option maxRecDepth 100000 in
set_option maxHeartbeats 4000000 in
theorem take_u64 (x : Nat) (A : Option Addr) (b : List UInt8) (c : Nat) (w : World) (hl : b.length ≤ 1000000000) (hc : b.length ≤ c) (hr : Rd w A (b.map u8v)) :
  Calls Tryd.prog 56 #[.iface 25 (u64v x),.slice A b.length c] w fun e w' => e = .returned (.tuple #[.iface 25 (u64v (if b.length < 8 then 0 else numN b 8)),iv 8,iv (if b.length < 8 then 1 else 0)])∧Keep w w':=by
 have TK:=Lib.hid (taken_any A b c 8 w (by omega) (by omega) hr)
 clear hr
 by_cases h8 : b.length < 8
 ·rw [if_pos h8,if_pos h8]
  rw [if_pos h8,if_pos h8] at TK
  clear h8
  go_enter Tryd.func56,Tryd.ntmps56
  have N1 : ∀ y,(Instr.typeAssert (.iface 25 (u64v x)) 20 22 true).run Tryd.prog y = .ok (.tuple #[.int .u32 0,.bool false]) y:=run_assert_no Tryd.underlying22 rfl (by decide) zu32 _ _
  have Y1 : ∀ y,(Instr.typeAssert (.iface 25 (u64v x)) 20 25 true).run Tryd.prog y = .ok (.tuple #[u64v x,.bool true]) y:=run_assert_yes Tryd.underlying25 rfl _ _
  go_wp2_with (go_at_call 69;refine TK.out.mono ?_;rintro e w2 ⟨rfl,rfl⟩)
  exact bodyPost_ret (v:=.tuple #[.iface 25 (u64v 0),iv 8,iv 1]) (by simp [results,Tryd.results56]) rfl ⟨rfl,Below.refl _ _⟩
 ·rw [if_neg h8,if_neg h8]
  rw [if_neg h8,if_neg h8] at TK
  generalize numN b 8 = nv at *
  clear h8
  go_enter Tryd.func56,Tryd.ntmps56
  have N1 : ∀ y,(Instr.typeAssert (.iface 25 (u64v x)) 20 22 true).run Tryd.prog y = .ok (.tuple #[.int .u32 0,.bool false]) y:=run_assert_no Tryd.underlying22 rfl (by decide) zu32 _ _
  have Y1 : ∀ y,(Instr.typeAssert (.iface 25 (u64v x)) 20 25 true).run Tryd.prog y = .ok (.tuple #[u64v x,.bool true]) y:=run_assert_yes Tryd.underlying25 rfl _ _
  go_wp2_with (go_at_call 69;refine TK.out.mono ?_;rintro e w2 ⟨rfl,rfl⟩)
  exact bodyPost_ret (v:=.tuple #[.iface 25 (u64v nv),iv 8,iv 0]) (by simp [results,Tryd.results56]) rfl ⟨rfl,Below.refl _ _⟩
set_option maxRecDepth 100000 in
set_option maxHeartbeats 4000000 in
theorem take_u32 (x : UInt32) (A : Option Addr) (b : List UInt8) (c : Nat) (w : World) (hl : b.length ≤ 1000000000) (hc : b.length ≤ c) (hr : Rd w A (b.map u8v)) :
  Calls Tryd.prog 56 #[.iface 22 (u32v x),.slice A b.length c] w fun e w' => e = .returned (.tuple #[.iface 22 (u32v (UInt32.ofNat (if b.length < 4 then 0 else numN b 4))),iv 4,iv (if b.length < 4 then 1 else 0)])∧Keep w w':=by
 have TK:=Lib.hid (taken_any A b c 4 w (by omega) (by omega) hr)
 clear hr
 obtain ⟨V,hV⟩ : ∃ V,(if b.length < 4 then 0 else numN b 4) = V:=⟨_,rfl⟩
 obtain ⟨E,hE⟩ : ∃ E : Int,(if b.length < 4 then (1 : Int) else 0) = E:=⟨_,rfl⟩
 rw [hV,hE] at TK
 rw [hV,hE]
 clear hV hE
 obtain ⟨y32,hy⟩ : ∃ v : UInt32,v = UInt32.ofNat V:=⟨_,rfl⟩
 have hvv : (V : Int) % 4294967296 = (y32.toNat : Int):=by rw [hy,UInt32.toNat_ofNat'];omega
 have hvw : IntKind.u32.wrap (V : Int) = (y32.toNat : Int):=by rw [IntKind.wrap_u32];exact hvv
 rw [← hy]
 clear hy
 go_enter Tryd.func56,Tryd.ntmps56
 have Y1 : ∀ y,(Instr.typeAssert (.iface 22 (u32v x)) 20 22 true).run Tryd.prog y = .ok (.tuple #[u32v x,.bool true]) y:=run_assert_yes Tryd.underlying22 rfl _ _
 go_wp2_with (go_at_call 69;refine TK.out.mono ?_;rintro e w2 ⟨rfl,rfl⟩)
 exact bodyPost_ret (v:=.tuple #[.iface 22 (u32v y32),iv 4,iv E]) (by simp [results,Tryd.results56];try rfl) rfl ⟨rfl,Below.refl _ _⟩
set_option maxRecDepth 100000 in
set_option maxHeartbeats 4000000 in
theorem take_items (A0 : Option Addr) (n0 c0 : Nat) (A : Option Addr) (b : List UInt8) (c : Nat) (w : World) (hl : b.length ≤ 1000000000) (hc : b.length ≤ c) (hcm : c ≤ maxLen) (hr : Rd w A (b.map u8v)) :
  Calls Tryd.prog 56 #[.iface 40 (.slice A0 n0 c0),.slice A b.length c] w fun e w' => ∃ v,e = .returned (.tuple #[.iface 40 v,iv (titN b).2.1,iv (titN b).2.2])∧w'.ownsRow w.heap.size 98 33 v (titN b).1.length ((titN b).1.flatMap Itm.cells)∧Keep w w':=by
 obtain ⟨zh,hzA,hz0⟩:=zhash_letter32
 have TK:=Lib.hid (tit_any A b c w hl hc hcm hr)
 clear hr hzA
 generalize titN b = R at *
 go_enter Tryd.func56,Tryd.ntmps56
 have N0 : ∀ y,(Instr.typeAssert (.iface 40 (.slice A0 n0 c0)) 20 22 true).run Tryd.prog y = .ok (.tuple #[.int .u32 0,.bool false]) y:=run_assert_no Tryd.underlying22 rfl (by decide) zu32 _ _
 have N1 : ∀ y,(Instr.typeAssert (.iface 40 (.slice A0 n0 c0)) 20 25 true).run Tryd.prog y = .ok (.tuple #[.int .u64 0,.bool false]) y:=run_assert_no Tryd.underlying25 rfl (by decide) zu64 _ _
 have N2 : ∀ y,(Instr.typeAssert (.iface 40 (.slice A0 n0 c0)) 20 39 true).run Tryd.prog y = .ok (.tuple #[.agg zh,.bool false]) y:=run_assert_no hash_under rfl (by decide) hz0 _ _
 have N3 : ∀ y,(Instr.typeAssert (.iface 40 (.slice A0 n0 c0)) 20 143 true).run Tryd.prog y = .ok (.tuple #[.agg #[.slice none 0 0,.int .u64 0],.bool false]) y:=run_assert_no Tryd.underlying143 rfl (by decide) zhashes _ _
 have Y1 : ∀ y,(Instr.typeAssert (.iface 40 (.slice A0 n0 c0)) 20 40 true).run Tryd.prog y = .ok (.tuple #[.slice A0 n0 c0,.bool true]) y:=run_assert_yes Tryd.underlying40 rfl _ _
 go_wp2_with (go_at_call 71;refine TK.out.mono ?_;rintro e w2 ⟨v2,rfl,o2,k2⟩;have O2:=Lib.hid o2;have K2:=Lib.hid k2;clear o2 k2)
 exact bodyPost_ret (v:=.tuple #[.iface 40 v2,iv R.2.1,iv R.2.2]) (by simp [results,Tryd.results56]) rfl ⟨v2,rfl,O2.out,K2.out⟩
set_option maxRecDepth 100000 in
set_option maxHeartbeats 4000000 in
theorem take_hsh (A0 : Option Addr) (n0 c0 most : Nat) (A : Option Addr) (b : List UInt8) (c : Nat) (w : World) (hl : b.length ≤ 1000000000) (hc : b.length ≤ c) (hcm : c ≤ maxLen) (hm : most ≤ 1000000) (hr : Rd w A (b.map u8v)) :
  Calls Tryd.prog 56 #[.iface 143 (.agg #[.slice A0 n0 c0,u64v most]),.slice A b.length c] w fun e w' => ∃ v,e = .returned (.tuple #[.iface 143 (.agg #[v,u64v most]),iv (thsN b most).2.1,iv (thsN b most).2.2])∧w'.ownsRow w.heap.size 39 32 v (thsN b most).1.length (hsL (thsN b most).1)∧Keep w w':=by
 obtain ⟨zh,hzA,hz0⟩:=zhash_letter32
 have TK : Hid (∀ y,Keep w y → Calls Tryd.prog 70 #[.slice A b.length c,u64v most] y fun e w' => ∃ v,e = .returned (.tuple #[v,iv (thsN b most).2.1,iv (thsN b most).2.2])∧w'.ownsRow y.heap.size 39 32 v (thsN b most).1.length (hsL (thsN b most).1)∧Keep y w'):=Lib.hid fun y hy => ths_any A b c most y hl hc hcm hm (hr.keep hy)
 clear hr hzA
 generalize thsN b most = R at *
 go_enter Tryd.func56,Tryd.ntmps56
 have N0 : ∀ y,(Instr.typeAssert (.iface 143 (.agg #[.slice A0 n0 c0,u64v most])) 20 22 true).run Tryd.prog y = .ok (.tuple #[.int .u32 0,.bool false]) y:=run_assert_no Tryd.underlying22 rfl (by decide) zu32 _ _
 have N1 : ∀ y,(Instr.typeAssert (.iface 143 (.agg #[.slice A0 n0 c0,u64v most])) 20 25 true).run Tryd.prog y = .ok (.tuple #[.int .u64 0,.bool false]) y:=run_assert_no Tryd.underlying25 rfl (by decide) zu64 _ _
 have N2 : ∀ y,(Instr.typeAssert (.iface 143 (.agg #[.slice A0 n0 c0,u64v most])) 20 39 true).run Tryd.prog y = .ok (.tuple #[.agg zh,.bool false]) y:=run_assert_no hash_under rfl (by decide) hz0 _ _
 have Y1 : ∀ y,(Instr.typeAssert (.iface 143 (.agg #[.slice A0 n0 c0,u64v most])) 20 143 true).run Tryd.prog y = .ok (.tuple #[.agg #[.slice A0 n0 c0,u64v most],.bool true]) y:=run_assert_yes Tryd.underlying143 rfl _ _
 go_upto_region 17 with fail
 obtain ⟨w1,hw1⟩ : ∃ w1,w1 = w.alloc (.cells #[.slice A0 n0 c0,u64v most] 143):=⟨_,rfl⟩
 have HB1 : Hid (Blk w1 w.heap.size 143 [.slice A0 n0 c0,u64v most]):=by rw [hw1];exact Lib.hid (Blk.new w _ _)
 have K1 : Hid (Keep w w1):=by rw [hw1];exact Lib.hid (keep_new _ _)
 unfold u64v at hw1
 rw [← hw1]
 clear hw1
 have b1:=HB1.out.cell 1
 simp only [List.getElem?_cons_succ,List.getElem?_cons_zero] at b1
 go_wp2_with (go_at_call 70;refine (TK.out _ K1.out).mono ?_;rintro e w2 ⟨v2,rfl,o2,k2⟩;obtain ⟨A2,c2,rfl,-,-,-⟩:=own_form o2;have b1:=keep_cell k2 b1;have O2:=Lib.hid o2;have K2:=Lib.hid (keep_trans K1.out k2);clear o2 k2)
 exact bodyPost_ret (v:=.tuple #[.iface 143 (.agg #[.slice A2 R.1.length c2,u64v most]),iv R.2.1,iv R.2.2]) (by simp [results,Tryd.results56]) rfl ⟨_,rfl,own_base O2.out K1.out.size,K2.out⟩
end Go.Proofs.YtffpanlpbdnafaaDoor
/- wire.take: headers. (printed by gen_if.py) -/
set_option linter.unusedSimpArgs false
set_option linter.unusedVariables false
namespace Go.Proofs.YtffpanlpbdnafaaDoor
open Go.RowKit
attribute [local go_sem ↓] Go.wp_at_zero Go.wp_at_succ
set_option maxRecDepth 100000 in
set_option maxHeartbeats 4000000 in
theorem take_heads (A0 : Option Addr) (n0 c0 : Nat) (A : Option Addr) (b : List UInt8) (c : Nat) (w : World) (hl : b.length ≤ 1000000000) (hc : b.length ≤ c) (hcm : c ≤ maxLen) (hr : Rd w A (b.map u8v)) :
  Calls Tryd.prog 56 #[.iface 36 (.slice A0 n0 c0),.slice A b.length c] w fun e w' => ∃ v,e = .returned (.tuple #[.iface 36 v,iv b.length,iv (hgall b).2])∧w'.ownsRow w.heap.size 42 68 v (hgall b).1.length ((hgall b).1.flatMap Hd.cells)∧Keep w w':=by
 obtain ⟨zh,hzA,hz0⟩:=zhash_letter32
 obtain ⟨zd,hzD,hd0⟩:=zhead_letterA
 have TK:=Lib.hid (hgall_any A b c w hl hc hcm hr)
 clear hr hzA hzD
 generalize hgall b = R at *
 go_enter Tryd.func56,Tryd.ntmps56
 have NH : ∀ y,(Instr.typeAssert (.iface 36 (.slice A0 n0 c0)) 20 39 true).run Tryd.prog y = .ok (.tuple #[.agg zh,.bool false]) y:=run_assert_no hash_under rfl (by decide) hz0 _ _
 have N0 : ∀ y,(Instr.typeAssert (.iface 36 (.slice A0 n0 c0)) 20 22 true).run Tryd.prog y = .ok (.tuple #[.int .u32 0,.bool false]) y:=run_assert_no Tryd.underlying22 rfl (by decide) zu32 _ _
 have N1 : ∀ y,(Instr.typeAssert (.iface 36 (.slice A0 n0 c0)) 20 25 true).run Tryd.prog y = .ok (.tuple #[.int .u64 0,.bool false]) y:=run_assert_no Tryd.underlying25 rfl (by decide) zu64 _ _
 have N2 : ∀ y,(Instr.typeAssert (.iface 36 (.slice A0 n0 c0)) 20 143 true).run Tryd.prog y = .ok (.tuple #[.agg #[.slice none 0 0,.int .u64 0],.bool false]) y:=run_assert_no Tryd.underlying143 rfl (by decide) zhashes _ _
 have N3 : ∀ y,(Instr.typeAssert (.iface 36 (.slice A0 n0 c0)) 20 40 true).run Tryd.prog y = .ok (.tuple #[.slice none 0 0,.bool false]) y:=run_assert_no Tryd.underlying40 rfl (by decide) zitems _ _
 have N4 : ∀ y,(Instr.typeAssert (.iface 36 (.slice A0 n0 c0)) 20 26 true).run Tryd.prog y = .ok (.tuple #[.slice none 0 0,.bool false]) y:=run_assert_no Tryd.underlying26 rfl (by decide) zbytes _ _
 have N5 : ∀ y,(Instr.typeAssert (.iface 36 (.slice A0 n0 c0)) 20 42 true).run Tryd.prog y = .ok (.tuple #[.agg zd,.bool false]) y:=run_assert_no Tryd.underlying42 rfl (by decide) hd0 _ _
 have Y1 : ∀ y,(Instr.typeAssert (.iface 36 (.slice A0 n0 c0)) 20 36 true).run Tryd.prog y = .ok (.tuple #[.slice A0 n0 c0,.bool true]) y:=run_assert_yes Tryd.underlying36 rfl _ _
 go_wp2_with (go_at_call 74;refine TK.out.mono ?_;rintro e w2 ⟨v2,rfl,o2,k2⟩;have O2:=Lib.hid o2;have K2:=Lib.hid k2;clear o2 k2)
 exact bodyPost_ret (v:=.tuple #[.iface 36 v2,iv b.length,iv R.2]) (by simp [results,Tryd.results56]) rfl ⟨v2,rfl,O2.out,K2.out⟩
set_option maxRecDepth 100000 in
set_option maxHeartbeats 4000000 in
theorem take_bytes (A0 : Option Addr) (n0 c0 : Nat) (A : Option Addr) (b : List UInt8) (c : Nat) (w : World) (hl : b.length ≤ 1000000000) (hc : b.length ≤ c) (hcm : c ≤ maxLen) (hr : Rd w A (b.map u8v)) :
  Calls Tryd.prog 56 #[.iface 26 (.slice A0 n0 c0),.slice A b.length c] w fun e w' => ∃ v,e = .returned (.tuple #[.iface 26 v,iv (bytN b 1024).2.1,iv (bytN b 1024).2.2])∧w'.ownsRow w.heap.size 5 1 v (bytN b 1024).1.length ((bytN b 1024).1.map u8v)∧Keep w w':=by
 obtain ⟨zh,hzA,hz0⟩:=zhash_letter32
 obtain ⟨zd,hzD,hd0⟩:=zhead_letterA
 have TK:=Lib.hid (cbytes_any A b c 1024 w (by omega) hc (by omega) hr)
 clear hr hzA hzD
 generalize bytN b 1024 = R at *
 go_enter Tryd.func56,Tryd.ntmps56
 have NH : ∀ y,(Instr.typeAssert (.iface 26 (.slice A0 n0 c0)) 20 39 true).run Tryd.prog y = .ok (.tuple #[.agg zh,.bool false]) y:=run_assert_no hash_under rfl (by decide) hz0 _ _
 have N0 : ∀ y,(Instr.typeAssert (.iface 26 (.slice A0 n0 c0)) 20 22 true).run Tryd.prog y = .ok (.tuple #[.int .u32 0,.bool false]) y:=run_assert_no Tryd.underlying22 rfl (by decide) zu32 _ _
 have N1 : ∀ y,(Instr.typeAssert (.iface 26 (.slice A0 n0 c0)) 20 25 true).run Tryd.prog y = .ok (.tuple #[.int .u64 0,.bool false]) y:=run_assert_no Tryd.underlying25 rfl (by decide) zu64 _ _
 have N2 : ∀ y,(Instr.typeAssert (.iface 26 (.slice A0 n0 c0)) 20 143 true).run Tryd.prog y = .ok (.tuple #[.agg #[.slice none 0 0,.int .u64 0],.bool false]) y:=run_assert_no Tryd.underlying143 rfl (by decide) zhashes _ _
 have N3 : ∀ y,(Instr.typeAssert (.iface 26 (.slice A0 n0 c0)) 20 40 true).run Tryd.prog y = .ok (.tuple #[.slice none 0 0,.bool false]) y:=run_assert_no Tryd.underlying40 rfl (by decide) zitems _ _
 have Y1 : ∀ y,(Instr.typeAssert (.iface 26 (.slice A0 n0 c0)) 20 26 true).run Tryd.prog y = .ok (.tuple #[.slice A0 n0 c0,.bool true]) y:=run_assert_yes Tryd.underlying26 rfl _ _
 go_wp2_with (go_at_call 72;refine TK.out.mono ?_;rintro e w2 ⟨v2,rfl,o2,k2⟩;have O2:=Lib.hid o2;have K2:=Lib.hid k2;clear o2 k2)
 exact bodyPost_ret (v:=.tuple #[.iface 26 v2,iv R.2.1,iv R.2.2]) (by simp [results,Tryd.results56]) rfl ⟨v2,rfl,O2.out,K2.out⟩
end Go.Proofs.YtffpanlpbdnafaaDoor
/- wire.take: a transaction. (printed by gen_ig.py) -/
set_option linter.unusedSimpArgs false
set_option linter.unusedVariables false
namespace Go.Proofs.YtffpanlpbdnafaaDoor
open Go.RowKit
attribute [local go_sem ↓] Go.wp_at_zero Go.wp_at_succ
set_option maxRecDepth 100000 in
set_option maxHeartbeats 4000000 in
theorem take_tx (s : TxR) (A : Option Addr) (b : List UInt8) (c : Nat) (w : World) (hl : b.length ≤ 1000000000) (hc : b.length ≤ c) (hcm : c ≤ maxLen) (hr : Rd w A (b.map u8v)) :
  Calls Tryd.prog 56 #[.iface 48 (.agg #[u32v s.ver,.slice s.iA s.ins.length s.ic,.slice s.oA s.outs.length s.oc,u32v s.lock]),.slice A b.length c] w fun e w' => ∃ t : TxR,e = .returned (.tuple #[.iface 48 (.agg #[u32v t.ver,.slice t.iA t.ins.length t.ic,.slice t.oA t.outs.length t.oc,u32v t.lock]),iv (tgetN b).2.1,iv (tgetN b).2.2])∧t.pl = (tgetN b).1∧(t.at w'∧∀ W,MidF (fun _ => True) w w' W → t.at W)∧t.ins.length ≤ 1000∧t.outs.length ≤ 1000∧Keep w w':=by
 obtain ⟨zh,hzA,hz0⟩:=zhash_letter32
 obtain ⟨zd,hzD,hd0⟩:=zhead_letterA
 have TK : Hid (∀ y,Keep w y → Calls Tryd.prog 75 #[.slice A b.length c] y fun e w' => ∃ t : TxR,e = .returned (.tuple #[.agg #[u32v t.ver,.slice t.iA t.ins.length t.ic,.slice t.oA t.outs.length t.oc,u32v t.lock],iv (tgetN b).2.1,iv (tgetN b).2.2])∧t.pl = (tgetN b).1∧(t.at w'∧∀ W,MidF (fun _ => True) y w' W → t.at W)∧t.ins.length ≤ 1000∧t.outs.length ≤ 1000∧Keep y w'):=Lib.hid fun y hy => tget_any A b c y hl hc hcm (hr.keep hy)
 clear hr hzA hzD
 generalize tgetN b = R at *
 go_enter Tryd.func56,Tryd.ntmps56
 have NH : ∀ y,(Instr.typeAssert (.iface 48 (.agg #[u32v s.ver,.slice s.iA s.ins.length s.ic,.slice s.oA s.outs.length s.oc,u32v s.lock])) 20 39 true).run Tryd.prog y = .ok (.tuple #[.agg zh,.bool false]) y:=run_assert_no hash_under rfl (by decide) hz0 _ _
 have N0 : ∀ y,(Instr.typeAssert (.iface 48 (.agg #[u32v s.ver,.slice s.iA s.ins.length s.ic,.slice s.oA s.outs.length s.oc,u32v s.lock])) 20 22 true).run Tryd.prog y = .ok (.tuple #[.int .u32 0,.bool false]) y:=run_assert_no Tryd.underlying22 rfl (by decide) zu32 _ _
 have N1 : ∀ y,(Instr.typeAssert (.iface 48 (.agg #[u32v s.ver,.slice s.iA s.ins.length s.ic,.slice s.oA s.outs.length s.oc,u32v s.lock])) 20 25 true).run Tryd.prog y = .ok (.tuple #[.int .u64 0,.bool false]) y:=run_assert_no Tryd.underlying25 rfl (by decide) zu64 _ _
 have N2 : ∀ y,(Instr.typeAssert (.iface 48 (.agg #[u32v s.ver,.slice s.iA s.ins.length s.ic,.slice s.oA s.outs.length s.oc,u32v s.lock])) 20 143 true).run Tryd.prog y = .ok (.tuple #[.agg #[.slice none 0 0,.int .u64 0],.bool false]) y:=run_assert_no Tryd.underlying143 rfl (by decide) zhashes _ _
 have N3 : ∀ y,(Instr.typeAssert (.iface 48 (.agg #[u32v s.ver,.slice s.iA s.ins.length s.ic,.slice s.oA s.outs.length s.oc,u32v s.lock])) 20 40 true).run Tryd.prog y = .ok (.tuple #[.slice none 0 0,.bool false]) y:=run_assert_no Tryd.underlying40 rfl (by decide) zitems _ _
 have N4 : ∀ y,(Instr.typeAssert (.iface 48 (.agg #[u32v s.ver,.slice s.iA s.ins.length s.ic,.slice s.oA s.outs.length s.oc,u32v s.lock])) 20 26 true).run Tryd.prog y = .ok (.tuple #[.slice none 0 0,.bool false]) y:=run_assert_no Tryd.underlying26 rfl (by decide) zbytes _ _
 have N5 : ∀ y,(Instr.typeAssert (.iface 48 (.agg #[u32v s.ver,.slice s.iA s.ins.length s.ic,.slice s.oA s.outs.length s.oc,u32v s.lock])) 20 42 true).run Tryd.prog y = .ok (.tuple #[.agg zd,.bool false]) y:=run_assert_no Tryd.underlying42 rfl (by decide) hd0 _ _
 have N6 : ∀ y,(Instr.typeAssert (.iface 48 (.agg #[u32v s.ver,.slice s.iA s.ins.length s.ic,.slice s.oA s.outs.length s.oc,u32v s.lock])) 20 36 true).run Tryd.prog y = .ok (.tuple #[.slice none 0 0,.bool false]) y:=run_assert_no Tryd.underlying36 rfl (by decide) zheads _ _
 have Y1 : ∀ y,(Instr.typeAssert (.iface 48 (.agg #[u32v s.ver,.slice s.iA s.ins.length s.ic,.slice s.oA s.outs.length s.oc,u32v s.lock])) 20 48 true).run Tryd.prog y = .ok (.tuple #[.agg #[u32v s.ver,.slice s.iA s.ins.length s.ic,.slice s.oA s.outs.length s.oc,u32v s.lock],.bool true]) y:=run_assert_yes Tryd.underlying48 rfl _ _
 go_upto_region 37 with fail
 obtain ⟨w1,hw1⟩ : ∃ w1,w1 = w.alloc (.cells #[u32v s.ver,.slice s.iA s.ins.length s.ic,.slice s.oA s.outs.length s.oc,u32v s.lock] 48):=⟨_,rfl⟩
 have K1 : Hid (Keep w w1):=by rw [hw1];exact Lib.hid (keep_new _ _)
 unfold u32v at hw1
 rw [← hw1]
 clear hw1
 go_wp2_with (go_at_call 75;refine (TK.out _ K1.out).mono ?_;rintro e w2 ⟨t,rfl,h1,h2,h3,h4,k2⟩;have H1:=Lib.hid h1;have H2:=Lib.hid h2;have H3:=Lib.hid h3;have H4:=Lib.hid h4;have K2:=Lib.hid (keep_trans K1.out k2);clear h1 h2 h3 h4 k2)
 exact bodyPost_ret (v:=.tuple #[.iface 48 (.agg #[u32v t.ver,.slice t.iA t.ins.length t.ic,.slice t.oA t.outs.length t.oc,u32v t.lock]),iv R.2.1,iv R.2.2]) (by simp [results,Tryd.results56];try rfl) rfl ⟨t,rfl,H1.out,⟨H2.out.1.keep (keep_new _ _),fun W hm => H2.out.2 W ⟨trivial,fun k h1 h2 => (hm.2 k (Nat.le_trans K1.out.size h1) (by simp;omega)).trans ((keep_new w2 _).block k h2)⟩⟩,H3.out,H4.out,keep_trans K2.out (keep_new _ _)⟩
end Go.Proofs.YtffpanlpbdnafaaDoor
/- wire.take: a hash. (printed by gen_ih.py) -/
set_option linter.unusedSimpArgs false
set_option linter.unusedVariables false
namespace Go.Proofs.YtffpanlpbdnafaaDoor
open Go.RowKit
attribute [local go_sem ↓] Go.wp_at_zero Go.wp_at_succ
set_option maxRecDepth 100000 in
set_option maxHeartbeats 4000000 in
theorem take_h32_short (l : List UInt8) (ls : Array Value) (hA : HashA l ls) (A : Option Addr) (n c : Nat) (w : World) (h : n < 32) :
  Calls Tryd.prog 56 #[.iface 39 (.agg ls),.slice A n c] w fun e w' => e = .returned (.tuple #[.nilIface,iv 0,iv 1])∧Keep w w':=by
 obtain ⟨zh,hzA,hz0⟩:=zhash_letter32
 have hzn:=hzA.n;have hzz:=hzA.z
 have hln:=hA.n;have hlz:=hA.z;have hli:=hA.i
 have HA:=Lib.hid hA
 clear hzA hA
 have d1 : (n : Int) < 32:=by omega
 go_enter Tryd.func56,Tryd.ntmps56
 have N0 : ∀ y,(Instr.typeAssert (.iface 39 (.agg ls)) 20 22 true).run Tryd.prog y = .ok (.tuple #[.int .u32 0,.bool false]) y:=run_assert_no Tryd.underlying22 rfl (by decide) zu32 _ _
 have N1 : ∀ y,(Instr.typeAssert (.iface 39 (.agg ls)) 20 25 true).run Tryd.prog y = .ok (.tuple #[.int .u64 0,.bool false]) y:=run_assert_no Tryd.underlying25 rfl (by decide) zu64 _ _
 have Y1 : ∀ y,(Instr.typeAssert (.iface 39 (.agg ls)) 20 39 true).run Tryd.prog y = .ok (.tuple #[.agg ls,.bool true]) y:=run_assert_yes hash_under rfl _ _
 have hst : ∀ y : World,(storeCells ⟨y.heap.size,0,none⟩ ls.toList 0).run Tryd.prog (y.alloc (.cells zh 39)) = .ok () (y.alloc (.cells ls 39)):=fun y => run_storeCells_new (P:=Tryd.prog) y 39 zh ls hli (hzz.trans hlz.symm) (by have:=all_oneCell_toArray HA.out.o;simpa using this)
 go_wp2
 exact bodyPost_ret (v:=.tuple #[.nilIface,iv 0,iv 1]) (by simp [results,Tryd.results56]) rfl ⟨rfl,keep_new _ _⟩
set_option maxRecDepth 100000 in
set_option maxHeartbeats 4000000 in
theorem take_h32 (l : List UInt8) (ls : Array Value) (hA : HashA l ls) (A : Option Addr) (b : List UInt8) (c : Nat) (w : World) (h : 32 ≤ b.length) (hl : b.length ≤ 1000000000) (hc : b.length ≤ c) (hcm : c ≤ maxLen) (hr : Rd w A (b.map u8v)) :
  Calls Tryd.prog 56 #[.iface 39 (.agg ls),.slice A b.length c] w fun e w' => e = .returned (.tuple #[.iface 39 (.agg ((b.take 32).map u8v).toArray),iv 32,iv 0])∧Keep w w':=by
 obtain ⟨zh,hzA,hz0⟩:=zhash_letter32
 have hzn:=hzA.n;have hzz:=hzA.z
 have hln:=hA.n;have hlz:=hA.z;have hli:=hA.i
 have HA:=Lib.hid hA
 obtain ⟨ss,hss⟩ : ∃ ss,HashA (b.take 32) ss:=⟨_,HashA.of (by simp;omega)⟩
 obtain ⟨g,off,rfl,hrg⟩:=rd_hash hr (k:=0) (by omega) (cs:=ss) (by rw [List.drop_zero];exact hss)
 have RX : Hid (w.rangeAt g (off + 0) ss.toList):=Lib.hid hrg
 have hsn:=hss.n;have hssz:=hss.z;have hsi:=hss.i
 rw [hss.e]
 clear hzA hA hr hrg hss
 obtain ⟨n,hn⟩ : ∃ n,b.length = n:=⟨_,rfl⟩
 rw [hn] at h hl hc ⊢
 clear hn
 have d1 : ¬ (n : Int) < 32:=by omega
 unfold maxLen at hcm
 go_enter Tryd.func56,Tryd.ntmps56
 have N0 : ∀ y,(Instr.typeAssert (.iface 39 (.agg ls)) 20 22 true).run Tryd.prog y = .ok (.tuple #[.int .u32 0,.bool false]) y:=run_assert_no Tryd.underlying22 rfl (by decide) zu32 _ _
 have N1 : ∀ y,(Instr.typeAssert (.iface 39 (.agg ls)) 20 25 true).run Tryd.prog y = .ok (.tuple #[.int .u64 0,.bool false]) y:=run_assert_no Tryd.underlying25 rfl (by decide) zu64 _ _
 have Y1 : ∀ y,(Instr.typeAssert (.iface 39 (.agg ls)) 20 39 true).run Tryd.prog y = .ok (.tuple #[.agg ls,.bool true]) y:=run_assert_yes hash_under rfl _ _
 have hst : ∀ y : World,(storeCells ⟨y.heap.size,0,none⟩ ls.toList 0).run Tryd.prog (y.alloc (.cells zh 39)) = .ok () (y.alloc (.cells ls 39)):=fun y => run_storeCells_new (P:=Tryd.prog) y 39 zh ls hli (hzz.trans hlz.symm) (by have:=all_oneCell_toArray HA.out.o;simpa using this)
 go_upto_region 12 with fail
 obtain ⟨w1,hw1⟩ : ∃ w1,w1 = w.alloc (.cells ls 39):=⟨_,rfl⟩
 have k1 : Keep w w1:=by rw [hw1];exact keep_new _ _
 have RX1 : Hid (w1.rangeAt g (off + 0) ss.toList):=Lib.hid fun j v hv => keep_cell k1 (RX.out j v hv)
 have K1:=Lib.hid k1
 rw [← hw1]
 clear hw1 hst k1 RX
 have s2a : ∀ (A : Option Addr) (y : World) (c' : Nat),(Instr.arrayAt 39 (.slice A 32 c')).run Tryd.prog y = .ok (.pointer A) y:=fun A y c' => run_s2a hash_under (Nat.le_refl _) y
 go_wp2_with (first | ((with_reducible refine load_partg g (off + 0) ss (Eq.trans ?_ rfl) RX1.out _ hash_under rfl hsi rfl ?_);rfl) | ((with_reducible refine load_partg g off ss (Eq.trans ?_ rfl) RX1.out _ hash_under rfl hsi rfl ?_);rfl))
 exact bodyPost_ret (v:=.tuple #[.iface 39 (.agg ss),iv 32,iv 0]) (by simp [results,Tryd.results56]) rfl ⟨rfl,K1.out⟩
end Go.Proofs.YtffpanlpbdnafaaDoor
/- wire.take: a header. (printed by gen_ii.py) -/
set_option linter.unusedSimpArgs false
set_option linter.unusedVariables false
namespace Go.Proofs.YtffpanlpbdnafaaDoor
open Go.RowKit
attribute [local go_sem ↓] Go.wp_at_zero Go.wp_at_succ
set_option maxRecDepth 100000 in
set_option maxHeartbeats 4000000 in
theorem hget_shortA (A : Option Addr) (n c : Nat) (w : World) (h : n < 80) :
  Calls Tryd.prog 73 #[.slice A n c] w fun e w' => ∃ cs,e = .returned (.tuple #[.agg cs,.int .i64 1])∧HdA zHdr cs∧Keep w w':=by
 obtain ⟨zd,hzD,hd0,hdb⟩:=zheadB_letter
 have hdn:=hzD.n;have hdz:=hzD.z;have hdi:=hzD.i
 have HZ:=Lib.hid hzD;have HBu:=Lib.hid hdb
 clear hzD hdb
 have d1 : (n : Int) < 80:=by omega
 go_enter Tryd.func73,Tryd.ntmps73
 go_upto_region 1 with fail
 obtain ⟨w1,hw1⟩ : ∃ w1,w1 = w.alloc (.cells zd 42):=⟨_,rfl⟩
 have HB1 : Hid (Blk w1 w.heap.size 42 zd.toList):=by rw [hw1];exact Lib.hid (Blk.new w _ zd.toList)
 have K1 : Hid (Keep w w1):=by rw [hw1];exact Lib.hid (keep_new _ _)
 rw [← hw1]
 clear hw1
 obtain ⟨w8,hst8,hb8,hg8⟩:=run_store_blk (P:=Tryd.prog) zd.toList HB1.out rfl HZ.out.o
 have Hb8:=Lib.hid hb8;have Hg8:=Lib.hid hg8
 clear hb8 hg8
 go_wp2_with ((with_reducible refine list_bldg [] zd (Eq.trans ?_ rfl) HBu.out (Eq.trans ?_ rfl) ?_);rfl;rfl)
 exact bodyPost_ret (v:=.tuple #[.agg zd,.int .i64 1]) (results_cell_tmp_row Tryd.results73 _ _ w.heap.size _ _ _ _ rfl Hb8.out Tryd.underlying42 rfl (by rw [List.size_toArray,Array.length_toList];exact hdi)) rfl ⟨zd,rfl,HZ.out,K1.out.grown Hg8.out K1.out.size (fun q hq => by injection hq with hq;omega)⟩
set_option maxRecDepth 100000 in
set_option maxHeartbeats 4000000 in
theorem take_head (l : Hd) (ls : Array Value) (hA : HdA l ls) (A : Option Addr) (b : List UInt8) (c : Nat) (w : World) (hl : b.length ≤ 1000000000) (hc : b.length ≤ c) (hcm : c ≤ maxLen) (hr : Rd w A (b.map u8v)) :
  Calls Tryd.prog 56 #[.iface 42 (.agg ls),.slice A b.length c] w fun e w' => ∃ h cs,e = .returned (.tuple #[.iface 42 (.agg cs),iv 80,iv (if b.length < 80 then 1 else 0)])∧HdA h cs∧(¬ b.length < 80 → h = hgetL (b.take 80))∧Keep w w':=by
 obtain ⟨zh,hzA,hz0⟩:=zhash_letter32
 obtain ⟨zd,hzD,hd0⟩:=zhead_letterA
 have hdn:=hzD.n;have hdz:=hzD.z;have hdi:=hzD.i
 have hln:=hA.n;have hlz:=hA.z;have hli:=hA.i
 have HA:=Lib.hid hA
 obtain ⟨E,hE⟩ : ∃ E : Int,(if b.length < 80 then (1 : Int) else 0) = E:=⟨_,rfl⟩
 obtain ⟨n,hn⟩ : ∃ n : Nat,min b.length 80 = n:=⟨_,rfl⟩
 have TK : Hid (∀ y,Keep w y → Calls Tryd.prog 73 #[.slice A n c] y fun e w' => ∃ h cs,e = .returned (.tuple #[.agg cs,iv E])∧HdA h cs∧(¬ b.length < 80 → h = hgetL (b.take 80))∧Keep y w'):=Lib.hid fun y hy => by
  by_cases h80 : b.length < 80
  ·rw [if_pos h80] at hE
   subst hE
   refine (hget_shortA A n c y (by omega)).mono ?_
   rintro e w2 ⟨cs,rfl,h1,k2⟩
   exact ⟨zHdr,cs,rfl,h1,fun h => absurd h80 h,k2⟩
  ·rw [if_neg h80] at hE
   subst hE
   obtain rfl : n = 80:=by omega
   have q:=(hr.keep hy).take 80
   rw [← List.map_take] at q
   refine (hget_any A (b.take 80) c y (by rw [List.length_take];omega) (by omega) hcm q).mono ?_
   rintro e w2 ⟨cs,rfl,h1,k2⟩
   exact ⟨_,cs,rfl,h1,fun _ => rfl,k2⟩
 rw [hE]
 clear hr hzA hA hE hzD
 have hnc : n ≤ c:=by omega
 unfold maxLen at hcm
 obtain ⟨L,hL⟩ : ∃ L,b.length = L:=⟨_,rfl⟩
 simp only [hL] at hn hl hc TK ⊢
 clear hL
 rcases Nat.lt_or_ge 80 L with hlt | hge
 ·have d1 : (80 : Int) < (L : Int):=by omega
  obtain rfl : n = 80:=by omega
  clear hlt hn
  go_enter Tryd.func56,Tryd.ntmps56
  have NH : ∀ y,(Instr.typeAssert (.iface 42 (.agg ls)) 20 39 true).run Tryd.prog y = .ok (.tuple #[.agg zh,.bool false]) y:=run_assert_no hash_under rfl (by decide) hz0 _ _
  have N0 : ∀ y,(Instr.typeAssert (.iface 42 (.agg ls)) 20 22 true).run Tryd.prog y = .ok (.tuple #[.int .u32 0,.bool false]) y:=run_assert_no Tryd.underlying22 rfl (by decide) zu32 _ _
  have N1 : ∀ y,(Instr.typeAssert (.iface 42 (.agg ls)) 20 25 true).run Tryd.prog y = .ok (.tuple #[.int .u64 0,.bool false]) y:=run_assert_no Tryd.underlying25 rfl (by decide) zu64 _ _
  have N2 : ∀ y,(Instr.typeAssert (.iface 42 (.agg ls)) 20 143 true).run Tryd.prog y = .ok (.tuple #[.agg #[.slice none 0 0,.int .u64 0],.bool false]) y:=run_assert_no Tryd.underlying143 rfl (by decide) zhashes _ _
  have N3 : ∀ y,(Instr.typeAssert (.iface 42 (.agg ls)) 20 40 true).run Tryd.prog y = .ok (.tuple #[.slice none 0 0,.bool false]) y:=run_assert_no Tryd.underlying40 rfl (by decide) zitems _ _
  have N4 : ∀ y,(Instr.typeAssert (.iface 42 (.agg ls)) 20 26 true).run Tryd.prog y = .ok (.tuple #[.slice none 0 0,.bool false]) y:=run_assert_no Tryd.underlying26 rfl (by decide) zbytes _ _
  have Y1 : ∀ y,(Instr.typeAssert (.iface 42 (.agg ls)) 20 42 true).run Tryd.prog y = .ok (.tuple #[.agg ls,.bool true]) y:=run_assert_yes Tryd.underlying42 rfl _ _
  have hst : ∀ y : World,(storeCells ⟨y.heap.size,0,none⟩ ls.toList 0).run Tryd.prog (y.alloc (.cells zd 42)) = .ok () (y.alloc (.cells ls 42)):=fun y => run_storeCells_new (P:=Tryd.prog) y 42 zd ls hli (hdz.trans hlz.symm) (by have:=all_oneCell_toArray HA.out.o;simpa using this)
  go_upto_region 29 with fail
  obtain ⟨w1,hw1⟩ : ∃ w1,w1 = w.alloc (.cells ls 42):=⟨_,rfl⟩
  have K1 : Hid (Keep w w1):=by rw [hw1];exact Lib.hid (keep_new _ _)
  rw [← hw1]
  clear hw1 hst
  go_upto_region 30 with (go_at_call 73;refine (TK.out _ K1.out).mono ?_;rintro e w2 ⟨h,cs,rfl,hA2,hh,k2⟩;have HA2:=Lib.hid hA2;have HH:=Lib.hid hh;have K2:=Lib.hid (keep_trans K1.out k2);have hcn:=hA2.n;have hcz:=hA2.z;have hci:=hA2.i;have hst2 : ∀ y : World,(storeCells ⟨y.heap.size,0,none⟩ cs.toList 0).run Tryd.prog (y.alloc (.cells zd 42)) = .ok () (y.alloc (.cells cs 42)):=fun y => run_storeCells_new (P:=Tryd.prog) y 42 zd cs hci (hdz.trans hcz.symm) (by have:=all_oneCell_toArray HA2.out.o;simpa using this);clear hA2 hh k2)
  obtain ⟨w3,hw3⟩ : ∃ w3,w3 = w2.alloc (.cells cs 42):=⟨_,rfl⟩
  have HB3 : Hid (Blk w3 w2.heap.size 42 cs.toList):=by rw [hw3];exact Lib.hid (Blk.new w2 _ cs.toList)
  have K3 : Hid (Keep w w3):=by rw [hw3];exact Lib.hid (keep_trans K2.out (keep_new _ _))
  rw [← hw3]
  clear hw3 hst2
  go_wp2_with ((with_reducible refine load_arr w2.heap.size cs (Eq.trans ?_ rfl) HB3.out _ Tryd.underlying42 rfl hci ?_);rfl)
  exact bodyPost_ret (v:=.tuple #[.iface 42 (.agg cs),iv 80,iv E]) (by simp [results,Tryd.results56]) rfl ⟨h,cs,rfl,HA2.out,HH.out,K3.out⟩
 ·have d1 : (L : Int) ≤ 80:=by omega
  obtain rfl : n = L:=by omega
  clear hge hn
  go_enter Tryd.func56,Tryd.ntmps56
  have NH : ∀ y,(Instr.typeAssert (.iface 42 (.agg ls)) 20 39 true).run Tryd.prog y = .ok (.tuple #[.agg zh,.bool false]) y:=run_assert_no hash_under rfl (by decide) hz0 _ _
  have N0 : ∀ y,(Instr.typeAssert (.iface 42 (.agg ls)) 20 22 true).run Tryd.prog y = .ok (.tuple #[.int .u32 0,.bool false]) y:=run_assert_no Tryd.underlying22 rfl (by decide) zu32 _ _
  have N1 : ∀ y,(Instr.typeAssert (.iface 42 (.agg ls)) 20 25 true).run Tryd.prog y = .ok (.tuple #[.int .u64 0,.bool false]) y:=run_assert_no Tryd.underlying25 rfl (by decide) zu64 _ _
  have N2 : ∀ y,(Instr.typeAssert (.iface 42 (.agg ls)) 20 143 true).run Tryd.prog y = .ok (.tuple #[.agg #[.slice none 0 0,.int .u64 0],.bool false]) y:=run_assert_no Tryd.underlying143 rfl (by decide) zhashes _ _
  have N3 : ∀ y,(Instr.typeAssert (.iface 42 (.agg ls)) 20 40 true).run Tryd.prog y = .ok (.tuple #[.slice none 0 0,.bool false]) y:=run_assert_no Tryd.underlying40 rfl (by decide) zitems _ _
  have N4 : ∀ y,(Instr.typeAssert (.iface 42 (.agg ls)) 20 26 true).run Tryd.prog y = .ok (.tuple #[.slice none 0 0,.bool false]) y:=run_assert_no Tryd.underlying26 rfl (by decide) zbytes _ _
  have Y1 : ∀ y,(Instr.typeAssert (.iface 42 (.agg ls)) 20 42 true).run Tryd.prog y = .ok (.tuple #[.agg ls,.bool true]) y:=run_assert_yes Tryd.underlying42 rfl _ _
  have hst : ∀ y : World,(storeCells ⟨y.heap.size,0,none⟩ ls.toList 0).run Tryd.prog (y.alloc (.cells zd 42)) = .ok () (y.alloc (.cells ls 42)):=fun y => run_storeCells_new (P:=Tryd.prog) y 42 zd ls hli (hdz.trans hlz.symm) (by have:=all_oneCell_toArray HA.out.o;simpa using this)
  go_upto_region 29 with fail
  obtain ⟨w1,hw1⟩ : ∃ w1,w1 = w.alloc (.cells ls 42):=⟨_,rfl⟩
  have K1 : Hid (Keep w w1):=by rw [hw1];exact Lib.hid (keep_new _ _)
  rw [← hw1]
  clear hw1 hst
  go_upto_region 30 with (go_at_call 73;refine (TK.out _ K1.out).mono ?_;rintro e w2 ⟨h,cs,rfl,hA2,hh,k2⟩;have HA2:=Lib.hid hA2;have HH:=Lib.hid hh;have K2:=Lib.hid (keep_trans K1.out k2);have hcn:=hA2.n;have hcz:=hA2.z;have hci:=hA2.i;have hst2 : ∀ y : World,(storeCells ⟨y.heap.size,0,none⟩ cs.toList 0).run Tryd.prog (y.alloc (.cells zd 42)) = .ok () (y.alloc (.cells cs 42)):=fun y => run_storeCells_new (P:=Tryd.prog) y 42 zd cs hci (hdz.trans hcz.symm) (by have:=all_oneCell_toArray HA2.out.o;simpa using this);clear hA2 hh k2)
  obtain ⟨w3,hw3⟩ : ∃ w3,w3 = w2.alloc (.cells cs 42):=⟨_,rfl⟩
  have HB3 : Hid (Blk w3 w2.heap.size 42 cs.toList):=by rw [hw3];exact Lib.hid (Blk.new w2 _ cs.toList)
  have K3 : Hid (Keep w w3):=by rw [hw3];exact Lib.hid (keep_trans K2.out (keep_new _ _))
  rw [← hw3]
  clear hw3 hst2
  go_wp2_with ((with_reducible refine load_arr w2.heap.size cs (Eq.trans ?_ rfl) HB3.out _ Tryd.underlying42 rfl hci ?_);rfl)
  exact bodyPost_ret (v:=.tuple #[.iface 42 (.agg cs),iv 80,iv E]) (by simp [results,Tryd.results56]) rfl ⟨h,cs,rfl,HA2.out,HH.out,K3.out⟩
end Go.Proofs.YtffpanlpbdnafaaDoor
/- What wire.take and wire.Get answer: plain. -/
set_option linter.unusedSimpArgs false
set_option linter.unusedVariables false
namespace Go.Proofs.YtffpanlpbdnafaaDoor
open Go.RowKit
def PV.pl : PV → PV
 | .hsh _ l _ most => .hsh none l 0 most
 | .heads _ l _ => .heads none l 0
 | .items _ l _ => .items none l 0
 | .bytes _ l _ => .bytes none l 0
 | .tx t => .tx t.pl
 | p => p
def PV.at_ (w : World) : PV → Prop
 | .u32 _ => True
 | .u64 n => n < 2 ^ 64
 | .hsh A l c _ => (∀ s ∈ l,s.length = 32)∧(l.length ≤ c∧c ≤ maxLen)∧Rd w A (hsL l)
 | .h32 s => s.length = 32
 | .heads A l c => (∀ h ∈ l,h.ok)∧(l.length ≤ c∧c ≤ maxLen)∧Rd w A (l.flatMap Hd.cells)
 | .items A l c => (∀ x ∈ l,x.ok)∧(l.length ≤ c∧c ≤ maxLen)∧Rd w A (l.flatMap Itm.cells)
 | .head h => h.ok
 | .bytes A l c => (l.length ≤ c∧c ≤ maxLen)∧Rd w A (l.map u8v)
 | .tx t => t.at w
theorem PV.at_.keep {w w' : World} {p : PV} (h : p.at_ w) (k : Keep w w') : p.at_ w':=by
 cases p with
 | u32 x => trivial
 | u64 n => exact h
 | hsh A l c most => exact ⟨h.1,h.2.1,h.2.2.keep k⟩
 | h32 s => exact h
 | heads A l c => exact ⟨h.1,h.2.1,h.2.2.keep k⟩
 | items A l c => exact ⟨h.1,h.2.1,h.2.2.keep k⟩
 | head h' => exact h
 | bytes A l c => exact ⟨h.1,h.2.keep k⟩
 | tx t => exact TxR.at.keep h k
def PV.tak (b : List UInt8) : PV → PV × Nat × Int
 | .u32 _ => (.u32 (UInt32.ofNat (if b.length < 4 then 0 else numN b 4)),4,if b.length < 4 then 1 else 0)
 | .u64 _ => (.u64 (if b.length < 8 then 0 else numN b 8),8,if b.length < 8 then 1 else 0)
 | .hsh _ _ _ most => (.hsh none (thsN b most).1 0 most,(thsN b most).2.1,(thsN b most).2.2)
 | .h32 _ => (.h32 (b.take 32),if b.length < 32 then 0 else 32,if b.length < 32 then 1 else 0)
 | .heads _ _ _ => (.heads none (hgall b).1 0,b.length,(hgall b).2)
 | .items _ _ _ => (.items none (titN b).1 0,(titN b).2.1,(titN b).2.2)
 | .head _ => (.head (hgetL (b.take 80)),80,if b.length < 80 then 1 else 0)
 | .bytes _ _ _ => (.bytes none (bytN b 1024).1 0,(bytN b 1024).2.1,(bytN b 1024).2.2)
 | .tx _ => (.tx (tgetN b).1,(tgetN b).2.1,(tgetN b).2.2)
def PV.like : PV → Prop
 | .hsh _ _ _ most => most ≤ 1000000
 | .h32 s => s.length = 32
 | .head h => h.ok
 | _ => True
def getsN : List PV → List UInt8 → List PV × List UInt8 × Int
 | [],b => ([],b,0)
 | p :: ps,b => if (p.tak b).2.2 = 0 then ((p.tak b).1 :: (getsN ps (b.drop (p.tak b).2.1)).1,(getsN ps (b.drop (p.tak b).2.1)).2) else ([],b,(p.tak b).2.2)
def msgOf (k : Int) : List PV → MsgR
 | [.u64 n] => { msgZ k with nonce:=n }
 | [.heads A l c] => { msgZ k with hA:=A,hs:=l,hc:=c }
 | [.items A l c] => { msgZ k with iA:=A,is:=l,ic:=c }
 | [.tx t] => { msgZ k with t:=t }
 | [.u32 p,.u64 n,.u32 h] => { msgZ k with proto:=p,nonce:=n,height:=h }
 | [.u32 p,.hsh A l c _,.h32 s] => { msgZ k with proto:=p,lA:=A,ls:=l,lc:=c,stop:=s }
 | [.head h,.u32 t,.hsh A l c _,.bytes B f d] => { msgZ k with bh:=h,total:=t,sA:=A,shs:=l,sc:=c,fA:=B,fs:=f,fc:=d }
 | _ => msgZ k
def MsgR.pl (m : MsgR) : MsgR:={ m with hA:=none,hc:=0,lA:=none,lc:=0,iA:=none,ic:=0,sA:=none,sc:=0,fA:=none,fc:=0,t:=m.t.pl }
def wgetN (s : List UInt8) (b : List UInt8) : MsgR × Int :=
 if (kindN s).2 = true then
  if (getsN (partsM (msgZ (kindN s).1)) b).2.2 = 0 then
   if (getsN (partsM (msgZ (kindN s).1)) b).2.1 = [] then (msgOf (kindN s).1 (getsN (partsM (msgZ (kindN s).1)) b).1,0) else (msgZ 0,2)
  else (msgZ 0,(getsN (partsM (msgZ (kindN s).1)) b).2.2)
 else (msgZ 0,2)
end Go.Proofs.YtffpanlpbdnafaaDoor
/- wire.take: whatever the part. -/
set_option linter.unusedSimpArgs false
set_option linter.unusedVariables false
namespace Go.Proofs.YtffpanlpbdnafaaDoor
open Go.RowKit
theorem hshs_ok {b : List UInt8} {a : Nat} : ∀ {n : Nat},a + n * 32 ≤ b.length → ∀ s ∈ hshs b a n,s.length = 32:=fun {n} h s hs => by
 unfold hshs at hs
 obtain ⟨i,hi,rfl⟩:=List.mem_map.1 hs
 rw [List.mem_range] at hi
 rw [List.length_take,List.length_drop]
 have : (i + 1) * 32 ≤ n * 32:=Nat.mul_le_mul_right _ hi
 omega
theorem ths_ok (b : List UInt8) (most : Nat) : ∀ s ∈ (thsN b most).1,s.length = 32:=by
 unfold thsN
 split
 ·split
  ·intro s hs;cases hs
  ·exact hshs_ok (by omega)
 ·intro s hs;cases hs
theorem itms_ok {b : List UInt8} {a : Nat} : ∀ {n : Nat},a + n * 36 ≤ b.length → ∀ s ∈ itms b a n,s.ok:=fun {n} h s hs => by
 unfold itms at hs
 obtain ⟨i,hi,rfl⟩:=List.mem_map.1 hs
 rw [List.mem_range] at hi
 unfold Itm.ok itmOf
 rw [List.length_take,List.length_drop]
 have : (i + 1) * 36 ≤ n * 36:=Nat.mul_le_mul_right _ hi
 omega
theorem tit_ok (b : List UInt8) : ∀ s ∈ (titN b).1,s.ok:=by
 unfold titN
 split
 ·split
  ·intro s hs;cases hs
  ·exact itms_ok (by omega)
 ·intro s hs;cases hs
theorem hgal_ok (b : List UInt8) : ∀ n a,∀ h ∈ (hgal b n a).1,h.ok
 | 0,a => by unfold hgal;split <;> (intro h hh;cases hh)
 | n + 1,a => by
   unfold hgal
   split
   ·intro h hh;cases hh
   ·split
    ·split
     ·intro h hh
      rcases List.mem_cons.1 hh with rfl | q
      ·exact hgetL_ok (by rw [List.length_take,List.length_drop];omega)
      ·exact hgal_ok b n _ h q
     ·intro h hh;cases hh
    ·intro h hh;cases hh
theorem hgall_ok (b : List UInt8) : ∀ h ∈ (hgall b).1,h.ok:=by
 unfold hgall
 split
 ·exact hgal_ok b _ _
 ·intro h hh;cases hh
theorem take_any (p : PV) (hp : p.like) (A : Option Addr) (b : List UInt8) (c : Nat) (w : World) (hl : b.length ≤ 1000000000) (hc : b.length ≤ c) (hcm : c ≤ maxLen) (hr : Rd w A (b.map u8v)) :
  Calls Tryd.prog 56 #[p.val,.slice A b.length c] w fun e w' => ∃ v,e = .returned (.tuple #[v,iv (p.tak b).2.1,iv (p.tak b).2.2])∧((p.tak b).2.2 = 0 → ∃ q : PV,v = q.val∧q.pl = (p.tak b).1∧q.at_ w'∧∀ W,MidF (fun _ => True) w w' W → q.at_ W)∧Keep w w':=by
 cases p with
 | u32 x =>
   refine (take_u32 x A b c w hl hc hr).mono ?_
   rintro e w' ⟨rfl,k⟩
   exact ⟨_,rfl,fun _ => ⟨.u32 _,rfl,rfl,trivial,fun _ _ => trivial⟩,k⟩
 | u64 x =>
   refine (take_u64 x A b c w hl hc hr).mono ?_
   rintro e w' ⟨rfl,k⟩
   have q : (if b.length < 8 then 0 else numN b 8) < 2 ^ 64:=by
    have:=numN_lt b 8
    split <;> omega
   exact ⟨_,rfl,fun _ => ⟨.u64 _,rfl,rfl,q,fun _ _ => q⟩,k⟩
 | hsh A0 l c0 most =>
   refine (take_hsh A0 l.length c0 most A b c w hl hc hcm hp hr).mono ?_
   rintro e w' ⟨v,rfl,o,k⟩
   obtain ⟨A',c',rfl,h1,h2,h3⟩:=own_form o
   exact ⟨_,rfl,fun _ => ⟨.hsh A' (thsN b most).1 c' most,rfl,rfl,⟨ths_ok b most,⟨h1,h2⟩,h3⟩,fun W hm => ⟨ths_ok b most,⟨h1,h2⟩,own_mid o (Nat.le_refl _) hm⟩⟩,k⟩
 | h32 s =>
   by_cases h : b.length < 32
   ·refine (take_h32_short s _ (HashA.of hp) A b.length c w h).mono ?_
    rintro e w' ⟨rfl,k⟩
    refine ⟨.nilIface,?_,fun q => ?_,k⟩
    ·show _ = Ending.returned (.tuple #[_,iv ((if b.length < 32 then 0 else 32 : Nat)),iv (if b.length < 32 then 1 else 0)])
     rw [if_pos h,if_pos h];rfl
    ·replace q : (if b.length < 32 then (1 : Int) else 0) = 0:=q
     rw [if_pos h] at q;cases q
   ·have hl32 : (b.take 32).length = 32:=by rw [List.length_take];omega
    refine (take_h32 s _ (HashA.of hp) A b c w (by omega) hl hc hcm hr).mono ?_
    rintro e w' ⟨rfl,k⟩
    refine ⟨.iface 39 (.agg ((b.take 32).map u8v).toArray),?_,fun q => ⟨.h32 (b.take 32),rfl,rfl,hl32,fun _ _ => hl32⟩,k⟩
    ·show _ = Ending.returned (.tuple #[_,iv ((if b.length < 32 then 0 else 32 : Nat)),iv (if b.length < 32 then 1 else 0)])
     rw [if_neg h,if_neg h];rfl
 | heads A0 l c0 =>
   refine (take_heads A0 l.length c0 A b c w hl hc hcm hr).mono ?_
   rintro e w' ⟨v,rfl,o,k⟩
   obtain ⟨A',c',rfl,h1,h2,h3⟩:=own_form o
   exact ⟨_,rfl,fun _ => ⟨.heads A' (hgall b).1 c',rfl,rfl,⟨hgall_ok b,⟨h1,h2⟩,h3⟩,fun W hm => ⟨hgall_ok b,⟨h1,h2⟩,own_mid o (Nat.le_refl _) hm⟩⟩,k⟩
 | items A0 l c0 =>
   refine (take_items A0 l.length c0 A b c w hl hc hcm hr).mono ?_
   rintro e w' ⟨v,rfl,o,k⟩
   obtain ⟨A',c',rfl,h1,h2,h3⟩:=own_form o
   exact ⟨_,rfl,fun _ => ⟨.items A' (titN b).1 c',rfl,rfl,⟨tit_ok b,⟨h1,h2⟩,h3⟩,fun W hm => ⟨tit_ok b,⟨h1,h2⟩,own_mid o (Nat.le_refl _) hm⟩⟩,k⟩
 | head h =>
   refine (take_head h _ (HdA.of hp) A b c w hl hc hcm hr).mono ?_
   rintro e w' ⟨x,cs,rfl,hx,hh,k⟩
   refine ⟨_,rfl,fun q => ?_,k⟩
   replace q : (if b.length < 80 then (1 : Int) else 0) = 0:=q
   by_cases h8 : b.length < 80
   ·rw [if_pos h8] at q;cases q
   ·obtain rfl:=hh h8
    have hok : (hgetL (b.take 80)).ok:=hgetL_ok (by rw [List.length_take];omega)
    refine ⟨.head (hgetL (b.take 80)),?_,rfl,hok,fun _ _ => hok⟩
    have e : cs = (hgetL (b.take 80)).cells.toArray:=by rw [← hx.l,Array.toArray_toList]
    rw [e];rfl
 | bytes A0 l c0 =>
   refine (take_bytes A0 l.length c0 A b c w hl hc hcm hr).mono ?_
   rintro e w' ⟨v,rfl,o,k⟩
   obtain ⟨A',c',rfl,h1,h2,h3⟩:=own_form o
   exact ⟨_,rfl,fun _ => ⟨.bytes A' (bytN b 1024).1 c',rfl,rfl,⟨⟨h1,h2⟩,h3⟩,fun W hm => ⟨⟨h1,h2⟩,own_mid o (Nat.le_refl _) hm⟩⟩,k⟩
 | tx s =>
   refine (take_tx s A b c w hl hc hcm hr).mono ?_
   rintro e w' ⟨t,rfl,h1,h2,h3,h4,k⟩
   refine ⟨_,rfl,fun _ => ⟨.tx t,rfl,?_,h2⟩,k⟩
   show PV.tx t.pl = PV.tx (tgetN b).1
   rw [h1]
end Go.Proofs.YtffpanlpbdnafaaDoor
/- wire.message. (printed by gen_il.py) -/
set_option linter.unusedSimpArgs false
set_option linter.unusedVariables false
namespace Go.Proofs.YtffpanlpbdnafaaDoor
open Go.RowKit
attribute [local go_sem ↓] Go.wp_at_zero Go.wp_at_succ
theorem hsh_field (A : Option Addr) (n c most : Nat) (y : World) : (Instr.field 143 (.agg #[.slice A n c,u64v most]) 0).run Tryd.prog y = .ok (.slice A n c) y:=by kernel_rfl
theorem msg_built (k : Int) : Tryd.prog.built 50 [(0,.int .i64 k)] = some (msgZ k).cells.toArray:=by kernel_rfl
namespace MsgR
theorem set38s {m : MsgR} (h : m.ok) (A : Option Addr) (l : List Itm) (c : Nat) : m.cells.set 38 (.slice A l.length c) = cells { m with iA:=A,is:=l,ic:=c }:=by
 unfold cells
 rw [List.set_append_right _ _ (by simp),List.set_append_right _ _ (by simp [h.s])]
 simp [h.s,blk]
theorem set_txs {m : MsgR} (h : m.ok) (t : TxR) : (((m.cells.set 110 (u32v t.ver)).set 111 (.slice t.iA t.ins.length t.ic)).set 112 (.slice t.oA t.outs.length t.oc)).set 113 (u32v t.lock) = cells { m with t:=t }:=by
 rw [cells110,setp m h _ 0,setp m h _ 1,setp m h _ 2,setp m h _ 3,cells110];rfl
theorem len2 {m : MsgR} (hs : m.stop.length = 32) (hb : m.bh.ok) : m.cells.length = 114:=by
 unfold cells;simp [hs,blk_len hb,TxR.cells]
theorem set_blk {m : MsgR} (hs : m.stop.length = 32) (hb : m.bh.ok) (k : Nat) (v : Value) (hk : k < 71) : m.cells.set (k + 39) v = m.hd39 ++ (m.blk.set k v ++ m.t.cells):=by
 rw [cells39,List.set_append_right _ _ (by rw [hd39_len hs];omega),hd39_len hs,show k + 39 - 39 = k by omega,List.set_append_left _ _ (by rw [blk_len hb];omega)]
theorem set107 {m : MsgR} (hs : m.stop.length = 32) (hb : m.bh.ok) (x : UInt32) : m.cells.set 107 (u32v x) = cells { m with total:=x }:=by
 rw [show (107 : Nat) = 68 + 39 from rfl,set_blk hs hb _ _ (by omega),cells39]
 unfold blk
 rw [List.set_append_right _ _ (by rw [Hd.len hb];omega),Hd.len hb];rfl
theorem set108 {m : MsgR} (hs : m.stop.length = 32) (hb : m.bh.ok) (A : Option Addr) (l : List (List UInt8)) (c : Nat) : m.cells.set 108 (.slice A l.length c) = cells { m with sA:=A,shs:=l,sc:=c }:=by
 rw [show (108 : Nat) = 69 + 39 from rfl,set_blk hs hb _ _ (by omega),cells39]
 unfold blk
 rw [List.set_append_right _ _ (by rw [Hd.len hb];omega),Hd.len hb];rfl
theorem set109 {m : MsgR} (hs : m.stop.length = 32) (hb : m.bh.ok) (A : Option Addr) (l : List UInt8) (c : Nat) : m.cells.set 109 (.slice A l.length c) = cells { m with fA:=A,fs:=l,fc:=c }:=by
 rw [show (109 : Nat) = 70 + 39 from rfl,set_blk hs hb _ _ (by omega),cells39]
 unfold blk
 rw [List.set_append_right _ _ (by rw [Hd.len hb];omega),Hd.len hb];rfl
theorem splice_stop2 {m : MsgR} (hs : m.stop.length = 32) {l : List UInt8} (hl : l.length = 32) : splice m.cells 6 (l.map u8v) = cells { m with stop:=l }:=by
 rw [cells6,splice3 (show m.hd6.length = 6 from rfl) (by rw [List.length_map,List.length_map,hs,hl])];rfl
theorem splice_bh {m : MsgR} (hs : m.stop.length = 32) (hb : m.bh.ok) {x : Hd} (hx : x.ok) : splice m.cells 39 x.cells = cells { m with bh:=x }:=by
 have e : m.cells = m.hd39 ++ (m.bh.cells ++ ([u32v m.total,.slice m.sA m.shs.length m.sc,.slice m.fA m.fs.length m.fc] ++ m.t.cells)):=by rw [cells39];unfold blk;rw [List.append_assoc]
 rw [e,splice3 (hd39_len hs) (by rw [Hd.len hx,Hd.len hb]),cells39]
 unfold blk
 rw [List.append_assoc];rfl
end MsgR
set_option maxRecDepth 100000 in
set_option maxHeartbeats 4000000 in
theorem message_0 (p : UInt32) (n : Nat) (h : UInt32) (A : Option Addr) (c : Nat) (w : World) (hM : MsgR.ok { msgZ 0 with proto:=p,nonce:=n,height:=h }) (hr : Rd w A (([.u32 p,.u64 n,.u32 h] : List PV).map PV.val)) :
  Calls Tryd.prog 57 #[.int .i64 0,.slice A 3 c] w fun e w' => ∃ ds,e = .returned (.agg ds)∧MsA { msgZ 0 with proto:=p,nonce:=n,height:=h } ds∧Keep w w':=by
 obtain ⟨ys,hyz,hyA⟩:=zmsg_letter
 obtain ⟨ks,hks⟩ : ∃ ks : Array Value,ks = (msgZ 0).cells.toArray:=⟨_,rfl⟩
 have hkA : MsA (msgZ 0) ks:=by rw [hks];exact MsA.of (msgZ_ok _ (by omega))
 have HBu : Hid (Tryd.prog.built 50 [(0,.int .i64 0)] = some ks):=Lib.hid (by rw [hks];exact msg_built _)
 clear hks
 have hyn:=hyA.n;have hkn:=hkA.n;have hkz:=hkA.z;have hyzz:=hyA.z
 have HY:=Lib.hid hyA;have HKS:=Lib.hid hkA
 have HMO:=Lib.hid hM
 have HZO:=Lib.hid (msgZ_ok 0 (by omega))
 have HS : Hid ((msgZ 0).stop.length = 32):=Lib.hid rfl
 have HB : Hid ((msgZ 0).bh.ok):=Lib.hid ⟨rfl,rfl⟩
 have hst : (storeCells ⟨w.heap.size + 1,0,none⟩ ks.toList 0).run Tryd.prog ((w.alloc (.cells ys 50)).alloc (.cells ys 50)) = .ok () ((w.alloc (.cells ys 50)).alloc (.cells ks 50)):=by
  have q:=run_storeCells_new (P:=Tryd.prog) (w.alloc (.cells ys 50)) 50 ys ks HKS.out.i (hyA.z.trans hkA.z.symm) (by have:=all_oneCell_toArray HKS.out.o;simpa using this)
  rw [World.size_alloc] at q
  exact q
 clear hyA hkA hM hyzz
 generalize hMM : { msgZ 0 with proto:=p,nonce:=n,height:=h } = M at *
 have HMM:=Lib.hid hMM
 clear hMM
 obtain ⟨g,off,rfl,hgb,hcell⟩:=hr.at (k:=0) (by simp)
 have c0 : w.cell? ⟨g,off,none⟩ = some (.iface 22 (u32v p)):=hcell 0 (by simp)
 have c1 : w.cell? ⟨g,off + 1,none⟩ = some (.iface 25 (u64v n)):=hcell 1 (by simp)
 have c2 : w.cell? ⟨g,off + 2,none⟩ = some (.iface 22 (u32v h)):=hcell 2 (by simp)
 clear hr hcell
 have Y0 : ∀ y,(Instr.typeAssert (.iface 22 (u32v p)) 20 22 false).run Tryd.prog y = .ok (u32v p) y:=run_assert_must Tryd.underlying22 rfl _ _
 have Y1 : ∀ y,(Instr.typeAssert (.iface 25 (u64v n)) 20 25 false).run Tryd.prog y = .ok (u64v n) y:=run_assert_must Tryd.underlying25 rfl _ _
 have Y2 : ∀ y,(Instr.typeAssert (.iface 22 (u32v h)) 20 22 false).run Tryd.prog y = .ok (u32v h) y:=run_assert_must Tryd.underlying22 rfl _ _
 go_enter Tryd.func57,Tryd.ntmps57
 go_upto_region 2 with ((with_reducible refine list_bldg [(0,.int .i64 0)] ks (Eq.trans ?_ rfl) HBu.out (Eq.trans ?_ rfl) ?_);rfl;rfl)
 obtain ⟨w1,hw1⟩ : ∃ w1,w1 = (w.alloc (.cells ys 50)).alloc (.cells ks 50):=⟨_,rfl⟩
 have HR1 : Hid (Blk w1 w.heap.size 50 ys.toList):=by rw [hw1];exact Lib.hid ((Blk.new w _ ys.toList).alloc _)
 have HX1 : Hid (Blk w1 (w.heap.size + 1) 50 (msgZ 0).cells):=by
  rw [hw1,← HKS.out.l]
  have h2:=Blk.new (w.alloc (.cells ys 50)) 50 ks.toList
  rw [World.size_alloc] at h2
  exact Lib.hid h2
 have HK1 : Hid (Keep w w1):=by rw [hw1];exact Lib.hid (keep_trans (keep_new _ _) (keep_new _ _))
 rw [← hw1]
 clear hw1 hst
 replace c0:=keep_cell HK1.out c0
 replace c1:=keep_cell HK1.out c1
 replace c2:=keep_cell HK1.out c2
 go_upto_region 4 with fail
 letI iM : G.Mk:=⟨some (w.heap.size + 1)⟩
 refine G.wp_region_tree (.take [0,1,2,3,4,5,6,7,8,9,10,11,12] (.force [13] (.take [14] (.force [15] (.take [16] (.force [17] .done)))))) [] (by kernel_rfl) (by kernel_rfl) (fun wa1 ka => ?_)
 have hneG : G.Mk.m ≠ some g:=fun q => by have e : w.heap.size + 1 = g:=Option.some.inj q;omega
 have HXa:=Lib.hid (HX1.out.keep ka);have HRa:=Lib.hid (HR1.out.keep ka);have HKa:=Lib.hid (keep_trans HK1.out ka)
 replace c0:=keep_cell ka c0
 have b0:=G.aftG_cell c0 hneG
 replace c1:=keep_cell ka c1
 have b1:=G.aftG_cell c1 hneG
 replace c2:=keep_cell ka c2
 have b2:=G.aftG_cell c2 hneG
 clear ka HX1 HR1 HK1
 refine G.mt_take wa1 (G.Gr.refl _) ?_
 simp only [pick_cons,pick_nil,nth_zero,nth_succ]
 repeat (go_big_quiet_step (fail))
 refine wpQuiet_nil (G.mt_force ?_)
 clear b0 b1 b2 hneG
 simp only [pick_cons,pick_nil,nth_zero,nth_succ]
 refine G.fc_step rfl (fun K hK => ?_)
 have z0 : ∃ v,wa1.cell? ⟨w.heap.size + 1,1,none⟩ = some v:=⟨_,(HXa.out.cell 1).trans (List.getElem?_eq_getElem (by rw [MsgR.len2 (m:=(msgZ 0)) HS.out HB.out];omega))⟩
 obtain ⟨v0,z0⟩:=z0
 have y0:=HXa.out.frozen 1
 go_simp
 refine hK _ _ (show G.Gr wa1 _ from grown_set (grown_refl wa1 _)) ?_
 clear hK K z0 y0
 obtain ⟨wb10,hwb⟩ : ∃ wb,wb = wa1.setCell ⟨w.heap.size + 1,1,none⟩ (u32v p):=⟨_,rfl⟩
 have HXb10 : Hid (Blk wb10 (w.heap.size + 1) 50 (MsgR.cells { msgZ 0 with proto:=p })):=by
  rw [hwb]
  have q:=HXa.out.set_ 1 (u32v p)
  exact Lib.hid q
 have HRb10 : Hid (Blk wb10 w.heap.size 50 ys.toList):=by rw [hwb];exact Lib.hid (HRa.out.far (by simp) _)
 have HKb10 : Hid (Keep w wb10):=by rw [hwb];exact Lib.hid (Below.setCell HKa.out (by simp) _)
 rw [← hwb]
 clear hwb HXa HRa HKa
 refine G.fc_nil (G.mt_take _ (G.Gr.refl _) ?_)
 simp only [pick_cons,pick_nil,nth_zero,nth_succ]
 repeat (go_big_quiet_step (fail))
 refine wpQuiet_nil (G.mt_force ?_)
 simp only [pick_cons,pick_nil,nth_zero,nth_succ]
 refine G.fc_step rfl (fun K hK => ?_)
 have z0 : ∃ v,wb10.cell? ⟨w.heap.size + 1,2,none⟩ = some v:=⟨_,(HXb10.out.cell 2).trans (List.getElem?_eq_getElem (by rw [MsgR.len2 (m:={ msgZ 0 with proto:=p }) HS.out HB.out];omega))⟩
 obtain ⟨v0,z0⟩:=z0
 have y0:=HXb10.out.frozen 2
 go_simp
 refine hK _ _ (show G.Gr wb10 _ from grown_set (grown_refl wb10 _)) ?_
 clear hK K z0 y0
 obtain ⟨wb11,hwb⟩ : ∃ wb,wb = wb10.setCell ⟨w.heap.size + 1,2,none⟩ (u64v n):=⟨_,rfl⟩
 have HXb11 : Hid (Blk wb11 (w.heap.size + 1) 50 (MsgR.cells { msgZ 0 with proto:=p,nonce:=n })):=by
  rw [hwb]
  have q:=HXb10.out.set_ 2 (u64v n)
  exact Lib.hid q
 have HRb11 : Hid (Blk wb11 w.heap.size 50 ys.toList):=by rw [hwb];exact Lib.hid (HRb10.out.far (by simp) _)
 have HKb11 : Hid (Keep w wb11):=by rw [hwb];exact Lib.hid (Below.setCell HKb10.out (by simp) _)
 rw [← hwb]
 clear hwb HXb10 HRb10 HKb10
 refine G.fc_nil (G.mt_take _ (G.Gr.refl _) ?_)
 simp only [pick_cons,pick_nil,nth_zero,nth_succ]
 repeat (go_big_quiet_step (fail))
 refine wpQuiet_nil (G.mt_force ?_)
 simp only [pick_cons,pick_nil,nth_zero,nth_succ]
 refine G.fc_step rfl (fun K hK => ?_)
 have z0 : ∃ v,wb11.cell? ⟨w.heap.size + 1,3,none⟩ = some v:=⟨_,(HXb11.out.cell 3).trans (List.getElem?_eq_getElem (by rw [MsgR.len2 (m:={ msgZ 0 with proto:=p,nonce:=n }) HS.out HB.out];omega))⟩
 obtain ⟨v0,z0⟩:=z0
 have y0:=HXb11.out.frozen 3
 go_simp
 refine hK _ _ (show G.Gr wb11 _ from grown_set (grown_refl wb11 _)) ?_
 clear hK K z0 y0
 obtain ⟨wb12,hwb⟩ : ∃ wb,wb = wb11.setCell ⟨w.heap.size + 1,3,none⟩ (u32v h):=⟨_,rfl⟩
 have HXb12 : Hid (Blk wb12 (w.heap.size + 1) 50 (MsgR.cells { msgZ 0 with proto:=p,nonce:=n,height:=h })):=by
  rw [hwb]
  have q:=HXb11.out.set_ 3 (u32v h)
  exact Lib.hid q
 have HRb12 : Hid (Blk wb12 w.heap.size 50 ys.toList):=by rw [hwb];exact Lib.hid (HRb11.out.far (by simp) _)
 have HKb12 : Hid (Keep w wb12):=by rw [hwb];exact Lib.hid (Below.setCell HKb11.out (by simp) _)
 rw [← hwb]
 clear hwb HXb11 HRb11 HKb11
 refine G.fc_nil (G.mt_end ?_)
 clear iM
 go_upto_region 21 with fail
 obtain ⟨wx,hwx⟩ : ∃ wx,wx = wb12:=⟨_,rfl⟩
 have HX : Hid (Blk wx (w.heap.size + 1) 50 M.cells):=by rw [hwx,← HMM.out];exact HXb12
 have HRX : Hid (Blk wx w.heap.size 50 ys.toList):=by rw [hwx];exact HRb12
 have HKX : Hid (Keep w wx):=by rw [hwx];exact HKb12
 rw [← hwx]
 clear hwx HXb12 HRb12 HKb12
 obtain ⟨ds,hds⟩ : ∃ ds,MsA M ds:=⟨_,MsA.of HMO.out⟩
 have hdz:=hds.z;have hdn:=hds.n;have hdi:=hds.i
 have HDS:=Lib.hid hds
 have HBx : Hid (Blk wx (w.heap.size + 1) 50 ds.toList):=by rw [HDS.out.l];exact HX.out
 obtain ⟨w8,hst8,hb8,hg8⟩:=run_store_blk (P:=Tryd.prog) ds.toList HRX.out (by rw [Array.length_toList,Array.length_toList,hdz,HY.out.z]) HDS.out.o
 have Hb8:=Lib.hid hb8;have Hg8:=Lib.hid hg8
 clear hds hb8 hg8 HX HRX
 go_wp2_with ((with_reducible refine load_arr (w.heap.size + 1) ds (Eq.trans ?_ rfl) HBx.out _ Tryd.underlying50 rfl hdi ?_);rfl)
 have hb8:=Hb8.out
 exact bodyPost_ret (v:=.agg ds) (results_cell_row Tryd.results57 _ _ w.heap.size _ _ _ _ rfl hb8 Tryd.underlying50 rfl (by rw [List.size_toArray,Array.length_toList];exact hdi)) rfl ⟨ds,rfl,HDS.out,HKX.out.grown Hg8.out HKX.out.size (fun q hq => by injection hq with hq;omega)⟩
set_option maxRecDepth 100000 in
set_option maxHeartbeats 4000000 in
theorem message_2 (n : Nat) (A : Option Addr) (c : Nat) (w : World) (hM : MsgR.ok { msgZ 2 with nonce:=n }) (hr : Rd w A (([.u64 n] : List PV).map PV.val)) :
  Calls Tryd.prog 57 #[.int .i64 2,.slice A 1 c] w fun e w' => ∃ ds,e = .returned (.agg ds)∧MsA { msgZ 2 with nonce:=n } ds∧Keep w w':=by
 obtain ⟨ys,hyz,hyA⟩:=zmsg_letter
 obtain ⟨ks,hks⟩ : ∃ ks : Array Value,ks = (msgZ 2).cells.toArray:=⟨_,rfl⟩
 have hkA : MsA (msgZ 2) ks:=by rw [hks];exact MsA.of (msgZ_ok _ (by omega))
 have HBu : Hid (Tryd.prog.built 50 [(0,.int .i64 2)] = some ks):=Lib.hid (by rw [hks];exact msg_built _)
 clear hks
 have hyn:=hyA.n;have hkn:=hkA.n;have hkz:=hkA.z;have hyzz:=hyA.z
 have HY:=Lib.hid hyA;have HKS:=Lib.hid hkA
 have HMO:=Lib.hid hM
 have HZO:=Lib.hid (msgZ_ok 2 (by omega))
 have HS : Hid ((msgZ 2).stop.length = 32):=Lib.hid rfl
 have HB : Hid ((msgZ 2).bh.ok):=Lib.hid ⟨rfl,rfl⟩
 have hst : (storeCells ⟨w.heap.size + 1,0,none⟩ ks.toList 0).run Tryd.prog ((w.alloc (.cells ys 50)).alloc (.cells ys 50)) = .ok () ((w.alloc (.cells ys 50)).alloc (.cells ks 50)):=by
  have q:=run_storeCells_new (P:=Tryd.prog) (w.alloc (.cells ys 50)) 50 ys ks HKS.out.i (hyA.z.trans hkA.z.symm) (by have:=all_oneCell_toArray HKS.out.o;simpa using this)
  rw [World.size_alloc] at q
  exact q
 clear hyA hkA hM hyzz
 generalize hMM : { msgZ 2 with nonce:=n } = M at *
 have HMM:=Lib.hid hMM
 clear hMM
 obtain ⟨g,off,rfl,hgb,hcell⟩:=hr.at (k:=0) (by simp)
 have c0 : w.cell? ⟨g,off,none⟩ = some (.iface 25 (u64v n)):=hcell 0 (by simp)
 clear hr hcell
 have Y0 : ∀ y,(Instr.typeAssert (.iface 25 (u64v n)) 20 25 false).run Tryd.prog y = .ok (u64v n) y:=run_assert_must Tryd.underlying25 rfl _ _
 go_enter Tryd.func57,Tryd.ntmps57
 go_upto_region 2 with ((with_reducible refine list_bldg [(0,.int .i64 2)] ks (Eq.trans ?_ rfl) HBu.out (Eq.trans ?_ rfl) ?_);rfl;rfl)
 obtain ⟨w1,hw1⟩ : ∃ w1,w1 = (w.alloc (.cells ys 50)).alloc (.cells ks 50):=⟨_,rfl⟩
 have HR1 : Hid (Blk w1 w.heap.size 50 ys.toList):=by rw [hw1];exact Lib.hid ((Blk.new w _ ys.toList).alloc _)
 have HX1 : Hid (Blk w1 (w.heap.size + 1) 50 (msgZ 2).cells):=by
  rw [hw1,← HKS.out.l]
  have h2:=Blk.new (w.alloc (.cells ys 50)) 50 ks.toList
  rw [World.size_alloc] at h2
  exact Lib.hid h2
 have HK1 : Hid (Keep w w1):=by rw [hw1];exact Lib.hid (keep_trans (keep_new _ _) (keep_new _ _))
 rw [← hw1]
 clear hw1 hst
 replace c0:=keep_cell HK1.out c0
 go_upto_region 7 with fail
 have r2:=HX1.out.frozen 2
 have x2 : ∃ v,w1.cell? ⟨w.heap.size + 1,2,none⟩ = some v:=⟨_,(HX1.out.cell 2).trans (List.getElem?_eq_getElem (by rw [MsgR.len2 (m:=msgZ 2) HS.out HB.out];omega))⟩
 obtain ⟨v2,x2⟩:=x2
 go_upto_region 21 with fail
 obtain ⟨wx,hwx⟩ : ∃ wx,wx = (w1.setCell ⟨w.heap.size + 1,2,none⟩ (u64v n)):=⟨_,rfl⟩
 have HX : Hid (Blk wx (w.heap.size + 1) 50 M.cells):=by
  rw [hwx,← HMM.out]
  have q:=(HX1.out.set_ 2 (u64v n))
  exact Lib.hid q
 have HRX : Hid (Blk wx w.heap.size 50 ys.toList):=by rw [hwx];exact Lib.hid (HR1.out.far (by simp) _)
 have HKX : Hid (Keep w wx):=by rw [hwx];exact Lib.hid (Below.setCell HK1.out (by simp) _)
 rw [← hwx]
 clear hwx r2 x2
 obtain ⟨ds,hds⟩ : ∃ ds,MsA M ds:=⟨_,MsA.of HMO.out⟩
 have hdz:=hds.z;have hdn:=hds.n;have hdi:=hds.i
 have HDS:=Lib.hid hds
 have HBx : Hid (Blk wx (w.heap.size + 1) 50 ds.toList):=by rw [HDS.out.l];exact HX.out
 obtain ⟨w8,hst8,hb8,hg8⟩:=run_store_blk (P:=Tryd.prog) ds.toList HRX.out (by rw [Array.length_toList,Array.length_toList,hdz,HY.out.z]) HDS.out.o
 have Hb8:=Lib.hid hb8;have Hg8:=Lib.hid hg8
 clear hds hb8 hg8 HX HRX
 go_wp2_with ((with_reducible refine load_arr (w.heap.size + 1) ds (Eq.trans ?_ rfl) HBx.out _ Tryd.underlying50 rfl hdi ?_);rfl)
 have hb8:=Hb8.out
 exact bodyPost_ret (v:=.agg ds) (results_cell_row Tryd.results57 _ _ w.heap.size _ _ _ _ rfl hb8 Tryd.underlying50 rfl (by rw [List.size_toArray,Array.length_toList];exact hdi)) rfl ⟨ds,rfl,HDS.out,HKX.out.grown Hg8.out HKX.out.size (fun q hq => by injection hq with hq;omega)⟩
set_option maxRecDepth 100000 in
set_option maxHeartbeats 4000000 in
theorem message_3 (n : Nat) (A : Option Addr) (c : Nat) (w : World) (hM : MsgR.ok { msgZ 3 with nonce:=n }) (hr : Rd w A (([.u64 n] : List PV).map PV.val)) :
  Calls Tryd.prog 57 #[.int .i64 3,.slice A 1 c] w fun e w' => ∃ ds,e = .returned (.agg ds)∧MsA { msgZ 3 with nonce:=n } ds∧Keep w w':=by
 obtain ⟨ys,hyz,hyA⟩:=zmsg_letter
 obtain ⟨ks,hks⟩ : ∃ ks : Array Value,ks = (msgZ 3).cells.toArray:=⟨_,rfl⟩
 have hkA : MsA (msgZ 3) ks:=by rw [hks];exact MsA.of (msgZ_ok _ (by omega))
 have HBu : Hid (Tryd.prog.built 50 [(0,.int .i64 3)] = some ks):=Lib.hid (by rw [hks];exact msg_built _)
 clear hks
 have hyn:=hyA.n;have hkn:=hkA.n;have hkz:=hkA.z;have hyzz:=hyA.z
 have HY:=Lib.hid hyA;have HKS:=Lib.hid hkA
 have HMO:=Lib.hid hM
 have HZO:=Lib.hid (msgZ_ok 3 (by omega))
 have HS : Hid ((msgZ 3).stop.length = 32):=Lib.hid rfl
 have HB : Hid ((msgZ 3).bh.ok):=Lib.hid ⟨rfl,rfl⟩
 have hst : (storeCells ⟨w.heap.size + 1,0,none⟩ ks.toList 0).run Tryd.prog ((w.alloc (.cells ys 50)).alloc (.cells ys 50)) = .ok () ((w.alloc (.cells ys 50)).alloc (.cells ks 50)):=by
  have q:=run_storeCells_new (P:=Tryd.prog) (w.alloc (.cells ys 50)) 50 ys ks HKS.out.i (hyA.z.trans hkA.z.symm) (by have:=all_oneCell_toArray HKS.out.o;simpa using this)
  rw [World.size_alloc] at q
  exact q
 clear hyA hkA hM hyzz
 generalize hMM : { msgZ 3 with nonce:=n } = M at *
 have HMM:=Lib.hid hMM
 clear hMM
 obtain ⟨g,off,rfl,hgb,hcell⟩:=hr.at (k:=0) (by simp)
 have c0 : w.cell? ⟨g,off,none⟩ = some (.iface 25 (u64v n)):=hcell 0 (by simp)
 clear hr hcell
 have Y0 : ∀ y,(Instr.typeAssert (.iface 25 (u64v n)) 20 25 false).run Tryd.prog y = .ok (u64v n) y:=run_assert_must Tryd.underlying25 rfl _ _
 go_enter Tryd.func57,Tryd.ntmps57
 go_upto_region 2 with ((with_reducible refine list_bldg [(0,.int .i64 3)] ks (Eq.trans ?_ rfl) HBu.out (Eq.trans ?_ rfl) ?_);rfl;rfl)
 obtain ⟨w1,hw1⟩ : ∃ w1,w1 = (w.alloc (.cells ys 50)).alloc (.cells ks 50):=⟨_,rfl⟩
 have HR1 : Hid (Blk w1 w.heap.size 50 ys.toList):=by rw [hw1];exact Lib.hid ((Blk.new w _ ys.toList).alloc _)
 have HX1 : Hid (Blk w1 (w.heap.size + 1) 50 (msgZ 3).cells):=by
  rw [hw1,← HKS.out.l]
  have h2:=Blk.new (w.alloc (.cells ys 50)) 50 ks.toList
  rw [World.size_alloc] at h2
  exact Lib.hid h2
 have HK1 : Hid (Keep w w1):=by rw [hw1];exact Lib.hid (keep_trans (keep_new _ _) (keep_new _ _))
 rw [← hw1]
 clear hw1 hst
 replace c0:=keep_cell HK1.out c0
 go_upto_region 7 with fail
 have r2:=HX1.out.frozen 2
 have x2 : ∃ v,w1.cell? ⟨w.heap.size + 1,2,none⟩ = some v:=⟨_,(HX1.out.cell 2).trans (List.getElem?_eq_getElem (by rw [MsgR.len2 (m:=msgZ 3) HS.out HB.out];omega))⟩
 obtain ⟨v2,x2⟩:=x2
 go_upto_region 21 with fail
 obtain ⟨wx,hwx⟩ : ∃ wx,wx = (w1.setCell ⟨w.heap.size + 1,2,none⟩ (u64v n)):=⟨_,rfl⟩
 have HX : Hid (Blk wx (w.heap.size + 1) 50 M.cells):=by
  rw [hwx,← HMM.out]
  have q:=(HX1.out.set_ 2 (u64v n))
  exact Lib.hid q
 have HRX : Hid (Blk wx w.heap.size 50 ys.toList):=by rw [hwx];exact Lib.hid (HR1.out.far (by simp) _)
 have HKX : Hid (Keep w wx):=by rw [hwx];exact Lib.hid (Below.setCell HK1.out (by simp) _)
 rw [← hwx]
 clear hwx r2 x2
 obtain ⟨ds,hds⟩ : ∃ ds,MsA M ds:=⟨_,MsA.of HMO.out⟩
 have hdz:=hds.z;have hdn:=hds.n;have hdi:=hds.i
 have HDS:=Lib.hid hds
 have HBx : Hid (Blk wx (w.heap.size + 1) 50 ds.toList):=by rw [HDS.out.l];exact HX.out
 obtain ⟨w8,hst8,hb8,hg8⟩:=run_store_blk (P:=Tryd.prog) ds.toList HRX.out (by rw [Array.length_toList,Array.length_toList,hdz,HY.out.z]) HDS.out.o
 have Hb8:=Lib.hid hb8;have Hg8:=Lib.hid hg8
 clear hds hb8 hg8 HX HRX
 go_wp2_with ((with_reducible refine load_arr (w.heap.size + 1) ds (Eq.trans ?_ rfl) HBx.out _ Tryd.underlying50 rfl hdi ?_);rfl)
 have hb8:=Hb8.out
 exact bodyPost_ret (v:=.agg ds) (results_cell_row Tryd.results57 _ _ w.heap.size _ _ _ _ rfl hb8 Tryd.underlying50 rfl (by rw [List.size_toArray,Array.length_toList];exact hdi)) rfl ⟨ds,rfl,HDS.out,HKX.out.grown Hg8.out HKX.out.size (fun q hq => by injection hq with hq;omega)⟩
set_option maxRecDepth 100000 in
set_option maxHeartbeats 4000000 in
theorem message_5 (hA : Option Addr) (l : List Hd) (hc : Nat) (A : Option Addr) (c : Nat) (w : World) (hM : MsgR.ok { msgZ 5 with hA:=hA,hs:=l,hc:=hc }) (hr : Rd w A (([.heads hA l hc] : List PV).map PV.val)) :
  Calls Tryd.prog 57 #[.int .i64 5,.slice A 1 c] w fun e w' => ∃ ds,e = .returned (.agg ds)∧MsA { msgZ 5 with hA:=hA,hs:=l,hc:=hc } ds∧Keep w w':=by
 obtain ⟨ys,hyz,hyA⟩:=zmsg_letter
 obtain ⟨ks,hks⟩ : ∃ ks : Array Value,ks = (msgZ 5).cells.toArray:=⟨_,rfl⟩
 have hkA : MsA (msgZ 5) ks:=by rw [hks];exact MsA.of (msgZ_ok _ (by omega))
 have HBu : Hid (Tryd.prog.built 50 [(0,.int .i64 5)] = some ks):=Lib.hid (by rw [hks];exact msg_built _)
 clear hks
 have hyn:=hyA.n;have hkn:=hkA.n;have hkz:=hkA.z;have hyzz:=hyA.z
 have HY:=Lib.hid hyA;have HKS:=Lib.hid hkA
 have HMO:=Lib.hid hM
 have HZO:=Lib.hid (msgZ_ok 5 (by omega))
 have HS : Hid ((msgZ 5).stop.length = 32):=Lib.hid rfl
 have HB : Hid ((msgZ 5).bh.ok):=Lib.hid ⟨rfl,rfl⟩
 have hst : (storeCells ⟨w.heap.size + 1,0,none⟩ ks.toList 0).run Tryd.prog ((w.alloc (.cells ys 50)).alloc (.cells ys 50)) = .ok () ((w.alloc (.cells ys 50)).alloc (.cells ks 50)):=by
  have q:=run_storeCells_new (P:=Tryd.prog) (w.alloc (.cells ys 50)) 50 ys ks HKS.out.i (hyA.z.trans hkA.z.symm) (by have:=all_oneCell_toArray HKS.out.o;simpa using this)
  rw [World.size_alloc] at q
  exact q
 clear hyA hkA hM hyzz
 generalize hMM : { msgZ 5 with hA:=hA,hs:=l,hc:=hc } = M at *
 have HMM:=Lib.hid hMM
 clear hMM
 obtain ⟨g,off,rfl,hgb,hcell⟩:=hr.at (k:=0) (by simp)
 have c0 : w.cell? ⟨g,off,none⟩ = some (.iface 36 (.slice hA l.length hc)):=hcell 0 (by simp)
 clear hr hcell
 have Y0 : ∀ y,(Instr.typeAssert (.iface 36 (.slice hA l.length hc)) 20 36 false).run Tryd.prog y = .ok (.slice hA l.length hc) y:=run_assert_must Tryd.underlying36 rfl _ _
 go_enter Tryd.func57,Tryd.ntmps57
 go_upto_region 2 with ((with_reducible refine list_bldg [(0,.int .i64 5)] ks (Eq.trans ?_ rfl) HBu.out (Eq.trans ?_ rfl) ?_);rfl;rfl)
 obtain ⟨w1,hw1⟩ : ∃ w1,w1 = (w.alloc (.cells ys 50)).alloc (.cells ks 50):=⟨_,rfl⟩
 have HR1 : Hid (Blk w1 w.heap.size 50 ys.toList):=by rw [hw1];exact Lib.hid ((Blk.new w _ ys.toList).alloc _)
 have HX1 : Hid (Blk w1 (w.heap.size + 1) 50 (msgZ 5).cells):=by
  rw [hw1,← HKS.out.l]
  have h2:=Blk.new (w.alloc (.cells ys 50)) 50 ks.toList
  rw [World.size_alloc] at h2
  exact Lib.hid h2
 have HK1 : Hid (Keep w w1):=by rw [hw1];exact Lib.hid (keep_trans (keep_new _ _) (keep_new _ _))
 rw [← hw1]
 clear hw1 hst
 replace c0:=keep_cell HK1.out c0
 go_upto_region 11 with fail
 have r4:=HX1.out.frozen 4
 have x4 : ∃ v,w1.cell? ⟨w.heap.size + 1,4,none⟩ = some v:=⟨_,(HX1.out.cell 4).trans (List.getElem?_eq_getElem (by rw [MsgR.len2 (m:=msgZ 5) HS.out HB.out];omega))⟩
 obtain ⟨v4,x4⟩:=x4
 go_upto_region 21 with fail
 obtain ⟨wx,hwx⟩ : ∃ wx,wx = (w1.setCell ⟨w.heap.size + 1,4,none⟩ (.slice hA l.length hc)):=⟨_,rfl⟩
 have HX : Hid (Blk wx (w.heap.size + 1) 50 M.cells):=by
  rw [hwx,← HMM.out]
  have q:=(HX1.out.set_ 4 (.slice hA l.length hc))
  exact Lib.hid q
 have HRX : Hid (Blk wx w.heap.size 50 ys.toList):=by rw [hwx];exact Lib.hid (HR1.out.far (by simp) _)
 have HKX : Hid (Keep w wx):=by rw [hwx];exact Lib.hid (Below.setCell HK1.out (by simp) _)
 rw [← hwx]
 clear hwx r4 x4
 obtain ⟨ds,hds⟩ : ∃ ds,MsA M ds:=⟨_,MsA.of HMO.out⟩
 have hdz:=hds.z;have hdn:=hds.n;have hdi:=hds.i
 have HDS:=Lib.hid hds
 have HBx : Hid (Blk wx (w.heap.size + 1) 50 ds.toList):=by rw [HDS.out.l];exact HX.out
 obtain ⟨w8,hst8,hb8,hg8⟩:=run_store_blk (P:=Tryd.prog) ds.toList HRX.out (by rw [Array.length_toList,Array.length_toList,hdz,HY.out.z]) HDS.out.o
 have Hb8:=Lib.hid hb8;have Hg8:=Lib.hid hg8
 clear hds hb8 hg8 HX HRX
 go_wp2_with ((with_reducible refine load_arr (w.heap.size + 1) ds (Eq.trans ?_ rfl) HBx.out _ Tryd.underlying50 rfl hdi ?_);rfl)
 have hb8:=Hb8.out
 exact bodyPost_ret (v:=.agg ds) (results_cell_row Tryd.results57 _ _ w.heap.size _ _ _ _ rfl hb8 Tryd.underlying50 rfl (by rw [List.size_toArray,Array.length_toList];exact hdi)) rfl ⟨ds,rfl,HDS.out,HKX.out.grown Hg8.out HKX.out.size (fun q hq => by injection hq with hq;omega)⟩
set_option maxRecDepth 100000 in
set_option maxHeartbeats 4000000 in
theorem message_6 (iA : Option Addr) (l : List Itm) (ic : Nat) (A : Option Addr) (c : Nat) (w : World) (hM : MsgR.ok { msgZ 6 with iA:=iA,is:=l,ic:=ic }) (hr : Rd w A (([.items iA l ic] : List PV).map PV.val)) :
  Calls Tryd.prog 57 #[.int .i64 6,.slice A 1 c] w fun e w' => ∃ ds,e = .returned (.agg ds)∧MsA { msgZ 6 with iA:=iA,is:=l,ic:=ic } ds∧Keep w w':=by
 obtain ⟨ys,hyz,hyA⟩:=zmsg_letter
 obtain ⟨ks,hks⟩ : ∃ ks : Array Value,ks = (msgZ 6).cells.toArray:=⟨_,rfl⟩
 have hkA : MsA (msgZ 6) ks:=by rw [hks];exact MsA.of (msgZ_ok _ (by omega))
 have HBu : Hid (Tryd.prog.built 50 [(0,.int .i64 6)] = some ks):=Lib.hid (by rw [hks];exact msg_built _)
 clear hks
 have hyn:=hyA.n;have hkn:=hkA.n;have hkz:=hkA.z;have hyzz:=hyA.z
 have HY:=Lib.hid hyA;have HKS:=Lib.hid hkA
 have HMO:=Lib.hid hM
 have HZO:=Lib.hid (msgZ_ok 6 (by omega))
 have HS : Hid ((msgZ 6).stop.length = 32):=Lib.hid rfl
 have HB : Hid ((msgZ 6).bh.ok):=Lib.hid ⟨rfl,rfl⟩
 have hst : (storeCells ⟨w.heap.size + 1,0,none⟩ ks.toList 0).run Tryd.prog ((w.alloc (.cells ys 50)).alloc (.cells ys 50)) = .ok () ((w.alloc (.cells ys 50)).alloc (.cells ks 50)):=by
  have q:=run_storeCells_new (P:=Tryd.prog) (w.alloc (.cells ys 50)) 50 ys ks HKS.out.i (hyA.z.trans hkA.z.symm) (by have:=all_oneCell_toArray HKS.out.o;simpa using this)
  rw [World.size_alloc] at q
  exact q
 clear hyA hkA hM hyzz
 generalize hMM : { msgZ 6 with iA:=iA,is:=l,ic:=ic } = M at *
 have HMM:=Lib.hid hMM
 clear hMM
 obtain ⟨g,off,rfl,hgb,hcell⟩:=hr.at (k:=0) (by simp)
 have c0 : w.cell? ⟨g,off,none⟩ = some (.iface 40 (.slice iA l.length ic)):=hcell 0 (by simp)
 clear hr hcell
 have Y0 : ∀ y,(Instr.typeAssert (.iface 40 (.slice iA l.length ic)) 20 40 false).run Tryd.prog y = .ok (.slice iA l.length ic) y:=run_assert_must Tryd.underlying40 rfl _ _
 go_enter Tryd.func57,Tryd.ntmps57
 go_upto_region 2 with ((with_reducible refine list_bldg [(0,.int .i64 6)] ks (Eq.trans ?_ rfl) HBu.out (Eq.trans ?_ rfl) ?_);rfl;rfl)
 obtain ⟨w1,hw1⟩ : ∃ w1,w1 = (w.alloc (.cells ys 50)).alloc (.cells ks 50):=⟨_,rfl⟩
 have HR1 : Hid (Blk w1 w.heap.size 50 ys.toList):=by rw [hw1];exact Lib.hid ((Blk.new w _ ys.toList).alloc _)
 have HX1 : Hid (Blk w1 (w.heap.size + 1) 50 (msgZ 6).cells):=by
  rw [hw1,← HKS.out.l]
  have h2:=Blk.new (w.alloc (.cells ys 50)) 50 ks.toList
  rw [World.size_alloc] at h2
  exact Lib.hid h2
 have HK1 : Hid (Keep w w1):=by rw [hw1];exact Lib.hid (keep_trans (keep_new _ _) (keep_new _ _))
 rw [← hw1]
 clear hw1 hst
 replace c0:=keep_cell HK1.out c0
 go_upto_region 15 with fail
 have r38:=HX1.out.frozen 38
 have x38 : ∃ v,w1.cell? ⟨w.heap.size + 1,38,none⟩ = some v:=⟨_,(HX1.out.cell 38).trans (List.getElem?_eq_getElem (by rw [MsgR.len2 (m:=msgZ 6) HS.out HB.out];omega))⟩
 obtain ⟨v38,x38⟩:=x38
 go_upto_region 21 with fail
 obtain ⟨wx,hwx⟩ : ∃ wx,wx = (w1.setCell ⟨w.heap.size + 1,38,none⟩ (.slice iA l.length ic)):=⟨_,rfl⟩
 have HX : Hid (Blk wx (w.heap.size + 1) 50 M.cells):=by
  rw [hwx,← HMM.out]
  have q:=(HX1.out.set_ 38 (.slice iA l.length ic))
  rw [MsgR.set38s HZO.out] at q;exact Lib.hid q
 have HRX : Hid (Blk wx w.heap.size 50 ys.toList):=by rw [hwx];exact Lib.hid (HR1.out.far (by simp) _)
 have HKX : Hid (Keep w wx):=by rw [hwx];exact Lib.hid (Below.setCell HK1.out (by simp) _)
 rw [← hwx]
 clear hwx r38 x38
 obtain ⟨ds,hds⟩ : ∃ ds,MsA M ds:=⟨_,MsA.of HMO.out⟩
 have hdz:=hds.z;have hdn:=hds.n;have hdi:=hds.i
 have HDS:=Lib.hid hds
 have HBx : Hid (Blk wx (w.heap.size + 1) 50 ds.toList):=by rw [HDS.out.l];exact HX.out
 obtain ⟨w8,hst8,hb8,hg8⟩:=run_store_blk (P:=Tryd.prog) ds.toList HRX.out (by rw [Array.length_toList,Array.length_toList,hdz,HY.out.z]) HDS.out.o
 have Hb8:=Lib.hid hb8;have Hg8:=Lib.hid hg8
 clear hds hb8 hg8 HX HRX
 go_wp2_with ((with_reducible refine load_arr (w.heap.size + 1) ds (Eq.trans ?_ rfl) HBx.out _ Tryd.underlying50 rfl hdi ?_);rfl)
 have hb8:=Hb8.out
 exact bodyPost_ret (v:=.agg ds) (results_cell_row Tryd.results57 _ _ w.heap.size _ _ _ _ rfl hb8 Tryd.underlying50 rfl (by rw [List.size_toArray,Array.length_toList];exact hdi)) rfl ⟨ds,rfl,HDS.out,HKX.out.grown Hg8.out HKX.out.size (fun q hq => by injection hq with hq;omega)⟩
set_option maxRecDepth 100000 in
set_option maxHeartbeats 4000000 in
theorem message_7 (iA : Option Addr) (l : List Itm) (ic : Nat) (A : Option Addr) (c : Nat) (w : World) (hM : MsgR.ok { msgZ 7 with iA:=iA,is:=l,ic:=ic }) (hr : Rd w A (([.items iA l ic] : List PV).map PV.val)) :
  Calls Tryd.prog 57 #[.int .i64 7,.slice A 1 c] w fun e w' => ∃ ds,e = .returned (.agg ds)∧MsA { msgZ 7 with iA:=iA,is:=l,ic:=ic } ds∧Keep w w':=by
 obtain ⟨ys,hyz,hyA⟩:=zmsg_letter
 obtain ⟨ks,hks⟩ : ∃ ks : Array Value,ks = (msgZ 7).cells.toArray:=⟨_,rfl⟩
 have hkA : MsA (msgZ 7) ks:=by rw [hks];exact MsA.of (msgZ_ok _ (by omega))
 have HBu : Hid (Tryd.prog.built 50 [(0,.int .i64 7)] = some ks):=Lib.hid (by rw [hks];exact msg_built _)
 clear hks
 have hyn:=hyA.n;have hkn:=hkA.n;have hkz:=hkA.z;have hyzz:=hyA.z
 have HY:=Lib.hid hyA;have HKS:=Lib.hid hkA
 have HMO:=Lib.hid hM
 have HZO:=Lib.hid (msgZ_ok 7 (by omega))
 have HS : Hid ((msgZ 7).stop.length = 32):=Lib.hid rfl
 have HB : Hid ((msgZ 7).bh.ok):=Lib.hid ⟨rfl,rfl⟩
 have hst : (storeCells ⟨w.heap.size + 1,0,none⟩ ks.toList 0).run Tryd.prog ((w.alloc (.cells ys 50)).alloc (.cells ys 50)) = .ok () ((w.alloc (.cells ys 50)).alloc (.cells ks 50)):=by
  have q:=run_storeCells_new (P:=Tryd.prog) (w.alloc (.cells ys 50)) 50 ys ks HKS.out.i (hyA.z.trans hkA.z.symm) (by have:=all_oneCell_toArray HKS.out.o;simpa using this)
  rw [World.size_alloc] at q
  exact q
 clear hyA hkA hM hyzz
 generalize hMM : { msgZ 7 with iA:=iA,is:=l,ic:=ic } = M at *
 have HMM:=Lib.hid hMM
 clear hMM
 obtain ⟨g,off,rfl,hgb,hcell⟩:=hr.at (k:=0) (by simp)
 have c0 : w.cell? ⟨g,off,none⟩ = some (.iface 40 (.slice iA l.length ic)):=hcell 0 (by simp)
 clear hr hcell
 have Y0 : ∀ y,(Instr.typeAssert (.iface 40 (.slice iA l.length ic)) 20 40 false).run Tryd.prog y = .ok (.slice iA l.length ic) y:=run_assert_must Tryd.underlying40 rfl _ _
 go_enter Tryd.func57,Tryd.ntmps57
 go_upto_region 2 with ((with_reducible refine list_bldg [(0,.int .i64 7)] ks (Eq.trans ?_ rfl) HBu.out (Eq.trans ?_ rfl) ?_);rfl;rfl)
 obtain ⟨w1,hw1⟩ : ∃ w1,w1 = (w.alloc (.cells ys 50)).alloc (.cells ks 50):=⟨_,rfl⟩
 have HR1 : Hid (Blk w1 w.heap.size 50 ys.toList):=by rw [hw1];exact Lib.hid ((Blk.new w _ ys.toList).alloc _)
 have HX1 : Hid (Blk w1 (w.heap.size + 1) 50 (msgZ 7).cells):=by
  rw [hw1,← HKS.out.l]
  have h2:=Blk.new (w.alloc (.cells ys 50)) 50 ks.toList
  rw [World.size_alloc] at h2
  exact Lib.hid h2
 have HK1 : Hid (Keep w w1):=by rw [hw1];exact Lib.hid (keep_trans (keep_new _ _) (keep_new _ _))
 rw [← hw1]
 clear hw1 hst
 replace c0:=keep_cell HK1.out c0
 go_upto_region 15 with fail
 have r38:=HX1.out.frozen 38
 have x38 : ∃ v,w1.cell? ⟨w.heap.size + 1,38,none⟩ = some v:=⟨_,(HX1.out.cell 38).trans (List.getElem?_eq_getElem (by rw [MsgR.len2 (m:=msgZ 7) HS.out HB.out];omega))⟩
 obtain ⟨v38,x38⟩:=x38
 go_upto_region 21 with fail
 obtain ⟨wx,hwx⟩ : ∃ wx,wx = (w1.setCell ⟨w.heap.size + 1,38,none⟩ (.slice iA l.length ic)):=⟨_,rfl⟩
 have HX : Hid (Blk wx (w.heap.size + 1) 50 M.cells):=by
  rw [hwx,← HMM.out]
  have q:=(HX1.out.set_ 38 (.slice iA l.length ic))
  rw [MsgR.set38s HZO.out] at q;exact Lib.hid q
 have HRX : Hid (Blk wx w.heap.size 50 ys.toList):=by rw [hwx];exact Lib.hid (HR1.out.far (by simp) _)
 have HKX : Hid (Keep w wx):=by rw [hwx];exact Lib.hid (Below.setCell HK1.out (by simp) _)
 rw [← hwx]
 clear hwx r38 x38
 obtain ⟨ds,hds⟩ : ∃ ds,MsA M ds:=⟨_,MsA.of HMO.out⟩
 have hdz:=hds.z;have hdn:=hds.n;have hdi:=hds.i
 have HDS:=Lib.hid hds
 have HBx : Hid (Blk wx (w.heap.size + 1) 50 ds.toList):=by rw [HDS.out.l];exact HX.out
 obtain ⟨w8,hst8,hb8,hg8⟩:=run_store_blk (P:=Tryd.prog) ds.toList HRX.out (by rw [Array.length_toList,Array.length_toList,hdz,HY.out.z]) HDS.out.o
 have Hb8:=Lib.hid hb8;have Hg8:=Lib.hid hg8
 clear hds hb8 hg8 HX HRX
 go_wp2_with ((with_reducible refine load_arr (w.heap.size + 1) ds (Eq.trans ?_ rfl) HBx.out _ Tryd.underlying50 rfl hdi ?_);rfl)
 have hb8:=Hb8.out
 exact bodyPost_ret (v:=.agg ds) (results_cell_row Tryd.results57 _ _ w.heap.size _ _ _ _ rfl hb8 Tryd.underlying50 rfl (by rw [List.size_toArray,Array.length_toList];exact hdi)) rfl ⟨ds,rfl,HDS.out,HKX.out.grown Hg8.out HKX.out.size (fun q hq => by injection hq with hq;omega)⟩
set_option maxRecDepth 100000 in
set_option maxHeartbeats 4000000 in
theorem message_8 (iA : Option Addr) (l : List Itm) (ic : Nat) (A : Option Addr) (c : Nat) (w : World) (hM : MsgR.ok { msgZ 8 with iA:=iA,is:=l,ic:=ic }) (hr : Rd w A (([.items iA l ic] : List PV).map PV.val)) :
  Calls Tryd.prog 57 #[.int .i64 8,.slice A 1 c] w fun e w' => ∃ ds,e = .returned (.agg ds)∧MsA { msgZ 8 with iA:=iA,is:=l,ic:=ic } ds∧Keep w w':=by
 obtain ⟨ys,hyz,hyA⟩:=zmsg_letter
 obtain ⟨ks,hks⟩ : ∃ ks : Array Value,ks = (msgZ 8).cells.toArray:=⟨_,rfl⟩
 have hkA : MsA (msgZ 8) ks:=by rw [hks];exact MsA.of (msgZ_ok _ (by omega))
 have HBu : Hid (Tryd.prog.built 50 [(0,.int .i64 8)] = some ks):=Lib.hid (by rw [hks];exact msg_built _)
 clear hks
 have hyn:=hyA.n;have hkn:=hkA.n;have hkz:=hkA.z;have hyzz:=hyA.z
 have HY:=Lib.hid hyA;have HKS:=Lib.hid hkA
 have HMO:=Lib.hid hM
 have HZO:=Lib.hid (msgZ_ok 8 (by omega))
 have HS : Hid ((msgZ 8).stop.length = 32):=Lib.hid rfl
 have HB : Hid ((msgZ 8).bh.ok):=Lib.hid ⟨rfl,rfl⟩
 have hst : (storeCells ⟨w.heap.size + 1,0,none⟩ ks.toList 0).run Tryd.prog ((w.alloc (.cells ys 50)).alloc (.cells ys 50)) = .ok () ((w.alloc (.cells ys 50)).alloc (.cells ks 50)):=by
  have q:=run_storeCells_new (P:=Tryd.prog) (w.alloc (.cells ys 50)) 50 ys ks HKS.out.i (hyA.z.trans hkA.z.symm) (by have:=all_oneCell_toArray HKS.out.o;simpa using this)
  rw [World.size_alloc] at q
  exact q
 clear hyA hkA hM hyzz
 generalize hMM : { msgZ 8 with iA:=iA,is:=l,ic:=ic } = M at *
 have HMM:=Lib.hid hMM
 clear hMM
 obtain ⟨g,off,rfl,hgb,hcell⟩:=hr.at (k:=0) (by simp)
 have c0 : w.cell? ⟨g,off,none⟩ = some (.iface 40 (.slice iA l.length ic)):=hcell 0 (by simp)
 clear hr hcell
 have Y0 : ∀ y,(Instr.typeAssert (.iface 40 (.slice iA l.length ic)) 20 40 false).run Tryd.prog y = .ok (.slice iA l.length ic) y:=run_assert_must Tryd.underlying40 rfl _ _
 go_enter Tryd.func57,Tryd.ntmps57
 go_upto_region 2 with ((with_reducible refine list_bldg [(0,.int .i64 8)] ks (Eq.trans ?_ rfl) HBu.out (Eq.trans ?_ rfl) ?_);rfl;rfl)
 obtain ⟨w1,hw1⟩ : ∃ w1,w1 = (w.alloc (.cells ys 50)).alloc (.cells ks 50):=⟨_,rfl⟩
 have HR1 : Hid (Blk w1 w.heap.size 50 ys.toList):=by rw [hw1];exact Lib.hid ((Blk.new w _ ys.toList).alloc _)
 have HX1 : Hid (Blk w1 (w.heap.size + 1) 50 (msgZ 8).cells):=by
  rw [hw1,← HKS.out.l]
  have h2:=Blk.new (w.alloc (.cells ys 50)) 50 ks.toList
  rw [World.size_alloc] at h2
  exact Lib.hid h2
 have HK1 : Hid (Keep w w1):=by rw [hw1];exact Lib.hid (keep_trans (keep_new _ _) (keep_new _ _))
 rw [← hw1]
 clear hw1 hst
 replace c0:=keep_cell HK1.out c0
 go_upto_region 15 with fail
 have r38:=HX1.out.frozen 38
 have x38 : ∃ v,w1.cell? ⟨w.heap.size + 1,38,none⟩ = some v:=⟨_,(HX1.out.cell 38).trans (List.getElem?_eq_getElem (by rw [MsgR.len2 (m:=msgZ 8) HS.out HB.out];omega))⟩
 obtain ⟨v38,x38⟩:=x38
 go_upto_region 21 with fail
 obtain ⟨wx,hwx⟩ : ∃ wx,wx = (w1.setCell ⟨w.heap.size + 1,38,none⟩ (.slice iA l.length ic)):=⟨_,rfl⟩
 have HX : Hid (Blk wx (w.heap.size + 1) 50 M.cells):=by
  rw [hwx,← HMM.out]
  have q:=(HX1.out.set_ 38 (.slice iA l.length ic))
  rw [MsgR.set38s HZO.out] at q;exact Lib.hid q
 have HRX : Hid (Blk wx w.heap.size 50 ys.toList):=by rw [hwx];exact Lib.hid (HR1.out.far (by simp) _)
 have HKX : Hid (Keep w wx):=by rw [hwx];exact Lib.hid (Below.setCell HK1.out (by simp) _)
 rw [← hwx]
 clear hwx r38 x38
 obtain ⟨ds,hds⟩ : ∃ ds,MsA M ds:=⟨_,MsA.of HMO.out⟩
 have hdz:=hds.z;have hdn:=hds.n;have hdi:=hds.i
 have HDS:=Lib.hid hds
 have HBx : Hid (Blk wx (w.heap.size + 1) 50 ds.toList):=by rw [HDS.out.l];exact HX.out
 obtain ⟨w8,hst8,hb8,hg8⟩:=run_store_blk (P:=Tryd.prog) ds.toList HRX.out (by rw [Array.length_toList,Array.length_toList,hdz,HY.out.z]) HDS.out.o
 have Hb8:=Lib.hid hb8;have Hg8:=Lib.hid hg8
 clear hds hb8 hg8 HX HRX
 go_wp2_with ((with_reducible refine load_arr (w.heap.size + 1) ds (Eq.trans ?_ rfl) HBx.out _ Tryd.underlying50 rfl hdi ?_);rfl)
 have hb8:=Hb8.out
 exact bodyPost_ret (v:=.agg ds) (results_cell_row Tryd.results57 _ _ w.heap.size _ _ _ _ rfl hb8 Tryd.underlying50 rfl (by rw [List.size_toArray,Array.length_toList];exact hdi)) rfl ⟨ds,rfl,HDS.out,HKX.out.grown Hg8.out HKX.out.size (fun q hq => by injection hq with hq;omega)⟩
set_option maxRecDepth 100000 in
set_option maxHeartbeats 4000000 in
theorem message_10 (t : TxR) (A : Option Addr) (c : Nat) (w : World) (hM : MsgR.ok { msgZ 10 with t:=t }) (hr : Rd w A (([.tx t] : List PV).map PV.val)) :
  Calls Tryd.prog 57 #[.int .i64 10,.slice A 1 c] w fun e w' => ∃ ds,e = .returned (.agg ds)∧MsA { msgZ 10 with t:=t } ds∧Keep w w':=by
 obtain ⟨ys,hyz,hyA⟩:=zmsg_letter
 obtain ⟨ks,hks⟩ : ∃ ks : Array Value,ks = (msgZ 10).cells.toArray:=⟨_,rfl⟩
 have hkA : MsA (msgZ 10) ks:=by rw [hks];exact MsA.of (msgZ_ok _ (by omega))
 have HBu : Hid (Tryd.prog.built 50 [(0,.int .i64 10)] = some ks):=Lib.hid (by rw [hks];exact msg_built _)
 clear hks
 have hyn:=hyA.n;have hkn:=hkA.n;have hkz:=hkA.z;have hyzz:=hyA.z
 have HY:=Lib.hid hyA;have HKS:=Lib.hid hkA
 have HMO:=Lib.hid hM
 have HZO:=Lib.hid (msgZ_ok 10 (by omega))
 have HS : Hid ((msgZ 10).stop.length = 32):=Lib.hid rfl
 have HB : Hid ((msgZ 10).bh.ok):=Lib.hid ⟨rfl,rfl⟩
 have hst : (storeCells ⟨w.heap.size + 1,0,none⟩ ks.toList 0).run Tryd.prog ((w.alloc (.cells ys 50)).alloc (.cells ys 50)) = .ok () ((w.alloc (.cells ys 50)).alloc (.cells ks 50)):=by
  have q:=run_storeCells_new (P:=Tryd.prog) (w.alloc (.cells ys 50)) 50 ys ks HKS.out.i (hyA.z.trans hkA.z.symm) (by have:=all_oneCell_toArray HKS.out.o;simpa using this)
  rw [World.size_alloc] at q
  exact q
 clear hyA hkA hM hyzz
 generalize hMM : { msgZ 10 with t:=t } = M at *
 have HMM:=Lib.hid hMM
 clear hMM
 obtain ⟨g,off,rfl,hgb,hcell⟩:=hr.at (k:=0) (by simp)
 have c0 : w.cell? ⟨g,off,none⟩ = some (.iface 48 (.agg #[u32v t.ver,.slice t.iA t.ins.length t.ic,.slice t.oA t.outs.length t.oc,u32v t.lock])):=hcell 0 (by simp)
 clear hr hcell
 have Y0 : ∀ y,(Instr.typeAssert (.iface 48 (.agg #[u32v t.ver,.slice t.iA t.ins.length t.ic,.slice t.oA t.outs.length t.oc,u32v t.lock])) 20 48 false).run Tryd.prog y = .ok (.agg #[u32v t.ver,.slice t.iA t.ins.length t.ic,.slice t.oA t.outs.length t.oc,u32v t.lock]) y:=run_assert_must Tryd.underlying48 rfl _ _
 go_enter Tryd.func57,Tryd.ntmps57
 go_upto_region 2 with ((with_reducible refine list_bldg [(0,.int .i64 10)] ks (Eq.trans ?_ rfl) HBu.out (Eq.trans ?_ rfl) ?_);rfl;rfl)
 obtain ⟨w1,hw1⟩ : ∃ w1,w1 = (w.alloc (.cells ys 50)).alloc (.cells ks 50):=⟨_,rfl⟩
 have HR1 : Hid (Blk w1 w.heap.size 50 ys.toList):=by rw [hw1];exact Lib.hid ((Blk.new w _ ys.toList).alloc _)
 have HX1 : Hid (Blk w1 (w.heap.size + 1) 50 (msgZ 10).cells):=by
  rw [hw1,← HKS.out.l]
  have h2:=Blk.new (w.alloc (.cells ys 50)) 50 ks.toList
  rw [World.size_alloc] at h2
  exact Lib.hid h2
 have HK1 : Hid (Keep w w1):=by rw [hw1];exact Lib.hid (keep_trans (keep_new _ _) (keep_new _ _))
 rw [← hw1]
 clear hw1 hst
 replace c0:=keep_cell HK1.out c0
 go_upto_region 20 with fail
 have r110:=HX1.out.frozen 110
 have x110 : ∃ v,w1.cell? ⟨w.heap.size + 1,110,none⟩ = some v:=⟨_,(HX1.out.cell 110).trans (List.getElem?_eq_getElem (by rw [MsgR.len2 (m:=msgZ 10) HS.out HB.out];omega))⟩
 obtain ⟨v110,x110⟩:=x110
 have r111:=HX1.out.frozen 111
 have x111 : ∃ v,w1.cell? ⟨w.heap.size + 1,111,none⟩ = some v:=⟨_,(HX1.out.cell 111).trans (List.getElem?_eq_getElem (by rw [MsgR.len2 (m:=msgZ 10) HS.out HB.out];omega))⟩
 obtain ⟨v111,x111⟩:=x111
 have r112:=HX1.out.frozen 112
 have x112 : ∃ v,w1.cell? ⟨w.heap.size + 1,112,none⟩ = some v:=⟨_,(HX1.out.cell 112).trans (List.getElem?_eq_getElem (by rw [MsgR.len2 (m:=msgZ 10) HS.out HB.out];omega))⟩
 obtain ⟨v112,x112⟩:=x112
 have r113:=HX1.out.frozen 113
 have x113 : ∃ v,w1.cell? ⟨w.heap.size + 1,113,none⟩ = some v:=⟨_,(HX1.out.cell 113).trans (List.getElem?_eq_getElem (by rw [MsgR.len2 (m:=msgZ 10) HS.out HB.out];omega))⟩
 obtain ⟨v113,x113⟩:=x113
 go_upto_region 21 with fail
 obtain ⟨wx,hwx⟩ : ∃ wx,wx = ((((w1.setCell ⟨w.heap.size + 1,110,none⟩ (u32v t.ver)).setCell ⟨w.heap.size + 1,111,none⟩ (.slice t.iA t.ins.length t.ic)).setCell ⟨w.heap.size + 1,112,none⟩ (.slice t.oA t.outs.length t.oc)).setCell ⟨w.heap.size + 1,113,none⟩ (u32v t.lock)):=⟨_,rfl⟩
 have HX : Hid (Blk wx (w.heap.size + 1) 50 M.cells):=by
  rw [hwx,← HMM.out]
  have q:=((((HX1.out.set_ 110 (u32v t.ver)).set_ 111 (.slice t.iA t.ins.length t.ic)).set_ 112 (.slice t.oA t.outs.length t.oc)).set_ 113 (u32v t.lock))
  rw [MsgR.set_txs HZO.out] at q;exact Lib.hid q
 have HRX : Hid (Blk wx w.heap.size 50 ys.toList):=by rw [hwx];exact Lib.hid ((((HR1.out.far (by simp) _).far (by simp) _).far (by simp) _).far (by simp) _)
 have HKX : Hid (Keep w wx):=by rw [hwx];exact Lib.hid (Below.setCell (Below.setCell (Below.setCell (Below.setCell HK1.out (by simp) _) (by simp) _) (by simp) _) (by simp) _)
 rw [← hwx]
 clear hwx r110 x110 r111 x111 r112 x112 r113 x113
 obtain ⟨ds,hds⟩ : ∃ ds,MsA M ds:=⟨_,MsA.of HMO.out⟩
 have hdz:=hds.z;have hdn:=hds.n;have hdi:=hds.i
 have HDS:=Lib.hid hds
 have HBx : Hid (Blk wx (w.heap.size + 1) 50 ds.toList):=by rw [HDS.out.l];exact HX.out
 obtain ⟨w8,hst8,hb8,hg8⟩:=run_store_blk (P:=Tryd.prog) ds.toList HRX.out (by rw [Array.length_toList,Array.length_toList,hdz,HY.out.z]) HDS.out.o
 have Hb8:=Lib.hid hb8;have Hg8:=Lib.hid hg8
 clear hds hb8 hg8 HX HRX
 go_wp2_with ((with_reducible refine load_arr (w.heap.size + 1) ds (Eq.trans ?_ rfl) HBx.out _ Tryd.underlying50 rfl hdi ?_);rfl)
 have hb8:=Hb8.out
 exact bodyPost_ret (v:=.agg ds) (results_cell_row Tryd.results57 _ _ w.heap.size _ _ _ _ rfl hb8 Tryd.underlying50 rfl (by rw [List.size_toArray,Array.length_toList];exact hdi)) rfl ⟨ds,rfl,HDS.out,HKX.out.grown Hg8.out HKX.out.size (fun q hq => by injection hq with hq;omega)⟩
set_option maxRecDepth 100000 in
set_option maxHeartbeats 4000000 in
theorem message_1 (A : Option Addr) (c : Nat) (w : World) (hM : MsgR.ok (msgZ 1)) (hr : Rd w A (([] : List PV).map PV.val)) :
  Calls Tryd.prog 57 #[.int .i64 1,.slice A 0 c] w fun e w' => ∃ ds,e = .returned (.agg ds)∧MsA (msgZ 1) ds∧Keep w w':=by
 obtain ⟨ys,hyz,hyA⟩:=zmsg_letter
 obtain ⟨ks,hks⟩ : ∃ ks : Array Value,ks = (msgZ 1).cells.toArray:=⟨_,rfl⟩
 have hkA : MsA (msgZ 1) ks:=by rw [hks];exact MsA.of (msgZ_ok _ (by omega))
 have HBu : Hid (Tryd.prog.built 50 [(0,.int .i64 1)] = some ks):=Lib.hid (by rw [hks];exact msg_built _)
 clear hks
 have hyn:=hyA.n;have hkn:=hkA.n;have hkz:=hkA.z;have hyzz:=hyA.z
 have HY:=Lib.hid hyA;have HKS:=Lib.hid hkA
 have HMO:=Lib.hid hM
 have HZO:=Lib.hid (msgZ_ok 1 (by omega))
 have HS : Hid ((msgZ 1).stop.length = 32):=Lib.hid rfl
 have HB : Hid ((msgZ 1).bh.ok):=Lib.hid ⟨rfl,rfl⟩
 have hst : (storeCells ⟨w.heap.size + 1,0,none⟩ ks.toList 0).run Tryd.prog ((w.alloc (.cells ys 50)).alloc (.cells ys 50)) = .ok () ((w.alloc (.cells ys 50)).alloc (.cells ks 50)):=by
  have q:=run_storeCells_new (P:=Tryd.prog) (w.alloc (.cells ys 50)) 50 ys ks HKS.out.i (hyA.z.trans hkA.z.symm) (by have:=all_oneCell_toArray HKS.out.o;simpa using this)
  rw [World.size_alloc] at q
  exact q
 clear hyA hkA hM hyzz
 obtain ⟨M,hMM⟩ : ∃ M,(msgZ 1) = M:=⟨_,rfl⟩
 rw [hMM] at HMO
 rw [hMM]
 have HMM:=Lib.hid hMM
 clear hMM
 clear hr
 go_enter Tryd.func57,Tryd.ntmps57
 go_upto_region 2 with ((with_reducible refine list_bldg [(0,.int .i64 1)] ks (Eq.trans ?_ rfl) HBu.out (Eq.trans ?_ rfl) ?_);rfl;rfl)
 obtain ⟨w1,hw1⟩ : ∃ w1,w1 = (w.alloc (.cells ys 50)).alloc (.cells ks 50):=⟨_,rfl⟩
 have HR1 : Hid (Blk w1 w.heap.size 50 ys.toList):=by rw [hw1];exact Lib.hid ((Blk.new w _ ys.toList).alloc _)
 have HX1 : Hid (Blk w1 (w.heap.size + 1) 50 (msgZ 1).cells):=by
  rw [hw1,← HKS.out.l]
  have h2:=Blk.new (w.alloc (.cells ys 50)) 50 ks.toList
  rw [World.size_alloc] at h2
  exact Lib.hid h2
 have HK1 : Hid (Keep w w1):=by rw [hw1];exact Lib.hid (keep_trans (keep_new _ _) (keep_new _ _))
 rw [← hw1]
 clear hw1 hst
 go_upto_region 21 with fail
 obtain ⟨wx,hwx⟩ : ∃ wx,wx = w1:=⟨_,rfl⟩
 have HX : Hid (Blk wx (w.heap.size + 1) 50 M.cells):=by rw [hwx,← HMM.out];exact HX1
 have HRX : Hid (Blk wx w.heap.size 50 ys.toList):=by rw [hwx];exact HR1
 have HKX : Hid (Keep w wx):=by rw [hwx];exact HK1
 rw [← hwx]
 clear hwx HX1 HR1 HK1
 obtain ⟨ds,hds⟩ : ∃ ds,MsA M ds:=⟨_,MsA.of HMO.out⟩
 have hdz:=hds.z;have hdn:=hds.n;have hdi:=hds.i
 have HDS:=Lib.hid hds
 have HBx : Hid (Blk wx (w.heap.size + 1) 50 ds.toList):=by rw [HDS.out.l];exact HX.out
 obtain ⟨w8,hst8,hb8,hg8⟩:=run_store_blk (P:=Tryd.prog) ds.toList HRX.out (by rw [Array.length_toList,Array.length_toList,hdz,HY.out.z]) HDS.out.o
 have Hb8:=Lib.hid hb8;have Hg8:=Lib.hid hg8
 clear hds hb8 hg8 HX HRX
 go_wp2_with ((with_reducible refine load_arr (w.heap.size + 1) ds (Eq.trans ?_ rfl) HBx.out _ Tryd.underlying50 rfl hdi ?_);rfl)
 have hb8:=Hb8.out
 exact bodyPost_ret (v:=.agg ds) (results_cell_row Tryd.results57 _ _ w.heap.size _ _ _ _ rfl hb8 Tryd.underlying50 rfl (by rw [List.size_toArray,Array.length_toList];exact hdi)) rfl ⟨ds,rfl,HDS.out,HKX.out.grown Hg8.out HKX.out.size (fun q hq => by injection hq with hq;omega)⟩
set_option maxRecDepth 100000 in
set_option maxHeartbeats 4000000 in
theorem message_4 (p : UInt32) (lA : Option Addr) (l : List (List UInt8)) (lc most : Nat) (s : List UInt8) (A : Option Addr) (c : Nat) (w : World) (hM : MsgR.ok { msgZ 4 with proto:=p,lA:=lA,ls:=l,lc:=lc,stop:=s }) (hr : Rd w A (([.u32 p,.hsh lA l lc most,.h32 s] : List PV).map PV.val)) :
  Calls Tryd.prog 57 #[.int .i64 4,.slice A 3 c] w fun e w' => ∃ ds,e = .returned (.agg ds)∧MsA { msgZ 4 with proto:=p,lA:=lA,ls:=l,lc:=lc,stop:=s } ds∧Keep w w':=by
 have hs32 : s.length = 32:=hM.s
 obtain ⟨ss,hss⟩ : ∃ ss,HashA s ss:=⟨_,HashA.of hs32⟩
 have hsn:=hss.n;have hsz:=hss.z;have hsi:=hss.i
 have HSS:=Lib.hid hss;have HS32:=Lib.hid hs32
 clear hs32
 obtain ⟨ys,hyz,hyA⟩:=zmsg_letter
 obtain ⟨ks,hks⟩ : ∃ ks : Array Value,ks = (msgZ 4).cells.toArray:=⟨_,rfl⟩
 have hkA : MsA (msgZ 4) ks:=by rw [hks];exact MsA.of (msgZ_ok _ (by omega))
 have HBu : Hid (Tryd.prog.built 50 [(0,.int .i64 4)] = some ks):=Lib.hid (by rw [hks];exact msg_built _)
 clear hks
 have hyn:=hyA.n;have hkn:=hkA.n;have hkz:=hkA.z;have hyzz:=hyA.z
 have HY:=Lib.hid hyA;have HKS:=Lib.hid hkA
 have HMO:=Lib.hid hM
 have HZO:=Lib.hid (msgZ_ok 4 (by omega))
 have HS : Hid ((msgZ 4).stop.length = 32):=Lib.hid rfl
 have HB : Hid ((msgZ 4).bh.ok):=Lib.hid ⟨rfl,rfl⟩
 have hst : (storeCells ⟨w.heap.size + 1,0,none⟩ ks.toList 0).run Tryd.prog ((w.alloc (.cells ys 50)).alloc (.cells ys 50)) = .ok () ((w.alloc (.cells ys 50)).alloc (.cells ks 50)):=by
  have q:=run_storeCells_new (P:=Tryd.prog) (w.alloc (.cells ys 50)) 50 ys ks HKS.out.i (hyA.z.trans hkA.z.symm) (by have:=all_oneCell_toArray HKS.out.o;simpa using this)
  rw [World.size_alloc] at q
  exact q
 clear hyA hkA hM hyzz
 generalize hMM : { msgZ 4 with proto:=p,lA:=lA,ls:=l,lc:=lc,stop:=s } = M at *
 have HMM:=Lib.hid hMM
 clear hMM
 obtain ⟨g,off,rfl,hgb,hcell⟩:=hr.at (k:=0) (by simp)
 have c0 : w.cell? ⟨g,off,none⟩ = some (.iface 22 (u32v p)):=hcell 0 (by simp)
 have c1 : w.cell? ⟨g,off + 1,none⟩ = some (.iface 143 (.agg #[.slice lA l.length lc,u64v most])):=hcell 1 (by simp)
 have c2 : w.cell? ⟨g,off + 2,none⟩ = some (.iface 39 (.agg ss)):=by
  have q:=hcell 2 (by simp)
  simp only [List.map_cons,List.getElem_cons_succ,List.getElem_cons_zero,PV.val] at q
  rw [hss.e] at q
  exact q
 clear hss
 clear hr hcell
 have Y0 : ∀ y,(Instr.typeAssert (.iface 22 (u32v p)) 20 22 false).run Tryd.prog y = .ok (u32v p) y:=run_assert_must Tryd.underlying22 rfl _ _
 have Y1 : ∀ y,(Instr.typeAssert (.iface 143 (.agg #[.slice lA l.length lc,u64v most])) 20 143 false).run Tryd.prog y = .ok (.agg #[.slice lA l.length lc,u64v most]) y:=run_assert_must Tryd.underlying143 rfl _ _
 have Y2 : ∀ y,(Instr.typeAssert (.iface 39 (.agg ss)) 20 39 false).run Tryd.prog y = .ok (.agg ss) y:=run_assert_must hash_under rfl _ _
 have FD : ∀ y,(Instr.field 143 (.agg #[.slice lA l.length lc,u64v most]) 0).run Tryd.prog y = .ok (.slice lA l.length lc) y:=hsh_field _ _ _ _
 go_enter Tryd.func57,Tryd.ntmps57
 go_upto_region 2 with ((with_reducible refine list_bldg [(0,.int .i64 4)] ks (Eq.trans ?_ rfl) HBu.out (Eq.trans ?_ rfl) ?_);rfl;rfl)
 obtain ⟨w1,hw1⟩ : ∃ w1,w1 = (w.alloc (.cells ys 50)).alloc (.cells ks 50):=⟨_,rfl⟩
 have HR1 : Hid (Blk w1 w.heap.size 50 ys.toList):=by rw [hw1];exact Lib.hid ((Blk.new w _ ys.toList).alloc _)
 have HX1 : Hid (Blk w1 (w.heap.size + 1) 50 (msgZ 4).cells):=by
  rw [hw1,← HKS.out.l]
  have h2:=Blk.new (w.alloc (.cells ys 50)) 50 ks.toList
  rw [World.size_alloc] at h2
  exact Lib.hid h2
 have HK1 : Hid (Keep w w1):=by rw [hw1];exact Lib.hid (keep_trans (keep_new _ _) (keep_new _ _))
 rw [← hw1]
 clear hw1 hst
 replace c0:=keep_cell HK1.out c0
 replace c1:=keep_cell HK1.out c1
 replace c2:=keep_cell HK1.out c2
 go_upto_region 9 with fail
 letI iM : G.Mk:=⟨some (w.heap.size + 1)⟩
 refine G.wp_region_tree (.take [0,1,2,3,4,5,6,7,8,9,10,11,12,13] (.force [14] (.take [15] (.force [16] (.take [17] (.force [18] .done)))))) [] (by kernel_rfl) (by kernel_rfl) (fun wa1 ka => ?_)
 have hneG : G.Mk.m ≠ some g:=fun q => by have e : w.heap.size + 1 = g:=Option.some.inj q;omega
 have HXa:=Lib.hid (HX1.out.keep ka);have HRa:=Lib.hid (HR1.out.keep ka);have HKa:=Lib.hid (keep_trans HK1.out ka)
 replace c0:=keep_cell ka c0
 have b0:=G.aftG_cell c0 hneG
 replace c1:=keep_cell ka c1
 have b1:=G.aftG_cell c1 hneG
 replace c2:=keep_cell ka c2
 have b2:=G.aftG_cell c2 hneG
 clear ka HX1 HR1 HK1
 refine G.mt_take wa1 (G.Gr.refl _) ?_
 simp only [pick_cons,pick_nil,nth_zero,nth_succ]
 repeat (go_big_quiet_step (fail))
 refine wpQuiet_nil (G.mt_force ?_)
 clear b0 b1 b2 hneG
 simp only [pick_cons,pick_nil,nth_zero,nth_succ]
 refine G.fc_step rfl (fun K hK => ?_)
 have z0 : ∃ v,wa1.cell? ⟨w.heap.size + 1,1,none⟩ = some v:=⟨_,(HXa.out.cell 1).trans (List.getElem?_eq_getElem (by rw [MsgR.len2 (m:=(msgZ 4)) HS.out HB.out];omega))⟩
 obtain ⟨v0,z0⟩:=z0
 have y0:=HXa.out.frozen 1
 go_simp
 refine hK _ _ (show G.Gr wa1 _ from grown_set (grown_refl wa1 _)) ?_
 clear hK K z0 y0
 obtain ⟨wb10,hwb⟩ : ∃ wb,wb = wa1.setCell ⟨w.heap.size + 1,1,none⟩ (u32v p):=⟨_,rfl⟩
 have HXb10 : Hid (Blk wb10 (w.heap.size + 1) 50 (MsgR.cells { msgZ 4 with proto:=p })):=by
  rw [hwb]
  have q:=HXa.out.set_ 1 (u32v p)
  exact Lib.hid q
 have HRb10 : Hid (Blk wb10 w.heap.size 50 ys.toList):=by rw [hwb];exact Lib.hid (HRa.out.far (by simp) _)
 have HKb10 : Hid (Keep w wb10):=by rw [hwb];exact Lib.hid (Below.setCell HKa.out (by simp) _)
 rw [← hwb]
 clear hwb HXa HRa HKa
 refine G.fc_nil (G.mt_take _ (G.Gr.refl _) ?_)
 simp only [pick_cons,pick_nil,nth_zero,nth_succ]
 repeat (go_big_quiet_step (fail))
 refine wpQuiet_nil (G.mt_force ?_)
 simp only [pick_cons,pick_nil,nth_zero,nth_succ]
 refine G.fc_step rfl (fun K hK => ?_)
 have z0 : ∃ v,wb10.cell? ⟨w.heap.size + 1,5,none⟩ = some v:=⟨_,(HXb10.out.cell 5).trans (List.getElem?_eq_getElem (by rw [MsgR.len2 (m:={ msgZ 4 with proto:=p }) HS.out HB.out];omega))⟩
 obtain ⟨v0,z0⟩:=z0
 have y0:=HXb10.out.frozen 5
 go_simp
 refine hK _ _ (show G.Gr wb10 _ from grown_set (grown_refl wb10 _)) ?_
 clear hK K z0 y0
 obtain ⟨wb11,hwb⟩ : ∃ wb,wb = wb10.setCell ⟨w.heap.size + 1,5,none⟩ (.slice lA l.length lc):=⟨_,rfl⟩
 have HXb11 : Hid (Blk wb11 (w.heap.size + 1) 50 (MsgR.cells { msgZ 4 with proto:=p,lA:=lA,ls:=l,lc:=lc })):=by
  rw [hwb]
  have q:=HXb10.out.set_ 5 (.slice lA l.length lc)
  exact Lib.hid q
 have HRb11 : Hid (Blk wb11 w.heap.size 50 ys.toList):=by rw [hwb];exact Lib.hid (HRb10.out.far (by simp) _)
 have HKb11 : Hid (Keep w wb11):=by rw [hwb];exact Lib.hid (Below.setCell HKb10.out (by simp) _)
 rw [← hwb]
 clear hwb HXb10 HRb10 HKb10
 refine G.fc_nil (G.mt_take _ (G.Gr.refl _) ?_)
 simp only [pick_cons,pick_nil,nth_zero,nth_succ]
 repeat (go_big_quiet_step (fail))
 refine wpQuiet_nil (G.mt_force ?_)
 simp only [pick_cons,pick_nil,nth_zero,nth_succ]
 refine G.fc_step rfl (fun K hK => ?_)
 obtain ⟨wb12,hstp,hbx,hgx⟩:=run_store_prt (P:=Tryd.prog) 6 ss.toList HXb11.out (by rw [MsgR.len2 (m:={ msgZ 4 with proto:=p,lA:=lA,ls:=l,lc:=lc }) HS.out HB.out,Array.length_toList,HSS.out.z];omega) HSS.out.o
 have hgx2:=hgx
 have HGX:=Lib.hid hgx;have HBX:=Lib.hid hbx
 clear hbx hgx
 go_simp
 refine hK _ _ (show G.Gr wb11 _ from hgx2) ?_
 clear hK K hstp hgx2
 have HXb12 : Hid (Blk wb12 (w.heap.size + 1) 50 (MsgR.cells { msgZ 4 with proto:=p,lA:=lA,ls:=l,lc:=lc,stop:=s })):=by
  have q:=HBX.out
  rw [HSS.out.l,MsgR.splice_stop2 (m:={ msgZ 4 with proto:=p,lA:=lA,ls:=l,lc:=lc }) HS.out HS32.out] at q;exact Lib.hid q
 have HRb12 : Hid (Blk wb12 w.heap.size 50 ys.toList):=Lib.hid (HRb11.out.grown HGX.out (fun q => by have:=Option.some.inj q;omega))
 have HKb12 : Hid (Keep w wb12):=Lib.hid (HKb11.out.grown HGX.out HKb11.out.size (fun q hq => by have:=Option.some.inj hq;omega))
 clear HXb11 HRb11 HKb11 HBX HGX
 refine G.fc_nil (G.mt_end ?_)
 clear iM
 go_upto_region 21 with fail
 obtain ⟨wx,hwx⟩ : ∃ wx,wx = wb12:=⟨_,rfl⟩
 have HX : Hid (Blk wx (w.heap.size + 1) 50 M.cells):=by rw [hwx,← HMM.out];exact HXb12
 have HRX : Hid (Blk wx w.heap.size 50 ys.toList):=by rw [hwx];exact HRb12
 have HKX : Hid (Keep w wx):=by rw [hwx];exact HKb12
 rw [← hwx]
 clear hwx HXb12 HRb12 HKb12
 obtain ⟨ds,hds⟩ : ∃ ds,MsA M ds:=⟨_,MsA.of HMO.out⟩
 have hdz:=hds.z;have hdn:=hds.n;have hdi:=hds.i
 have HDS:=Lib.hid hds
 have HBx : Hid (Blk wx (w.heap.size + 1) 50 ds.toList):=by rw [HDS.out.l];exact HX.out
 obtain ⟨w8,hst8,hb8,hg8⟩:=run_store_blk (P:=Tryd.prog) ds.toList HRX.out (by rw [Array.length_toList,Array.length_toList,hdz,HY.out.z]) HDS.out.o
 have Hb8:=Lib.hid hb8;have Hg8:=Lib.hid hg8
 clear hds hb8 hg8 HX HRX
 go_wp2_with ((with_reducible refine load_arr (w.heap.size + 1) ds (Eq.trans ?_ rfl) HBx.out _ Tryd.underlying50 rfl hdi ?_);rfl)
 have hb8:=Hb8.out
 exact bodyPost_ret (v:=.agg ds) (results_cell_row Tryd.results57 _ _ w.heap.size _ _ _ _ rfl hb8 Tryd.underlying50 rfl (by rw [List.size_toArray,Array.length_toList];exact hdi)) rfl ⟨ds,rfl,HDS.out,HKX.out.grown Hg8.out HKX.out.size (fun q hq => by injection hq with hq;omega)⟩
set_option maxRecDepth 100000 in
set_option maxHeartbeats 4000000 in
theorem message_9 (h : Hd) (t : UInt32) (sA : Option Addr) (l : List (List UInt8)) (sc most : Nat) (fA : Option Addr) (f : List UInt8) (fc : Nat) (A : Option Addr) (c : Nat) (w : World) (hM : MsgR.ok { msgZ 9 with bh:=h,total:=t,sA:=sA,shs:=l,sc:=sc,fA:=fA,fs:=f,fc:=fc }) (hr : Rd w A (([.head h,.u32 t,.hsh sA l sc most,.bytes fA f fc] : List PV).map PV.val)) :
  Calls Tryd.prog 57 #[.int .i64 9,.slice A 4 c] w fun e w' => ∃ ds,e = .returned (.agg ds)∧MsA { msgZ 9 with bh:=h,total:=t,sA:=sA,shs:=l,sc:=sc,fA:=fA,fs:=f,fc:=fc } ds∧Keep w w':=by
 have HBH : Hid h.ok:=Lib.hid hM.b
 obtain ⟨hv,hhv⟩ : ∃ hv,HdA h hv:=⟨_,HdA.of hM.b⟩
 have hvn:=hhv.n;have hvz:=hhv.z;have hvi:=hhv.i
 have HHV:=Lib.hid hhv
 have hve : h.cells.toArray = hv:=by rw [← hhv.l,Array.toArray_toList]
 clear hhv
 obtain ⟨ys,hyz,hyA⟩:=zmsg_letter
 obtain ⟨ks,hks⟩ : ∃ ks : Array Value,ks = (msgZ 9).cells.toArray:=⟨_,rfl⟩
 have hkA : MsA (msgZ 9) ks:=by rw [hks];exact MsA.of (msgZ_ok _ (by omega))
 have HBu : Hid (Tryd.prog.built 50 [(0,.int .i64 9)] = some ks):=Lib.hid (by rw [hks];exact msg_built _)
 clear hks
 have hyn:=hyA.n;have hkn:=hkA.n;have hkz:=hkA.z;have hyzz:=hyA.z
 have HY:=Lib.hid hyA;have HKS:=Lib.hid hkA
 have HMO:=Lib.hid hM
 have HZO:=Lib.hid (msgZ_ok 9 (by omega))
 have HS : Hid ((msgZ 9).stop.length = 32):=Lib.hid rfl
 have HB : Hid ((msgZ 9).bh.ok):=Lib.hid ⟨rfl,rfl⟩
 have hst : (storeCells ⟨w.heap.size + 1,0,none⟩ ks.toList 0).run Tryd.prog ((w.alloc (.cells ys 50)).alloc (.cells ys 50)) = .ok () ((w.alloc (.cells ys 50)).alloc (.cells ks 50)):=by
  have q:=run_storeCells_new (P:=Tryd.prog) (w.alloc (.cells ys 50)) 50 ys ks HKS.out.i (hyA.z.trans hkA.z.symm) (by have:=all_oneCell_toArray HKS.out.o;simpa using this)
  rw [World.size_alloc] at q
  exact q
 clear hyA hkA hM hyzz
 generalize hMM : { msgZ 9 with bh:=h,total:=t,sA:=sA,shs:=l,sc:=sc,fA:=fA,fs:=f,fc:=fc } = M at *
 have HMM:=Lib.hid hMM
 clear hMM
 obtain ⟨g,off,rfl,hgb,hcell⟩:=hr.at (k:=0) (by simp)
 have c0 : w.cell? ⟨g,off,none⟩ = some (.iface 42 (.agg hv)):=by
  have q:=hcell 0 (by simp)
  simp only [List.map_cons,List.getElem_cons_succ,List.getElem_cons_zero,PV.val] at q
  rw [hve] at q
  exact q
 clear hve
 have c1 : w.cell? ⟨g,off + 1,none⟩ = some (.iface 22 (u32v t)):=hcell 1 (by simp)
 have c2 : w.cell? ⟨g,off + 2,none⟩ = some (.iface 143 (.agg #[.slice sA l.length sc,u64v most])):=hcell 2 (by simp)
 have c3 : w.cell? ⟨g,off + 3,none⟩ = some (.iface 26 (.slice fA f.length fc)):=hcell 3 (by simp)
 clear hr hcell
 have Y0 : ∀ y,(Instr.typeAssert (.iface 42 (.agg hv)) 20 42 false).run Tryd.prog y = .ok (.agg hv) y:=run_assert_must Tryd.underlying42 rfl _ _
 have Y1 : ∀ y,(Instr.typeAssert (.iface 22 (u32v t)) 20 22 false).run Tryd.prog y = .ok (u32v t) y:=run_assert_must Tryd.underlying22 rfl _ _
 have Y2 : ∀ y,(Instr.typeAssert (.iface 143 (.agg #[.slice sA l.length sc,u64v most])) 20 143 false).run Tryd.prog y = .ok (.agg #[.slice sA l.length sc,u64v most]) y:=run_assert_must Tryd.underlying143 rfl _ _
 have Y3 : ∀ y,(Instr.typeAssert (.iface 26 (.slice fA f.length fc)) 20 26 false).run Tryd.prog y = .ok (.slice fA f.length fc) y:=run_assert_must Tryd.underlying26 rfl _ _
 have FD : ∀ y,(Instr.field 143 (.agg #[.slice sA l.length sc,u64v most]) 0).run Tryd.prog y = .ok (.slice sA l.length sc) y:=hsh_field _ _ _ _
 go_enter Tryd.func57,Tryd.ntmps57
 go_upto_region 2 with ((with_reducible refine list_bldg [(0,.int .i64 9)] ks (Eq.trans ?_ rfl) HBu.out (Eq.trans ?_ rfl) ?_);rfl;rfl)
 obtain ⟨w1,hw1⟩ : ∃ w1,w1 = (w.alloc (.cells ys 50)).alloc (.cells ks 50):=⟨_,rfl⟩
 have HR1 : Hid (Blk w1 w.heap.size 50 ys.toList):=by rw [hw1];exact Lib.hid ((Blk.new w _ ys.toList).alloc _)
 have HX1 : Hid (Blk w1 (w.heap.size + 1) 50 (msgZ 9).cells):=by
  rw [hw1,← HKS.out.l]
  have h2:=Blk.new (w.alloc (.cells ys 50)) 50 ks.toList
  rw [World.size_alloc] at h2
  exact Lib.hid h2
 have HK1 : Hid (Keep w w1):=by rw [hw1];exact Lib.hid (keep_trans (keep_new _ _) (keep_new _ _))
 rw [← hw1]
 clear hw1 hst
 have C2:=Lib.hid c2
 have C3:=Lib.hid c3
 clear c2 c3
 replace c0:=keep_cell HK1.out c0
 replace c1:=keep_cell HK1.out c1
 go_upto_region 17 with fail
 letI iM : G.Mk:=⟨some (w.heap.size + 1)⟩
 refine G.wp_region_tree (.take [0,1,2,3,4,5,6,7,8,9] (.force [10] (.take [11,12] (.force [13] .done)))) [] (by kernel_rfl) (by kernel_rfl) (fun wa1 ka => ?_)
 have hneG : G.Mk.m ≠ some g:=fun q => by have e : w.heap.size + 1 = g:=Option.some.inj q;omega
 have HXa:=Lib.hid (HX1.out.keep ka);have HRa:=Lib.hid (HR1.out.keep ka);have HKa:=Lib.hid (keep_trans HK1.out ka)
 replace c0:=keep_cell ka c0
 have b0:=G.aftG_cell c0 hneG
 replace c1:=keep_cell ka c1
 have b1:=G.aftG_cell c1 hneG
 clear ka HX1 HR1 HK1
 refine G.mt_take wa1 (G.Gr.refl _) ?_
 simp only [pick_cons,pick_nil,nth_zero,nth_succ]
 repeat (go_big_quiet_step (fail))
 refine wpQuiet_nil (G.mt_force ?_)
 clear b0 b1 hneG
 simp only [pick_cons,pick_nil,nth_zero,nth_succ]
 refine G.fc_step rfl (fun K hK => ?_)
 obtain ⟨wb10,hstp,hbx,hgx⟩:=run_store_prt (P:=Tryd.prog) 39 hv.toList HXa.out (by rw [MsgR.len2 (m:=(msgZ 9)) HS.out HB.out,Array.length_toList,HHV.out.z];omega) HHV.out.o
 have hgx2:=hgx
 have HGX:=Lib.hid hgx;have HBX:=Lib.hid hbx
 clear hbx hgx
 go_simp
 refine hK _ _ (show G.Gr wa1 _ from hgx2) ?_
 clear hK K hstp hgx2
 have HXb10 : Hid (Blk wb10 (w.heap.size + 1) 50 (MsgR.cells { msgZ 9 with bh:=h })):=by
  have q:=HBX.out
  rw [HHV.out.l,MsgR.splice_bh HS.out HB.out HBH.out] at q;exact Lib.hid q
 have HRb10 : Hid (Blk wb10 w.heap.size 50 ys.toList):=Lib.hid (HRa.out.grown HGX.out (fun q => by have:=Option.some.inj q;omega))
 have HKb10 : Hid (Keep w wb10):=Lib.hid (HKa.out.grown HGX.out HKa.out.size (fun q hq => by have:=Option.some.inj hq;omega))
 clear HXa HRa HKa HBX HGX
 clear HB
 have HB:=HBH
 refine G.fc_nil (G.mt_take _ (G.Gr.refl _) ?_)
 simp only [pick_cons,pick_nil,nth_zero,nth_succ]
 repeat (go_big_quiet_step (fail))
 refine wpQuiet_nil (G.mt_force ?_)
 simp only [pick_cons,pick_nil,nth_zero,nth_succ]
 refine G.fc_step rfl (fun K hK => ?_)
 have z0 : ∃ v,wb10.cell? ⟨w.heap.size + 1,107,none⟩ = some v:=⟨_,(HXb10.out.cell 107).trans (List.getElem?_eq_getElem (by rw [MsgR.len2 (m:={ msgZ 9 with bh:=h }) HS.out HB.out];omega))⟩
 obtain ⟨v0,z0⟩:=z0
 have y0:=HXb10.out.frozen 107
 go_simp
 refine hK _ _ (show G.Gr wb10 _ from grown_set (grown_refl wb10 _)) ?_
 clear hK K z0 y0
 obtain ⟨wb11,hwb⟩ : ∃ wb,wb = wb10.setCell ⟨w.heap.size + 1,107,none⟩ (u32v t):=⟨_,rfl⟩
 have HXb11 : Hid (Blk wb11 (w.heap.size + 1) 50 (MsgR.cells { msgZ 9 with bh:=h,total:=t })):=by
  rw [hwb]
  have q:=HXb10.out.set_ 107 (u32v t)
  rw [MsgR.set107 (m:={ msgZ 9 with bh:=h }) HS.out HB.out] at q;exact Lib.hid q
 have HRb11 : Hid (Blk wb11 w.heap.size 50 ys.toList):=by rw [hwb];exact Lib.hid (HRb10.out.far (by simp) _)
 have HKb11 : Hid (Keep w wb11):=by rw [hwb];exact Lib.hid (Below.setCell HKb10.out (by simp) _)
 rw [← hwb]
 clear hwb HXb10 HRb10 HKb10
 refine G.fc_nil (G.mt_end ?_)
 clear iM
 have c2:=keep_cell HKb11.out C2.out
 have c3:=keep_cell HKb11.out C3.out
 go_upto_region 18 with fail
 letI iM : G.Mk:=⟨some (w.heap.size + 1)⟩
 refine G.wp_region_tree (.take [0,1,2,3,4,5,6,7,8,9,10] (.force [11] (.take [12,13] (.force [14] .done)))) [] (by kernel_rfl) (by kernel_rfl) (fun wa2 ka => ?_)
 have hneG : G.Mk.m ≠ some g:=fun q => by have e : w.heap.size + 1 = g:=Option.some.inj q;omega
 have HXa:=Lib.hid (HXb11.out.keep ka);have HRa:=Lib.hid (HRb11.out.keep ka);have HKa:=Lib.hid (keep_trans HKb11.out ka)
 replace c2:=keep_cell ka c2
 have b2:=G.aftG_cell c2 hneG
 replace c3:=keep_cell ka c3
 have b3:=G.aftG_cell c3 hneG
 clear ka HXb11 HRb11 HKb11
 refine G.mt_take wa2 (G.Gr.refl _) ?_
 simp only [pick_cons,pick_nil,nth_zero,nth_succ]
 repeat (go_big_quiet_step (fail))
 refine wpQuiet_nil (G.mt_force ?_)
 clear b2 b3 hneG
 simp only [pick_cons,pick_nil,nth_zero,nth_succ]
 refine G.fc_step rfl (fun K hK => ?_)
 have z0 : ∃ v,wa2.cell? ⟨w.heap.size + 1,108,none⟩ = some v:=⟨_,(HXa.out.cell 108).trans (List.getElem?_eq_getElem (by rw [MsgR.len2 (m:={ msgZ 9 with bh:=h,total:=t }) HS.out HB.out];omega))⟩
 obtain ⟨v0,z0⟩:=z0
 have y0:=HXa.out.frozen 108
 go_simp
 refine hK _ _ (show G.Gr wa2 _ from grown_set (grown_refl wa2 _)) ?_
 clear hK K z0 y0
 obtain ⟨wb20,hwb⟩ : ∃ wb,wb = wa2.setCell ⟨w.heap.size + 1,108,none⟩ (.slice sA l.length sc):=⟨_,rfl⟩
 have HXb20 : Hid (Blk wb20 (w.heap.size + 1) 50 (MsgR.cells { msgZ 9 with bh:=h,total:=t,sA:=sA,shs:=l,sc:=sc })):=by
  rw [hwb]
  have q:=HXa.out.set_ 108 (.slice sA l.length sc)
  rw [MsgR.set108 (m:={ msgZ 9 with bh:=h,total:=t }) HS.out HB.out] at q;exact Lib.hid q
 have HRb20 : Hid (Blk wb20 w.heap.size 50 ys.toList):=by rw [hwb];exact Lib.hid (HRa.out.far (by simp) _)
 have HKb20 : Hid (Keep w wb20):=by rw [hwb];exact Lib.hid (Below.setCell HKa.out (by simp) _)
 rw [← hwb]
 clear hwb HXa HRa HKa
 refine G.fc_nil (G.mt_take _ (G.Gr.refl _) ?_)
 simp only [pick_cons,pick_nil,nth_zero,nth_succ]
 repeat (go_big_quiet_step (fail))
 refine wpQuiet_nil (G.mt_force ?_)
 simp only [pick_cons,pick_nil,nth_zero,nth_succ]
 refine G.fc_step rfl (fun K hK => ?_)
 have z0 : ∃ v,wb20.cell? ⟨w.heap.size + 1,109,none⟩ = some v:=⟨_,(HXb20.out.cell 109).trans (List.getElem?_eq_getElem (by rw [MsgR.len2 (m:={ msgZ 9 with bh:=h,total:=t,sA:=sA,shs:=l,sc:=sc }) HS.out HB.out];omega))⟩
 obtain ⟨v0,z0⟩:=z0
 have y0:=HXb20.out.frozen 109
 go_simp
 refine hK _ _ (show G.Gr wb20 _ from grown_set (grown_refl wb20 _)) ?_
 clear hK K z0 y0
 obtain ⟨wb21,hwb⟩ : ∃ wb,wb = wb20.setCell ⟨w.heap.size + 1,109,none⟩ (.slice fA f.length fc):=⟨_,rfl⟩
 have HXb21 : Hid (Blk wb21 (w.heap.size + 1) 50 (MsgR.cells { msgZ 9 with bh:=h,total:=t,sA:=sA,shs:=l,sc:=sc,fA:=fA,fs:=f,fc:=fc })):=by
  rw [hwb]
  have q:=HXb20.out.set_ 109 (.slice fA f.length fc)
  rw [MsgR.set109 (m:={ msgZ 9 with bh:=h,total:=t,sA:=sA,shs:=l,sc:=sc }) HS.out HB.out] at q;exact Lib.hid q
 have HRb21 : Hid (Blk wb21 w.heap.size 50 ys.toList):=by rw [hwb];exact Lib.hid (HRb20.out.far (by simp) _)
 have HKb21 : Hid (Keep w wb21):=by rw [hwb];exact Lib.hid (Below.setCell HKb20.out (by simp) _)
 rw [← hwb]
 clear hwb HXb20 HRb20 HKb20
 refine G.fc_nil (G.mt_end ?_)
 clear iM
 go_upto_region 21 with fail
 obtain ⟨wx,hwx⟩ : ∃ wx,wx = wb21:=⟨_,rfl⟩
 have HX : Hid (Blk wx (w.heap.size + 1) 50 M.cells):=by rw [hwx,← HMM.out];exact HXb21
 have HRX : Hid (Blk wx w.heap.size 50 ys.toList):=by rw [hwx];exact HRb21
 have HKX : Hid (Keep w wx):=by rw [hwx];exact HKb21
 rw [← hwx]
 clear hwx HXb21 HRb21 HKb21
 obtain ⟨ds,hds⟩ : ∃ ds,MsA M ds:=⟨_,MsA.of HMO.out⟩
 have hdz:=hds.z;have hdn:=hds.n;have hdi:=hds.i
 have HDS:=Lib.hid hds
 have HBx : Hid (Blk wx (w.heap.size + 1) 50 ds.toList):=by rw [HDS.out.l];exact HX.out
 obtain ⟨w8,hst8,hb8,hg8⟩:=run_store_blk (P:=Tryd.prog) ds.toList HRX.out (by rw [Array.length_toList,Array.length_toList,hdz,HY.out.z]) HDS.out.o
 have Hb8:=Lib.hid hb8;have Hg8:=Lib.hid hg8
 clear hds hb8 hg8 HX HRX
 go_wp2_with ((with_reducible refine load_arr (w.heap.size + 1) ds (Eq.trans ?_ rfl) HBx.out _ Tryd.underlying50 rfl hdi ?_);rfl)
 have hb8:=Hb8.out
 exact bodyPost_ret (v:=.agg ds) (results_cell_row Tryd.results57 _ _ w.heap.size _ _ _ _ rfl hb8 Tryd.underlying50 rfl (by rw [List.size_toArray,Array.length_toList];exact hdi)) rfl ⟨ds,rfl,HDS.out,HKX.out.grown Hg8.out HKX.out.size (fun q hq => by injection hq with hq;omega)⟩
end Go.Proofs.YtffpanlpbdnafaaDoor
/- wire.message: whatever the kind; shapes of what was got. -/
set_option linter.unusedSimpArgs false
set_option linter.unusedVariables false
namespace Go.Proofs.YtffpanlpbdnafaaDoor
open Go.RowKit
def PV.tag : PV → Nat
 | .u32 _ => 0
 | .u64 _ => 1
 | .hsh .. => 2
 | .h32 _ => 3
 | .heads .. => 4
 | .items .. => 5
 | .head _ => 6
 | .bytes .. => 7
 | .tx _ => 8
theorem tak_tag (p : PV) (b : List UInt8) : (p.tak b).1.tag = p.tag:=by
 cases p <;> first | exact Eq.refl (0 : Nat) | exact Eq.refl (1 : Nat) | exact Eq.refl (2 : Nat) | exact Eq.refl (3 : Nat) | exact Eq.refl (4 : Nat) | exact Eq.refl (5 : Nat) | exact Eq.refl (6 : Nat) | exact Eq.refl (7 : Nat) | exact Eq.refl (8 : Nat)
theorem pl_tag (p : PV) : p.pl.tag = p.tag:=by
 cases p <;> first | exact Eq.refl (0 : Nat) | exact Eq.refl (1 : Nat) | exact Eq.refl (2 : Nat) | exact Eq.refl (3 : Nat) | exact Eq.refl (4 : Nat) | exact Eq.refl (5 : Nat) | exact Eq.refl (6 : Nat) | exact Eq.refl (7 : Nat) | exact Eq.refl (8 : Nat)
theorem gets_nil (b : List UInt8) : getsN [] b = ([],b,0):=rfl
theorem gets_ok (p : PV) (ps : List PV) (b : List UInt8) (h : (p.tak b).2.2 = 0) : getsN (p :: ps) b = ((p.tak b).1 :: (getsN ps (b.drop (p.tak b).2.1)).1,(getsN ps (b.drop (p.tak b).2.1)).2):=by
 rw [getsN,if_pos h]
theorem gets_bad (p : PV) (ps : List PV) (b : List UInt8) (h : ¬ (p.tak b).2.2 = 0) : getsN (p :: ps) b = ([],b,(p.tak b).2.2):=by
 rw [getsN,if_neg h]
theorem gets_tag : ∀ (ps : List PV) (b : List UInt8),(getsN ps b).2.2 = 0 → (getsN ps b).1.map PV.tag = ps.map PV.tag:=by
 intro ps
 induction ps with
 | nil => intro b _;rw [gets_nil]
 | cons p ps ih =>
   intro b h
   by_cases h0 : (p.tak b).2.2 = 0
   ·rw [gets_ok p ps b h0] at h ⊢
    have q:=ih _ h
    have e:=tak_tag p b
    generalize getsN ps (b.drop (p.tak b).2.1) = R at *
    generalize (p.tak b).1 = x at *
    rw [List.map_cons,List.map_cons,q,e]
   ·rw [gets_bad p ps b h0] at h
    exact absurd h h0
theorem tag0 {p : PV} (h : p.tag = 0) : ∃ x,p = .u32 x:=by cases p <;> first | exact ⟨_,rfl⟩ | cases h
theorem tag1 {p : PV} (h : p.tag = 1) : ∃ x,p = .u64 x:=by cases p <;> first | exact ⟨_,rfl⟩ | cases h
theorem tag2 {p : PV} (h : p.tag = 2) : ∃ A l c most,p = .hsh A l c most:=by cases p <;> first | exact ⟨_,_,_,_,rfl⟩ | cases h
theorem tag3 {p : PV} (h : p.tag = 3) : ∃ x,p = .h32 x:=by cases p <;> first | exact ⟨_,rfl⟩ | cases h
theorem tag4 {p : PV} (h : p.tag = 4) : ∃ A l c,p = .heads A l c:=by cases p <;> first | exact ⟨_,_,_,rfl⟩ | cases h
theorem tag5 {p : PV} (h : p.tag = 5) : ∃ A l c,p = .items A l c:=by cases p <;> first | exact ⟨_,_,_,rfl⟩ | cases h
theorem tag6 {p : PV} (h : p.tag = 6) : ∃ x,p = .head x:=by cases p <;> first | exact ⟨_,rfl⟩ | cases h
theorem tag7 {p : PV} (h : p.tag = 7) : ∃ A l c,p = .bytes A l c:=by cases p <;> first | exact ⟨_,_,_,rfl⟩ | cases h
theorem tag8 {p : PV} (h : p.tag = 8) : ∃ x,p = .tx x:=by cases p <;> first | exact ⟨_,rfl⟩ | cases h
theorem tags1 {qs : List PV} {x : Nat} (h : qs.map PV.tag = [x]) : ∃ a,qs = [a]∧a.tag = x:=by
 rcases qs with _ | ⟨a,_ | ⟨b,l⟩⟩ <;> simp at h
 exact ⟨a,rfl,h⟩
theorem tags3 {qs : List PV} {x y z : Nat} (h : qs.map PV.tag = [x,y,z]) : ∃ a b c,qs = [a,b,c]∧a.tag = x∧b.tag = y∧c.tag = z:=by
 rcases qs with _ | ⟨a,_ | ⟨b,_ | ⟨c,_ | ⟨d,l⟩⟩⟩⟩ <;> simp at h
 exact ⟨a,b,c,rfl,h⟩
theorem tags4 {qs : List PV} {x y z u : Nat} (h : qs.map PV.tag = [x,y,z,u]) : ∃ a b c d,qs = [a,b,c,d]∧a.tag = x∧b.tag = y∧c.tag = z∧d.tag = u:=by
 rcases qs with _ | ⟨a,_ | ⟨b,_ | ⟨c,_ | ⟨d,_ | ⟨e,l⟩⟩⟩⟩⟩ <;> simp at h
 exact ⟨a,b,c,d,rfl,h⟩
theorem msgZ_at (k : Int) (h : -9223372036854775808 ≤ k∧k ≤ 9223372036854775807) (w : World) : (msgZ k).at_ w :=
 ⟨msgZ_ok k h,Rd.nil _ _,⟨Nat.le_refl _,Nat.zero_le _⟩,Rd.nil _ _,⟨Nat.le_refl _,Nat.zero_le _⟩,Rd.nil _ _,⟨Nat.le_refl _,Nat.zero_le _⟩,Rd.nil _ _,⟨Nat.le_refl _,Nat.zero_le _⟩,Rd.nil _ _,⟨Nat.le_refl _,Nat.zero_le _⟩,txZ_at w⟩
theorem message_all (k : Nat) (hk : k < 11) (qs : List PV) (ht : qs.map PV.tag = (partsM (msgZ k)).map PV.tag) (w : World) (hat : ∀ q ∈ qs,q.at_ w) (A : Option Addr) (c : Nat) (hr : Rd w A (qs.map PV.val)) :
  (msgOf k qs).at_ w∧(msgOf k qs).pl = msgOf k (qs.map PV.pl)∧Calls Tryd.prog 57 #[iv k,.slice A qs.length c] w fun e w' => ∃ ds,e = .returned (.agg ds)∧MsA (msgOf k qs) ds∧Keep w w':=by
 have z:=msgZ_at k (by omega) w
 have o:=z.o
 clear o z
 obtain rfl | rfl | rfl | rfl | rfl | rfl | rfl | rfl | rfl | rfl | rfl : k = 0 ∨ k = 1 ∨ k = 2 ∨ k = 3 ∨ k = 4 ∨ k = 5 ∨ k = 6 ∨ k = 7 ∨ k = 8 ∨ k = 9 ∨ k = 10:=by omega
 ·have z:=msgZ_at ((0 : Nat) : Int) (by omega) w
  have o:=z.o
  obtain ⟨a,b,d,rfl,ha,hb,hd⟩:=tags3 (x:=0) (y:=1) (z:=0) ht
  obtain ⟨p,rfl⟩:=tag0 ha;obtain ⟨n,rfl⟩:=tag1 hb;obtain ⟨h,rfl⟩:=tag0 hd
  have hn : n < 2 ^ 64:=hat (.u64 n) (by simp)
  have hm : MsgR.at_ { msgZ (0 : Nat) with proto:=p,nonce:=n,height:=h } w:=⟨⟨o.k,hn,o.s,o.b,o.h,o.l,o.i,o.z⟩,z.h,z.hc,z.l,z.lc,z.i,z.ic,z.s,z.sc,z.f,z.fc,z.t⟩
  exact ⟨hm,rfl,message_0 p n h A c w hm.o hr⟩
 ·have z:=msgZ_at ((1 : Nat) : Int) (by omega) w
  have o:=z.o
  have : qs = []:=by cases qs with
   | nil => rfl
   | cons a l => cases ht
  subst this
  exact ⟨z,rfl,message_1 A c w z.o hr⟩
 ·have z:=msgZ_at ((2 : Nat) : Int) (by omega) w
  have o:=z.o
  obtain ⟨a,rfl,ha⟩:=tags1 (x:=1) ht
  obtain ⟨n,rfl⟩:=tag1 ha
  have hn : n < 2 ^ 64:=hat (.u64 n) (by simp)
  have hm : MsgR.at_ { msgZ (2 : Nat) with nonce:=n } w:=⟨⟨o.k,hn,o.s,o.b,o.h,o.l,o.i,o.z⟩,z.h,z.hc,z.l,z.lc,z.i,z.ic,z.s,z.sc,z.f,z.fc,z.t⟩
  exact ⟨hm,rfl,message_2 n A c w hm.o hr⟩
 ·have z:=msgZ_at ((3 : Nat) : Int) (by omega) w
  have o:=z.o
  obtain ⟨a,rfl,ha⟩:=tags1 (x:=1) ht
  obtain ⟨n,rfl⟩:=tag1 ha
  have hn : n < 2 ^ 64:=hat (.u64 n) (by simp)
  have hm : MsgR.at_ { msgZ (3 : Nat) with nonce:=n } w:=⟨⟨o.k,hn,o.s,o.b,o.h,o.l,o.i,o.z⟩,z.h,z.hc,z.l,z.lc,z.i,z.ic,z.s,z.sc,z.f,z.fc,z.t⟩
  exact ⟨hm,rfl,message_3 n A c w hm.o hr⟩
 ·have z:=msgZ_at ((4 : Nat) : Int) (by omega) w
  have o:=z.o
  obtain ⟨a,b,d,rfl,ha,hb,hd⟩:=tags3 (x:=0) (y:=2) (z:=3) ht
  obtain ⟨p,rfl⟩:=tag0 ha;obtain ⟨lA,l,lc,most,rfl⟩:=tag2 hb;obtain ⟨s,rfl⟩:=tag3 hd
  have hl : (PV.hsh lA l lc most).at_ w:=hat _ (by simp)
  have hs : s.length = 32:=hat (.h32 s) (by simp)
  have hm : MsgR.at_ { msgZ (4 : Nat) with proto:=p,lA:=lA,ls:=l,lc:=lc,stop:=s } w:=⟨⟨o.k,o.n,hs,o.b,o.h,hl.1,o.i,o.z⟩,z.h,z.hc,hl.2.2,hl.2.1,z.i,z.ic,z.s,z.sc,z.f,z.fc,z.t⟩
  exact ⟨hm,rfl,message_4 p lA l lc most s A c w hm.o hr⟩
 ·have z:=msgZ_at ((5 : Nat) : Int) (by omega) w
  have o:=z.o
  obtain ⟨a,rfl,ha⟩:=tags1 (x:=4) ht
  obtain ⟨lA,l,lc,rfl⟩:=tag4 ha
  have hl : (PV.heads lA l lc).at_ w:=hat _ (by simp)
  have hm : MsgR.at_ { msgZ (5 : Nat) with hA:=lA,hs:=l,hc:=lc } w:=⟨⟨o.k,o.n,o.s,o.b,hl.1,o.l,o.i,o.z⟩,hl.2.2,hl.2.1,z.l,z.lc,z.i,z.ic,z.s,z.sc,z.f,z.fc,z.t⟩
  exact ⟨hm,rfl,message_5 lA l lc A c w hm.o hr⟩
 ·have z:=msgZ_at ((6 : Nat) : Int) (by omega) w
  have o:=z.o
  obtain ⟨a,rfl,ha⟩:=tags1 (x:=5) ht
  obtain ⟨lA,l,lc,rfl⟩:=tag5 ha
  have hl : (PV.items lA l lc).at_ w:=hat _ (by simp)
  have hm : MsgR.at_ { msgZ (6 : Nat) with iA:=lA,is:=l,ic:=lc } w:=⟨⟨o.k,o.n,o.s,o.b,o.h,o.l,hl.1,o.z⟩,z.h,z.hc,z.l,z.lc,hl.2.2,hl.2.1,z.s,z.sc,z.f,z.fc,z.t⟩
  exact ⟨hm,rfl,message_6 lA l lc A c w hm.o hr⟩
 ·have z:=msgZ_at ((7 : Nat) : Int) (by omega) w
  have o:=z.o
  obtain ⟨a,rfl,ha⟩:=tags1 (x:=5) ht
  obtain ⟨lA,l,lc,rfl⟩:=tag5 ha
  have hl : (PV.items lA l lc).at_ w:=hat _ (by simp)
  have hm : MsgR.at_ { msgZ (7 : Nat) with iA:=lA,is:=l,ic:=lc } w:=⟨⟨o.k,o.n,o.s,o.b,o.h,o.l,hl.1,o.z⟩,z.h,z.hc,z.l,z.lc,hl.2.2,hl.2.1,z.s,z.sc,z.f,z.fc,z.t⟩
  exact ⟨hm,rfl,message_7 lA l lc A c w hm.o hr⟩
 ·have z:=msgZ_at ((8 : Nat) : Int) (by omega) w
  have o:=z.o
  obtain ⟨a,rfl,ha⟩:=tags1 (x:=5) ht
  obtain ⟨lA,l,lc,rfl⟩:=tag5 ha
  have hl : (PV.items lA l lc).at_ w:=hat _ (by simp)
  have hm : MsgR.at_ { msgZ (8 : Nat) with iA:=lA,is:=l,ic:=lc } w:=⟨⟨o.k,o.n,o.s,o.b,o.h,o.l,hl.1,o.z⟩,z.h,z.hc,z.l,z.lc,hl.2.2,hl.2.1,z.s,z.sc,z.f,z.fc,z.t⟩
  exact ⟨hm,rfl,message_8 lA l lc A c w hm.o hr⟩
 ·have z:=msgZ_at ((9 : Nat) : Int) (by omega) w
  have o:=z.o
  obtain ⟨a,b,d,e,rfl,ha,hb,hd,he⟩:=tags4 (x:=6) (y:=0) (z:=2) (u:=7) ht
  obtain ⟨h,rfl⟩:=tag6 ha;obtain ⟨t,rfl⟩:=tag0 hb;obtain ⟨lA,l,lc,most,rfl⟩:=tag2 hd;obtain ⟨fA,f,fc,rfl⟩:=tag7 he
  have hh : h.ok:=hat (.head h) (by simp)
  have hl : (PV.hsh lA l lc most).at_ w:=hat _ (by simp)
  have hf : (PV.bytes fA f fc).at_ w:=hat _ (by simp)
  have hm : MsgR.at_ { msgZ (9 : Nat) with bh:=h,total:=t,sA:=lA,shs:=l,sc:=lc,fA:=fA,fs:=f,fc:=fc } w:=⟨⟨o.k,o.n,o.s,hh,o.h,o.l,o.i,hl.1⟩,z.h,z.hc,z.l,z.lc,z.i,z.ic,hl.2.2,hl.2.1,hf.2,hf.1,z.t⟩
  exact ⟨hm,rfl,message_9 h t lA l lc most fA f fc A c w hm.o hr⟩
 ·have z:=msgZ_at ((10 : Nat) : Int) (by omega) w
  have o:=z.o
  obtain ⟨a,rfl,ha⟩:=tags1 (x:=8) ht
  obtain ⟨t,rfl⟩:=tag8 ha
  have hl : t.at w:=hat (.tx t) (by simp)
  have hm : MsgR.at_ { msgZ (10 : Nat) with t:=t } w:=⟨⟨o.k,o.n,o.s,o.b,o.h,o.l,o.i,o.z⟩,z.h,z.hc,z.l,z.lc,z.i,z.ic,z.s,z.sc,z.f,z.fc,hl⟩
  exact ⟨hm,rfl,message_10 t A c w hm.o hr⟩
end Go.Proofs.YtffpanlpbdnafaaDoor
