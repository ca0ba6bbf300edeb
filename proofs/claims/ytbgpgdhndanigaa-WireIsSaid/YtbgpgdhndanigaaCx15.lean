/- Texts merged by pack.py: Rfu, Km, Kn, Ko, Lit, Io, Kp, Kq, Kr. -/
import Derived.Test.YtbgpgdhndanigaaCx11
import Derived.Test.YtbgpgdhndanigaaCx12
import Derived.Test.YtbgpgdhndanigaaCx13
import Derived.Test.YtbgpgdhndanigaaCx14
import Derived.Test.YtbgpgdhndanigaaCx9
import Derived.Test.YtbgpgdhndanigaaCx1
import Derived.Deep.AppendSrc
import Derived.Test.YtbgpgdhndanigaaCx8
import Derived.Deep.CutBlock
/- florinref09.Fits. (printed by gen_rft.py) -/
set_option linter.unusedSimpArgs false
set_option linter.unusedVariables false
namespace Go.Proofs.Ytbgpgdhndanigaa
open Go.RowKit
attribute [local go_sem ↓] Go.wp_at_zero Go.wp_at_succ
theorem rfits_any (m : MsgR) (cs : Array Value) (hA : MsB m cs) (w : World) (h : m.at_ w) :
  Calls Try.prog 14 #[.agg cs] w fun e w' => e = .returned (.bool (fitsB m))∧Keep w w':=by
 obtain ⟨zh,hzA,hz0⟩:=zhash_letter32
 obtain ⟨zd,hzD,hd0⟩:=zhead_letterA
 have hk:=h.o
 obtain ⟨ss,hss⟩ : ∃ ss,HashA m.stop ss:=⟨_,HashA.of hk.s⟩
 obtain ⟨hv,hhv⟩ : ∃ hv,HdA m.bh hv:=⟨_,HdA.of hk.b⟩
 have HE4 : Hid (∀ w,(Op.equalIn 10000 27 (.agg ss) (.agg zh)).run Try.prog w = .ok (m.stop == z32) w):=Lib.hid fun w => hash_inR hss hzA hk.s rfl w
 have HE8 : Hid (∀ w,(Op.equalIn 10000 30 (.agg hv) (.agg zd)).run Try.prog w = .ok (hdEq m.bh zHdr) w):=Lib.hid fun w => hd_inN hhv hzD hk.b ⟨rfl,rfl⟩ w
 have TS : Hid (∀ y,Keep w y → Calls Try.prog 37 #[.agg #[u32v m.t.ver,.slice m.t.iA m.t.ins.length m.t.ic,.slice m.t.oA m.t.outs.length m.t.oc,u32v m.t.lock]] y fun e w' => e = .returned (.bool (saneT m.t))∧Keep y w'):=Lib.hid fun y q => rtsane_any m.t y (h.t.keep q)
 have IT:=Lib.hid (ritems_any m.kind)
 have HB : Blk (w.alloc (.cells cs 39)) w.heap.size 39 m.cells:=by rw [← hA.l];exact Blk.new w _ cs.toList
 have HC : Hid (∀ y,Keep (w.alloc (.cells cs 39)) y → FtC m ss hv w.heap.size y):=Lib.hid fun y k => FtC.of (HB.keep k) hk hss hhv
 have HL : FtL m (m.kind == 0) (m.kind == 2) (m.kind == 3) (m.kind == 4) (m.kind == 5) (m.kind == 9) (m.kind == 10) (decide (6 ≤ m.kind) && decide (m.kind ≤ 8)) ((m.proto.toNat : Int) == 0) ((m.nonce : Int) == 0) ((m.height.toNat : Int) == 0) (m.stop == z32) ((m.hs.length : Int) == 0) ((m.ls.length : Int) == 0) ((m.is.length : Int) == 0) (hdEq m.bh zHdr) ((m.total.toNat : Int) == 0) ((m.shs.length : Int) == 0) ((m.fs.length : Int) == 0) ((m.t.ver.toNat : Int) == 0) ((m.t.ins.length : Int) == 0) ((m.t.outs.length : Int) == 0) ((m.t.lock.toNat : Int) == 0):=by constructor <;> rfl
 have HR:=fits_ref m
 cases hb : bigM m with
 | true =>
   rw [hb] at HR
   rw [HR]
   refine rfits_big m cs ss hv zh zd (saneT m.t) (m.kind == 0) (m.kind == 2) (m.kind == 3) (m.kind == 4) (m.kind == 5) (m.kind == 9) (m.kind == 10) (decide (6 ≤ m.kind) && decide (m.kind ≤ 8)) ((m.proto.toNat : Int) == 0) ((m.nonce : Int) == 0) ((m.height.toNat : Int) == 0) (m.stop == z32) ((m.hs.length : Int) == 0) ((m.ls.length : Int) == 0) ((m.is.length : Int) == 0) (hdEq m.bh zHdr) ((m.total.toNat : Int) == 0) ((m.shs.length : Int) == 0) ((m.fs.length : Int) == 0) ((m.t.ver.toNat : Int) == 0) ((m.t.ins.length : Int) == 0) ((m.t.outs.length : Int) == 0) ((m.t.lock.toNat : Int) == 0) w hz0 hd0 hss.i hhv.i HE4 HE8 HC TS IT (Lib.hid HL) (Lib.hid fun q => ?_)
   simp [bigM] at hb
   omega
 | false =>
   rw [hb] at HR
   have hB : ¬ m.kind < 0∧¬ (10 : Int) < m.kind∧¬ (101 : Int) < m.ls.length∧¬ (2000 : Int) < m.hs.length∧¬ (50000 : Int) < m.is.length∧¬ (4096 : Int) < m.shs.length∧¬ (1024 : Int) < m.fs.length:=by
    simp [bigM] at hb
    omega
   have hk : m.kind = 0 ∨ m.kind = 2 ∨ m.kind = 3 ∨ m.kind = 4 ∨ m.kind = 5 ∨ (6 ≤ m.kind∧m.kind ≤ 8) ∨ m.kind = 9 ∨ (m.kind = 1 ∨ m.kind = 10):=by omega
   rcases hk with hk | hk | hk | hk | hk | hk | hk | hk
   ·exact rfits_zero m cs ss hv zh zd (fitsB m) (saneT m.t) _ _ _ _ _ _ _ _ _ _ _ _ _ _ _ _ _ _ _ _ _ _ _ w hz0 hd0 hss.i hhv.i HE4 HE8 HC TS IT (Lib.hid HL) (Lib.hid HR) (Lib.hid hB) (by rw [beq_iff_eq];omega) (by rw [beq_eq_false_iff_ne];omega) (by rw [beq_eq_false_iff_ne];omega) (by rw [beq_eq_false_iff_ne];omega) (by rw [beq_eq_false_iff_ne];omega) (by rw [beq_eq_false_iff_ne];omega) (by rw [beq_eq_false_iff_ne];omega) (by simp;omega)
   ·exact rfits_two m cs ss hv zh zd (fitsB m) (saneT m.t) _ _ _ _ _ _ _ _ _ _ _ _ _ _ _ _ _ _ _ _ _ _ _ w hz0 hd0 hss.i hhv.i HE4 HE8 HC TS IT (Lib.hid HL) (Lib.hid HR) (Lib.hid hB) (by rw [beq_eq_false_iff_ne];omega) (by rw [beq_iff_eq];omega) (by rw [beq_eq_false_iff_ne];omega) (by rw [beq_eq_false_iff_ne];omega) (by rw [beq_eq_false_iff_ne];omega) (by rw [beq_eq_false_iff_ne];omega) (by rw [beq_eq_false_iff_ne];omega) (by simp;omega)
   ·exact rfits_three m cs ss hv zh zd (fitsB m) (saneT m.t) _ _ _ _ _ _ _ _ _ _ _ _ _ _ _ _ _ _ _ _ _ _ _ w hz0 hd0 hss.i hhv.i HE4 HE8 HC TS IT (Lib.hid HL) (Lib.hid HR) (Lib.hid hB) (by rw [beq_eq_false_iff_ne];omega) (by rw [beq_eq_false_iff_ne];omega) (by rw [beq_iff_eq];omega) (by rw [beq_eq_false_iff_ne];omega) (by rw [beq_eq_false_iff_ne];omega) (by rw [beq_eq_false_iff_ne];omega) (by rw [beq_eq_false_iff_ne];omega) (by simp;omega)
   ·exact rfits_four m cs ss hv zh zd (fitsB m) (saneT m.t) _ _ _ _ _ _ _ _ _ _ _ _ _ _ _ _ _ _ _ _ _ _ _ w hz0 hd0 hss.i hhv.i HE4 HE8 HC TS IT (Lib.hid HL) (Lib.hid HR) (Lib.hid hB) (by rw [beq_eq_false_iff_ne];omega) (by rw [beq_eq_false_iff_ne];omega) (by rw [beq_eq_false_iff_ne];omega) (by rw [beq_iff_eq];omega) (by rw [beq_eq_false_iff_ne];omega) (by rw [beq_eq_false_iff_ne];omega) (by rw [beq_eq_false_iff_ne];omega) (by simp;omega)
   ·exact rfits_five m cs ss hv zh zd (fitsB m) (saneT m.t) _ _ _ _ _ _ _ _ _ _ _ _ _ _ _ _ _ _ _ _ _ _ _ w hz0 hd0 hss.i hhv.i HE4 HE8 HC TS IT (Lib.hid HL) (Lib.hid HR) (Lib.hid hB) (by rw [beq_eq_false_iff_ne];omega) (by rw [beq_eq_false_iff_ne];omega) (by rw [beq_eq_false_iff_ne];omega) (by rw [beq_eq_false_iff_ne];omega) (by rw [beq_iff_eq];omega) (by rw [beq_eq_false_iff_ne];omega) (by rw [beq_eq_false_iff_ne];omega) (by simp;omega)
   ·exact rfits_items m cs ss hv zh zd (fitsB m) (saneT m.t) _ _ _ _ _ _ _ _ _ _ _ _ _ _ _ _ _ _ _ _ _ _ _ w hz0 hd0 hss.i hhv.i HE4 HE8 HC TS IT (Lib.hid HL) (Lib.hid HR) (Lib.hid hB) (by rw [beq_eq_false_iff_ne];omega) (by rw [beq_eq_false_iff_ne];omega) (by rw [beq_eq_false_iff_ne];omega) (by rw [beq_eq_false_iff_ne];omega) (by rw [beq_eq_false_iff_ne];omega) (by rw [beq_eq_false_iff_ne];omega) (by rw [beq_eq_false_iff_ne];omega) (by simp;omega)
   ·exact rfits_nine m cs ss hv zh zd (fitsB m) (saneT m.t) _ _ _ _ _ _ _ _ _ _ _ _ _ _ _ _ _ _ _ _ _ _ _ w hz0 hd0 hss.i hhv.i HE4 HE8 HC TS IT (Lib.hid HL) (Lib.hid HR) (Lib.hid hB) (by rw [beq_eq_false_iff_ne];omega) (by rw [beq_eq_false_iff_ne];omega) (by rw [beq_eq_false_iff_ne];omega) (by rw [beq_eq_false_iff_ne];omega) (by rw [beq_eq_false_iff_ne];omega) (by rw [beq_iff_eq];omega) (by rw [beq_eq_false_iff_ne];omega) (by simp;omega)
   ·exact rfits_rest m cs ss hv zh zd (fitsB m) (saneT m.t) _ _ _ _ _ _ _ _ _ _ _ _ _ _ _ _ _ _ _ _ _ _ _ w hz0 hd0 hss.i hhv.i HE4 HE8 HC TS IT (Lib.hid HL) (Lib.hid HR) (Lib.hid hB) (by rw [beq_eq_false_iff_ne];omega) (by rw [beq_eq_false_iff_ne];omega) (by rw [beq_eq_false_iff_ne];omega) (by rw [beq_eq_false_iff_ne];omega) (by rw [beq_eq_false_iff_ne];omega) (by rw [beq_eq_false_iff_ne];omega) (by simp;omega)
end Go.Proofs.Ytbgpgdhndanigaa
/- florinref09: names, Name, Kind, hashes, list, block. (printed by gen_km.py) -/
set_option linter.unusedSimpArgs false
set_option linter.unusedVariables false
namespace Go.Proofs.Ytbgpgdhndanigaa
open Go.RowKit
attribute [local go_sem ↓] Go.wp_at_zero Go.wp_at_succ
set_option maxRecDepth 100000 in
set_option maxHeartbeats 4000000 in
theorem rnames_any (w : World) : Calls Try.prog 32 #[] w fun e w' => ∃ g,e = .returned (.slice (some ⟨g,0,none⟩) 11 11)∧(∀ k : Nat,k < 11 → w'.cell? ⟨g,k,none⟩ = some (.string (str (nameL k))))∧Keep w w':=by
 go_enter Try.func32,Try.ntmps32
 go_wp2
 refine bodyPost_ret (v:=.slice (some ⟨w.heap.size,0,none⟩) 11 11) (by simp [results,Try.results32]) rfl ⟨w.heap.size,rfl,fun k hk => ?_,keep_new _ _⟩
 rw [box_cell]
 rcases k with _ | _ | _ | _ | _ | _ | _ | _ | _ | _ | _ | k
 all_goals first | rfl | omega
set_option maxRecDepth 100000 in
set_option maxHeartbeats 4000000 in
theorem rname_any (k : Int) (w : World) : Calls Try.prog 18 #[.int .i64 k] w fun e w' => e = .returned (.string (str (nameL k)))∧Keep w w':=by
 have NM:=Lib.hid (fun y => rnames_any y)
 by_cases h1 : 0 ≤ k∧k < 11
 ·obtain ⟨n,rfl⟩ : ∃ n : Nat,k = n:=⟨k.toNat,by omega⟩
  have hn : n < 11:=by omega
  have d1 : ¬ ((n : Int) < 0):=by omega
  have d2 : ¬ ((10 : Int) < n):=by omega
  clear h1
  go_enter Try.func18,Try.ntmps18
  go_wp2_with fail
  refine (NM.out _).mono ?_
  rintro e w1 ⟨g,rfl,hc,k1⟩
  have c0:=hc n hn
  have HK1:=Lib.hid k1
  clear NM hc k1
  have d3 : (n : Int) < 11:=by omega
  go_wp2
  exact bodyPost_ret (v:=.string (str (nameL n))) (by simp [results,Try.results18]) rfl ⟨rfl,HK1.out⟩
 ·rw [nameL_out h1]
  clear NM
  by_cases h2 : k < 0
  ·clear h1
   go_enter Try.func18,Try.ntmps18
   go_wp2
   exact bodyPost_ret (v:=.string (str [])) (by simp [results,Try.results18];rfl) rfl ⟨rfl,Below.refl _ _⟩
  ·have d2 : (10 : Int) < k:=by omega
   clear h1
   go_enter Try.func18,Try.ntmps18
   go_wp2
   exact bodyPost_ret (v:=.string (str [])) (by simp [results,Try.results18];rfl) rfl ⟨rfl,Below.refl _ _⟩
set_option maxRecDepth 100000 in
set_option maxHeartbeats 4000000 in
theorem rkind_any (s : List UInt8) (w : World) : Calls Try.prog 12 #[.string (str s)] w fun e w' => e = .returned (.tuple #[iv (kindN s).1,.bool (kindN s).2])∧Keep w w':=by
 obtain ⟨R,hR⟩ : ∃ R,kindN s = R:=⟨_,rfl⟩
 have HR : Hid (kindF s (11 - 0) 0 = R):=Lib.hid hR
 have S1 : Hid (∀ f k,nameL ((k : Nat) : Int) = s → kindF s (f + 1) k = (k,true)):=Lib.hid fun f k h => by rw [kindF,if_pos h]
 have S2 : Hid (∀ f k,nameL ((k : Nat) : Int) ≠ s → kindF s (f + 1) k = kindF s f (k + 1)):=Lib.hid fun f k h => by rw [kindF,if_neg h]
 have S3 : Hid (∀ k,kindF s 0 k = (0,false)):=Lib.hid fun k => rfl
 have NM:=Lib.hid (fun y => rnames_any y)
 rw [hR]
 clear hR
 go_enter Try.func12,Try.ntmps12
 go_wp2_with fail
 refine (NM.out _).mono ?_
 rintro e w1 ⟨g,rfl,hc,k1⟩
 have HC:=Lib.hid hc;have HK1:=Lib.hid k1
 clear NM hc k1
 go_wp2_with fail
 go_loopw [5] (fun i wr => ∃ k : Nat,k ≤ 11∧i = .int .i64 k∧Hid (kindF s (11 - k) k = R)∧w1 = wr) (fun i _ => 11 - (intOf i).toNat)
 case atStart => exact ⟨0,Nat.zero_le _,rfl,HR,rfl⟩
 case round =>
  obtain ⟨k,hk,rfl,HRk,rfl⟩:=hrel
  by_cases hlt : k < 11
  ·have d1 : (k : Int) < 11:=by omega
   have hr:=HRk.out
   rw [show 11 - k = (11 - (k + 1)) + 1 by omega] at hr
   have c0:=HC.out k hlt
   clear HRk HR
   by_cases he : nameL (k : Int) = s
   ·rw [S1.out _ _ he] at hr
    subst hr
    rw [he] at c0
    have d2 : (str s == str s) = true:=str_eq_t rfl
    clear he
    go_wp2
    exact bodyPost_ret (v:=.tuple #[iv k,.bool true]) (by simp [results,Try.results12]) rfl ⟨rfl,HK1.out⟩
   ·rw [S2.out _ _ he] at hr
    have HR2:=Lib.hid hr
    have d2 : (str (nameL (k : Int)) == str s) = false:=str_eq_f he
    have d3 : (nameL (k : Int) == s) = false:=by rw [beq_eq_false_iff_ne];exact he
    clear he hr
    generalize nameL (k : Int) = nk at *
    go_wp2
    go_roundw
    case rel => exact ⟨k + 1,by omega,by go_num,HR2,by first | rfl | trivial⟩
    case measure => simp [intOf];omega
  ·obtain rfl : k = 11:=by omega
   have hr:=HRk.out
   rw [Nat.sub_self,S3.out] at hr
   subst hr
   go_wp2
   exact bodyPost_ret (v:=.tuple #[iv 0,.bool false]) (by simp [results,Try.results12]) rfl ⟨rfl,HK1.out⟩
set_option maxRecDepth 100000 in
set_option maxHeartbeats 4000000 in
theorem rhashes_any (A : Option Addr) (l : List (List UInt8)) (c : Nat) (w : World) (hl : l.length ≤ 1000000) (hk : ∀ h ∈ l,h.length = 32) (hr : Rd w A (hsL l)) :
  Calls Try.prog 24 #[.slice A l.length c] w (Bfd w (cptL l.length ++ l.flatten)):=by
 have C1 : Hid (∀ y,Calls Try.prog 47 #[.slice none 0 0,u64v l.length] y (Bfd y (cptL l.length))):=Lib.hid fun y => rcput_any l.length (by omega) y
 have HCL : (cptL l.length).length ≤ 9:=by rw [cpt_len];exact (siz_le _).2
 have HAT : Hid (∀ k (h : k < l.length),∃ (b off : Nat) (x : List UInt8),A = some ⟨b,off,none⟩∧x.length = 32∧Rd w (some ⟨b,off + k * 32,none⟩) (x.map u8v)∧l.take (k + 1) = l.take k ++ [x]):=Lib.hid fun k h => by
  obtain ⟨b,off,h1,-,h2⟩:=hash_at hr hk h
  refine ⟨b,off,l[k],h1,hk _ (List.getElem_mem h),.inr ⟨b,off + k * 32,rfl,fun j hj => h2 j _ (List.getElem?_eq_getElem hj)⟩,List.take_succ_eq_append_getElem h⟩
 have HFN : Hid (cptL l.length ++ List.flatten (l.take l.length) = cptL l.length ++ l.flatten):=Lib.hid (by rw [List.take_length])
 have HPL : Hid (∀ k,k ≤ l.length → (List.flatten (l.take k)).length = 32 * k):=Lib.hid fun k h => by rw [flat32_len (fun x hx => hk x (List.mem_of_mem_take hx)),List.length_take,Nat.min_eq_left h]
 clear hr hk
 generalize cptL l.length ++ l.flatten = R at *
 generalize cptL l.length = C at *
 obtain ⟨n,hn⟩ : ∃ n,l.length = n:=⟨_,rfl⟩
 rw [hn] at C1 HAT HFN HPL hl ⊢
 clear hn
 have hw : IntKind.u64.wrap (n : Int) = n:=by rw [IntKind.wrap_u64];omega
 unfold Bfd
 go_enter Try.func24,Try.ntmps24
 go_wp2_with fail
 refine (C1.out _).mono ?_
 clear C1
 rintro e w1 ⟨A1,c1,rfl,b1⟩
 have B1:=Lib.hid b1
 have HZ0 : Hid (C ++ List.flatten (l.take 0) = C):=Lib.hid (by simp)
 obtain ⟨z0,hz0⟩ : ∃ z,C = z:=⟨_,rfl⟩
 have HZ1 : Hid (C ++ List.flatten (l.take 0) = z0):=by rw [← hz0];exact HZ0
 have B2 : Hid (Bf w w1 A1 c1 z0):=by rw [← hz0];exact B1
 rw [hz0]
 clear b1 B1 HZ0 hw hz0
 go_wp2_with fail
 go_loopw [3,4] (fun v x wr => ∃ (k : Nat) (z : List UInt8) (A' : Option Addr) (c' : Nat),k ≤ n∧x = .int .i64 k∧v = .slice A' z.length c'∧Hid (C ++ List.flatten (l.take k) = z)∧Hid (Bf w wr A' c' z)) (fun _ x _ => n - (intOf x).toNat)
 case atStart => exact ⟨0,z0,_,_,Nat.zero_le _,rfl,rfl,HZ1,B2⟩
 case round =>
  obtain ⟨k,z,A',c',hk,rfl,rfl,HZ,BR⟩:=hrel
  clear B2 HZ1
  have hzl : z.length ≤ 9 + 32 * k:=by rw [← HZ.out,List.length_append,HPL.out k hk];omega
  by_cases hlt : k < n
  ·have d1 : (k : Int) < n:=by omega
   obtain ⟨b,off,x,rfl,hx32,hrx,htk⟩:=HAT.out k hlt
   have HH1 : Hid (C ++ List.flatten (l.take (k + 1)) = z ++ x):=Lib.hid (by rw [htk,← HZ.out];simp)
   have RX:=Lib.hid ((hrx.keep BR.out.k))
   clear hrx htk HAT
   go_wp2_with (at_builtin;refine wpList_bf (by rfl) _ _ (by rfl) BR.out (by rfl) (some ⟨b,off + k * 32,none⟩) 32 32 x (by rfl) hx32 RX.out (by omega) ?_;rintro z2 A2 c2 w2 E2 b2 -;have B2:=Lib.hid b2;clear b2)
   have HZ2 : Hid (C ++ List.flatten (l.take (k + 1)) = z2):=Lib.hid (by rw [HH1.out,E2.out])
   clear hzl RX BR hx32
   go_roundw
   case rel => exact ⟨k + 1,z2,A2,c2,by omega,by go_num,rfl,HZ2,B2⟩
   case measure => simp [intOf];omega
  ·obtain rfl : k = n:=by omega
   have d1 : ¬ (k : Int) < k:=by omega
   obtain rfl : z = R:=HZ.out.symm.trans HFN.out
   go_wp2
   exact bodyPost_ret (v:=.slice A' z.length c') (by simp [results,Try.results24]) rfl ⟨A',c',rfl,BR.out⟩
set_option maxRecDepth 100000 in
set_option maxHeartbeats 4000000 in
theorem rlist_any (A : Option Addr) (l : List Itm) (c : Nat) (w : World) (hl : l.length ≤ 1000000) (hk : ∀ x ∈ l,x.ok) (hr : Rd w A (l.flatMap Itm.cells)) :
  Calls Try.prog 28 #[.slice A l.length c] w (Bfd w (cptL l.length ++ l.flatMap itL)):=by
 have C1 : Hid (∀ y,Calls Try.prog 47 #[.slice none 0 0,u64v l.length] y (Bfd y (cptL l.length))):=Lib.hid fun y => rcput_any l.length (by omega) y
 have HCL : (cptL l.length).length ≤ 9:=by rw [cpt_len];exact (siz_le _).2
 have LOW : Hid (∀ (n m : Nat) y,m ≤ 8 → Calls Try.prog 23 #[u64v n,iv m] y (Bfd y (loN n m))):=Lib.hid fun n m y hm => r9low_any n m y hm
 have HAT : Hid (∀ k (h : k < l.length),∃ (b off : Nat) (x : Itm),A = some ⟨b,off,none⟩∧x.h.length = 32∧w.cell? ⟨b,off + k * 33,none⟩ = some (u32v x.ty)∧Rd w (some ⟨b,off + k * 33 + 1,none⟩) (x.h.map u8v)∧l.take (k + 1) = l.take k ++ [x]):=Lib.hid fun k h => by
  obtain ⟨b,off,x,ss,h1,-,h3,h4,h5,h6,h7⟩:=item_parts hr hk h
  obtain rfl : l[k] = x:=by rw [List.getElem?_eq_getElem h] at h7;exact Option.some.inj h7
  refine ⟨b,off,l[k],h1,h6,h3,.inr ⟨b,off + k * 33 + 1,rfl,fun j hj => h4 j _ (by rw [h5.l];exact List.getElem?_eq_getElem hj)⟩,List.take_succ_eq_append_getElem h⟩
 have HFN : Hid (cptL l.length ++ List.flatMap itL (l.take l.length) = cptL l.length ++ l.flatMap itL):=Lib.hid (by rw [List.take_length])
 have HPL : Hid (∀ k,k ≤ l.length → (List.flatMap itL (l.take k)).length = 36 * k):=Lib.hid fun k h => by rw [itL_len (fun x hx => hk x (List.mem_of_mem_take hx)),List.length_take,Nat.min_eq_left h]
 clear hr hk
 generalize cptL l.length ++ l.flatMap itL = R at *
 generalize cptL l.length = C at *
 obtain ⟨n,hn⟩ : ∃ n,l.length = n:=⟨_,rfl⟩
 rw [hn] at C1 HAT HFN HPL hl ⊢
 clear hn
 have hw : IntKind.u64.wrap (n : Int) = n:=by rw [IntKind.wrap_u64];omega
 unfold Bfd
 go_enter Try.func28,Try.ntmps28
 go_wp2_with fail
 refine (C1.out _).mono ?_
 clear C1
 rintro e w1 ⟨A1,c1,rfl,b1⟩
 have B1:=Lib.hid b1
 have HZ0 : Hid (C ++ List.flatMap itL (l.take 0) = C):=Lib.hid (by simp)
 obtain ⟨z0,hz0⟩ : ∃ z,C = z:=⟨_,rfl⟩
 have HZ1 : Hid (C ++ List.flatMap itL (l.take 0) = z0):=by rw [← hz0];exact HZ0
 have B2 : Hid (Bf w w1 A1 c1 z0):=by rw [← hz0];exact B1
 rw [hz0]
 clear b1 B1 HZ0 hw hz0
 go_wp2_with fail
 go_loopw [3,4] (fun v x wr => ∃ (k : Nat) (z : List UInt8) (A' : Option Addr) (c' : Nat),k ≤ n∧x = .int .i64 k∧v = .slice A' z.length c'∧Hid (C ++ List.flatMap itL (l.take k) = z)∧Hid (Bf w wr A' c' z)) (fun _ x _ => n - (intOf x).toNat)
 case atStart => exact ⟨0,z0,_,_,Nat.zero_le _,rfl,rfl,HZ1,B2⟩
 case round =>
  obtain ⟨k,z,A',c',hk,rfl,rfl,HZ,BR⟩:=hrel
  clear B2 HZ1
  have hzl : z.length ≤ 9 + 36 * k:=by rw [← HZ.out,List.length_append,HPL.out k hk];omega
  by_cases hlt : k < n
  ·have d1 : (k : Int) < n:=by omega
   obtain ⟨b,off,x,rfl,hx32,hc0,hrx,htk⟩:=HAT.out k hlt
   have HH1 : Hid (C ++ List.flatMap itL (l.take (k + 1)) = (z ++ loN x.ty.toNat 4) ++ x.h):=Lib.hid (by rw [htk,← HZ.out];simp [itL])
   have RX:=Lib.hid hrx
   have c0:=keep_cell BR.out.k hc0
   have hty:=x.ty.toNat_lt
   have hw1 : IntKind.u64.wrap (x.ty.toNat : Int) = x.ty.toNat:=by rw [IntKind.wrap_u64];omega
   have ls1 : (loN x.ty.toNat 4).length ≤ 4:=Nat.le_of_eq (lo_len _ _)
   clear hrx htk HAT hc0
   go_wp2_with fail
   refine (LOW.out x.ty.toNat 4 _ (by omega)).mono ?_
   clear c0 LOW
   rintro e w2 ⟨A2,c2,rfl,b2⟩
   have B2:=Lib.hid (BR.out.keep b2.k);have R2:=Lib.hid b2.rd
   clear b2 BR
   go_upto_region 6 with (at_builtin;refine wpList_bf (by rfl) _ _ (by rfl) B2.out (by rfl) A2 _ c2 (loN x.ty.toNat 4) (by rfl) rfl R2.out (by omega) ?_;rintro z3 A3 c3 w3 E3 b3 -;have B3:=Lib.hid b3;clear b3)
   have hz3 : z3.length ≤ z.length + 4:=by rw [E3.out,List.length_append];omega
   clear B2 R2
   go_wp2_with (at_builtin;refine wpList_bf (by rfl) _ _ (by rfl) B3.out (by rfl) (some ⟨b,off + k * 33 + 1,none⟩) 32 32 x.h (by rfl) hx32 (RX.out.keep B3.out.k) (by omega) ?_;rintro z4 A4 c4 w4 E4 b4 -;have B4:=Lib.hid b4;clear b4)
   have HZ4 : Hid (C ++ List.flatMap itL (l.take (k + 1)) = z4):=Lib.hid (by rw [HH1.out,E4.out,E3.out])
   clear hzl hz3 ls1 RX B3 hx32 hw1
   go_roundw
   case rel => exact ⟨k + 1,z4,A4,c4,by omega,by go_num,rfl,HZ4,B4⟩
   case measure => simp [intOf];omega
  ·obtain rfl : k = n:=by omega
   have d1 : ¬ (k : Int) < k:=by omega
   obtain rfl : z = R:=HZ.out.symm.trans HFN.out
   go_wp2
   exact bodyPost_ret (v:=.slice A' z.length c') (by simp [results,Try.results28]) rfl ⟨A',c',rfl,BR.out⟩
theorem rblk_info : (Try.prog.info? 33).map (·.size) = some 71:=by kernel_rfl
theorem blk_tail {m : MsgR} (hb : m.bh.ok) : m.blk[68]? = some (u32v m.total)∧m.blk[69]? = some (.slice m.sA m.shs.length m.sc)∧m.blk[70]? = some (.slice m.fA m.fs.length m.fc):=by
 unfold MsgR.blk
 refine ⟨?_,?_,?_⟩ <;> (rw [List.getElem?_append_right (by rw [Hd.len hb];omega),Hd.len hb];rfl)
set_option maxRecDepth 100000 in
set_option maxHeartbeats 4000000 in
theorem rblock_any (m : MsgR) (bs : Array Value) (hbs : bs.toList = m.blk) (w : World) (hb : m.bh.ok) (hz : ∀ x ∈ m.shs,x.length = 32) (hs : m.shs.length ≤ 5000) (hf : m.fs.length ≤ 5000) (hrs : Rd w m.sA (hsL m.shs)) (hrf : Rd w m.fA (m.fs.map u8v)) :
  Calls Try.prog 26 #[.agg bs] w (Bfd w (((hputL m.bh ++ loN m.total.toNat 4) ++ (cptL m.shs.length ++ m.shs.flatten) ++ cptL m.fs.length) ++ m.fs)):=by
 have LOW : Hid (∀ y,Calls Try.prog 23 #[u64v m.total.toNat,iv 4] y (Bfd y (loN m.total.toNat 4))):=Lib.hid fun y => r9low_any m.total.toNat 4 y (by omega)
 have HSH : Hid (∀ y,Keep w y → Calls Try.prog 24 #[.slice m.sA m.shs.length m.sc] y (Bfd y (cptL m.shs.length ++ m.shs.flatten))):=Lib.hid fun y hy => rhashes_any m.sA m.shs m.sc y (by omega) hz (hrs.keep hy)
 have CPT : Hid (∀ y,Calls Try.prog 47 #[.slice none 0 0,u64v m.fs.length] y (Bfd y (cptL m.fs.length))):=Lib.hid fun y => rcput_any m.fs.length (by omega) y
 obtain ⟨hs0,hhs⟩ : ∃ hs0,HdA m.bh hs0:=⟨_,HdA.of hb⟩
 have HPU : Hid (∀ y,Calls Try.prog 48 #[.agg hs0] y (Bfd y (hputL m.bh))):=Lib.hid fun y => rhput_any m.bh hs0 y hb hhs
 have hhz:=hhs.z;have hhn:=hhs.n;have hhi:=hhs.i
 have hbz : bs.size = 71:=by rw [← Array.length_toList,hbs];exact MsgR.blk_len hb
 have hbn : ¬ bs = #[]:=fun q => by rw [q] at hbz;cases hbz
 have HB1 : Hid (Blk (w.alloc (.cells bs 33)) w.heap.size 33 m.blk):=by rw [← hbs];exact Lib.hid (Blk.new w _ bs.toList)
 have HHL : Hid (hs0.toList = m.bh.cells):=Lib.hid hhs.l
 have HTL:=Lib.hid (blk_tail hb)
 have HHR : Hid (∀ y,Blk y w.heap.size 33 m.blk → y.rangeAt w.heap.size 0 hs0.toList):=Lib.hid fun y hy => range_of hy 0 hs0.toList (by rw [hhs.l,List.drop_zero];unfold MsgR.blk;exact List.take_left' rfl)
 have l1 : (hputL m.bh).length ≤ 80:=Nat.le_of_eq (hputL_len hb)
 have l2 : (loN m.total.toNat 4).length ≤ 4:=Nat.le_of_eq (lo_len _ _)
 have l3 : (cptL m.shs.length ++ m.shs.flatten).length ≤ 200000:=by rw [List.length_append,cpt_len,flat32_len hz];have:=(siz_le m.shs.length).2;omega
 have l4 : (cptL m.fs.length).length ≤ 9:=by rw [cpt_len];exact (siz_le _).2
 have htt:=m.total.toNat_lt
 have hwt : IntKind.u64.wrap (m.total.toNat : Int) = m.total.toNat:=by rw [IntKind.wrap_u64];omega
 have hwf : IntKind.u64.wrap (m.fs.length : Int) = m.fs.length:=by rw [IntKind.wrap_u64];omega
 have HRF:=Lib.hid hrf
 clear hhs hbs hz hrs hrf hb
 generalize hputL m.bh = P1 at *
 generalize loN m.total.toNat 4 = P2 at *
 generalize cptL m.shs.length ++ m.shs.flatten = P3 at *
 generalize cptL m.fs.length = P4 at *
 unfold Bfd
 go_enter Try.func26,Try.ntmps26
 go_upto_region 1 with fail
 obtain ⟨w1,hw1⟩ : ∃ x,x = w.alloc (.cells bs 33):=⟨_,rfl⟩
 rw [← hw1] at HB1
 have HK1 : Hid (Keep w w1):=by rw [hw1];exact Lib.hid (keep_new _ _)
 rw [← hw1]
 clear hw1
 have RH:=Lib.hid (HHR.out w1 HB1.out)
 clear HHR HHL
 go_wp2_with ((with_reducible refine load_partg w.heap.size 0 hs0 (Eq.trans ?_ rfl) RH.out _ Try.underlying30 rfl hhi rfl ?_);rfl)
 refine (HPU.out _).mono ?_
 clear HPU RH
 rintro e w2 ⟨A2,c2,rfl,b2⟩
 have B2:=Lib.hid b2
 clear b2
 have t0:=(HB1.out.keep B2.out.k).cell 68;rw [HTL.out.1] at t0
 go_wp2_with fail
 refine (LOW.out _).mono ?_
 clear t0 LOW
 rintro e w3 ⟨A3,c3,rfl,b3⟩
 have B3:=Lib.hid (B2.out.keep b3.k);have R3:=Lib.hid b3.rd
 clear b3 B2
 go_upto_region 3 with (at_builtin;refine wpList_bf (by rfl) _ _ (by rfl) B3.out (by rfl) A3 _ c3 P2 (by rfl) rfl R3.out (by omega) ?_;rintro z4 A4 c4 w4 E4 b4 -;have B4:=Lib.hid b4;clear b4)
 have hz4 : z4.length ≤ 84:=by rw [E4.out,List.length_append];omega
 clear B3 R3
 have t0:=(HB1.out.keep B4.out.k).cell 69;rw [HTL.out.2.1] at t0
 go_wp2_with fail
 refine (HSH.out _ (keep_trans HK1.out B4.out.k)).mono ?_
 clear t0 HSH
 rintro e w5 ⟨A5,c5,rfl,b5⟩
 have B5:=Lib.hid (B4.out.keep b5.k);have R5:=Lib.hid b5.rd
 clear b5 B4
 go_upto_region 4 with (at_builtin;refine wpList_bf (by rfl) _ _ (by rfl) B5.out (by rfl) A5 _ c5 P3 (by rfl) rfl R5.out (by omega) ?_;rintro z6 A6 c6 w6 E6 b6 -;have B6:=Lib.hid b6;clear b6)
 have hz6 : z6.length ≤ 200100:=by rw [E6.out,List.length_append];omega
 clear B5 R5
 have t0:=(HB1.out.keep B6.out.k).cell 70;rw [HTL.out.2.2] at t0
 go_wp2_with fail
 refine (CPT.out _).mono ?_
 clear t0 CPT
 rintro e w7 ⟨A7,c7,rfl,b7⟩
 have B7:=Lib.hid (B6.out.keep b7.k);have R7:=Lib.hid b7.rd
 clear b7 B6
 go_upto_region 5 with (at_builtin;refine wpList_bf (by rfl) _ _ (by rfl) B7.out (by rfl) A7 _ c7 P4 (by rfl) rfl R7.out (by omega) ?_;rintro z8 A8 c8 w8 E8 b8 -;have B8:=Lib.hid b8;clear b8)
 have hz8 : z8.length ≤ 200200:=by rw [E8.out,List.length_append];omega
 clear B7 R7
 have t0:=(HB1.out.keep B8.out.k).cell 70;rw [HTL.out.2.2] at t0
 have RF:=Lib.hid (HRF.out.keep (keep_trans HK1.out B8.out.k))
 go_wp2_with (at_builtin;refine wpList_bf (by rfl) _ _ (by rfl) B8.out (by rfl) m.fA m.fs.length m.fc m.fs (by rfl) rfl RF.out (by omega) ?_;rintro z9 A9 c9 w9 E9 b9 -;have B9:=Lib.hid b9;clear b9)
 have ez : z9 = ((P1 ++ P2) ++ P3 ++ P4) ++ m.fs:=by rw [E9.out,E8.out,E6.out,E4.out]
 rw [← ez]
 exact bodyPost_ret (v:=.slice A9 z9.length c9) (by simp [results,Try.results26]) rfl ⟨A9,c9,rfl,B9.out.up HK1.out⟩
end Go.Proofs.Ytbgpgdhndanigaa
/- florinref09.Put. (printed by gen_kn.py) -/
set_option linter.unusedSimpArgs false
set_option linter.unusedVariables false
namespace Go.Proofs.Ytbgpgdhndanigaa
open Go.RowKit
attribute [local go_sem ↓] Go.wp_at_zero Go.wp_at_succ
theorem putL_fits {m : MsgR} (h : fitsB m = true) {l : List UInt8} (e : (partsM m).flatMap layL = l) : putL m = l:=by unfold putL;rw [if_pos h,e]
theorem stop_rd {w : World} {g : Nat} {t : TypeId} {m : MsgR} (hb : Blk w g t m.cells) (h : m.ok) : Rd w (some ⟨g,6,none⟩) (m.stop.map u8v):=by
 have h1:=hb.rd.sub 6 32 (by rw [MsgR.len h];omega)
 rw [Nat.zero_add] at h1
 have e : (m.cells.drop 6).take 32 = m.stop.map u8v:=by
  rw [MsgR.cells6,show (6 : Nat) = m.hd6.length from rfl,List.drop_left,List.take_left' (by rw [List.length_map,h.s])]
 rwa [e] at h1
theorem fits_num {m : MsgR} (h : fitsB m = true) : 0 ≤ m.kind∧m.kind < 11∧m.ls.length ≤ 101∧m.hs.length ≤ 2000∧m.is.length ≤ 50000∧m.shs.length ≤ 4096∧m.fs.length ≤ 1024∧(m.kind = 10 → saneT m.t = true):=by
 unfold fitsB at h
 rw [decide_eq_true_eq] at h
 obtain ⟨k0,k1,hl,hh,hi,hs,hb,ht,-⟩:=h
 exact ⟨k0,k1,hl,hh,hi,hs,hb,ht⟩
theorem putL_0 {m : MsgR} (hk : m.kind = 0) (h : fitsB m = true) : putL m = (loN m.proto.toNat 4 ++ loN m.nonce 8) ++ loN m.height.toNat 4:=putL_fits h (by
 have ht:=(fits_num h).2.2.2.2.2.2.2
 unfold partsM
 rw [hk]
 simp [layL])
theorem putL_1 {m : MsgR} (hk : m.kind = 1) (h : fitsB m = true) : putL m = []:=putL_fits h (by
 have ht:=(fits_num h).2.2.2.2.2.2.2
 unfold partsM
 rw [hk]
 simp [layL])
theorem putL_2 {m : MsgR} (hk : m.kind = 2) (h : fitsB m = true) : putL m = loN m.nonce 8:=putL_fits h (by
 have ht:=(fits_num h).2.2.2.2.2.2.2
 unfold partsM
 rw [hk]
 simp [layL])
theorem putL_3 {m : MsgR} (hk : m.kind = 3) (h : fitsB m = true) : putL m = loN m.nonce 8:=putL_fits h (by
 have ht:=(fits_num h).2.2.2.2.2.2.2
 unfold partsM
 rw [hk]
 simp [layL])
theorem putL_4 {m : MsgR} (hk : m.kind = 4) (h : fitsB m = true) : putL m = (loN m.proto.toNat 4 ++ (cptL m.ls.length ++ m.ls.flatten)) ++ m.stop:=putL_fits h (by
 have ht:=(fits_num h).2.2.2.2.2.2.2
 unfold partsM
 rw [hk]
 simp [layL])
theorem putL_5 {m : MsgR} (hk : m.kind = 5) (h : fitsB m = true) : putL m = hpall m.hs:=putL_fits h (by
 have ht:=(fits_num h).2.2.2.2.2.2.2
 unfold partsM
 rw [hk]
 simp [layL])
theorem putL_6 {m : MsgR} (hk : m.kind = 6) (h : fitsB m = true) : putL m = cptL m.is.length ++ m.is.flatMap itL:=putL_fits h (by
 have ht:=(fits_num h).2.2.2.2.2.2.2
 unfold partsM
 rw [hk]
 simp [layL]
 rfl)
theorem putL_7 {m : MsgR} (hk : m.kind = 7) (h : fitsB m = true) : putL m = cptL m.is.length ++ m.is.flatMap itL:=putL_fits h (by
 have ht:=(fits_num h).2.2.2.2.2.2.2
 unfold partsM
 rw [hk]
 simp [layL]
 rfl)
theorem putL_8 {m : MsgR} (hk : m.kind = 8) (h : fitsB m = true) : putL m = cptL m.is.length ++ m.is.flatMap itL:=putL_fits h (by
 have ht:=(fits_num h).2.2.2.2.2.2.2
 unfold partsM
 rw [hk]
 simp [layL]
 rfl)
theorem putL_9 {m : MsgR} (hk : m.kind = 9) (h : fitsB m = true) : putL m = ((hputL m.bh ++ loN m.total.toNat 4) ++ (cptL m.shs.length ++ m.shs.flatten) ++ cptL m.fs.length) ++ m.fs:=putL_fits h (by
 have ht:=(fits_num h).2.2.2.2.2.2.2
 unfold partsM
 rw [hk]
 simp [layL])
theorem putL_10 {m : MsgR} (hk : m.kind = 10) (h : fitsB m = true) : putL m = txL m.t:=putL_fits h (by
 have ht:=(fits_num h).2.2.2.2.2.2.2
 unfold partsM
 rw [hk]
 simp [layL,ht hk])
set_option maxRecDepth 100000 in
set_option maxHeartbeats 8000000 in
theorem rmput_any (m : MsgR) (cs : Array Value) (hA : MsB m cs) (w : World) (h : m.at_ w) :
  Calls Try.prog 8 #[.agg cs] w fun e w' => ∃ A c,e = .returned (.tuple #[.slice A (putL m).length c,iv (if fitsB m = true then 0 else 2)])∧Bf w w' A c (putL m):=by
 have ho:=h.o
 have FIT : Hid (∀ y,Keep w y → Calls Try.prog 14 #[.agg cs] y fun e w' => e = .returned (.bool (fitsB m))∧Keep y w'):=Lib.hid fun y hy => rfits_any m cs hA y (h.keep hy)
 have LOW : Hid (∀ (n k : Nat) y,k ≤ 8 → Calls Try.prog 23 #[u64v n,iv k] y (Bfd y (loN n k))):=Lib.hid fun n k y hm => r9low_any n k y hm
 have HH:=Lib.hid h
 have HFN:=Lib.hid (fun q => fits_num (m:=m) q)
 have hz:=hA.z;have hn:=hA.n;have hi:=hA.i
 have HB0 : Hid (Blk (w.alloc (.cells cs 39)) w.heap.size 39 m.cells):=by rw [← hA.l];exact Lib.hid (Blk.new w _ cs.toList)
 have HCS : Hid (∀ y,Blk y w.heap.size 39 m.cells → Blk y w.heap.size 39 cs.toList):=Lib.hid fun y hy => by rw [hA.l];exact hy
 have HO:=Lib.hid ho
 clear h hA ho
 obtain ⟨PL,hPL⟩ : ∃ x,putL m = x:=⟨_,rfl⟩
 obtain ⟨E,hE⟩ : ∃ x,(if fitsB m = true then (0 : Int) else 2) = x:=⟨_,rfl⟩
 rw [hPL,hE]
 have HPL:=Lib.hid hPL;have HE:=Lib.hid hE
 clear hPL hE
 go_enter Try.func8,Try.ntmps8
 go_upto_region 1 with fail
 obtain ⟨w1,hw1⟩ : ∃ x,x = w.alloc (.cells cs 39):=⟨_,rfl⟩
 rw [← hw1] at HB0
 have HK1 : Hid (Keep w w1):=by rw [hw1];exact Lib.hid (keep_new _ _)
 rw [← hw1]
 clear hw1
 obtain ⟨g,hg⟩ : ∃ g,w.heap.size = g:=⟨_,rfl⟩
 rw [hg] at HB0 HCS
 simp only [hg]
 clear hg
 have HBC:=Lib.hid (HCS.out _ HB0.out)
 go_wp2_with ((with_reducible refine load_arr g cs (Eq.trans ?_ rfl) HBC.out _ Try.underlying39 rfl hi ?_);rfl)
 refine (FIT.out _ HK1.out).mono ?_
 clear FIT HBC HCS
 rintro e w2 ⟨rfl,k2⟩
 have HB2:=Lib.hid (HB0.out.keep k2);have HK2:=Lib.hid (keep_trans HK1.out k2);have HM2 : Hid (m.at_ w2):=Lib.hid (HH.out.keep (keep_trans HK1.out k2))
 clear k2 HB0 HK1 HH
 cases hf : fitsB m with
 | false =>
   have hp : putL m = []:=by unfold putL;rw [if_neg (by rw [hf];simp)]
   obtain rfl : PL = []:=HPL.out.symm.trans hp
   obtain rfl : E = 2:=HE.out.symm.trans (if_neg (by rw [hf];simp))
   clear HFN LOW hf hp
   go_wp2
   exact bodyPost_ret (v:=.tuple #[.slice none 0 0,iv 2]) (by simp [results,Try.results8]) rfl ⟨none,0,rfl,Bf.nil HK2.out⟩
 | true =>
 have HF:=Lib.hid hf
 obtain rfl : E = 0:=HE.out.symm.trans (if_pos hf)
 obtain ⟨k0,k11,n1,n2,n3,n4,n5,n6⟩:=HFN.out hf
 clear HFN hf
 have hpr:=m.proto.toNat_lt;have hhe:=m.height.toNat_lt
 have hwp : IntKind.u64.wrap (m.proto.toNat : Int) = m.proto.toNat:=by rw [IntKind.wrap_u64];omega
 have hwh : IntKind.u64.wrap (m.height.toNat : Int) = m.height.toNat:=by rw [IntKind.wrap_u64];omega
 rcases (show m.kind = 0 ∨ m.kind = 1 ∨ m.kind = 2 ∨ m.kind = 3 ∨ m.kind = 4 ∨ m.kind = 5 ∨ m.kind = 6 ∨ m.kind = 7 ∨ m.kind = 8 ∨ m.kind = 9 ∨ m.kind = 10 by omega) with hk | hk | hk | hk | hk | hk | hk | hk | hk | hk | hk
 all_goals clear k0 k11
 ·have HP:=Lib.hid (putL_0 hk HF.out)
  have kc : w2.cell? ⟨g,0,none⟩ = some (.int .i64 0):=by rw [HB2.out.cell];show some (Value.int .i64 m.kind) = _;rw [hk]
  clear hk n6
  have ls1 : (loN m.proto.toNat 4).length ≤ 4:=Nat.le_of_eq (lo_len _ _)
  have ls2 : (loN m.nonce 8).length ≤ 8:=Nat.le_of_eq (lo_len _ _)
  have ls3 : (loN m.height.toNat 4).length ≤ 4:=Nat.le_of_eq (lo_len _ _)
  have c1 : w2.cell? ⟨g,1,none⟩ = some (u32v m.proto):=by rw [HB2.out.cell];rfl
  go_wp2_with fail
  refine (LOW.out m.proto.toNat 4 _ (by omega)).mono ?_
  rintro e w3 ⟨A3,c3,rfl,b3⟩
  have B3:=Lib.hid b3
  clear b3
  clear c1 kc
  have c2 : w3.cell? ⟨g,2,none⟩ = some (u64v m.nonce):=by rw [(HB2.out.keep B3.out.k).cell];rfl
  go_wp2_with fail
  refine (LOW.out m.nonce 8 _ (by omega)).mono ?_
  rintro e w4 ⟨A4,c4,rfl,b4⟩
  have B4:=Lib.hid (B3.out.keep b4.k);have R4:=Lib.hid b4.rd
  clear b4 B3
  clear c2
  go_upto_region 7 with (at_builtin;refine wpList_bf (by rfl) _ _ (by rfl) B4.out (by rfl) A4 _ c4 (loN m.nonce 8) (by rfl) rfl R4.out (by omega) ?_;rintro z5 A5 c5 w5 E5 b5 -;have B5:=Lib.hid b5;clear b5)
  have hz5 : z5.length ≤ 12:=by rw [E5.out,List.length_append];omega
  clear B4 R4
  have c3 : w5.cell? ⟨g,3,none⟩ = some (u32v m.height):=by rw [(HB2.out.keep B5.out.k).cell];rfl
  go_wp2_with fail
  refine (LOW.out m.height.toNat 4 _ (by omega)).mono ?_
  rintro e w6 ⟨A6,c6,rfl,b6⟩
  have B6:=Lib.hid (B5.out.keep b6.k);have R6:=Lib.hid b6.rd
  clear b6 B5
  clear c3
  go_wp2_with (at_builtin;refine wpList_bf (by rfl) _ _ (by rfl) B6.out (by rfl) A6 _ c6 (loN m.height.toNat 4) (by rfl) rfl R6.out (by omega) ?_;rintro z7 A7 c7 w7 E7 b7 -;have B7:=Lib.hid b7;clear b7)
  obtain rfl : PL = z7:=by rw [← HPL.out,HP.out];rw [E7.out,E5.out]
  exact bodyPost_ret (v:=.tuple #[.slice A7 PL.length c7,iv 0]) (by simp [results,Try.results8]) rfl ⟨A7,c7,rfl,B7.out.up HK2.out⟩
 ·have HP:=Lib.hid (putL_1 hk HF.out)
  have kc : w2.cell? ⟨g,0,none⟩ = some (.int .i64 1):=by rw [HB2.out.cell];show some (Value.int .i64 m.kind) = _;rw [hk]
  clear hk n6
  go_wp2
  exact bodyPost_ret (v:=.tuple #[.slice none 0 0,iv 0]) (by simp [results,Try.results8]) rfl ⟨none,0,by rw [← HPL.out,HP.out];rfl,by rw [← HPL.out,HP.out];exact Bf.nil HK2.out⟩
 ·have HP:=Lib.hid (putL_2 hk HF.out)
  have kc : w2.cell? ⟨g,0,none⟩ = some (.int .i64 2):=by rw [HB2.out.cell];show some (Value.int .i64 m.kind) = _;rw [hk]
  clear hk n6
  have c2 : w2.cell? ⟨g,2,none⟩ = some (u64v m.nonce):=by rw [HB2.out.cell];rfl
  go_wp2_with fail
  refine (LOW.out m.nonce 8 _ (by omega)).mono ?_
  rintro e w3 ⟨A3,c3,rfl,b3⟩
  have B3:=Lib.hid b3
  clear b3
  go_wp2
  exact bodyPost_ret (v:=.tuple #[.slice A3 (loN m.nonce 8).length c3,iv 0]) (by simp [results,Try.results8]) rfl ⟨A3,c3,by rw [← HPL.out,HP.out],by rw [← HPL.out,HP.out];exact B3.out.up HK2.out⟩
 ·have HP:=Lib.hid (putL_3 hk HF.out)
  have kc : w2.cell? ⟨g,0,none⟩ = some (.int .i64 3):=by rw [HB2.out.cell];show some (Value.int .i64 m.kind) = _;rw [hk]
  clear hk n6
  have c2 : w2.cell? ⟨g,2,none⟩ = some (u64v m.nonce):=by rw [HB2.out.cell];rfl
  go_wp2_with fail
  refine (LOW.out m.nonce 8 _ (by omega)).mono ?_
  rintro e w3 ⟨A3,c3,rfl,b3⟩
  have B3:=Lib.hid b3
  clear b3
  go_wp2
  exact bodyPost_ret (v:=.tuple #[.slice A3 (loN m.nonce 8).length c3,iv 0]) (by simp [results,Try.results8]) rfl ⟨A3,c3,by rw [← HPL.out,HP.out],by rw [← HPL.out,HP.out];exact B3.out.up HK2.out⟩
 ·have HP:=Lib.hid (putL_4 hk HF.out)
  have kc : w2.cell? ⟨g,0,none⟩ = some (.int .i64 4):=by rw [HB2.out.cell];show some (Value.int .i64 m.kind) = _;rw [hk]
  clear hk n6
  have ls1 : (loN m.proto.toNat 4).length ≤ 4:=Nat.le_of_eq (lo_len _ _)
  have ls2 : (cptL m.ls.length ++ m.ls.flatten).length ≤ 4000:=by rw [List.length_append,cpt_len,flat32_len HO.out.l];have:=(siz_le m.ls.length).2;omega
  have hst:=HO.out.s
  have c1 : w2.cell? ⟨g,1,none⟩ = some (u32v m.proto):=by rw [HB2.out.cell];rfl
  go_wp2_with fail
  refine (LOW.out m.proto.toNat 4 _ (by omega)).mono ?_
  rintro e w3 ⟨A3,c3,rfl,b3⟩
  have B3:=Lib.hid b3
  clear b3
  clear c1 kc
  have c5 : w3.cell? ⟨g,5,none⟩ = some (.slice m.lA m.ls.length m.lc):=by rw [(HB2.out.keep B3.out.k).cell];rfl
  have HSH:=Lib.hid (rhashes_any m.lA m.ls m.lc w3 (by omega) HO.out.l (HM2.out.l.keep B3.out.k))
  go_wp2_with fail
  refine (HSH.out).mono ?_
  rintro e w4 ⟨A4,c4,rfl,b4⟩
  have B4:=Lib.hid (B3.out.keep b4.k);have R4:=Lib.hid b4.rd
  clear b4 B3
  clear c5 HSH
  generalize cptL m.ls.length ++ m.ls.flatten = P3 at *
  go_upto_region 16 with (at_builtin;refine wpList_bf (by rfl) _ _ (by rfl) B4.out (by rfl) A4 _ c4 P3 (by rfl) rfl R4.out (by omega) ?_;rintro z5 A5 c5 w5 E5 b5 -;have B5:=Lib.hid b5;clear b5)
  have hz5 : z5.length ≤ 5000:=by rw [E5.out,List.length_append];omega
  have r5:=Lib.hid (stop_rd (HB2.out.keep B5.out.k) HO.out)
  clear B4 R4
  go_wp2_with (at_builtin;refine wpList_bf (by rfl) _ _ (by rfl) B5.out (by rfl) (some ⟨g,6,none⟩) 32 32 m.stop (by rfl) hst r5.out (by omega) ?_;rintro z7 A7 c7 w7 E7 b7 -;have B7:=Lib.hid b7;clear b7)
  obtain rfl : PL = z7:=by rw [← HPL.out,HP.out];rw [E7.out,E5.out]
  exact bodyPost_ret (v:=.tuple #[.slice A7 PL.length c7,iv 0]) (by simp [results,Try.results8]) rfl ⟨A7,c7,rfl,B7.out.up HK2.out⟩
 ·have HP:=Lib.hid (putL_5 hk HF.out)
  have kc : w2.cell? ⟨g,0,none⟩ = some (.int .i64 5):=by rw [HB2.out.cell];show some (Value.int .i64 m.kind) = _;rw [hk]
  clear hk n6
  have c4 : w2.cell? ⟨g,4,none⟩ = some (.slice m.hA m.hs.length m.hc):=by rw [HB2.out.cell];rfl
  have HPA:=Lib.hid (rhpall_any m.hA m.hs m.hc w2 n2 HO.out.h HM2.out.h)
  go_wp2_with fail
  refine HPA.out.mono ?_
  rintro e w3 ⟨A3,c3,rfl,b3⟩
  have B3:=Lib.hid b3
  clear b3 HPA c4 kc
  go_wp2
  exact bodyPost_ret (v:=.tuple #[.slice A3 (hpall m.hs).length c3,iv 0]) (by simp [results,Try.results8]) rfl ⟨A3,c3,by rw [← HPL.out,HP.out],by rw [← HPL.out,HP.out];exact B3.out.up HK2.out⟩
 ·have HP:=Lib.hid (putL_6 hk HF.out)
  have kc : w2.cell? ⟨g,0,none⟩ = some (.int .i64 6):=by rw [HB2.out.cell];show some (Value.int .i64 m.kind) = _;rw [hk]
  clear hk n6
  have c38 : w2.cell? ⟨g,38,none⟩ = some (.slice m.iA m.is.length m.ic):=by rw [HB2.out.cell];exact (MsgR.tail_get HO.out 0).trans rfl
  have HLI:=Lib.hid (rlist_any m.iA m.is m.ic w2 (by omega) HO.out.i HM2.out.i)
  generalize cptL m.is.length ++ m.is.flatMap itL = P3 at *
  go_wp2_with fail
  refine HLI.out.mono ?_
  rintro e w3 ⟨A3,c3,rfl,b3⟩
  have B3:=Lib.hid b3
  clear b3 HLI c38 kc
  go_wp2
  exact bodyPost_ret (v:=.tuple #[.slice A3 P3.length c3,iv 0]) (by simp [results,Try.results8]) rfl ⟨A3,c3,by rw [← HPL.out,HP.out],by rw [← HPL.out,HP.out];exact B3.out.up HK2.out⟩
 ·have HP:=Lib.hid (putL_7 hk HF.out)
  have kc : w2.cell? ⟨g,0,none⟩ = some (.int .i64 7):=by rw [HB2.out.cell];show some (Value.int .i64 m.kind) = _;rw [hk]
  clear hk n6
  have c38 : w2.cell? ⟨g,38,none⟩ = some (.slice m.iA m.is.length m.ic):=by rw [HB2.out.cell];exact (MsgR.tail_get HO.out 0).trans rfl
  have HLI:=Lib.hid (rlist_any m.iA m.is m.ic w2 (by omega) HO.out.i HM2.out.i)
  generalize cptL m.is.length ++ m.is.flatMap itL = P3 at *
  go_wp2_with fail
  refine HLI.out.mono ?_
  rintro e w3 ⟨A3,c3,rfl,b3⟩
  have B3:=Lib.hid b3
  clear b3 HLI c38 kc
  go_wp2
  exact bodyPost_ret (v:=.tuple #[.slice A3 P3.length c3,iv 0]) (by simp [results,Try.results8]) rfl ⟨A3,c3,by rw [← HPL.out,HP.out],by rw [← HPL.out,HP.out];exact B3.out.up HK2.out⟩
 ·have HP:=Lib.hid (putL_8 hk HF.out)
  have kc : w2.cell? ⟨g,0,none⟩ = some (.int .i64 8):=by rw [HB2.out.cell];show some (Value.int .i64 m.kind) = _;rw [hk]
  clear hk n6
  have c38 : w2.cell? ⟨g,38,none⟩ = some (.slice m.iA m.is.length m.ic):=by rw [HB2.out.cell];exact (MsgR.tail_get HO.out 0).trans rfl
  have HLI:=Lib.hid (rlist_any m.iA m.is m.ic w2 (by omega) HO.out.i HM2.out.i)
  generalize cptL m.is.length ++ m.is.flatMap itL = P3 at *
  go_wp2_with fail
  refine HLI.out.mono ?_
  rintro e w3 ⟨A3,c3,rfl,b3⟩
  have B3:=Lib.hid b3
  clear b3 HLI c38 kc
  go_wp2
  exact bodyPost_ret (v:=.tuple #[.slice A3 P3.length c3,iv 0]) (by simp [results,Try.results8]) rfl ⟨A3,c3,by rw [← HPL.out,HP.out],by rw [← HPL.out,HP.out];exact B3.out.up HK2.out⟩
 ·have HP:=Lib.hid (putL_9 hk HF.out)
  have kc : w2.cell? ⟨g,0,none⟩ = some (.int .i64 9):=by rw [HB2.out.cell];show some (Value.int .i64 m.kind) = _;rw [hk]
  clear hk n6
  obtain ⟨bs,hbs⟩ : ∃ bs : Array Value,bs.toList = m.blk:=⟨_,rfl⟩
  have hbz : bs.size = 71:=by rw [← Array.length_toList,hbs];exact MsgR.blk_len HO.out.b
  have hbi : (Try.prog.info? 33).map (·.size) = some bs.size:=by rw [hbz];exact rblk_info
  have hbn : ¬ bs = #[]:=fun q => by rw [q] at hbz;cases hbz
  have RB : Hid (w2.rangeAt g 39 bs.toList):=Lib.hid (range_of HB2.out 39 bs.toList (by rw [hbs,MsgR.cells39,List.drop_left' (MsgR.hd39_len HO.out.s),List.take_left' rfl]))
  have HBL:=Lib.hid (rblock_any m bs hbs w2 HO.out.b HO.out.z (by omega) (by omega) HM2.out.s HM2.out.f)
  clear hbs
  generalize ((hputL m.bh ++ loN m.total.toNat 4) ++ (cptL m.shs.length ++ m.shs.flatten) ++ cptL m.fs.length) ++ m.fs = P3 at *
  go_wp2_with ((with_reducible refine load_partg g 39 bs (Eq.trans ?_ rfl) RB.out _ Try.underlying33 rfl hbi rfl ?_);rfl)
  refine HBL.out.mono ?_
  rintro e w3 ⟨A3,c3,rfl,b3⟩
  have B3:=Lib.hid b3
  clear b3 HBL kc RB
  go_wp2
  exact bodyPost_ret (v:=.tuple #[.slice A3 P3.length c3,iv 0]) (by simp [results,Try.results8]) rfl ⟨A3,c3,by rw [← HPL.out,HP.out],by rw [← HPL.out,HP.out];exact B3.out.up HK2.out⟩
 ·have HP:=Lib.hid (putL_10 hk HF.out)
  have kc : w2.cell? ⟨g,0,none⟩ = some (.int .i64 10):=by rw [HB2.out.cell];show some (Value.int .i64 m.kind) = _;rw [hk]
  have hsn:=n6 hk
  clear hk n6
  have q0:=(HB2.out.cell 110).trans (MsgR.tx_get HO.out 0);have q1:=(HB2.out.cell 111).trans (MsgR.tx_get HO.out 1);have q2:=(HB2.out.cell 112).trans (MsgR.tx_get HO.out 2);have q3:=(HB2.out.cell 113).trans (MsgR.tx_get HO.out 3)
  have x0 : w2.cell? ⟨g,110,none⟩ = some (u32v m.t.ver):=q0.trans rfl
  have x1 : w2.cell? ⟨g,111,none⟩ = some (.slice m.t.iA m.t.ins.length m.t.ic):=q1.trans rfl
  have x2 : w2.cell? ⟨g,112,none⟩ = some (.slice m.t.oA m.t.outs.length m.t.oc):=q2.trans rfl
  have x3 : w2.cell? ⟨g,113,none⟩ = some (u32v m.t.lock):=q3.trans rfl
  have HTP:=Lib.hid (rtput_any m.t w2 HM2.out.t hsn)
  clear q0 q1 q2 q3
  go_wp2_with fail
  refine HTP.out.mono ?_
  rintro e w3 ⟨A3,c3,rfl,b3⟩
  have B3:=Lib.hid b3
  clear b3 HTP kc x0 x1 x2 x3
  go_wp2
  exact bodyPost_ret (v:=.tuple #[.slice A3 (txL m.t).length c3,iv 0]) (by simp [results,Try.results8]) rfl ⟨A3,c3,by rw [← HPL.out,HP.out],by rw [← HPL.out,HP.out];exact B3.out.up HK2.out⟩
end Go.Proofs.Ytbgpgdhndanigaa
/- florinref09's reader: hashes, items. (printed by gen_ko.py) -/
set_option linter.unusedSimpArgs false
set_option linter.unusedVariables false
namespace Go.Proofs.Ytbgpgdhndanigaa
open Go.RowKit
attribute [local go_sem ↓] Go.wp_at_zero Go.wp_at_succ
structure Bq (S : Nat) (e : TypeId) (size : Nat) (w0 w : World) (A : Option Addr) (c n : Nat) (xs : List Value) : Prop where
 o : w.ownsRow w0.heap.size e size (.slice A n c) n xs
 k : KeepB S w0 w
 s : S < w0.heap.size
section
variable {S n c sz : Nat} {e : TypeId} {w0 w w' : World} {A : Option Addr} {xs : List Value}
theorem Bq.ne (h : Bq S e sz w0 w A c n xs) : ∀ g,(Value.slice A n c).ownBlock = some g → ¬ g = S:=fun g q e => by have:=(h.o.lt g q).1;have:=h.s;omega
theorem Bq.nil (k : KeepB S w0 w) (s : S < w0.heap.size) : Bq S e sz w0 w none 0 0 []:=⟨World.ownsRow_nil _ _ _ _,k,s⟩
theorem Bq.read (h : Bq S e sz w0 w A c n xs) (k : KeepB S w w') : Bq S e sz w0 w' A c n xs:=⟨own_kx h.o k h.ne,h.k.trans k (fun _ _ q => q),h.s⟩
theorem Bq.keep (h : Bq S e sz w0 w A c n xs) (k : Keep w w') : Bq S e sz w0 w' A c n xs:=h.read (KeepX.of k)
theorem Bq.alloc (h : Bq S e sz w0 w A c n xs) (o : Obj) : Bq S e sz w0 (w.alloc o) A c n xs:=h.keep (keep_new _ _)
theorem Bq.rd (h : Bq S e sz w0 w A c n xs) : Rd w A xs:=own_rd h.o
theorem Bq.size (h : Bq S e sz w0 w A c n xs) : w0.heap.size ≤ w.heap.size:=h.k.2.2.2.1
theorem Bq.eq {n' : Nat} {xs' : List Value} (h : Bq S e sz w0 w A c n xs) (hn : n = n') (hx : xs = xs') : Bq S e sz w0 w A c n' xs':=hn ▸ hx ▸ h
theorem Bq.far (h : Bq S e sz w0 w A c n xs) {g : Nat} (hg : w.heap.size ≤ g ∨ (w0.heap.size ≤ g∧(Value.slice A n c).ownBlock ≠ some g)) (hgr : w.grownBy w' (some g)) : Bq S e sz w0 w' A c n xs:=by
 have k1 : KeepX (fun j => j = g) w w':=(KeepX.of (Below.refl _ _)).grown hgr fun j _ q => (Option.some.inj q).symm
 have hne : (Value.slice A n c).ownBlock ≠ some g:=hg.elim (fun q e => by have:=(h.o.lt g e).2;omega) fun q => q.2
 refine ⟨own_kx h.o k1 fun j q e => hne (by rw [q,e]),h.k.new hgr (hg.elim (fun q => Nat.le_trans h.size q) fun q => q.1),h.s⟩
end
theorem wpList_bq {S : Nat} {t e : TypeId} {z : Value} {size bytes : Nat} (T : ElT Try.prog t e z size bytes) {w0 w : World} {A : Option Addr} {c n : Nat} {xs : List Value} {ops : Array Oper} {rest : List Oper} {o : Oper} {a : Act} {Q : Exit → Act → World → Prop} (hgd : o.guard = none) (s x : Operand)
  (ho : o.op = .call { callee:=.builtin .append,args:=#[s,x],argTypes:=#[t,t] }) (h : Bq S e size w0 w A c n xs) (hs : a.eval s = .slice A n c)
  (A1 : Option Addr) (m c1 : Nat) (ys : List Value) (hx : a.eval x = .slice A1 m c1) (hl : ys.length = m * size) (hr : Rd w A1 ys) (h1 : ∀ u ∈ ys,u.oneCell' = true) (hb : (n + m) * bytes ≤ 140737488355328) (hm : n + m ≤ maxLen)
  (H : ∀ A' c' w',Bq S e size w0 w' A' c' (n + m) (xs ++ ys) → (∀ t cs,Blk w S t cs → Blk w' S t cs) → wpList Try.prog ops Q rest (a.put o.dst (.slice A' (n + m) c')) w') : wpList Try.prog ops Q (o :: rest) a w :=
 wpList_app T hgd s x ho w0.heap.size _ n _ hs h.o A1 m c1 ys hx hl hr h1 hb hm h.size fun v' w' q1 q2 q3 => by
  obtain ⟨A',c',rfl,-,-,-⟩:=own_form q1
  have hS : (Value.slice A n c).ownBlock ≠ some S:=fun q => h.ne S q rfl
  exact H A' c' w' ⟨q1,h.k.grown q2 (fun j hj q => by have:=(h.o.lt j q).1;omega),h.s⟩ fun t cs hb => hb.grown q2 hS
def RdS {α : Type} (b : List UInt8) (p p' : SP) (v : α) (T : List UInt8 → α × Nat × Int) : Prop :=
 p'.1 ≤ b.length∧(p.2 ≠ 0 → p'.2 = p.2)∧(p.2 = 0 → (T (b.drop p.1)).2.2 = 0 → v = (T (b.drop p.1)).1∧p' = (p.1 + (T (b.drop p.1)).2.1,0))∧(p.2 = 0 → (T (b.drop p.1)).2.2 ≠ 0 → p'.2 = (T (b.drop p.1)).2.2)
def RowD {α : Type} (S : Nat) (t : TypeId) (src : SP → List Value) (el : TypeId) (sz : Nat) (cells : List α → List Value) (b : List UInt8) (p : SP) (T : List UInt8 → List α × Nat × Int) (ok : α → Prop) (lim : Nat) (w : World) (e : Ending) (w' : World) : Prop :=
 ∃ (A' : Option Addr) (c' : Nat) (p' : SP) (l : List α),e = .returned (.slice A' l.length c')∧Bq S el sz w w' A' c' l.length (cells l)∧Blk w' S t (src p')∧RdS b p p' l T∧(∀ x ∈ l,ok x)∧l.length ≤ lim
def LpI {α : Type} (b : List UInt8) (sz n : Nat) (p1 : SP) (f : Nat → List α) (i : Nat) (p : SP) (ds : List α) : Prop :=
 p.1 ≤ b.length∧(p1.2 ≠ 0 → p = p1)∧(p1.2 = 0 → (p = (p1.1 + i * sz,0)∧ds = f i) ∨ (p.2 = 1∧b.length < p1.1 + n * sz))
theorem LpI.start {α : Type} {b : List UInt8} {sz n : Nat} {p1 : SP} {f : Nat → List α} (h : p1.1 ≤ b.length) (hf : f 0 = []) : LpI b sz n p1 f 0 p1 [] :=
 ⟨h,fun _ => rfl,fun q => .inl ⟨by rw [Nat.zero_mul,Nat.add_zero,← q],hf.symm⟩⟩
theorem LpI.stop {α : Type} {b : List UInt8} {most sz : Nat} {p : SP} (F : List UInt8 → Nat → Nat → List α) (hF : ∀ (b : List UInt8) (a k n : Nat),F (b.drop a) k n = F b (a + k) n)
  (T : List UInt8 → List α × Nat × Int) (hT : ∀ b,T b = if (bndN b most).2.2 = 0 then if b.length < (bndN b most).2.1 + (bndN b most).1 * sz then ([],0,1) else (F b (bndN b most).2.1 (bndN b most).1,(bndN b most).2.1 + (bndN b most).1 * sz,0) else ([],0,(bndN b most).2.2))
  {i : Nat} {p' : SP} {ds : List α} (hp : p.1 ≤ b.length) (h : LpI b sz (ctV b most p) (ctP b most p) (fun i => F b (ctP b most p).1 i) i p' ds) (hd : i = ctV b most p ∨ p'.2 ≠ 0) : RdS b p p' ds T:=by
 obtain ⟨h1,h2,h3⟩:=h
 refine ⟨h1,fun q => ?_,fun q e => ?_,fun q e => ?_⟩
 ·have e1 : ctP b most p = p:=by unfold ctP;rw [if_neg q]
  rw [e1] at h2
  rw [h2 q]
 ·have e1 : ctP b most p = (p.1 + (bndN (b.drop p.1) most).2.1,(bndN (b.drop p.1) most).2.2):=by unfold ctP;rw [if_pos q]
  have e2 : ctV b most p = (bndN (b.drop p.1) most).1:=by unfold ctV;rw [if_pos q]
  rw [e1] at h2 h3
  rw [e2] at h3
  rw [e2] at hd
  rw [hT] at e ⊢
  by_cases q1 : (bndN (b.drop p.1) most).2.2 = 0
  ·rw [if_pos q1] at e ⊢
   by_cases q2 : (b.drop p.1).length < (bndN (b.drop p.1) most).2.1 + (bndN (b.drop p.1) most).1 * sz
   ·rw [if_pos q2] at e;cases e
   ·rw [if_neg q2] at e ⊢
    rcases h3 q1 with ⟨q3,q4⟩ | ⟨q3,q4⟩
    ·have hi : i = (bndN (b.drop p.1) most).1:=by
      rcases hd with hd | hd
      ·exact hd
      ·rw [q3] at hd;exact absurd rfl hd
     rw [q4,q3,hi]
     refine ⟨?_,?_⟩
     ·simp only;rw [hF]
     ·simp only;rw [Nat.add_assoc]
    ·rw [List.length_drop] at q2
     simp only at q4
     omega
  ·rw [if_neg q1] at e;exact absurd e q1
 ·have e1 : ctP b most p = (p.1 + (bndN (b.drop p.1) most).2.1,(bndN (b.drop p.1) most).2.2):=by unfold ctP;rw [if_pos q]
  have e2 : ctV b most p = (bndN (b.drop p.1) most).1:=by unfold ctV;rw [if_pos q]
  rw [e1] at h2 h3
  rw [e2] at h3
  rw [e2] at hd
  rw [hT] at e ⊢
  by_cases q1 : (bndN (b.drop p.1) most).2.2 = 0
  ·rw [if_pos q1] at e ⊢
   by_cases q2 : (b.drop p.1).length < (bndN (b.drop p.1) most).2.1 + (bndN (b.drop p.1) most).1 * sz
   ·rw [if_pos q2]
    rcases h3 q1 with ⟨q3,q4⟩ | ⟨q3,q4⟩
    ·have hi : i = (bndN (b.drop p.1) most).1:=by
      rcases hd with hd | hd
      ·exact hd
      ·rw [q3] at hd;exact absurd rfl hd
     rw [List.length_drop] at q2
     rw [q3] at h1
     simp only at h1
     rw [hi] at h1
     omega
    ·exact q3
   ·rw [if_neg q2] at e;exact absurd rfl e
  ·rw [if_neg q1]
   rw [h2 q1]
theorem hshs_drop (b : List UInt8) (a k n : Nat) : hshs (b.drop a) k n = hshs b (a + k) n:=by
 unfold hshs
 refine List.map_congr_left fun i _ => ?_
 rw [List.drop_drop,Nat.add_assoc]
theorem itms_drop (b : List UInt8) (a k n : Nat) : itms (b.drop a) k n = itms b (a + k) n:=by
 unfold itms itmOf
 refine List.map_congr_left fun i _ => ?_
 rw [List.drop_drop,List.drop_drop,Nat.add_assoc,Nat.add_assoc,Nat.add_assoc,Nat.add_assoc]
set_option maxRecDepth 100000 in
set_option maxHeartbeats 8000000 in
theorem r9hashes_any (S : Nat) (A : Option Addr) (b : List UInt8) (c most : Nat) (p : SP) (w : World) (hb : Blk w S 85 (srcL A b.length c p)) (hp : p.1 ≤ b.length) (hc : b.length ≤ c) (hl : b.length ≤ 1000000000) (hcm : c ≤ maxLen) (hr : RdX (some S) w A (b.map u8v)) (hmo : most ≤ 1000000) :
  Calls Try.prog 59 #[.pointer (some ⟨S,0,none⟩),u64v most] w (RowD S 85 (srcL A b.length c) 27 32 hsL b p (fun d => thsN d most) (fun x => x.length = 32) most w):=by
 have hrr : ∀ y,KeepB S w y → RdX (some S) y A (b.map u8v):=fun y k => hr.kb k
 have CT:=Lib.hid (r9count_any S A b c p most w hb hp hc hl hcm hr hmo)
 have HSH : Hid (∀ (p : SP) (y : World),KeepB S w y → Blk y S 85 (srcL A b.length c p) → p.1 ≤ b.length → Calls Try.prog 60 #[.pointer (some ⟨S,0,none⟩)] y (Had S 85 (srcL A b.length c (tkP b 32 p)) (padH (tkB b 32 p)) y)):=Lib.hid fun p y k h2 h3 => r9hash_any S A b c p y h2 h3 hc hl hcm (hrr y k)
 have hSw:=hb.lt
 have hl1 : (ctP b most p).1 ≤ b.length:=ctP_le hp
 have hn9:=ctV_le b most p
 have HST : Hid (∀ i p' ds,LpI b 32 (ctV b most p) (ctP b most p) (fun i => hshs b (ctP b most p).1 i) i p' ds → i = ctV b most p ∨ p'.2 ≠ 0 → RdS b p p' ds (fun d => thsN d most)):=Lib.hid fun i p' ds h hd => LpI.stop hshs hshs_drop _ (fun b => rfl) hp h hd
 have HI0 : Hid (LpI b 32 (ctV b most p) (ctP b most p) (fun i => hshs b (ctP b most p).1 i) 0 (ctP b most p) []):=Lib.hid (LpI.start hl1 rfl)
 clear hb hr hrr
 generalize ctP b most p = p1 at *
 generalize ctV b most p = n at *
 obtain ⟨L,hL⟩ : ∃ L,b.length = L:=⟨_,rfl⟩
 have HLL:=Lib.hid hL
 rw [hL] at hl hc hp hl1 CT HSH ⊢
 clear hL
 go_enter Try.func59,Try.ntmps59
 go_wp2_with fail
 refine CT.out.mono ?_
 clear CT
 rintro e w1 ⟨rfl,hb1,hk1⟩
 have HS1:=Lib.hid hb1
 have BQ1 : Hid (Bq S 27 32 w w1 none 0 0 []):=Lib.hid (Bq.nil hk1 hSw)
 clear hb1 hk1
 go_wp2_with fail
 go_loopw [6,7] (fun v x wr => ∃ (i : Nat) (p' : SP) (A' : Option Addr) (c' : Nat) (ds : List (List UInt8)),i ≤ n∧x = .int .i64 i∧v = .slice A' i c'∧ds.length = i∧p'.1 ≤ L∧Hid (Bq S 27 32 w wr A' c' i (hsL ds))∧Hid (Blk wr S 85 (srcL A L c p'))∧Hid (LpI b 32 n p1 (fun i => hshs b p1.1 i) i p' ds)∧Hid (∀ x ∈ ds,x.length = 32)) (fun _ x _ => n - (intOf x).toNat)
 case atStart => exact ⟨0,p1,none,0,[],Nat.zero_le _,rfl,rfl,rfl,hl1,BQ1,HS1,HI0,Lib.hid fun x hx => by cases hx⟩
 case round =>
  obtain ⟨i,p',A',c',ds,hi,rfl,rfl,hdl,hpl,BR,HSr,HI,HOK⟩:=hrel
  obtain ⟨a,e0⟩:=p'
  have HDL:=Lib.hid hdl
  have s2:=HSr.out.cell 2
  try simp only [List.getElem?_cons_succ,List.getElem?_cons_zero] at s2
  clear hdl BQ1 HS1 HI0
  by_cases hlt : i < n
  case neg =>
   obtain rfl : i = n:=by omega
   have d1 : ¬ (i : Int) < i:=by omega
   have HR:=Lib.hid (HST.out _ _ _ HI.out (.inl rfl))
   clear HST HSH
   go_wp2
   exact bodyPost_ret (v:=.slice A' i c') (by simp [results,Try.results59]) rfl ⟨A',c',(a,e0),ds,by rw [HDL.out],BR.out.eq HDL.out.symm rfl,HSr.out,HR.out,HOK.out,by rw [HDL.out];exact hn9⟩
  have d1 : (i : Int) < n:=by omega
  by_cases h0 : e0 = 0
  case neg =>
   have d2 : (e0 == 0) = false:=by rw [beq_eq_false_iff_ne];exact h0
   have HR:=Lib.hid (HST.out _ _ _ HI.out (.inr h0))
   clear HST HSH h0
   go_wp2
   exact bodyPost_ret (v:=.slice A' i c') (by simp [results,Try.results59]) rfl ⟨A',c',(a,e0),ds,by rw [HDL.out],BR.out.eq HDL.out.symm rfl,HSr.out,HR.out,HOK.out,by rw [HDL.out];omega⟩
  subst h0
  have hpd : (padH (tkB b 32 (a,0))).length = 32:=padH_len
  have hq1l : (tkP b 32 (a,0)).1 ≤ L:=by rw [← HLL.out];exact tkP_le (by rw [HLL.out];exact hpl)
  have HIN : Hid (LpI b 32 n p1 (fun i => hshs b p1.1 i) (i + 1) (tkP b 32 (a,0)) (ds ++ [padH (tkB b 32 (a,0))])):=Lib.hid (by
   obtain ⟨h1,h2,h3⟩:=HI.out
   refine ⟨by rw [HLL.out];exact hq1l,fun q => ?_,fun q => ?_⟩
   ·have:=h2 q;rw [← this] at q;exact absurd rfl q
   ·rcases h3 q with ⟨q1,q2⟩ | ⟨q1,q2⟩
    ·by_cases hok : a + 32 ≤ b.length
     ·obtain ⟨e1,e2⟩:=tkP_ok (b:=b) (m:=32) (p:=(a,0)) ⟨rfl,hok⟩
      left
      have ea : a = p1.1 + i * 32:=congrArg Prod.fst q1
      simp only at e1 e2
      refine ⟨by rw [e1,ea,Nat.succ_mul];simp only [Nat.add_assoc],?_⟩
      rw [e2,padH_full (by rw [List.length_take,List.length_drop];omega),q2]
      show hshs b p1.1 i ++ _ = hshs b p1.1 (i + 1)
      rw [hshs_succ,← ea]
     ·obtain ⟨e1,-⟩:=tkP_no (b:=b) (m:=32) (p:=(a,0)) (fun h => hok h.2)
      right
      have ea : a = p1.1 + i * 32:=congrArg Prod.fst q1
      rw [e1]
      have : (i + 1) * 32 ≤ n * 32:=Nat.mul_le_mul_right _ (by omega)
      exact ⟨rfl,by rw [Nat.succ_mul] at this;omega⟩
    ·cases q1)
  have HOKN : Hid (∀ x ∈ ds ++ [padH (tkB b 32 (a,0))],x.length = 32):=Lib.hid fun x hx => by
   rcases List.mem_append.1 hx with q | q
   ·exact HOK.out x q
   ·rw [List.mem_singleton.1 q];exact hpd
  have H1:=Lib.hid (HSH.out (a,0) wr BR.out.k HSr.out hpl)
  generalize padH (tkB b 32 (a,0)) = PV at *
  generalize tkP b 32 (a,0) = q1 at *
  clear HI HOK
  go_wp2_with fail
  refine H1.out.mono ?_
  clear H1 s2
  rintro e w2 ⟨hs,rfl,hhs,hb2,hk2⟩
  have BR2:=Lib.hid (BR.out.read hk2);have HS2:=Lib.hid hb2
  have hdz:=hhs.z
  have HHS:=Lib.hid hhs
  clear hhs hb2 hk2 BR HSr
  go_wp2_with (first
   | ((with_reducible refine list_build1h hashTb hs hdz (by omega) (Eq.trans ?_ rfl) ?_);rfl)
   | (at_builtin;refine wpList_bq hashTb (by rfl) _ _ (by rfl) (BR2.out.alloc _) (by rfl) _ 1 1 hs.toList (by rfl) (by rw [Array.length_toList,hdz]) (by simpa using Rd.new w2 hs.toList 27) HHS.out.o (by omega) (by unfold maxLen;omega) ?_;intro A4 c4 w4 b4 s4;have BR4:=Lib.hid b4;have HS4:=Lib.hid (s4 _ _ (HS2.out.alloc _));clear b4 s4))
  clear BR2 HS2 hdz
  go_roundw
  case rel => exact ⟨i + 1,q1,A4,c4,ds ++ [PV],by omega,by go_num,rfl,by rw [List.length_append,HDL.out];rfl,hq1l,Lib.hid (BR4.out.eq rfl (by rw [hsL_snoc,HHS.out.l])),HS4,HIN,HOKN⟩
  case measure => simp [intOf];omega
theorem ritemK_info : (Try.prog.info? 69).map (·.size) = some 33:=by kernel_rfl
theorem ritem_built0 (t : UInt32) : Try.prog.built 69 [(0,u32v t)] = some (Itm.cells ⟨t,z32⟩).toArray:=by kernel_rfl
theorem item_splice (t : UInt32) (h : List UInt8) (hl : h.length = 32) : splice (Itm.cells ⟨t,z32⟩) 1 (h.map u8v) = Itm.cells ⟨t,h⟩:=by
 unfold splice Itm.cells
 rw [List.length_map,hl]
 show [u32v t] ++ (h.map u8v ++ (z32.map u8v).drop 32) = _
 rw [show (z32.map u8v).drop 32 = [] from rfl,List.append_nil]
 rfl
set_option maxRecDepth 100000 in
set_option maxHeartbeats 8000000 in
theorem r9items_any (S : Nat) (A : Option Addr) (b : List UInt8) (c : Nat) (p : SP) (w : World) (hb : Blk w S 85 (srcL A b.length c p)) (hp : p.1 ≤ b.length) (hc : b.length ≤ c) (hl : b.length ≤ 1000000000) (hcm : c ≤ maxLen) (hr : RdX (some S) w A (b.map u8v)) :
  Calls Try.prog 62 #[.pointer (some ⟨S,0,none⟩)] w (RowD S 85 (srcL A b.length c) 69 33 (List.flatMap Itm.cells) b p titN Itm.ok 50000 w):=by
 have hrr : ∀ y,KeepB S w y → RdX (some S) y A (b.map u8v):=fun y k => hr.kb k
 have CT:=Lib.hid (r9count_any S A b c p 50000 w hb hp hc hl hcm hr (by omega))
 have HSH : Hid (∀ (p : SP) (y : World),KeepB S w y → Blk y S 85 (srcL A b.length c p) → p.1 ≤ b.length → Calls Try.prog 60 #[.pointer (some ⟨S,0,none⟩)] y (Had S 85 (srcL A b.length c (tkP b 32 p)) (padH (tkB b 32 p)) y)):=Lib.hid fun p y k h2 h3 => r9hash_any S A b c p y h2 h3 hc hl hcm (hrr y k)
 have NUM : Hid (∀ (m : Nat) (p : SP) (y : World),KeepB S w y → Blk y S 85 (srcL A b.length c p) → p.1 ≤ b.length → m ≤ 8 → 0 < m → Calls Try.prog 58 #[.pointer (some ⟨S,0,none⟩),iv m] y (Red S 85 (srcL A b.length c (tkP b m p)) (u64v (nmV b m p)) y)):=Lib.hid fun m p y k h2 h3 h4 h5 => r9num_any S A b c p m y h2 h3 hc hl hcm (hrr y k) h4 h5
 obtain ⟨zs,hz1,hz2,hz3⟩ : ∃ zs : Array Value,zs.size = 33∧(∀ w,(zeroValue 69).run Try.prog w = .ok (.agg zs) w)∧¬ zs = #[]:=⟨zritem,zritem_size,fun w => by kernel_rfl,fun h => by have:=zritem_size;rw [h] at this;cases this⟩
 have hSw:=hb.lt
 have hl1 : (ctP b 50000 p).1 ≤ b.length:=ctP_le hp
 have hn9:=ctV_le b 50000 p
 have HST : Hid (∀ i p' ds,LpI b 36 (ctV b 50000 p) (ctP b 50000 p) (fun i => itms b (ctP b 50000 p).1 i) i p' ds → i = ctV b 50000 p ∨ p'.2 ≠ 0 → RdS b p p' ds titN):=Lib.hid fun i p' ds h hd => LpI.stop itms itms_drop _ (fun b => rfl) hp h hd
 have HI0 : Hid (LpI b 36 (ctV b 50000 p) (ctP b 50000 p) (fun i => itms b (ctP b 50000 p).1 i) 0 (ctP b 50000 p) []):=Lib.hid (LpI.start hl1 rfl)
 clear hb hr hrr
 generalize ctP b 50000 p = p1 at *
 generalize ctV b 50000 p = n at *
 obtain ⟨L,hL⟩ : ∃ L,b.length = L:=⟨_,rfl⟩
 have HLL:=Lib.hid hL
 rw [hL] at hl hc hp hl1 CT HSH NUM ⊢
 clear hL
 go_enter Try.func62,Try.ntmps62
 go_wp2_with fail
 refine CT.out.mono ?_
 clear CT
 rintro e w1 ⟨rfl,hb1,hk1⟩
 have HS1:=Lib.hid hb1
 have BQ1 : Hid (Bq S 69 33 w w1 none 0 0 []):=Lib.hid (Bq.nil hk1 hSw)
 clear hb1 hk1
 go_wp2_with fail
 go_loopw [4,5] (fun v x wr => ∃ (i : Nat) (p' : SP) (A' : Option Addr) (c' : Nat) (ds : List Itm),i ≤ n∧x = .int .i64 i∧v = .slice A' i c'∧ds.length = i∧p'.1 ≤ L∧Hid (Bq S 69 33 w wr A' c' i (ds.flatMap Itm.cells))∧Hid (Blk wr S 85 (srcL A L c p'))∧Hid (LpI b 36 n p1 (fun i => itms b p1.1 i) i p' ds)∧Hid (∀ x ∈ ds,x.ok)) (fun _ x _ => n - (intOf x).toNat)
 case atStart => exact ⟨0,p1,none,0,[],Nat.zero_le _,rfl,rfl,rfl,hl1,BQ1,HS1,HI0,Lib.hid fun x hx => by cases hx⟩
 case round =>
  obtain ⟨i,p',A',c',ds,hi,rfl,rfl,hdl,hpl,BR,HSr,HI,HOK⟩:=hrel
  obtain ⟨a,e0⟩:=p'
  have HDL:=Lib.hid hdl
  have s2:=HSr.out.cell 2
  try simp only [List.getElem?_cons_succ,List.getElem?_cons_zero] at s2
  clear hdl BQ1 HS1 HI0
  by_cases hlt : i < n
  case neg =>
   obtain rfl : i = n:=by omega
   have d1 : ¬ (i : Int) < i:=by omega
   have HR:=Lib.hid (HST.out _ _ _ HI.out (.inl rfl))
   clear HST HSH NUM
   go_wp2
   exact bodyPost_ret (v:=.slice A' i c') (by simp [results,Try.results62]) rfl ⟨A',c',(a,e0),ds,by rw [HDL.out],BR.out.eq HDL.out.symm rfl,HSr.out,HR.out,HOK.out,by rw [HDL.out];exact hn9⟩
  have d1 : (i : Int) < n:=by omega
  by_cases h0 : e0 = 0
  case neg =>
   have d2 : (e0 == 0) = false:=by rw [beq_eq_false_iff_ne];exact h0
   have HR:=Lib.hid (HST.out _ _ _ HI.out (.inr h0))
   clear HST HSH NUM h0
   go_wp2
   exact bodyPost_ret (v:=.slice A' i c') (by simp [results,Try.results62]) rfl ⟨A',c',(a,e0),ds,by rw [HDL.out],BR.out.eq HDL.out.symm rfl,HSr.out,HR.out,HOK.out,by rw [HDL.out];omega⟩
  subst h0
  have hpd : (padH (tkB b 32 (tkP b 4 (a,0)))).length = 32:=padH_len
  have hq1l : (tkP b 4 (a,0)).1 ≤ L:=by rw [← HLL.out];exact tkP_le (by rw [HLL.out];exact hpl)
  have hq2l : (tkP b 32 (tkP b 4 (a,0))).1 ≤ L:=by rw [← HLL.out];exact tkP_le (by rw [HLL.out];exact hq1l)
  obtain ⟨ty,hty⟩ : ∃ v : UInt32,v = UInt32.ofNat (nmV b 4 (a,0)):=⟨_,rfl⟩
  have HIN : Hid (LpI b 36 n p1 (fun i => itms b p1.1 i) (i + 1) (tkP b 32 (tkP b 4 (a,0))) (ds ++ [⟨ty,padH (tkB b 32 (tkP b 4 (a,0)))⟩])):=Lib.hid (by
   obtain ⟨h1,h2,h3⟩:=HI.out
   refine ⟨by rw [HLL.out];exact hq2l,fun q => ?_,fun q => ?_⟩
   ·have:=h2 q;rw [← this] at q;exact absurd rfl q
   ·rcases h3 q with ⟨q1,q2⟩ | ⟨q1,q2⟩
    ·have ea : a = p1.1 + i * 36:=congrArg Prod.fst q1
     have hm : (i + 1) * 36 ≤ n * 36:=Nat.mul_le_mul_right _ (by omega)
     rw [Nat.succ_mul] at hm
     by_cases hok : a + 4 ≤ b.length
     ·obtain ⟨e1,e2⟩:=tkP_ok (b:=b) (m:=4) (p:=(a,0)) ⟨rfl,hok⟩
      have e3:=nmV_ok (b:=b) (m:=4) (p:=(a,0)) ⟨rfl,hok⟩
      simp only at e1 e2 e3
      rw [e1]
      by_cases hok2 : a + 4 + 32 ≤ b.length
      ·obtain ⟨f1,f2⟩:=tkP_ok (b:=b) (m:=32) (p:=(a + 4,0)) ⟨rfl,hok2⟩
       simp only at f1 f2
       left
       refine ⟨by rw [f1,ea,Nat.succ_mul];simp only [Nat.add_assoc],?_⟩
       rw [f2,padH_full (by rw [List.length_take,List.length_drop];omega),q2,hty,e3]
       show itms b p1.1 i ++ _ = itms b p1.1 (i + 1)
       rw [itms_succ,← ea]
       rfl
      ·obtain ⟨f1,-⟩:=tkP_no (b:=b) (m:=32) (p:=(a + 4,0)) (fun h => hok2 h.2)
       right
       rw [f1]
       exact ⟨rfl,by omega⟩
     ·obtain ⟨e1,-⟩:=tkP_no (b:=b) (m:=4) (p:=(a,0)) (fun h => hok h.2)
      right
      rw [e1]
      have e4 : tkP b 32 (flP 1 (a,0)) = (a,1):=by unfold tkP flP;simp
      rw [e4]
      exact ⟨rfl,by omega⟩
    ·cases q1)
  have HOKN : Hid (∀ x ∈ ds ++ [(⟨ty,padH (tkB b 32 (tkP b 4 (a,0)))⟩ : Itm)],x.ok):=Lib.hid fun x hx => by
   rcases List.mem_append.1 hx with q | q
   ·exact HOK.out x q
   ·rw [List.mem_singleton.1 q];exact hpd
  have N1:=Lib.hid (NUM.out 4 (a,0) wr BR.out.k HSr.out hpl (by omega) (by omega))
  obtain ⟨V1,hV1⟩ : ∃ V,nmV b 4 (a,0) = V:=⟨_,rfl⟩
  have hvv : (V1 : Int) % 4294967296 = (ty.toNat : Int):=by rw [hty,hV1,UInt32.toNat_ofNat'];omega
  have hvw : IntKind.u32.wrap (V1 : Int) = (ty.toNat : Int):=by rw [IntKind.wrap_u32];exact hvv
  rw [hV1] at N1
  clear hty hV1
  obtain ⟨q2,hq2⟩ : ∃ x,tkP b 32 (tkP b 4 (a,0)) = x:=⟨_,rfl⟩
  rw [hq2] at HIN hq2l
  have HSH1 : Hid (∀ (y : World),KeepB S w y → Blk y S 85 (srcL A L c (tkP b 4 (a,0))) → Calls Try.prog 60 #[.pointer (some ⟨S,0,none⟩)] y (Had S 85 (srcL A L c q2) (padH (tkB b 32 (tkP b 4 (a,0)))) y)):=Lib.hid fun y k h2 => by rw [← hq2];exact HSH.out _ y k h2 hq1l
  generalize padH (tkB b 32 (tkP b 4 (a,0))) = PV at *
  clear hq2
  generalize tkP b 4 (a,0) = q1 at *
  clear HI HOK
  obtain ⟨bs,hbs⟩ : ∃ x,(Itm.cells ⟨ty,z32⟩).toArray = x:=⟨_,rfl⟩
  have HBU:=Lib.hid (ritem_built0 ty)
  rw [hbs] at HBU
  have hbz : bs.size = 33:=by rw [← hbs,List.size_toArray];exact Itm.len (x:=⟨ty,z32⟩) rfl
  have hbi : (Try.prog.info? 69).map (·.size) = some bs.size:=by rw [hbz];exact ritemK_info
  have hbn : ¬ bs = #[]:=fun q => by rw [q] at hbz;cases hbz
  have hbo : ∀ v ∈ bs.toList,v.oneCell' = true:=by rw [← hbs];exact Itm.one _
  have HBL : Hid (bs.toList = Itm.cells ⟨ty,z32⟩):=Lib.hid (by rw [← hbs])
  clear hbs
  go_wp2_with fail
  refine N1.out.mono ?_
  clear N1 s2
  rintro e w2 ⟨rfl,hb2,hk2⟩
  have BR2:=Lib.hid (BR.out.read hk2);have HS2:=Lib.hid hb2
  have hst : (storeCells ⟨w2.heap.size,0,none⟩ bs.toList 0).run Try.prog (w2.alloc (.cells zs 69)) = .ok () (w2.alloc (.cells bs 69)):=run_storeCells_new (P:=Try.prog) w2 69 zs bs hbi (hz1.trans hbz.symm) (by have:=all_oneCell_toArray hbo;rwa [Array.toArray_toList] at this)
  clear hb2 hk2 BR HSr
  go_upto_region 7 with ((with_reducible refine list_bldg _ bs (Eq.trans ?_ rfl) HBU.out (Eq.trans ?_ rfl) ?_);rfl;rfl)
  obtain ⟨w3,hw3⟩ : ∃ x,x = w2.alloc (.cells bs 69):=⟨_,rfl⟩
  have HX3 : Hid (Blk w3 w2.heap.size 69 (Itm.cells ⟨ty,z32⟩)):=by rw [hw3,← HBL.out];exact Lib.hid (Blk.new w2 _ bs.toList)
  have HS3 : Hid (Blk w3 S 85 (srcL A L c q1)):=by rw [hw3];exact Lib.hid (HS2.out.alloc _)
  have BR3 : Hid (Bq S 69 33 w w3 A' c' i (ds.flatMap Itm.cells)):=by rw [hw3];exact Lib.hid (BR2.out.alloc _)
  have hgS : w2.heap.size ≠ S:=by have:=HS2.out.lt;omega
  have hgo : (Value.slice A' i c').ownBlock ≠ some w2.heap.size:=fun q => by have:=(BR2.out.o.lt _ q).2;omega
  have hgw : w.heap.size ≤ w2.heap.size:=BR2.out.size
  rw [← hw3]
  clear hw3 hst BR2 HS2 HBU hvv hvw hbz hbi hbn hbo HBL
  obtain ⟨gi,hgi⟩ : ∃ g,w2.heap.size = g:=⟨_,rfl⟩
  rw [hgi] at HX3 hgS hgo hgw
  simp only [hgi]
  clear hgi
  go_wp2_with fail
  refine (HSH1.out _ BR3.out.k HS3.out).mono ?_
  clear HSH1
  rintro e w4 ⟨hs,rfl,hhs,hb4,hk4⟩
  have BR4:=Lib.hid (BR3.out.read hk4);have HS4:=Lib.hid hb4;have HX4:=Lib.hid (hk4.blk HX3.out hgS)
  obtain ⟨w5,hst,hb5,hg5⟩:=run_store_prt (P:=Try.prog) 1 hs.toList HX4.out (by rw [Array.length_toList,hhs.z,Itm.len (x:=⟨ty,z32⟩) rfl];omega) hhs.o
  rw [hhs.l,item_splice ty PV hpd] at hb5
  have HX5:=Lib.hid hb5
  have BR5:=Lib.hid (BR4.out.far (.inr ⟨hgw,hgo⟩) hg5);have HS5:=Lib.hid (HS4.out.grown hg5 (fun q => hgS (Option.some.inj q)))
  clear hb4 hk4 hb5 hg5 BR3 HS3 HX3
  have hdz:=hhs.z;have hdn:=hhs.n;have hdi:=hhs.i
  obtain ⟨xs,hxs⟩ : ∃ x,(Itm.cells ⟨ty,PV⟩).toArray = x:=⟨_,rfl⟩
  have hxz : xs.size = 33:=by rw [← hxs,List.size_toArray];exact Itm.len (x:=⟨ty,PV⟩) hpd
  have hxi : (Try.prog.info? 69).map (·.size) = some xs.size:=by rw [hxz];exact ritemK_info
  have hxn : ¬ xs = #[]:=fun q => by rw [q] at hxz;cases hxz
  have HXO : Hid (∀ v ∈ xs.toList,v.oneCell' = true):=Lib.hid (by rw [← hxs];exact Itm.one _)
  have HXL : Hid (xs.toList = Itm.cells ⟨ty,PV⟩):=Lib.hid (by rw [← hxs])
  have RX : Hid (w5.rangeAt gi 0 xs.toList):=Lib.hid (range_of HX5.out 0 xs.toList (by rw [HXL.out];simp [List.take_of_length_le]))
  clear hxs hhs BR4 HS4 HX4
  go_upto_region 8 with fail
  go_wp2_with (first
   | ((with_reducible refine load_partg gi 0 xs (Eq.trans ?_ rfl) RX.out _ Try.underlying69 rfl hxi rfl ?_);rfl)
   | ((with_reducible refine list_build1h ritemT xs hxz (by omega) (Eq.trans ?_ rfl) ?_);rfl)
   | (at_builtin;refine wpList_bq ritemT (by rfl) _ _ (by rfl) (BR5.out.alloc _) (by rfl) _ 1 1 xs.toList (by rfl) (by rw [Array.length_toList,hxz]) (by simpa using Rd.new w5 xs.toList 69) HXO.out (by omega) (by unfold maxLen;omega) ?_;intro A6 c6 w6 b6 s6;have BR6:=Lib.hid b6;have HS6:=Lib.hid (s6 _ _ (HS5.out.alloc _));clear b6 s6))
  clear BR5 HS5 hxz hxi hxn RX hst
  go_roundw
  case rel => exact ⟨i + 1,q2,A6,c6,ds ++ [⟨ty,PV⟩],by omega,by go_num,rfl,by rw [List.length_append,HDL.out];rfl,hq2l,Lib.hid (BR6.out.eq rfl (by rw [List.flatMap_append,HXL.out];simp)),HS6,HIN,HOKN⟩
  case measure => simp [intOf];omega
end Go.Proofs.Ytbgpgdhndanigaa
/- An empty literal appended to: a row of its own, and nothing that was there has turned. -/
set_option linter.unusedSimpArgs false
set_option linter.unusedVariables false
namespace Go.Proofs.Ytbgpgdhndanigaa
open Go.RowKit
section
variable {P : Program}
theorem run_append_lit {t e : TypeId} {z : Value} {size bytes : Nat} (T : ElT P t e z size bytes) (w : World) (ty : TypeId) (base : Nat) (A : Option Addr) (hown : w.ownsRow base e size (.slice A 0 0) 0 []) (hbase : base ≤ w.heap.size)
  (B : Option Addr) (m c : Nat) (news : List Value) (hl : news.length = m * size) (hn : Rd w B news) (h1 : ∀ u ∈ news,u.oneCell' = true) (hb : m ≤ 100000000) (hb2 : m * bytes ≤ 140737488355328) :
  ∃ v' w',(Builtin.append_ #[t,t] ty #[.slice A 0 0,.slice B m c]).run P w = .ok v' w'∧w'.ownsRow base e size v' m news∧Keep w w':=by
 obtain ⟨i,hi,hz,hsz,hby⟩:=T.info
 by_cases hm : m = 0
 ·subst hm
  obtain rfl : news = []:=List.eq_nil_of_length_eq_zero (by simpa using hl)
  refine ⟨.slice A 0 0,w,?_,hown,Below.refl _ _⟩
  rcases hown.2 with ⟨h0,_⟩ | ⟨g,cap,cur,h0,_,_,hnc,_⟩
  ·obtain rfl : A = none:=by injection h0
   cases B <;> simp [Builtin.append_,run_underlying T.und,sizeOf,typeInfo,Builtin.lenOf,Builtin.firstCells,loadCells,loadCellsFrom,storeCells, *]
  ·obtain rfl : A = some ⟨g,0,none⟩:=by injection h0
   cases B <;> simp [Builtin.append_,run_underlying T.und,sizeOf,typeInfo,Builtin.lenOf,Builtin.firstCells,loadCells,loadCellsFrom,storeCells, *]
 ·have hpos : 0 < m * size:=Nat.mul_pos (by omega) T.pos
  rcases hn with rfl | ⟨b,off,rfl,hc⟩
  ·simp at hl;omega
  have hs : Src P i.size t (.slice (some ⟨b,off,none⟩) m c) m news w:=Src.ofSlice w T.und ⟨b,off,none⟩ m c news (by rw [hsz,hl]) (fun j u hu => by
   obtain ⟨hj,rfl⟩:=List.getElem?_eq_some_iff.1 hu
   rw [add_lit0];exact hc j hj) h1
  have hold : (Builtin.firstCells i.size 0 (.slice A 0 0)).run P w.drew = .ok ([] : List Value).toArray w.drew:=by
   cases A <;> simp [Builtin.firstCells,loadCells,loadCellsFrom]
  have hge:=grownCap_ge w (0 + m) 0 e
  have hcm : grownCap w (0 + m) 0 e ≤ maxLen:=grownCap_le_maxLen w (0 + m) 0 e (by unfold maxLen;omega)
  have hrun:=run_append_grow_src w t t ty e i z T.und hi hz A 0 0 [] hold _ m news hs (by omega) (by omega) (growslice_fits (by omega) (by rw [hby];simpa using hb2))
  refine ⟨_,_,hrun,⟨by simp [hl],.inr ⟨w.heap.size,grownCap w (0 + m) 0 e,([] ++ news).toArray ++ Builtin.zeroCells z.cells (grownCap w (0 + m) 0 e - (0 + m)),?_,hbase,?_,by omega,hcm,?_,?_⟩⟩,?_⟩
  ·simp
  ·exact heap_alloc_new w.drew _
  ·have e1 : grownCap w (0 + m) 0 e * size = m * size + (grownCap w (0 + m) 0 e - m) * size:=by
    rw [← Nat.add_mul];congr 1;omega
   simp [size_zeroCells,T.zs,hl]
   rw [Nat.zero_add] at e1
   omega
  ·rw [Array.toList_append,List.take_left' (by simp [hl])];simp
  ·exact ((Below.refl w.heap.size w).drew).alloc (Nat.le_refl _) _
theorem wp_lit {t e : TypeId} {z : Value} {size bytes : Nat} (T : ElT P t e z size bytes) {w : World} {a : Act} {K : Act → World → Prop} {Q : Exit → Act → World → Prop} {s x : Operand} {dst : Option Tmp} {ty : TypeId} {pos : String} {af : Array Edge} {gd : Option (Nat × Bool)}
  (base : Nat) (A : Option Addr) (hsv : a.eval s = .slice A 0 0) (hown : w.ownsRow base e size (.slice A 0 0) 0 []) (hbase : base ≤ w.heap.size)
  (B : Option Addr) (m c : Nat) (news : List Value) (hxv : a.eval x = .slice B m c) (hl : news.length = m * size) (hn : Rd w B news) (h1 : ∀ u ∈ news,u.oneCell' = true) (hb : m ≤ 100000000) (hb2 : m * bytes ≤ 140737488355328)
  (h : ∀ v' w',w'.ownsRow base e size v' m news → Keep w w' → K (a.put dst v') w') :
  Oper.wp P { dst:=dst,op:=.call { callee:=.builtin .append,args:=#[s,x],argTypes:=#[t,t] },type:=ty,pos:=pos,after:=af,guard:=gd } a w K Q:=by
 obtain ⟨v',w',hrun,h2,h3⟩:=run_append_lit T w ty base A hown hbase B m c news hl hn h1 hb hb2
 unfold Oper.wp execOp
 simp only [resolve,invoke,builtin,Sem.run_bind,Sem.run_pure,Result.andThen_ok,List.map_toArray,List.map_cons,List.map_nil,hsv,hxv,hrun]
 exact h v' w' h2 h3
end
end Go.Proofs.Ytbgpgdhndanigaa
/- wire.Get. (printed by gen_io.py) -/
set_option linter.unusedSimpArgs false
set_option linter.unusedVariables false
namespace Go.Proofs.Ytbgpgdhndanigaa
open Go.RowKit
attribute [local go_sem ↓] Go.wp_at_zero Go.wp_at_succ
theorem cntE_le {n : Nat} {p : SP} {L : Nat} (h : p.1 ≤ L) : (cntE n p).1 ≤ L:=by unfold cntE;split <;> exact h
theorem tgetS_le (b : List UInt8) : (tgetS b).2.1 ≤ b.length:=by
 rw [tgetS_eq]
 exact tkP_le (outsS_le _ (ctP_le (insS_le _ (cntE_le (ctP_le (tkP_le (Nat.zero_le _)))))))
theorem tak_le (p : PV) (b : List UInt8) (h : (p.tak b).2.2 = 0) : (p.tak b).2.1 ≤ b.length:=by
 cases p with
 | u32 x =>
   replace h : (if b.length < 4 then (1 : Int) else 0) = 0:=h
   show 4 ≤ b.length
   by_cases q : b.length < 4
   ·rw [if_pos q] at h;cases h
   ·omega
 | u64 x =>
   replace h : (if b.length < 8 then (1 : Int) else 0) = 0:=h
   show 8 ≤ b.length
   by_cases q : b.length < 8
   ·rw [if_pos q] at h;cases h
   ·omega
 | hsh A l c most =>
   show (thsN b most).2.1 ≤ _
   unfold thsN
   split
   ·split
    ·exact Nat.zero_le _
    ·show _ + _ ≤ _;omega
   ·exact Nat.zero_le _
 | h32 s =>
   replace h : (if b.length < 32 then (1 : Int) else 0) = 0:=h
   show (if b.length < 32 then 0 else 32) ≤ b.length
   by_cases q : b.length < 32
   ·rw [if_pos q] at h;cases h
   ·rw [if_neg q];omega
 | heads A l c => exact Nat.le_refl _
 | items A l c =>
   show (titN b).2.1 ≤ _
   unfold titN
   split
   ·split
    ·exact Nat.zero_le _
    ·show _ + _ ≤ _;omega
   ·exact Nat.zero_le _
 | head x =>
   replace h : (if b.length < 80 then (1 : Int) else 0) = 0:=h
   show 80 ≤ b.length
   by_cases q : b.length < 80
   ·rw [if_pos q] at h;cases h
   ·omega
 | bytes A l c => exact (byt_le b 1024).1
 | tx t =>
   show (tgetN b).2.1 ≤ _
   unfold tgetN
   split
   ·exact tgetS_le b
   ·exact Nat.zero_le _
theorem anyT : ElT Try.prog 71 20 .nilIface 1 16:=ElT.mk' Try.underlying71 (by kernel_rfl) rfl (by omega)
theorem wp_build_one {P : Program} {t e : TypeId} {bytes : Nat} (T : ElT P t e .nilIface 1 bytes) {o : Oper} {a : Act} {w : World} {K : Act → World → Prop} {Q : Exit → Act → World → Prop} (x : Operand) (ho : o.op = .buildSlice t 1 #[(0,x)])
  (v : Value) (hz : v.cells = #[v]) (hx : a.eval x = v)
  (h : K (a.put o.dst (.slice (some ⟨w.heap.size,0,none⟩) 1 1)) (w.alloc (.cells #[v] e))) : o.wp P a w K Q:=by
 obtain ⟨i,hi,hiz,his,_⟩:=T.info
 refine wp_buildSlice t e 1 _ ho #[v] i .nilIface T.und hi hiz (by rw [his];omega) (by rw [his];omega) ?_ h
 have hn : Value.nilIface.cells = #[Value.nilIface]:=rfl
 simp only [List.map_toArray,List.map_cons,List.map_nil,hx,Instr.fill,hz,his,hn,Nat.zero_mul,Nat.one_mul]
 simp [Array.range,Array.ofFn_succ]
theorem list_build_one {P : Program} {t e : TypeId} {bytes : Nat} (T : ElT P t e .nilIface 1 bytes) {ops : Array Oper} {rest : List Oper} {a : Act} {w : World} {Q : Exit → Act → World → Prop} {x : Operand} {dst : Option Tmp} {ty' : TypeId} {pos : String} {af : Array Edge}
  (v : Value) (hz : v.cells = #[v]) (hx : a.eval x = v)
  (h : wpList P ops Q rest (a.put dst (.slice (some ⟨w.heap.size,0,none⟩) 1 1)) (w.alloc (.cells #[v] e))) : wpList P ops Q ({ dst:=dst,op:=.buildSlice t 1 #[(0,x)],type:=ty',pos:=pos,after:=af,guard:=none } :: rest) a w :=
 wpList_plain rfl fun _ hK => wp_build_one T x rfl v hz hx (hK _ _ h)
theorem PV.val_if (p : PV) : ∃ t v,p.val = .iface t v:=by cases p <;> exact ⟨_,_,rfl⟩
theorem PV.val_cells (p : PV) : p.val.cells = #[p.val]:=by obtain ⟨t,v,e⟩:=p.val_if;rw [e];rfl
theorem PV.val_one (p : PV) : p.val.oneCell' = true:=by obtain ⟨t,v,e⟩:=p.val_if;rw [e];rfl
theorem parts_like (k : Int) : ∀ p ∈ partsM (msgZ k),p.like:=by
 have f7 : (PV.h32 (msgZ k).stop).like:=(show z32.length = 32 from rfl)
 have f8 : (PV.head (msgZ k).bh).like:=(show zHdr.ok from ⟨rfl,rfl⟩)
 have f1 : (PV.hsh (msgZ k).lA (msgZ k).ls (msgZ k).lc 101).like:=(show (101 : Nat) ≤ 1000000 by omega)
 have f4 : (PV.hsh (msgZ k).sA (msgZ k).shs (msgZ k).sc 4096).like:=(show (4096 : Nat) ≤ 1000000 by omega)
 generalize msgZ k = m at *
 intro p hp
 unfold partsM at hp
 split at hp
 ·simp only [List.mem_cons,List.not_mem_nil,or_false] at hp
  rcases hp with rfl | rfl | rfl <;> trivial
 split at hp
 ·simp only [List.mem_cons,List.not_mem_nil,or_false] at hp
  subst hp;trivial
 split at hp
 ·simp only [List.mem_cons,List.not_mem_nil,or_false] at hp
  rcases hp with rfl | rfl | rfl <;> first | assumption | trivial
 split at hp
 ·simp only [List.mem_cons,List.not_mem_nil,or_false] at hp
  subst hp;trivial
 split at hp
 ·simp only [List.mem_cons,List.not_mem_nil,or_false] at hp
  subst hp;trivial
 split at hp
 ·simp only [List.mem_cons,List.not_mem_nil,or_false] at hp
  rcases hp with rfl | rfl | rfl | rfl <;> first | assumption | trivial
 split at hp
 ·simp only [List.mem_cons,List.not_mem_nil,or_false] at hp
  subst hp;trivial
 ·cases hp
def AtAll (B : Nat) (w : World) (v : Value) (qs : List PV) : Prop:=∀ W : World,(∀ k,B ≤ k → k < w.heap.size → v.ownBlock ≠ some k → W.heap[k]? = w.heap[k]?) → ∀ q ∈ qs,q.at_ W
def Wgd (R : MsgR × Int) (w : World) (e : Ending) (w' : World) : Prop:=∃ m : MsgR,e = .returned (.tuple #[.agg m.cells.toArray,iv R.2])∧m.pl = R.1∧m.at_ w'∧Keep w w'
theorem AtAll.more {B : Nat} {wr w4 w5 : World} {v v' : Value} {qs : List PV} {q : PV} {n : Nat} {e : TypeId} {xs : List Value} (h : AtAll B wr v qs) (own : wr.ownsRow B e 1 v n xs) (hB : B ≤ wr.heap.size) (hk : Keep wr w4) (hg : w4.grownBy w5 v.ownBlock)
  (hv : v'.ownBlock = v.ownBlock ∨ v'.ownBlock = some w4.heap.size) (hm : ∀ W,MidF (fun _ => True) wr w4 W → q.at_ W) : AtAll B w5 v' (qs ++ [q]):=by
 intro W hW
 have g4 : ∀ k,B ≤ k → k < w4.heap.size → v.ownBlock ≠ some k → W.heap[k]? = w4.heap[k]?:=fun k h1 h2 h3 =>
  (hW k h1 (Nat.lt_of_lt_of_le h2 hg.size) (by
   rcases hv with e | e
   ·rw [e];exact h3
   ·rw [e];intro q;cases q;omega)).trans (hg.block k h2 (Ne.symm h3))
 intro x hx
 rcases List.mem_append.1 hx with hx | hx
 ·exact h W (fun k h1 h2 h3 => (g4 k h1 (Nat.lt_of_lt_of_le h2 hk.size) h3).trans (hk.block k h2)) x hx
 ·obtain rfl : x = q:=by simpa using hx
  exact hm W ⟨trivial,fun k h1 h2 => g4 k (Nat.le_trans hB h1) h2 (fun e => by have:=(own.lt k e).2;omega)⟩
def LeftN (G : List PV × List UInt8 × Int) (ps : List PV) (j : Nat) (qs : List PV) (b : List UInt8) : Prop:=G = (qs.map PV.pl ++ (getsN (ps.drop j) b).1,(getsN (ps.drop j) b).2)
theorem LeftN.step {G : List PV × List UInt8 × Int} {ps : List PV} {j : Nat} {qs : List PV} {b : List UInt8} (h : LeftN G ps j qs b) {p : PV} (hp : ps[j]? = some p) (h0 : (p.tak b).2.2 = 0) {q : PV} (hq : q.pl = (p.tak b).1) : LeftN G ps (j + 1) (qs ++ [q]) (b.drop (p.tak b).2.1):=by
 unfold LeftN at h ⊢
 obtain ⟨hj,rfl⟩:=List.getElem?_eq_some_iff.1 hp
 rw [h,List.drop_eq_getElem_cons hj,gets_ok _ _ _ h0,List.map_append,← hq,List.append_assoc];rfl
theorem LeftN.bad {G : List PV × List UInt8 × Int} {ps : List PV} {j : Nat} {qs : List PV} {b : List UInt8} (h : LeftN G ps j qs b) {p : PV} (hp : ps[j]? = some p) (h0 : ¬ (p.tak b).2.2 = 0) : G.2.2 = (p.tak b).2.2:=by
 unfold LeftN at h
 obtain ⟨hj,rfl⟩:=List.getElem?_eq_some_iff.1 hp
 rw [h,List.drop_eq_getElem_cons hj,gets_bad _ _ _ h0]
theorem LeftN.end {G : List PV × List UInt8 × Int} {ps : List PV} {qs : List PV} {b : List UInt8} (h : LeftN G ps ps.length qs b) : G = (qs.map PV.pl,b,0):=by
 unfold LeftN at h
 rw [h,List.drop_length,gets_nil,List.append_nil]
end Go.Proofs.Ytbgpgdhndanigaa
/- florinref09's reader: heads, tx, block. (printed by gen_kp.py) -/
set_option linter.unusedSimpArgs false
set_option linter.unusedVariables false
namespace Go.Proofs.Ytbgpgdhndanigaa
open Go.RowKit
attribute [local go_sem ↓] Go.wp_at_zero Go.wp_at_succ
theorem hgall_nil {b : List UInt8} (h : (hgall b).2 ≠ 0) : (hgall b).1 = []:=by
 unfold hgall at h ⊢
 split
 ·rename_i q;rw [if_pos q] at h
  exact (hgal_e _ _ _).resolve_left h
 ·rfl
set_option maxRecDepth 100000 in
set_option maxHeartbeats 4000000 in
theorem r9heads_any (S : Nat) (A : Option Addr) (b : List UInt8) (c : Nat) (w : World) (hb : Blk w S 85 (srcL A b.length c (0,0))) (hc : b.length ≤ c) (hl : b.length ≤ 1000000000) (hcm : c ≤ maxLen) (hr : RdX (some S) w A (b.map u8v)) :
  Calls Try.prog 61 #[.pointer (some ⟨S,0,none⟩)] w (RowD S 85 (srcL A b.length c) 30 68 (List.flatMap Hd.cells) b (0,0) (fun d => ((hgall d).1,d.length,(hgall d).2)) Hd.ok 2000 w):=by
 have GA : Hid (Calls Try.prog 81 #[.slice A b.length c] w fun e w' => ∃ A' c',e = .returned (.tuple #[.slice A' (hgall b).1.length c',iv (hgall b).2])∧Br 30 68 w w' A' c' (hgall b).1.length ((hgall b).1.flatMap Hd.cells)):=Lib.hid (rhgall_any A b c w hl hc hcm hr.rd)
 have hSw:=hb.lt
 have HB:=Lib.hid hb
 have HLM : Hid ((hgall b).1.length ≤ 2000):=Lib.hid (by
  by_cases q : (hgall b).2 = 0
  ·exact (hgall_once q).2
  ·rw [hgall_nil q];exact Nat.zero_le _)
 have HOK : Hid (∀ x ∈ (hgall b).1,x.ok):=Lib.hid (hgall_ok b)
 have HSP : Hid (∀ e1,(hgall b).2 = e1 → RdS b (0,0) (b.length,e1) (hgall b).1 (fun d => ((hgall d).1,d.length,(hgall d).2))):=Lib.hid fun e1 h => by
  refine ⟨Nat.le_refl _,fun q => (q rfl).elim,fun _ q => ?_,fun _ q => ?_⟩
  ·simp only [List.drop_zero] at q ⊢
   exact ⟨trivial,by rw [← h,q,Nat.zero_add]⟩
  ·simp only [List.drop_zero] at q ⊢
   exact h.symm
 obtain ⟨L,hL⟩ : ∃ L,b.length = L:=⟨_,rfl⟩
 have FL : Hid (∀ code p y,Blk y S 85 (srcL A L c p) → Calls Try.prog 82 #[.pointer (some ⟨S,0,none⟩),iv code] y (Red S 85 (srcL A L c (flP code p)) (.tuple #[]) y)):=Lib.hid fun code p y h => by rw [← hL] at h ⊢;exact r9fail_any S A b c p code y h
 rw [hL] at HB GA HSP hl ⊢
 clear hb hr hL
 obtain ⟨G,hG⟩ : ∃ G,hgall b = G:=⟨_,rfl⟩
 rw [hG] at GA HLM HOK HSP
 clear hG
 obtain ⟨l,e1⟩:=G
 simp only at GA HLM HOK HSP
 replace HSP:=Lib.hid (HSP.out _ rfl)
 have hw1 : IntKind.i64.wrap (L : Int) = L:=IntWalk.i64_in _ (by omega)
 have c0:=HB.out.cell 0;have c1:=HB.out.cell 1;have c2:=HB.out.cell 2
 have f1:=HB.out.frozen 1;have f2:=HB.out.frozen 2
 try simp only [List.getElem?_cons_succ,List.getElem?_cons_zero] at c0 c1 c2
 go_enter Try.func61,Try.ntmps61
 go_wp2_with fail
 refine GA.out.mono ?_
 clear GA c0 c1 c2 f1 f2
 rintro e w1 ⟨A1,ca,rfl,b1⟩
 have HB1:=Lib.hid (HB.out.keep b1.k)
 have BQ1 : Hid (Bq S 30 68 w w1 A1 ca l.length (l.flatMap Hd.cells)):=Lib.hid ⟨b1.o,KeepX.of b1.k,hSw⟩
 clear b1 HB
 by_cases h0 : e1 = 0
 ·subst h0
  have d1 : ((0 : Int) != 0) = false:=rfl
  have c0:=HB1.out.cell 0;have c1:=HB1.out.cell 1;have c2:=HB1.out.cell 2
  have f1:=HB1.out.frozen 1;have f2:=HB1.out.frozen 2
  try simp only [List.getElem?_cons_succ,List.getElem?_cons_zero] at c0 c1 c2
  have HB2:=Lib.hid (HB1.out.set_ 1 (iv (L : Int)));have kk : Hid (KeepB S w1 (w1.setCell ⟨S,1,none⟩ (iv (L : Int)))):=Lib.hid (KeepB.set (KeepX.of (Below.refl _ _)) 1 _)
  clear FL
  go_wp2
  exact bodyPost_ret (v:=.slice A1 l.length ca) (by simp [results,Try.results61]) rfl ⟨A1,ca,(L,0),l,rfl,BQ1.out.read kk.out,HB2.out,HSP.out,HOK.out,HLM.out⟩
 ·have d1 : (e1 != 0) = true:=by rw [bne_iff_ne];exact h0
  go_wp2_with fail
  refine (FL.out e1 (0,0) _ HB1.out).mono ?_
  clear FL
  rintro e w2 ⟨rfl,hb2,hk2⟩
  have HB2 : Hid (Blk w2 S 85 [.slice A L c,iv 0,iv e1]):=Lib.hid hb2;have BQ2:=Lib.hid (BQ1.out.read hk2)
  clear hb2 hk2 HB1 BQ1
  have c0:=HB2.out.cell 0;have c1:=HB2.out.cell 1;have c2:=HB2.out.cell 2
  have f1:=HB2.out.frozen 1;have f2:=HB2.out.frozen 2
  try simp only [List.getElem?_cons_succ,List.getElem?_cons_zero] at c0 c1 c2
  have HB3:=Lib.hid (HB2.out.set_ 1 (iv (L : Int)));have kk : Hid (KeepB S w2 (w2.setCell ⟨S,1,none⟩ (iv (L : Int)))):=Lib.hid (KeepB.set (KeepX.of (Below.refl _ _)) 1 _)
  go_wp2
  exact bodyPost_ret (v:=.slice A1 l.length ca) (by simp [results,Try.results61]) rfl ⟨A1,ca,(L,e1),l,rfl,BQ2.out.read kk.out,HB3.out,HSP.out,HOK.out,HLM.out⟩
theorem tgetN_le (b : List UInt8) : (tgetN b).2.1 ≤ b.length:=by
 unfold tgetN
 split
 ·exact tgetS_le b
 ·exact Nat.zero_le _
def Txd (S : Nat) (src : SP → List Value) (b : List UInt8) (w : World) (e : Ending) (w' : World) : Prop :=
 ∃ (t : TxR) (p' : SP),e = .returned (.agg t.cells.toArray)∧RdS b (0,0) p' t.pl (fun d => tgetN d)∧(t.at w'∧∀ W,MidF (fun _ => True) w w' W → t.at W)∧Blk w' S 85 (src p')∧KeepB S w w'
set_option maxRecDepth 100000 in
set_option maxHeartbeats 4000000 in
theorem r9tx_any (S : Nat) (A : Option Addr) (b : List UInt8) (c : Nat) (w : World) (hb : Blk w S 85 (srcL A b.length c (0,0))) (hc : b.length ≤ c) (hl : b.length ≤ 1000000000) (hcm : c ≤ maxLen) (hr : RdX (some S) w A (b.map u8v)) :
  Calls Try.prog 64 #[.pointer (some ⟨S,0,none⟩)] w (Txd S (srcL A b.length c) b w):=by
 have GA : Hid (∀ y,Keep w y → Calls Try.prog 84 #[.slice A b.length c] y (Tgd (tgetN b) y)):=Lib.hid fun y hy => rtget_any A b c y hl hc hcm (hr.rd.keep hy)
 have hSw:=hb.lt
 have HB:=Lib.hid hb
 have HLE : Hid ((tgetN b).2.1 ≤ b.length):=Lib.hid (tgetN_le b)
 have HSP : Hid (∀ p : SP,p.1 ≤ b.length → p = ((tgetN b).2.1,(tgetN b).2.2) → RdS b (0,0) p (tgetN b).1 (fun d => tgetN d)):=Lib.hid fun p h1 h => by
  refine ⟨h1,fun q => (q rfl).elim,fun _ q => ?_,fun _ q => ?_⟩
  ·simp only [List.drop_zero] at q ⊢
   exact ⟨trivial,by rw [h,q,Nat.zero_add]⟩
  ·simp only [List.drop_zero] at q ⊢
   rw [h]
 obtain ⟨L,hL⟩ : ∃ L,b.length = L:=⟨_,rfl⟩
 have FL : Hid (∀ code p y,Blk y S 85 (srcL A L c p) → Calls Try.prog 82 #[.pointer (some ⟨S,0,none⟩),iv code] y (Red S 85 (srcL A L c (flP code p)) (.tuple #[]) y)):=Lib.hid fun code p y h => by rw [← hL] at h ⊢;exact r9fail_any S A b c p code y h
 rw [hL] at HB GA HSP HLE hl ⊢
 clear hb hr hL
 obtain ⟨G,hG⟩ : ∃ G,tgetN b = G:=⟨_,rfl⟩
 rw [hG] at GA HSP HLE
 clear hG
 obtain ⟨t0,n1,e1⟩:=G
 simp only at HSP HLE
 go_enter Try.func64,Try.ntmps64
 go_upto_region 1 with fail
 obtain ⟨w1,hw1⟩ : ∃ x,x = w.alloc (.cells #[.int .u32 0,.slice none 0 0,.slice none 0 0,.int .u32 0] 37):=⟨_,rfl⟩
 have HR1 : Hid (Blk w1 w.heap.size 37 [.int .u32 0,.slice none 0 0,.slice none 0 0,.int .u32 0]):=by rw [hw1];exact Lib.hid (Blk.new w _ [.int .u32 0,.slice none 0 0,.slice none 0 0,.int .u32 0])
 have HB1 : Hid (Blk w1 S 85 (srcL A L c (0,0))):=by rw [hw1];exact Lib.hid (HB.out.alloc _)
 have HK1 : Hid (Keep w w1):=by rw [hw1];exact Lib.hid (keep_new _ _)
 have hsz1 : w1.heap.size = w.heap.size + 1:=by rw [hw1];simp
 rw [← hw1]
 clear hw1 HB
 have HSZ:=Lib.hid hsz1
 clear hsz1
 obtain ⟨r,hrr⟩ : ∃ r,w.heap.size = r:=⟨_,rfl⟩
 have HRW:=Lib.hid hrr
 rw [hrr] at HR1 hSw HSZ
 simp only [hrr]
 clear hrr
 have c0:=HB1.out.cell 0;have c1:=HB1.out.cell 1;have c2:=HB1.out.cell 2
 have f1:=HB1.out.frozen 1;have f2:=HB1.out.frozen 2
 try simp only [List.getElem?_cons_succ,List.getElem?_cons_zero] at c0 c1 c2
 go_wp2_with fail
 refine (GA.out _ HK1.out).mono ?_
 clear GA c0 c1 c2 f1 f2
 rintro e w2 ⟨⟨ver,iA,ins,ic,oA,outs,oc,lock⟩,rfl,hpl,⟨hat,hmid⟩,-,-,k2⟩
 have HB2:=Lib.hid (HB1.out.keep k2);have HR2:=Lib.hid (HR1.out.keep k2);have HK2:=Lib.hid (keep_trans HK1.out k2);have HPL:=Lib.hid hpl;have HMID:=Lib.hid hmid
 have hs2 : w1.heap.size ≤ w2.heap.size:=k2.size
 clear hpl hat hmid k2 HB1 HR1 HK1
 simp only [TxR.cells] at *
 go_upto_region 2 with fail
 obtain ⟨w3,hw3⟩ : ∃ x,x = w2.alloc (.cells #[u32v ver,.slice iA ins.length ic,.slice oA outs.length oc,u32v lock] 37):=⟨_,rfl⟩
 have HX3 : Hid (Blk w3 w2.heap.size 37 [u32v ver,.slice iA ins.length ic,.slice oA outs.length oc,u32v lock]):=by rw [hw3];exact Lib.hid (Blk.new w2 _ [u32v ver,.slice iA ins.length ic,.slice oA outs.length oc,u32v lock])
 have HB3 : Hid (Blk w3 S 85 (srcL A L c (0,0))):=by rw [hw3];exact Lib.hid (HB2.out.alloc _)
 have HR3 : Hid (Blk w3 r 37 [.int .u32 0,.slice none 0 0,.slice none 0 0,.int .u32 0]):=by rw [hw3];exact Lib.hid (HR2.out.alloc _)
 have KB3 : Hid (KeepB S w w3):=by rw [hw3];exact Lib.hid (KeepX.of (keep_trans HK2.out (keep_new _ _)))
 have HM3 : Hid (∀ k,r < k → k < w2.heap.size → w3.heap[k]? = w2.heap[k]?):=by rw [hw3];exact Lib.hid fun k _ h => (keep_new w2 _).block k h
 have hg23 : w2.heap.size < w3.heap.size:=HX3.out.lt
 rw [← hw3]
 clear hw3 HB2 HR2
 have hgr : r < w2.heap.size:=by have:=HSZ.out;omega
 obtain ⟨gt,hgt⟩ : ∃ g,w2.heap.size = g:=⟨_,rfl⟩
 rw [hgt] at HX3 HM3 hg23 hgr hs2
 have HG2:=Lib.hid hgt
 simp only [hgt]
 clear hgt
 have LAST : Hid (∀ (y : World) (p' : SP),Blk y S 85 (srcL A L c p') → Blk y r 37 [.int .u32 0,.slice none 0 0,.slice none 0 0,.int .u32 0] → Blk y gt 37 [u32v ver,.slice iA ins.length ic,.slice oA outs.length oc,u32v lock] → KeepB S w y → (∀ k,r < k → k < gt → y.heap[k]? = w2.heap[k]?) → p' = (n1,e1) →
   ∀ y9,y9 = (((y.setCell ⟨r,0,none⟩ (u32v ver)).setCell ⟨r,1,none⟩ (.slice iA ins.length ic)).setCell ⟨r,2,none⟩ (.slice oA outs.length oc)).setCell ⟨r,3,none⟩ (u32v lock) →
   Blk y9 r 37 [u32v ver,.slice iA ins.length ic,.slice oA outs.length oc,u32v lock]∧Txd S (srcL A L c) b w (.returned (.agg #[u32v ver,.slice iA ins.length ic,.slice oA outs.length oc,u32v lock])) y9):=Lib.hid fun y p' h1 h2 h3 h4 h5 h6 y9 h7 => by
  have hg : y.grownBy y9 (some r):=by rw [h7];exact grown_set (grown_set (grown_set (grown_set (grown_refl y _))))
  have hb9 : Blk y9 r 37 [u32v ver,.slice iA ins.length ic,.slice oA outs.length oc,u32v lock]:=by rw [h7];exact (((h2.set_ 0 _).set_ 1 _).set_ 2 _).set_ 3 _
  have hm9 : ∀ k,r < k → k < gt → y9.heap[k]? = w2.heap[k]?:=fun k q1 q2 => (hg.block k (by have:=h3.lt;omega) (by intro q;have:=Option.some.inj q;omega)).trans (h5 k q1 q2)
  have hat : ∀ W,(∀ k,r < k → k < gt → W.heap[k]? = w2.heap[k]?) → TxR.at ⟨ver,iA,ins,ic,oA,outs,oc,lock⟩ W:=fun W hW => HMID.out W ⟨trivial,fun k q1 q2 => hW k (by have:=HSZ.out;omega) (by rw [← HG2.out];exact q2)⟩
  refine ⟨hb9,⟨ver,iA,ins,ic,oA,outs,oc,lock⟩,p',rfl,?_,⟨hat y9 hm9,fun W hW => hat W fun k q1 q2 => ?_⟩,h1.grown hg (fun q => by have:=Option.some.inj q;omega),h4.new hg (by rw [HRW.out];omega)⟩
  ·rw [HPL.out];exact HSP.out p' (by rw [h6];exact HLE.out) h6
  ·rw [hW.2 k (by rw [HRW.out];omega) (by have q:=(hb9.lt);have:=h3.lt;have:=hg.size;omega)]
   exact hm9 k q1 q2
 clear HMID HPL HSP
 have hrg : r ≠ gt:=by omega
 have hSr : S ≠ r:=by omega
 by_cases h0 : e1 = 0
 ·subst h0
  have d1 : ((0 : Int) != 0) = false:=rfl
  have c0:=HB3.out.cell 0;have c1:=HB3.out.cell 1;have c2:=HB3.out.cell 2
  have f1:=HB3.out.frozen 1;have f2:=HB3.out.frozen 2
  try simp only [List.getElem?_cons_succ,List.getElem?_cons_zero] at c0 c1 c2
  obtain ⟨w4,hwn⟩ : ∃ x,x = w3.setCell ⟨S,1,none⟩ (iv (n1 : Int)):=⟨_,rfl⟩
  have HB4 : Hid (Blk w4 S 85 (srcL A L c (n1,0))):=by rw [hwn];exact Lib.hid (HB3.out.set_ 1 (iv (n1 : Int)))
  have kk : KeepB S w3 w4:=by rw [hwn];exact KeepB.set (KeepX.of (Below.refl _ _)) 1 _
  have HR4:=Lib.hid (kk.blk HR3.out (by omega));have HX4:=Lib.hid (kk.blk HX3.out (by omega));have KB4 : Hid (KeepB S w w4):=Lib.hid (KB3.out.trans kk (fun _ _ q => q))
  have HM4 : Hid (∀ k,r < k → k < gt → w4.heap[k]? = w2.heap[k]?):=Lib.hid fun k q1 q2 => (kk.2.2.2.2 k (by have:=HX3.out.lt;omega) (by omega)).trans (HM3.out k q1 q2)
  clear kk
  go_upto_region 5 with fail
  rw [← hwn]
  clear hwn c0 c1 c2 f1 f2 HB3 HR3 HX3 KB3 HM3 FL
  have x0:=HX4.out.cell 0;have x1:=HX4.out.cell 1;have x2:=HX4.out.cell 2;have x3:=HX4.out.cell 3
  have z0:=HR4.out.cell 0;have z1:=HR4.out.cell 1;have z2:=HR4.out.cell 2;have z3:=HR4.out.cell 3
  have y0:=HR4.out.frozen 0;have y1:=HR4.out.frozen 1;have y2:=HR4.out.frozen 2;have y3:=HR4.out.frozen 3
  simp only [List.getElem?_cons_succ,List.getElem?_cons_zero] at x0 x1 x2 x3 z0 z1 z2 z3
  obtain ⟨y9,hy9⟩ : ∃ y9,y9 = (((w4.setCell ⟨r,0,none⟩ (u32v ver)).setCell ⟨r,1,none⟩ (.slice iA ins.length ic)).setCell ⟨r,2,none⟩ (.slice oA outs.length oc)).setCell ⟨r,3,none⟩ (u32v lock):=⟨_,rfl⟩
  have HL:=Lib.hid (LAST.out w4 (n1,0) HB4.out HR4.out HX4.out KB4.out HM4.out rfl y9 hy9)
  have HY9:=Lib.hid hy9
  clear LAST hy9
  go_wp2_with fail
  rw [← HY9.out]
  exact bodyPost_ret (v:=.agg #[u32v ver,.slice iA ins.length ic,.slice oA outs.length oc,u32v lock]) (results_cell_row Try.results64 _ _ r _ _ _ _ rfl HL.out.1 Try.underlying37 rfl rtx_info) rfl HL.out.2
 ·have d1 : (e1 != 0) = true:=by rw [bne_iff_ne];exact h0
  go_wp2_with fail
  refine (FL.out e1 (0,0) _ HB3.out).mono ?_
  clear FL
  rintro e w4 ⟨rfl,hb4,hk4⟩
  have HB4 : Hid (Blk w4 S 85 [.slice A L c,iv 0,iv e1]):=Lib.hid hb4
  have HR4:=Lib.hid (hk4.blk HR3.out (by omega));have HX4:=Lib.hid (hk4.blk HX3.out (by omega));have KB4 : Hid (KeepB S w w4):=Lib.hid (KB3.out.trans hk4 (fun _ _ q => q))
  have HM4 : Hid (∀ k,r < k → k < gt → w4.heap[k]? = w2.heap[k]?):=Lib.hid fun k q1 q2 => (hk4.2.2.2.2 k (by have:=HX3.out.lt;omega) (by omega)).trans (HM3.out k q1 q2)
  clear hb4 hk4 HB3 HR3 HX3 KB3 HM3
  have c0:=HB4.out.cell 0;have c1:=HB4.out.cell 1;have c2:=HB4.out.cell 2
  have f1:=HB4.out.frozen 1;have f2:=HB4.out.frozen 2
  try simp only [List.getElem?_cons_succ,List.getElem?_cons_zero] at c0 c1 c2
  obtain ⟨w5,hwn⟩ : ∃ x,x = w4.setCell ⟨S,1,none⟩ (iv (n1 : Int)):=⟨_,rfl⟩
  have HB5 : Hid (Blk w5 S 85 (srcL A L c (n1,e1))):=by rw [hwn];exact Lib.hid (HB4.out.set_ 1 (iv (n1 : Int)))
  have kk : KeepB S w4 w5:=by rw [hwn];exact KeepB.set (KeepX.of (Below.refl _ _)) 1 _
  have HR5:=Lib.hid (kk.blk HR4.out (by omega));have HX5:=Lib.hid (kk.blk HX4.out (by omega));have KB5 : Hid (KeepB S w w5):=Lib.hid (KB4.out.trans kk (fun _ _ q => q))
  have HM5 : Hid (∀ k,r < k → k < gt → w5.heap[k]? = w2.heap[k]?):=Lib.hid fun k q1 q2 => (kk.2.2.2.2 k (by have:=HX4.out.lt;omega) (by omega)).trans (HM4.out k q1 q2)
  clear kk
  go_upto_region 5 with fail
  rw [← hwn]
  clear hwn c0 c1 c2 f1 f2 HB4 HR4 HX4 KB4 HM4
  have x0:=HX5.out.cell 0;have x1:=HX5.out.cell 1;have x2:=HX5.out.cell 2;have x3:=HX5.out.cell 3
  have z0:=HR5.out.cell 0;have z1:=HR5.out.cell 1;have z2:=HR5.out.cell 2;have z3:=HR5.out.cell 3
  have y0:=HR5.out.frozen 0;have y1:=HR5.out.frozen 1;have y2:=HR5.out.frozen 2;have y3:=HR5.out.frozen 3
  simp only [List.getElem?_cons_succ,List.getElem?_cons_zero] at x0 x1 x2 x3 z0 z1 z2 z3
  obtain ⟨y9,hy9⟩ : ∃ y9,y9 = (((w5.setCell ⟨r,0,none⟩ (u32v ver)).setCell ⟨r,1,none⟩ (.slice iA ins.length ic)).setCell ⟨r,2,none⟩ (.slice oA outs.length oc)).setCell ⟨r,3,none⟩ (u32v lock):=⟨_,rfl⟩
  have HL:=Lib.hid (LAST.out w5 (n1,e1) HB5.out HR5.out HX5.out KB5.out HM5.out rfl y9 hy9)
  have HY9:=Lib.hid hy9
  clear LAST hy9
  go_wp2_with fail
  rw [← HY9.out]
  exact bodyPost_ret (v:=.agg #[u32v ver,.slice iA ins.length ic,.slice oA outs.length oc,u32v lock]) (results_cell_row Try.results64 _ _ r _ _ _ _ rfl HL.out.1 Try.underlying37 rfl rtx_info) rfl HL.out.2
end Go.Proofs.Ytbgpgdhndanigaa
/- Parts that the document's reader takes, one behind another; florinref09's reader: block. (printed by gen_kq.py) -/
set_option linter.unusedSimpArgs false
set_option linter.unusedVariables false
namespace Go.Proofs.Ytbgpgdhndanigaa
open Go.RowKit
attribute [local go_sem ↓] Go.wp_at_zero Go.wp_at_succ
def GS (ps : List PV) (b : List UInt8) (p p' : SP) (qs : List PV) : Prop :=
 p'.1 ≤ b.length∧(p.2 ≠ 0 → p'.2 = p.2)∧(p.2 = 0 → (getsN ps (b.drop p.1)).2.2 = 0 → qs.map PV.pl = (getsN ps (b.drop p.1)).1∧p'.2 = 0∧b.drop p'.1 = (getsN ps (b.drop p.1)).2.1)∧(p.2 = 0 → (getsN ps (b.drop p.1)).2.2 ≠ 0 → p'.2 = (getsN ps (b.drop p.1)).2.2)
def PV.tk (x : PV) : List UInt8 → PV × Nat × Int:=fun d => PV.tak d x
theorem GS.nil {b : List UInt8} {p : SP} (h : p.1 ≤ b.length) : GS [] b p p []:=by
 refine ⟨h,fun _ => rfl,fun q _ => ?_,fun _ q => ?_⟩
 ·rw [gets_nil];exact ⟨rfl,q,rfl⟩
 ·rw [gets_nil] at q;exact absurd rfl q
theorem GS.cons {x q : PV} {ps qs : List PV} {b : List UInt8} {p p1 p' : SP} (h1 : RdS b p p1 q.pl x.tk) (h2 : GS ps b p1 p' qs) : GS (x :: ps) b p p' (q :: qs):=by
 obtain ⟨a1,a2,a3,a4⟩:=h1
 obtain ⟨b1,b2,b3,b4⟩:=h2
 refine ⟨b1,fun e => ?_,fun e hs => ?_,fun e hs => ?_⟩
 ·rw [b2 (by rw [a2 e];exact e),a2 e]
 ·by_cases h0 : (x.tak (b.drop p.1)).2.2 = 0
  ·rw [gets_ok x ps _ h0] at hs ⊢
   obtain ⟨q1,q2⟩:=a3 e h0
   have hd : b.drop p1.1 = (b.drop p.1).drop (x.tak (b.drop p.1)).2.1:=by rw [List.drop_drop,q2];rfl
   rw [← hd] at hs ⊢
   obtain ⟨c1,c2,c3⟩:=b3 (by rw [q2]) hs
   exact ⟨by rw [List.map_cons,c1,q1,PV.tk],c2,c3⟩
  ·rw [gets_bad x ps _ h0] at hs
   exact absurd hs h0
 ·by_cases h0 : (x.tak (b.drop p.1)).2.2 = 0
  ·rw [gets_ok x ps _ h0] at hs ⊢
   obtain ⟨q1,q2⟩:=a3 e h0
   have hd : b.drop p1.1 = (b.drop p.1).drop (x.tak (b.drop p.1)).2.1:=by rw [List.drop_drop,q2];rfl
   rw [← hd] at hs ⊢
   exact b4 (by rw [q2]) hs
  ·rw [gets_bad x ps _ h0]
   have q1:=a4 e h0
   rw [b2 (by rw [q1];exact h0),q1]
   rfl
theorem RdS.map {α β : Type} {b : List UInt8} {p p' : SP} {v : α} {T : List UInt8 → α × Nat × Int} (f : α → β) {T' : List UInt8 → β × Nat × Int} (h : RdS b p p' v T) (hT : ∀ d,T' d = (f (T d).1,(T d).2.1,(T d).2.2)) : RdS b p p' (f v) T':=by
 obtain ⟨h1,h2,h3,h4⟩:=h
 refine ⟨h1,h2,fun e q => ?_,fun e q => ?_⟩
 ·rw [hT] at q ⊢
  obtain ⟨r1,r2⟩:=h3 e q
  exact ⟨by rw [r1],r2⟩
 ·rw [hT] at q ⊢
  exact h4 e q
theorem tkP_bad {b : List UInt8} {m : Nat} {p : SP} (h : p.2 ≠ 0) : tkP b m p = p:=by unfold tkP;rw [if_neg h]
theorem rd_num {b : List UInt8} {m : Nat} {p : SP} (hp : p.1 ≤ b.length) : RdS b p (tkP b m p) (nmV b m p) (fun d => (if d.length < m then 0 else numN d m,m,if d.length < m then 1 else 0)):=by
 refine ⟨tkP_le hp,fun e => by rw [tkP_bad e],fun e q => ?_,fun e q => ?_⟩
 ·simp only at q ⊢
  by_cases h : (b.drop p.1).length < m
  ·rw [if_pos h] at q;cases q
  ·have hok : p.2 = 0∧p.1 + m ≤ b.length:=⟨e,by rw [List.length_drop] at h;omega⟩
   rw [if_neg h,nmV_ok hok]
   exact ⟨rfl,(tkP_ok hok).1⟩
 ·simp only at q ⊢
  by_cases h : (b.drop p.1).length < m
  ·rw [if_pos h,(tkP_no (b:=b) (m:=m) (p:=p) (fun k => by rw [List.length_drop] at h;omega)).1]
   unfold flP;rw [if_pos e]
  ·rw [if_neg h] at q;exact absurd rfl q
theorem rd_u32 {b : List UInt8} {p : SP} (hp : p.1 ≤ b.length) (x : UInt32) : RdS b p (tkP b 4 p) (.u32 (UInt32.ofNat (nmV b 4 p))) (PV.u32 x).tk:=(rd_num (m:=4) hp).map (fun n => PV.u32 (UInt32.ofNat n)) fun d => rfl
theorem rd_u64 {b : List UInt8} {p : SP} (hp : p.1 ≤ b.length) (x : Nat) : RdS b p (tkP b 8 p) (.u64 (nmV b 8 p)) (PV.u64 x).tk:=(rd_num (m:=8) hp).map (fun n => PV.u64 n) fun d => rfl
theorem rd_h32 {b : List UInt8} {p : SP} (hp : p.1 ≤ b.length) (s : List UInt8) : RdS b p (tkP b 32 p) (.h32 (padH (tkB b 32 p))) (PV.h32 s).tk:=by
 refine ⟨tkP_le hp,fun e => by rw [tkP_bad e],fun e q => ?_,fun e q => ?_⟩
 ·have q' : (if (b.drop p.1).length < 32 then (1 : Int) else 0) = 0:=q
  have h : ¬ (b.drop p.1).length < 32:=if10 q'
  have hok : p.2 = 0∧p.1 + 32 ≤ b.length:=⟨e,by rw [List.length_drop] at h;omega⟩
  rw [(tkP_ok hok).1,(tkP_ok hok).2,padH_full (by rw [List.length_take];omega)]
  show _ = PV.h32 ((b.drop p.1).take 32)∧_ = (p.1 + (if (b.drop p.1).length < 32 then 0 else 32),(0 : Int))
  rw [if_neg h]
  exact ⟨rfl,rfl⟩
 ·have q' : (if (b.drop p.1).length < 32 then (1 : Int) else 0) ≠ 0:=q
  by_cases h : (b.drop p.1).length < 32
  ·show _ = (if (b.drop p.1).length < 32 then (1 : Int) else 0)
   rw [if_pos h,(tkP_no (b:=b) (m:=32) (p:=p) (fun k => by rw [List.length_drop] at h;omega)).1]
   unfold flP;rw [if_pos e]
  ·rw [if_neg h] at q';exact absurd rfl q'
theorem rd_head {b : List UInt8} {p : SP} (hp : p.1 ≤ b.length) (x : Hd) : RdS b p (if hasB b.length 80 p = true then (p.1 + 80,0) else hasP b.length 80 p) (.head (if hasB b.length 80 p = true then hgetL ((b.drop p.1).take 80) else zHdr)) (PV.head x).tk:=by
 by_cases hh : hasB b.length 80 p = true
 ·rw [if_pos hh,if_pos hh]
  have h:=of_decide_eq_true hh
  have h8 : ¬ (b.drop p.1).length < 80:=by rw [List.length_drop];omega
  refine ⟨h.2,fun e => absurd h.1 e,fun e q => ⟨rfl,rfl⟩,fun e q => ?_⟩
  exact absurd (show (if (b.drop p.1).length < 80 then (1 : Int) else 0) = 0 from if_neg h8) q
 ·have hf : hasB b.length 80 p = false:=by simpa using hh
  rw [if_neg hh,if_neg hh,hasP_no hf]
  have h:=of_decide_eq_false hf
  refine ⟨?_,fun e => ?_,fun e q => ?_,fun e q => ?_⟩
  ·unfold flP;split <;> exact hp
  ·unfold flP;rw [if_neg e]
  ·have q' : (if (b.drop p.1).length < 80 then (1 : Int) else 0) = 0:=q
   exact absurd ⟨e,by have:=if10 q';rw [List.length_drop] at this;omega⟩ h
  ·unfold flP;rw [if_pos e]
   show 1 = (if (b.drop p.1).length < 80 then (1 : Int) else 0)
   rw [if_pos (by rw [List.length_drop];have:=fun k => h ⟨e,k⟩;omega)]
theorem rd_bytes {b : List UInt8} {p : SP} (hp : p.1 ≤ b.length) (A : Option Addr) (l : List UInt8) (c : Nat) :
  RdS b p (if hasB b.length (ctV b 1024 p) (ctP b 1024 p) = true then ((ctP b 1024 p).1 + ctV b 1024 p,0) else hasP b.length (ctV b 1024 p) (ctP b 1024 p)) (.bytes none (if hasB b.length (ctV b 1024 p) (ctP b 1024 p) = true then (b.drop (ctP b 1024 p).1).take (ctV b 1024 p) else []) 0) (PV.bytes A l c).tk:=by
 have hl1 : (ctP b 1024 p).1 ≤ b.length:=ctP_le hp
 have hT : ∀ d,(PV.bytes A l c).tk d = (.bytes none (bytN d 1024).1 0,(bytN d 1024).2.1,(bytN d 1024).2.2):=fun d => rfl
 by_cases h0 : p.2 = 0
 ·have e1 : ctP b 1024 p = (p.1 + (bndN (b.drop p.1) 1024).2.1,(bndN (b.drop p.1) 1024).2.2):=by unfold ctP;rw [if_pos h0]
  have e2 : ctV b 1024 p = (bndN (b.drop p.1) 1024).1:=by unfold ctV;rw [if_pos h0]
  rw [e1] at hl1 ⊢
  rw [e2]
  by_cases hb : (bndN (b.drop p.1) 1024).2.2 = 0
  ·by_cases hs : (b.drop p.1).length - (bndN (b.drop p.1) 1024).2.1 < (bndN (b.drop p.1) 1024).1
   ·have hf : hasB b.length (bndN (b.drop p.1) 1024).1 (p.1 + (bndN (b.drop p.1) 1024).2.1,(bndN (b.drop p.1) 1024).2.2) = false:=decide_eq_false fun k => by
     have:=k.2;rw [List.length_drop] at hs;simp only at this;omega
    have eb : bytN (b.drop p.1) 1024 = ([],0,1):=by unfold bytN;rw [if_pos hb,if_pos hs]
    rw [hf,if_neg (by simp),if_neg (by simp),hasP_no hf]
    unfold flP
    rw [if_pos hb]
    refine ⟨hl1,fun e => absurd h0 e,fun _ q => ?_,fun _ _ => ?_⟩
    ·rw [hT,eb] at q;cases q
    ·rw [hT,eb]
   ·have hf : hasB b.length (bndN (b.drop p.1) 1024).1 (p.1 + (bndN (b.drop p.1) 1024).2.1,(bndN (b.drop p.1) 1024).2.2) = true:=decide_eq_true ⟨hb,by
     rw [List.length_drop] at hs;simp only at hl1 ⊢;omega⟩
    have eb : bytN (b.drop p.1) 1024 = (((b.drop p.1).drop (bndN (b.drop p.1) 1024).2.1).take (bndN (b.drop p.1) 1024).1,(bndN (b.drop p.1) 1024).2.1 + (bndN (b.drop p.1) 1024).1,0):=by unfold bytN;rw [if_pos hb,if_neg hs]
    rw [hf,if_pos rfl,if_pos rfl]
    refine ⟨?_,fun e => absurd h0 e,fun _ _ => ?_,fun _ q => ?_⟩
    ·rw [List.length_drop] at hs;simp only at hl1 ⊢;omega
    ·rw [hT,eb]
     exact ⟨by simp only [List.drop_drop],by simp only [Nat.add_assoc]⟩
    ·rw [hT,eb] at q;exact absurd rfl q
  ·have hf : hasB b.length (bndN (b.drop p.1) 1024).1 (p.1 + (bndN (b.drop p.1) 1024).2.1,(bndN (b.drop p.1) 1024).2.2) = false:=decide_eq_false fun k => hb k.1
   have eb : bytN (b.drop p.1) 1024 = ([],0,(bndN (b.drop p.1) 1024).2.2):=by unfold bytN;rw [if_neg hb]
   rw [hf,if_neg (by simp),if_neg (by simp),hasP_no hf]
   unfold flP
   rw [if_neg hb]
   refine ⟨hl1,fun e => absurd h0 e,fun _ q => ?_,fun _ _ => ?_⟩
   ·rw [hT,eb] at q;exact absurd q hb
   ·rw [hT,eb]
 ·have e1 : ctP b 1024 p = p:=by unfold ctP;rw [if_neg h0]
  rw [e1]
  have hf : hasB b.length (ctV b 1024 p) p = false:=decide_eq_false fun k => h0 k.1
  rw [hf,if_neg (by simp),if_neg (by simp),hasP_no hf]
  unfold flP
  rw [if_neg h0]
  exact ⟨hp,fun _ => rfl,fun e => absurd e h0,fun e => absurd e h0⟩
end Go.Proofs.Ytbgpgdhndanigaa
/- florinref09's reader: block. (printed by gen_kr.py) -/
set_option linter.unusedSimpArgs false
set_option linter.unusedVariables false
namespace Go.Proofs.Ytbgpgdhndanigaa
open Go.RowKit
attribute [local go_sem ↓] Go.wp_at_zero Go.wp_at_succ
noncomputable def zrblk : Array Value:=match (Try.prog.info? 33).bind (·.zero) with | some (.agg c) => c | _ => #[]
theorem zrblk_letter : ∃ zs : Array Value,zs.size = 71∧(∀ w,(zeroValue 33).run Try.prog w = .ok (.agg zs) w)∧¬ zs = #[]∧zs.toList = (msgZ 0).blk :=
 ⟨zrblk,by kernel_rfl,fun w => by kernel_rfl,(fun h => by have : zrblk.size = 71:=by kernel_rfl
                                                          rw [h] at this;cases this),by kernel_rfl⟩
theorem slice_LH (A : Option Addr) (N c k m : Nat) (h : k + m ≤ N) (hc : N ≤ c) : ∃ P,(∀ y : World,(Instr.slice 31 (.slice A N c) (some (.int .i64 (k : Int))) (some (.int .i64 ((k : Int) + m))) none).run Try.prog y = .ok (.slice P m (c - k)) y)∧P = if c = k then A else A.map (·.add (k * 1)):=by
 refine ⟨_,fun y => ?_,rfl⟩
 have eb : Try.prog.elem 31 = 5:=by kernel_rfl
 have es : ∀ y : World,(sizeOf 5).run Try.prog y = .ok 1 y:=fun y => by kernel_rfl
 have hh : ((k : Int) + m).toNat = k + m:=by omega
 rw [run_slice_lh y 31 A N c (by rw [eb];exact Try.underlying31) .i64 .i64 (k : Int) ((k : Int) + m) (by omega) (by omega) (by omega),eb,es,Result.andThen_ok,hh,sliced]
 have e1 : k + m - Int.toNat (k : Int) = m:=by show k + m - k = m;omega
 rw [e1]
 rfl
theorem blk_put {m : MsgR} (hb : m.bh.ok) {h : Hd} (ho : h.ok) : splice m.blk 0 h.cells = MsgR.blk { m with bh:=h }:=by
 unfold splice MsgR.blk
 rw [List.take_zero,List.nil_append,Nat.zero_add,Hd.len ho,List.drop_left' (Hd.len hb)]
theorem blk_set68 {m : MsgR} (hb : m.bh.ok) (t : UInt32) : m.blk.set 68 (u32v t) = MsgR.blk { m with total:=t }:=by
 unfold MsgR.blk;rw [List.set_append_right _ _ (by rw [Hd.len hb];omega),Hd.len hb];rfl
theorem blk_set69 {m : MsgR} (hb : m.bh.ok) (A : Option Addr) (l : List (List UInt8)) (c : Nat) : m.blk.set 69 (.slice A l.length c) = MsgR.blk { m with sA:=A,shs:=l,sc:=c }:=by
 unfold MsgR.blk;rw [List.set_append_right _ _ (by rw [Hd.len hb];omega),Hd.len hb];rfl
theorem blk_set70 {m : MsgR} (hb : m.bh.ok) (A : Option Addr) (l : List UInt8) (c : Nat) : m.blk.set 70 (.slice A l.length c) = MsgR.blk { m with fA:=A,fs:=l,fc:=c }:=by
 unfold MsgR.blk;rw [List.set_append_right _ _ (by rw [Hd.len hb];omega),Hd.len hb];rfl
def Bld (S : Nat) (src : SP → List Value) (b : List UInt8) (p : SP) (w : World) (e : Ending) (w' : World) : Prop :=
 ∃ (m : MsgR) (bs : Array Value) (p' : SP),e = .returned (.agg bs)∧bs.toList = m.blk∧m.bh.ok∧(∀ x ∈ m.shs,x.length = 32)∧Bq S 27 32 w w' m.sA m.sc m.shs.length (hsL m.shs)∧Bq S 5 1 w w' m.fA m.fc m.fs.length (m.fs.map u8v)∧Blk w' S 85 (src p') ∧
   GS [.head zHdr,.u32 0,.hsh none [] 0 4096,.bytes none [] 0] b p p' [.head m.bh,.u32 m.total,.hsh m.sA m.shs m.sc 4096,.bytes m.fA m.fs m.fc]
set_option maxRecDepth 100000 in
set_option maxHeartbeats 8000000 in
theorem r9block_any (S : Nat) (A : Option Addr) (b : List UInt8) (c : Nat) (p : SP) (w : World) (hb : Blk w S 85 (srcL A b.length c p)) (hp : p.1 ≤ b.length) (hc : b.length ≤ c) (hl : b.length ≤ 1000000000) (hcm : c ≤ maxLen) (hr : RdX (some S) w A (b.map u8v)) :
  Calls Try.prog 63 #[.pointer (some ⟨S,0,none⟩)] w (Bld S (srcL A b.length c) b p w):=by
 have hrr : ∀ y,KeepB S w y → RdX (some S) y A (b.map u8v):=fun y k => hr.kb k
 have HSC : Hid (∀ (m : Nat) (p : SP) (y : World),Blk y S 85 (srcL A b.length c p) → p.1 ≤ b.length → m ≤ 1000000 → Calls Try.prog 79 #[.pointer (some ⟨S,0,none⟩),iv m] y (Red S 85 (srcL A b.length c (hasP b.length m p)) (.bool (hasB b.length m p)) y)):=Lib.hid fun m p y h1 h2 h3 => r9has_any S A b c p m y h1 h2 hl (by omega)
 have NUM : Hid (∀ (p : SP) (y : World),KeepB S w y → Blk y S 85 (srcL A b.length c p) → p.1 ≤ b.length → Calls Try.prog 58 #[.pointer (some ⟨S,0,none⟩),iv 4] y (Red S 85 (srcL A b.length c (tkP b 4 p)) (u64v (nmV b 4 p)) y)):=Lib.hid fun p y k h2 h3 => r9num_any S A b c p 4 y h2 h3 hc hl hcm (hrr y k) (by omega) (by omega)
 have CNT : Hid (∀ (p : SP) (y : World),KeepB S w y → Blk y S 85 (srcL A b.length c p) → p.1 ≤ b.length → Calls Try.prog 80 #[.pointer (some ⟨S,0,none⟩),u64v 1024] y (Red S 85 (srcL A b.length c (ctP b 1024 p)) (iv (ctV b 1024 p)) y)):=Lib.hid fun p y k h2 h3 => r9count_any S A b c p 1024 y h2 h3 hc hl hcm (hrr y k) (by omega)
 have HHS : Hid (∀ (p : SP) (y : World),KeepB S w y → Blk y S 85 (srcL A b.length c p) → p.1 ≤ b.length → Calls Try.prog 59 #[.pointer (some ⟨S,0,none⟩),u64v 4096] y (RowD S 85 (srcL A b.length c) 27 32 hsL b p (fun d => thsN d 4096) (fun x => x.length = 32) 4096 y)):=Lib.hid fun p y k h2 h3 => r9hashes_any S A b c 4096 p y h2 h3 hc hl hcm (hrr y k) (by omega)
 have GET : Hid (∀ (a : Nat) (P : Option Addr) (y : World),KeepB S w y → a + 80 ≤ b.length → P = (if c = a then A else A.map (·.add (a * 1))) → Calls Try.prog 83 #[.slice P 80 (c - a)] y fun e w' => ∃ cs,e = .returned (.tuple #[.agg cs,iv 0])∧HdA (hgetL ((b.drop a).take 80)) cs∧Keep y w'):=Lib.hid fun a P y k h1 h2 => by
  have q:=Rd.drop (k:=a) (cap:=c) (hrr y k).rd (by rw [List.length_map];omega) (by rw [List.length_map];exact hc)
  rw [← h2,← List.map_drop] at q
  have q2:=q.take 80
  rw [← List.map_take] at q2
  exact rhget_any P ((b.drop a).take 80) (c - a) y (by rw [List.length_take,List.length_drop];omega) q2
 have FRD : Hid (∀ (a n : Nat) (P : Option Addr) (y : World),KeepB S w y → a + n ≤ b.length → P = (if c = a then A else A.map (·.add (a * 1))) → Rd y P (((b.drop a).take n).map u8v)):=Lib.hid fun a n P y k h1 h2 => by
  have q:=Rd.drop (k:=a) (cap:=c) (hrr y k).rd (by rw [List.length_map];omega) (by rw [List.length_map];exact hc)
  rw [← h2,← List.map_drop] at q
  have q2:=q.take n
  rw [← List.map_take] at q2
  exact q2
 have R1:=Lib.hid (rd_head hp zHdr)
 have HP:=Lib.hid hp
 have hSw:=hb.lt
 have HB:=Lib.hid hb
 obtain ⟨zs,hz1,hz2,hz3,hz4⟩:=zrblk_letter
 have HZL:=Lib.hid hz4
 obtain ⟨zd,hzdA,hzd0⟩:=zhead_letterA
 have hzd1:=hzdA.z;have hzdn:=hzdA.n
 clear hb hr hrr hz4 hzdA
 unfold maxLen at hcm
 obtain ⟨L,hL⟩ : ∃ L,b.length = L:=⟨_,rfl⟩
 have HLL:=Lib.hid hL
 rw [hL] at HB HSC NUM CNT HHS GET FRD R1 hc hl hp ⊢
 clear hL
 go_enter Try.func63,Try.ntmps63
 go_upto_region 2 with fail
 obtain ⟨w1,hw1⟩ : ∃ x,x = (w.alloc (.cells zs 33)).alloc (.cells zs 33):=⟨_,rfl⟩
 have HR1 : Hid (Blk w1 w.heap.size 33 zs.toList):=by rw [hw1];exact Lib.hid ((Blk.new w _ zs.toList).alloc _)
 have HG1 : Hid (Blk w1 (w.heap.size + 1) 33 (msgZ 0).blk):=by
  rw [hw1,← HZL.out]
  have q:=Blk.new (w.alloc (.cells zs 33)) 33 zs.toList
  rw [World.size_alloc] at q
  exact Lib.hid q
 have hk1 : Keep w w1:=by rw [hw1];exact keep_trans (keep_new _ _) (keep_new _ _)
 have HS1:=Lib.hid (HB.out.keep hk1)
 have KB1 : Hid (KeepB S w w1):=Lib.hid (KeepX.of hk1)
 rw [← hw1]
 clear hw1 hk1 HB
 obtain ⟨r,hrr⟩ : ∃ r,w.heap.size = r:=⟨_,rfl⟩
 obtain ⟨G,hG⟩ : ∃ G,r + 1 = G:=⟨_,rfl⟩
 have HRW:=Lib.hid hrr
 rw [hrr] at HR1 hSw;rw [hrr,hG] at HG1
 simp only [hrr,hG]
 have hrG : r < G:=by omega
 clear hrr hG
 go_wp2_with fail
 refine (HSC.out 80 p _ HS1.out hp (by omega)).mono ?_
 rintro e w2 ⟨rfl,hb2,hk2⟩
 have HS2:=Lib.hid hb2;have HR2:=Lib.hid (hk2.blk HR1.out (by omega));have HG2:=Lib.hid (hk2.blk HG1.out (by omega));have KB2 : Hid (KeepB S w w2):=Lib.hid (KB1.out.trans hk2 (fun _ _ q => q))
 clear hb2 hk2 HS1 HR1 HG1 KB1
 go_upto_if 8 with fail
 go_cut [0] (fun v wx => v = .pointer (some ⟨S,0,none⟩)∧∃ (h : Hd) (p1 : SP),h.ok∧p1.1 ≤ L∧Hid (RdS b p p1 (.head h) (PV.head zHdr).tk)∧Hid (Blk wx S 85 (srcL A L c p1))∧Hid (Blk wx G 33 (MsgR.blk { msgZ 0 with bh:=h }))∧Hid (Blk wx r 33 zs.toList)∧Hid (KeepB S w wx))
 case first =>
  cases hB : hasB L 80 p with
  | false =>
    rw [hB,if_neg (by simp),if_neg (by simp)] at R1
    have hle:=R1.out.1
    rw [HLL.out] at hle
    rw [hB] at *
    clear hB HSC NUM CNT HHS GET FRD
    go_wp2_with fail
    go_meet
    exact ⟨rfl,zHdr,_,⟨rfl,rfl⟩,hle,R1,HS2,HG2,HR2,KB2⟩
  | true =>
    rw [hB,if_pos rfl,if_pos rfl] at R1
    obtain ⟨a,e0⟩:=p
    obtain ⟨e00,ha⟩:=of_decide_eq_true hB
    simp only at e00 ha R1
    subst e00
    have hle : a + 80 ≤ L:=ha
    have hPP : hasP L 80 (a,0) = (a,0):=if_pos ha
    rw [hPP] at HS2
    rw [hB] at *
    obtain ⟨P,hsl,hP⟩:=slice_LH A L c a 80 hle hc
    have hsl : ∀ y : World,(Instr.slice 31 (.slice A L c) (some (.int .i64 (a : Int))) (some (.int .i64 ((a : Int) + 80))) none).run Try.prog y = .ok (.slice P 80 (c - a)) y:=hsl
    have hwa : IntKind.i64.wrap ((a : Int) + 80) = (a : Int) + 80:=IntWalk.i64_in _ (by omega)
    have GE:=Lib.hid fun y k => GET.out a P y k hle hP
    have hok : (hgetL ((b.drop a).take 80)).ok:=hgetL_ok (by rw [List.length_take,List.length_drop,HLL.out];omega)
    have HOK:=Lib.hid hok
    clear hB hPP HSC NUM CNT HHS GET FRD hP hok ha
    generalize hgetL ((b.drop a).take 80) = h at *
    go_upto_region 3 with fail
    go_cut [4] (fun v wx => ∃ (gh : Nat) (hs : Array Value),v = .pointer (some ⟨gh,0,none⟩)∧Hid (HdA h hs)∧Hid (Blk wx gh 30 hs.toList)∧G < gh∧Hid (Keep w2 wx))
    case first =>
     refine wp_region_tree (.take [0,1,2,3,4,5,6,7,8,9,10,11,12,13] (.fork 14 (.take [15,16,17] (.force [18] .done)) 18 (.force [14] (.take [15,16,17] .done)))) [19,20] (by kernel_rfl) (by kernel_rfl) (fun y0 hk => ?_)
     have HSy:=Lib.hid (HS2.out.keep hk);have KBy : Hid (KeepB S w y0):=Lib.hid (KB2.out.trans (KeepX.of hk) (fun _ _ q => q));have HKy:=Lib.hid hk
     have hGy : G < y0.heap.size:=(HG2.out.keep hk).lt
     clear hk
     have l0:=aft_cell (HSy.out.cell 0);have l1:=aft_cell (HSy.out.cell 1)
     try simp only [List.getElem?_cons_succ,List.getElem?_cons_zero] at  l0 l1
     refine mt_take y0 (Below.refl _ _) ?_
     simp only [pick_cons,pick_nil,nth_zero,nth_succ]
     repeat (go_big_quiet_step (fail))
     clear l0 l1 hsl
     refine wpQuiet_nil (mt_fork ?_ ?_)
     ·simp only [pick_cons,pick_nil,nth_zero,nth_succ]
      refine fc_step rfl (fun K hK => ?_)
      go_simp
      (with_reducible refine (GE.out y0 KBy.out).mono ?_)
      rintro e y1 ⟨hs,rfl,hA,hk⟩
      refine hK _ _ hk ?_
      clear hK K
      have HA:=Lib.hid hA
      have HK1:=Lib.hid (keep_trans HKy.out hk)
      have hs1 : y0.heap.size ≤ y1.heap.size:=hk.size
      clear hA hk
      refine fc_nil (mt_take y1 (Below.refl _ _) ?_)
      simp only [pick_cons,pick_nil,nth_zero,nth_succ]
      repeat (go_big_quiet_step (fail))
      refine wpQuiet_nil (mt_force ?_)
      simp only [pick_cons,pick_nil,nth_zero,nth_succ]
      refine fc_step rfl (fun K hK => ?_)
      go_simp
      refine hK _ _ (keep_new _ _) ?_
      clear hK K
      refine fc_nil (mt_end ?_)
      have hhz:=HA.out.z;have hhn:=HA.out.n;have hhi:=HA.out.i
      have hst : (storeCells ⟨y1.heap.size,0,none⟩ hs.toList 0).run Try.prog (y1.alloc (.cells zd 30)) = .ok () (y1.alloc (.cells hs 30)):=run_storeCells_new (P:=Try.prog) y1 30 zd hs hhi (hzd1.trans hhz.symm) (by have:=all_oneCell_toArray HA.out.o;rwa [Array.toArray_toList] at this)
      have HXX : Hid (Blk (y1.alloc (.cells hs 30)) y1.heap.size 30 hs.toList):=Lib.hid (Blk.new y1 _ hs.toList)
      have HKX : Hid (Keep w2 (y1.alloc (.cells hs 30))):=Lib.hid (keep_trans HK1.out (keep_new _ _))
      go_wp2
      go_meet
      exact ⟨y1.heap.size,hs,rfl,HA,HXX,by omega,HKX⟩
     ·simp only [pick_cons,pick_nil,nth_zero,nth_succ]
      refine fc_step rfl (fun K hK => ?_)
      go_simp
      refine hK _ _ (keep_new _ _) ?_
      clear hK K
      obtain ⟨y1,hy1⟩ : ∃ x,x = y0.alloc (.cells zd 30):=⟨_,rfl⟩
      have HX1 : Hid (Blk y1 y0.heap.size 30 zd.toList):=by rw [hy1];exact Lib.hid (Blk.new y0 _ zd.toList)
      have hk : Keep y0 y1:=by rw [hy1];exact keep_new _ _
      have HK1:=Lib.hid (keep_trans HKy.out hk);have KB1 : Hid (KeepB S w y1):=Lib.hid (KBy.out.trans (KeepX.of hk) (fun _ _ q => q))
      rw [← hy1]
      clear hy1 hk
      refine fc_nil (mt_force ?_)
      simp only [pick_cons,pick_nil,nth_zero,nth_succ]
      refine fc_step rfl (fun K hK => ?_)
      go_simp
      (with_reducible refine (GE.out y1 KB1.out).mono ?_)
      rintro e y2 ⟨hs,rfl,hA,hk⟩
      refine hK _ _ hk ?_
      clear hK K
      have HA:=Lib.hid hA
      have HK2:=Lib.hid (keep_trans HK1.out hk);have HX2:=Lib.hid (HX1.out.keep hk)
      clear hA hk
      refine fc_nil (mt_take y2 (Below.refl _ _) ?_)
      simp only [pick_cons,pick_nil,nth_zero,nth_succ]
      repeat (go_big_quiet_step (fail))
      refine wpQuiet_nil (mt_end ?_)
      have hhz:=HA.out.z;have hhn:=HA.out.n;have hhi:=HA.out.i
      obtain ⟨gh,hgh⟩ : ∃ g,y0.heap.size = g:=⟨_,rfl⟩
      rw [hgh] at HX2 hGy
      simp only [hgh]
      obtain ⟨y3,hst,hb3,hg3⟩:=run_store_blk (P:=Try.prog) hs.toList HX2.out (by simp [hzd1,hhz]) HA.out.o
      have HXX:=Lib.hid hb3
      have HKX : Hid (Keep w2 y3):=Lib.hid (HK2.out.grown hg3 HK2.out.size (fun q hq => by have:=Option.some.inj hq;have:=HKy.out.size;omega))
      clear hb3 hg3
      go_wp2
      go_meet
      exact ⟨gh,hs,rfl,HA,HXX,hGy,HKX⟩
    obtain ⟨gh,hs,rfl,HA,HX3,hGg,HK3⟩:=hcut
    have hhz:=HA.out.z;have hhn:=HA.out.n;have hhi:=HA.out.i
    have HS3:=Lib.hid (HS2.out.keep HK3.out);have HR3:=Lib.hid (HR2.out.keep HK3.out);have HG3:=Lib.hid (HG2.out.keep HK3.out);have KB3 : Hid (KeepB S w wc):=Lib.hid (KB2.out.trans (KeepX.of HK3.out) (fun _ _ q => q))
    obtain ⟨w4,hst,hb4,hg4⟩:=run_store_prt (P:=Try.prog) 0 hs.toList HG3.out (by rw [Array.length_toList,hhz];show 0 + 68 ≤ (msgZ 0).blk.length;rw [MsgR.blk_len ⟨rfl,rfl⟩];omega) HA.out.o
    have hbk : splice (msgZ 0).blk 0 hs.toList = MsgR.blk { msgZ 0 with bh:=h }:=by rw [HA.out.l];exact blk_put ⟨rfl,rfl⟩ HOK.out
    rw [hbk] at hb4
    have HG4:=Lib.hid hb4
    have HS4:=Lib.hid (HS3.out.grown hg4 (fun q => by have:=Option.some.inj q;omega));have HR4:=Lib.hid (HR3.out.grown hg4 (fun q => by have:=Option.some.inj q;omega));have KB4 : Hid (KeepB S w w4):=Lib.hid (KB3.out.new hg4 (by have:=HRW.out;omega))
    have RX : Hid (wc.rangeAt gh 0 hs.toList):=Lib.hid (range_of HX3.out 0 hs.toList (by simp [List.take_of_length_le]))
    clear hb4 hg4 hbk HS3 HR3 HG3 KB3 HX3 HS2 HR2 HG2 KB2 HK3 GE
    go_upto_region 5 with ((with_reducible refine load_partg gh 0 hs (Eq.trans ?_ rfl) RX.out _ Try.underlying30 rfl hhi rfl ?_);rfl)
    clear hst RX hhz hhn hhi
    have c1:=HS4.out.cell 1;have f1:=HS4.out.frozen 1
    try simp only [List.getElem?_cons_succ,List.getElem?_cons_zero] at c1
    obtain ⟨w5,hw5⟩ : ∃ x,x = w4.setCell ⟨S,1,none⟩ (iv ((a : Int) + 80)):=⟨_,rfl⟩
    have HS5 : Hid (Blk w5 S 85 (srcL A L c (a + 80,0))):=by rw [hw5];exact Lib.hid (HS4.out.set_ 1 (iv ((a : Int) + 80)))
    have kk : KeepB S w4 w5:=by rw [hw5];exact KeepB.set (KeepX.of (Below.refl _ _)) 1 _
    have HR5:=Lib.hid (kk.blk HR4.out (by omega));have HG5:=Lib.hid (kk.blk HG4.out (by omega));have KB5 : Hid (KeepB S w w5):=Lib.hid (KB4.out.trans kk (fun _ _ q => q))
    clear kk HS4 HR4 HG4 KB4
    go_wp2_with fail
    rw [← hw5]
    clear hw5
    go_meet
    exact ⟨rfl,h,_,HOK.out,hle,R1,HS5,HG5,HR5,KB5⟩
 obtain ⟨rfl,h,p1,hok,hl1,R1',HSc,HGc,HRc,KBc⟩:=hcut
 clear R1 HS2 HR2 HG2 KB2 GET hzd1 hzd0 hzdn zd hp
 have HOK:=Lib.hid hok
 have hl1' : p1.1 ≤ b.length:=by rw [HLL.out];exact hl1
 have R2:=Lib.hid (rd_u32 hl1' 0)
 have N1:=Lib.hid (NUM.out p1 wc KBc.out HSc.out hl1)
 have hl2 : (tkP b 4 p1).1 ≤ L:=by rw [← HLL.out];exact tkP_le hl1'
 obtain ⟨V1,hV1⟩ : ∃ V,nmV b 4 p1 = V:=⟨_,rfl⟩
 obtain ⟨tt,htt⟩ : ∃ v : UInt32,v = UInt32.ofNat V1:=⟨_,rfl⟩
 have hvv : (V1 : Int) % 4294967296 = (tt.toNat : Int):=by rw [htt,UInt32.toNat_ofNat'];omega
 have hvw : IntKind.u32.wrap (V1 : Int) = (tt.toNat : Int):=by rw [IntKind.wrap_u32];exact hvv
 rw [hV1] at N1 R2
 rw [← htt] at R2
 clear hV1 htt hok NUM hl1'
 generalize tkP b 4 p1 = p2 at *
 go_upto_region 7 with (go_at_call 58;refine N1.out.mono ?_;rintro e w6 ⟨rfl,hb6,hk6⟩;have HS6:=Lib.hid hb6;have HR6:=Lib.hid (hk6.blk HRc.out (by omega));have HG6:=Lib.hid (hk6.blk HGc.out (by omega));have KB6 : Hid (KeepB S w w6):=Lib.hid (KBc.out.trans hk6 (fun _ _ q => q));have xc:=HG6.out.cell 68;have fc:=HG6.out.frozen 68;rw [(blk_tail (m:={ msgZ 0 with bh:=h }) HOK.out).1] at xc;clear hb6 hk6)
 obtain ⟨w7,hw7⟩ : ∃ x,x = w6.setCell ⟨G,68,none⟩ (.int .u32 tt.toNat):=⟨_,rfl⟩
 have HG7 : Hid (Blk w7 G 33 (MsgR.blk { msgZ 0 with bh:=h,total:=tt })):=by rw [hw7,← blk_set68 (m:={ msgZ 0 with bh:=h }) HOK.out tt];exact Lib.hid (HG6.out.set_ 68 _)
 have hg7 : w6.grownBy w7 (some G):=by rw [hw7];exact grown_set (grown_refl _ _)
 have HS7:=Lib.hid (HS6.out.grown hg7 (fun q => by have:=Option.some.inj q;omega));have HR7:=Lib.hid (HR6.out.grown hg7 (fun q => by have:=Option.some.inj q;omega));have KB7 : Hid (KeepB S w w7):=Lib.hid (KB6.out.new hg7 (by have:=HRW.out;omega))
 rw [← hw7]
 clear hw7 hg7 xc fc HS6 HR6 HG6 KB6 HSc HGc HRc KBc N1 hvv hvw
 -- the hashes
 have H1:=Lib.hid (HHS.out p2 w7 KB7.out HS7.out hl2)
 have hsz7:=HR7.out.lt
 go_upto_region 8 with (go_at_call 59;refine H1.out.mono ?_;rintro e w8 ⟨sA,sc,p3,shs,rfl,hbq,hb8,hrd,hsl,hsn⟩;have HS8:=Lib.hid hb8;have HR8:=Lib.hid (hbq.k.blk HR7.out (by omega));have HG8:=Lib.hid (hbq.k.blk HG7.out (by omega));have BQ8 : Hid (Bq S 27 32 w7 w8 sA sc shs.length (hsL shs)):=Lib.hid hbq;have R3:=Lib.hid hrd;have HSL:=Lib.hid hsl;have xc:=HG8.out.cell 69;have fc:=HG8.out.frozen 69;rw [(blk_tail (m:={ msgZ 0 with bh:=h,total:=tt }) HOK.out).2.1] at xc;clear hbq hb8 hrd hsl)
 obtain ⟨w9,hw9⟩ : ∃ x,x = w8.setCell ⟨G,69,none⟩ (.slice sA shs.length sc):=⟨_,rfl⟩
 have HG9 : Hid (Blk w9 G 33 (MsgR.blk { msgZ 0 with bh:=h,total:=tt,sA:=sA,shs:=shs,sc:=sc })):=by rw [hw9,← blk_set69 (m:={ msgZ 0 with bh:=h,total:=tt }) HOK.out sA shs sc];exact Lib.hid (HG8.out.set_ 69 _)
 have hg9 : w8.grownBy w9 (some G):=by rw [hw9];exact grown_set (grown_refl _ _)
 have hG7 : G < w7.heap.size:=HG7.out.lt
 have k79 : KeepX (fun k => k = S ∨ k = G) w7 w9:=((BQ8.out.k.wide (fun _ q => .inl q)).grown hg9 fun j _ q => .inr (Option.some.inj q).symm)
 have HS9:=Lib.hid (HS8.out.grown hg9 (fun q => by have:=Option.some.inj q;omega));have HR9:=Lib.hid (HR8.out.grown hg9 (fun q => by have:=Option.some.inj q;omega));have KB9 : Hid (KeepB S w w9):=Lib.hid (KeepB.new (KB7.out.trans BQ8.out.k (fun _ _ q => q)) hg9 (by have:=HRW.out;omega))
 have OW9 : Hid (w9.ownsRow w7.heap.size 27 32 (.slice sA shs.length sc) shs.length (hsL shs)):=by rw [hw9];exact Lib.hid (ownsRow_setCell_below BQ8.out.o (a:=⟨G,69,none⟩) hG7 _)
 rw [← hw9]
 clear hw9 hg9 k79 xc fc HS7 HR7 HG7 KB7 HS8 HR8 HG8 BQ8 H1
 obtain ⟨B7,hB7⟩ : ∃ k,w7.heap.size = k:=⟨_,rfl⟩
 rw [hB7] at OW9 hG7 hsz7
 clear hB7
 -- the flags
 have hl3 : p3.1 ≤ L:=by rw [← HLL.out];exact R3.out.1
 have hl3' : p3.1 ≤ b.length:=by rw [HLL.out];exact hl3
 have R4:=Lib.hid (rd_bytes hl3' none [] 0)
 rw [HLL.out] at R4
 have C1:=Lib.hid (CNT.out p3 w9 KB9.out HS9.out hl3)
 have hl4 : (ctP b 1024 p3).1 ≤ L:=by rw [← HLL.out];exact ctP_le hl3'
 have hn1:=ctV_le b 1024 p3
 clear CNT HHS hl3'
 generalize ctP b 1024 p3 = p4 at *
 generalize ctV b 1024 p3 = n at *
 go_wp2_with fail
 refine C1.out.mono ?_
 clear C1
 rintro e w10 ⟨rfl,hb10,hk10⟩
 have HS10:=Lib.hid hb10;have HR10:=Lib.hid (hk10.blk HR9.out (by omega));have HG10:=Lib.hid (hk10.blk HG9.out (by omega));have KB10 : Hid (KeepB S w w10):=Lib.hid (KB9.out.trans hk10 (fun _ _ q => q))
 have OW10:=Lib.hid (own_kx OW9.out hk10 (fun g q e => by have:=(OW9.out.lt g q).1;omega))
 clear hb10 hk10 HS9 HR9 HG9 KB9 OW9
 go_wp2_with fail
 refine (HSC.out n p4 _ HS10.out hl4 (by omega)).mono ?_
 clear HSC
 rintro e w11 ⟨rfl,hb11,hk11⟩
 have HS11:=Lib.hid hb11;have HR11:=Lib.hid (hk11.blk HR10.out (by omega));have HG11:=Lib.hid (hk11.blk HG10.out (by omega));have KB11 : Hid (KeepB S w w11):=Lib.hid (KB10.out.trans hk11 (fun _ _ q => q))
 have OW11:=Lib.hid (own_kx OW10.out hk11 (fun g q e => by have:=(OW10.out.lt g q).1;omega))
 clear hb11 hk11 HS10 HR10 HG10 KB10 OW10
 go_upto_if 48 with fail
 go_cut [0] (fun v wx => v = .pointer (some ⟨S,0,none⟩)∧∃ (fA : Option Addr) (fs : List UInt8) (fc : Nat) (p5 : SP),Hid (RdS b p3 p5 (.bytes none fs 0) (PV.bytes none [] 0).tk)∧Hid (Bq S 5 1 w wx fA fc fs.length (fs.map u8v))∧Hid (Blk wx S 85 (srcL A L c p5))∧Hid (Blk wx G 33 (MsgR.blk { msgZ 0 with bh:=h,total:=tt,sA:=sA,shs:=shs,sc:=sc,fA:=fA,fs:=fs,fc:=fc }))∧Hid (Blk wx r 33 zs.toList)∧Hid (wx.ownsRow B7 27 32 (.slice sA shs.length sc) shs.length (hsL shs))∧Hid ((Value.slice fA fs.length fc).ownBlock ≠ some r))
 case first =>
  cases hB : hasB L n p4 with
  | false =>
    rw [hB,if_neg (by simp),if_neg (by simp)] at R4
    rw [hB] at *
    clear hB FRD
    go_wp2_with fail
    go_meet
    exact ⟨rfl,none,[],0,_,R4,Lib.hid (Bq.nil KB11.out (by have:=HRW.out;omega)),HS11,HG11,HR11,OW11,Lib.hid (fun q => by cases q)⟩
  | true =>
    rw [hB,if_pos rfl,if_pos rfl] at R4
    obtain ⟨a,e0⟩:=p4
    obtain ⟨e00,ha⟩:=of_decide_eq_true hB
    simp only at e00 ha R4
    subst e00
    have hle : a + n ≤ L:=ha
    have hPP : hasP L n (a,0) = (a,0):=if_pos ha
    rw [hPP] at HS11
    rw [hB] at *
    obtain ⟨P,hsl,hP⟩:=slice_LH A L c a n hle hc
    have hwa : IntKind.i64.wrap ((a : Int) + n) = (a : Int) + n:=IntWalk.i64_in _ (by omega)
    have FR : Hid (∀ y,KeepB S w y → Rd y P (((b.drop a).take n).map u8v)):=Lib.hid fun y k => FRD.out a n P y k hle hP
    have hfl : ((b.drop a).take n).length = n:=by rw [List.length_take,List.length_drop,HLL.out];omega
    have HFL:=Lib.hid hfl
    clear hB hPP FRD hP hfl ha
    generalize (b.drop a).take n = fl at *
    go_upto_region 10 with fail
    refine wp_region_tree (.take [1,2,3,4,5,6,7,8,9,10,11,12,13,14,15] (.force [0,16] .done)) [17,18] (by kernel_rfl) (by kernel_rfl) (fun y0 hk => ?_)
    have HS12:=Lib.hid (HS11.out.keep hk);have HR12:=Lib.hid (HR11.out.keep hk);have HG12:=Lib.hid (HG11.out.keep hk);have KB12 : Hid (KeepB S w y0):=Lib.hid (KB11.out.trans (KeepX.of hk) (fun _ _ q => q));have OW12:=Lib.hid (own_keep OW11.out hk)
    clear hk HS11 HR11 HG11 KB11 OW11
    have a0:=aft_cell (HS12.out.cell 0);have a1:=aft_cell (HS12.out.cell 1)
    try simp only [List.getElem?_cons_succ,List.getElem?_cons_zero] at a0 a1
    refine mt_take y0 (Below.refl _ _) ?_
    simp only [pick_cons,pick_nil,nth_zero,nth_succ]
    repeat (go_big_quiet_step (fail))
    refine wpQuiet_nil (mt_force ?_)
    clear a0 a1 hsl
    simp only [pick_cons,pick_nil,nth_zero,nth_succ]
    refine fc_step rfl (fun K hK => ?_)
    go_simp
    refine hK _ _ (keep_new _ _) ?_
    clear hK K
    obtain ⟨y1,hy1⟩ : ∃ x,x = y0.alloc (.cells #[] 5):=⟨_,rfl⟩
    have L0 : Hid (y1.ownsRow y0.heap.size 5 1 (.slice (some ⟨y0.heap.size,0,none⟩) 0 0) 0 []):=by rw [hy1];exact Lib.hid (own_zero _ _ _)
    have hk : Keep y0 y1:=by rw [hy1];exact keep_new _ _
    have HS13:=Lib.hid (HS12.out.keep hk);have HR13:=Lib.hid (HR12.out.keep hk);have HG13:=Lib.hid (HG12.out.keep hk);have KB13 : Hid (KeepB S w y1):=Lib.hid (KB12.out.trans (KeepX.of hk) (fun _ _ q => q));have OW13:=Lib.hid (own_keep OW12.out hk)
    have hs01:=hk.size;have hG0:=HG12.out.lt
    rw [← hy1]
    clear hy1 hk HS12 HR12 HG12 KB12 OW12
    refine fc_step rfl (fun K hK => ?_)
    refine wp_lit byteT y0.heap.size _ (by rfl) L0.out (by omega) P n (c - a) (fl.map u8v) (by rfl) (by rw [List.length_map,HFL.out,Nat.mul_one]) (FR.out _ KB13.out) (one_bytes _) (by omega) (by omega) ?_
    rintro v2 y2 own2 hk
    obtain ⟨fA,fc,rfl,-,-,-⟩:=own_form own2
    refine hK _ _ hk ?_
    clear hK K
    have OWF:=Lib.hid own2
    have HS14:=Lib.hid (HS13.out.keep hk);have HR14:=Lib.hid (HR13.out.keep hk);have HG14:=Lib.hid (HG13.out.keep hk);have KB14 : Hid (KeepB S w y2):=Lib.hid (KB13.out.trans (KeepX.of hk) (fun _ _ q => q));have OW14:=Lib.hid (own_keep OW13.out hk)
    clear hk own2 HS13 HR13 HG13 KB13 OW13 L0
    refine fc_nil (mt_end ?_)
    try simp only [Act.put,Array.set!_eq_setIfInBounds,List.setIfInBounds_toArray,List.set_cons_succ,List.set_cons_zero]
    have xc:=HG14.out.cell 70;have fcc:=HG14.out.frozen 70;rw [(blk_tail (m:={ msgZ 0 with bh:=h,total:=tt,sA:=sA,shs:=shs,sc:=sc }) HOK.out).2.2] at xc
    obtain ⟨w15,hw15⟩ : ∃ x,x = y2.setCell ⟨G,70,none⟩ (.slice fA n fc):=⟨_,rfl⟩
    have HG15 : Hid (Blk w15 G 33 (MsgR.blk { msgZ 0 with bh:=h,total:=tt,sA:=sA,shs:=shs,sc:=sc,fA:=fA,fs:=fl,fc:=fc })):=by rw [hw15,← blk_set70 (m:={ msgZ 0 with bh:=h,total:=tt,sA:=sA,shs:=shs,sc:=sc }) HOK.out fA fl fc,HFL.out];exact Lib.hid (HG14.out.set_ 70 _)
    have hg15 : y2.grownBy w15 (some G):=by rw [hw15];exact grown_set (grown_refl _ _)
    have HS15:=Lib.hid (HS14.out.grown hg15 (fun q => by have:=Option.some.inj q;omega));have HR15:=Lib.hid (HR14.out.grown hg15 (fun q => by have:=Option.some.inj q;omega));have KB15 : Hid (KeepB S w w15):=Lib.hid (KB14.out.new hg15 (by have:=HRW.out;omega))
    have OW15 : Hid (w15.ownsRow B7 27 32 (.slice sA shs.length sc) shs.length (hsL shs)):=by rw [hw15];exact Lib.hid (ownsRow_setCell_below OW14.out (a:=⟨G,70,none⟩) hG7 _)
    have OF15 : Hid (w15.ownsRow y0.heap.size 5 1 (.slice fA n fc) n (fl.map u8v)):=by rw [hw15];exact Lib.hid (ownsRow_setCell_below OWF.out (a:=⟨G,70,none⟩) hG0 _)
    clear hg15 HS14 HR14 HG14 KB14 OW14 OWF
    go_upto_region 11 with fail
    rw [← hw15]
    clear hw15 xc fcc
    have c1:=HS15.out.cell 1;have f1:=HS15.out.frozen 1
    try simp only [List.getElem?_cons_succ,List.getElem?_cons_zero] at c1
    obtain ⟨w16,hw16⟩ : ∃ x,x = w15.setCell ⟨S,1,none⟩ (iv ((a : Int) + n)):=⟨_,rfl⟩
    have HS16 : Hid (Blk w16 S 85 (srcL A L c (a + n,0))):=by rw [hw16];exact Lib.hid (HS15.out.set_ 1 (iv ((a : Int) + n)))
    have kk : KeepB S w15 w16:=by rw [hw16];exact KeepB.set (KeepX.of (Below.refl _ _)) 1 _
    have HR16:=Lib.hid (kk.blk HR15.out (by omega));have HG16:=Lib.hid (kk.blk HG15.out (by omega));have KB16 : Hid (KeepB S w w16):=Lib.hid (KB15.out.trans kk (fun _ _ q => q))
    have OW16:=Lib.hid (own_kx OW15.out kk (fun g q e => by have:=(OW15.out.lt g q).1;omega))
    have OF16:=Lib.hid (own_kx OF15.out kk (fun g q e => by have:=(OF15.out.lt g q).1;omega))
    clear kk HS15 HR15 HG15 KB15 OW15 OF15
    go_wp2_with fail
    rw [← hw16]
    clear hw16
    go_meet
    exact ⟨rfl,fA,fl,fc,_,R4,Lib.hid ⟨by rw [HFL.out];exact own_base OF16.out (by have:=HRW.out;omega),KB16.out,by have:=HRW.out;omega⟩,HS16,HG16,HR16,OW16,Lib.hid (fun q => by rw [HFL.out] at q;have:=(OF16.out.lt r q).1;omega)⟩
 obtain ⟨rfl,fA,fs,fc,p5,R5,BF,HSd,HGd,HRd,OWd,HNF⟩:=hcut
 clear R4 HS11 HR11 HG11 KB11 OW11 FRD
 have HGS : Hid (GS [.head zHdr,.u32 0,.hsh none [] 0 4096,.bytes none [] 0] b p p5 [.head h,.u32 tt,.hsh sA shs sc 4096,.bytes fA fs fc]):=Lib.hid (GS.cons R1'.out (GS.cons R2.out (GS.cons (RdS.map (fun l => PV.hsh none l 0 4096) R3.out fun d => rfl) (GS.cons R5.out (GS.nil R5.out.1)))))
 clear R1' R2 R3 R5
 obtain ⟨m,hm⟩ : ∃ m : MsgR,{ msgZ 0 with bh:=h,total:=tt,sA:=sA,shs:=shs,sc:=sc,fA:=fA,fs:=fs,fc:=fc } = m:=⟨_,rfl⟩
 rw [hm] at HGd
 obtain ⟨bs,hbs⟩ : ∃ bs : Array Value,bs.toList = m.blk:=⟨_,rfl⟩
 have hmo : m.bh.ok:=by rw [← hm];exact HOK.out
 have hbz : bs.size = 71:=by rw [← Array.length_toList,hbs];exact MsgR.blk_len hmo
 have hbi : (Try.prog.info? 33).map (·.size) = some bs.size:=by rw [hbz];exact rblk_info
 have hbn : ¬ bs = #[]:=fun q => by rw [q] at hbz;cases hbz
 have hbo : ∀ v ∈ bs.toList,v.oneCell' = true:=by
  rw [hbs]
  intro u hu
  unfold MsgR.blk at hu
  rcases List.mem_append.1 hu with q | q
  ·exact Hd.one _ u q
  ·simp only [List.mem_cons,List.not_mem_nil,or_false] at q
   rcases q with rfl | rfl | rfl <;> rfl
 have HMM:=Lib.hid hm;have HMO:=Lib.hid hmo;have HBS:=Lib.hid hbs
 rw [← hbs] at HGd
 obtain ⟨w20,hst,hb20,hg20⟩:=run_store_blk (P:=Try.prog) bs.toList HRd.out (by simp [hz1,hbz]) hbo
 have Hb20:=Lib.hid hb20;have HG20:=Lib.hid hg20
 have HS20:=Lib.hid (HSd.out.grown hg20 (fun q => by have:=Option.some.inj q;omega))
 clear hb20 hg20 hm hmo hbs hbo HSd
 go_wp2_with ((with_reducible refine load_arr G bs (Eq.trans ?_ rfl) HGd.out _ Try.underlying33 rfl hbi ?_);rfl)
 have hb20:=Hb20.out
 have kd : KeepX (fun k => k = r) wc w20:=(KeepX.of (Below.refl _ _)).grown HG20.out fun j _ q => (Option.some.inj q).symm
 have o1:=own_kx OWd.out kd (fun g q e => by have:=(OWd.out.lt g q).1;omega)
 have BF2 : Bq S 5 1 w w20 fA fc fs.length (fs.map u8v):=BF.out.far (.inr ⟨by have:=HRW.out;omega,HNF.out⟩) HG20.out
 exact bodyPost_ret (v:=.agg bs) (results_cell_row Try.results63 _ _ r _ _ _ _ rfl hb20 Try.underlying33 rfl (by rw [List.size_toArray,Array.length_toList];exact hbi)) rfl
  ⟨m,bs,p5,rfl,HBS.out,HMO.out,by rw [← HMM.out];exact HSL.out,by rw [← HMM.out];exact ⟨own_base o1 (by have:=HRW.out;omega),BF2.k,BF2.s⟩,by rw [← HMM.out];exact BF2,HS20.out,by rw [← HMM.out];exact HGS.out⟩
end Go.Proofs.Ytbgpgdhndanigaa
