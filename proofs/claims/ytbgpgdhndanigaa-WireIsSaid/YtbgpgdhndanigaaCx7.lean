/- Texts merged by pack.py: Ib, Ic, Id, Ie, If, Ig, Ih, Ii, Ij. -/
import Derived.Test.YtbgpgdhndanigaaCx6
/- wire.lay: whatever the part. (printed by gen_ib.py) -/
set_option linter.unusedSimpArgs false
set_option linter.unusedVariables false
namespace Go.Proofs.Ytbgpgdhndanigaa
open Go.RowKit
def PV.fit (w : World) : PV → Prop
 | .u32 _ => True
 | .u64 n => n < 2 ^ 64
 | .hsh A l _ _ => l.length ≤ 4096∧(∀ s ∈ l,s.length = 32)∧Rd w A (hsL l)
 | .h32 s => s.length = 32
 | .heads A l _ => l.length ≤ 2000∧(∀ h ∈ l,h.ok)∧Rd w A (l.flatMap Hd.cells)
 | .items A l _ => l.length ≤ 50000∧(∀ x ∈ l,x.ok)∧Rd w A (l.flatMap Itm.cells)
 | .head h => h.ok
 | .bytes A l _ => l.length ≤ 50000∧Rd w A (l.map u8v)
 | .tx t => t.at w∧saneT t = true∧(txL t).length ≤ 90000000
theorem itL_len {l : List Itm} (h : ∀ x ∈ l,x.ok) : (l.flatMap itL).length = 36 * l.length:=by
 induction l with
 | nil => rfl
 | cons x l ih =>
   rw [List.flatMap_cons,List.length_append,ih (fun y hy => h y (List.mem_cons_of_mem _ hy)),List.length_cons]
   have : (itL x).length = 36:=by unfold itL;rw [List.length_append,lo_len,h x List.mem_cons_self]
   omega
theorem flat32_len {l : List (List UInt8)} (h : ∀ x ∈ l,x.length = 32) : l.flatten.length = 32 * l.length:=by
 induction l with
 | nil => rfl
 | cons x l ih =>
   rw [List.flatten_cons,List.length_append,ih (fun y hy => h y (List.mem_cons_of_mem _ hy)),List.length_cons,h x List.mem_cons_self]
   omega
theorem lay_any (w0 : World) (v : Value) (N : Nat) (xs : List Value) (p : PV) (w : World) (hk0 : Keep w0 w) (own : w.ownsRow w0.heap.size 5 1 v N xs) (hN : N ≤ 900000000) (hp : p.fit w0) :
  Calls Try.prog 22 #[v,p.val] w (Apd w0.heap.size v (N + (layL p).length) (xs ++ (layL p).map u8v) w):=by
 cases p with
 | u32 x => exact lay_u32 w0.heap.size v N xs w own hk0.size hN x
 | u64 n => exact lay_u64 w0.heap.size v N xs w own hk0.size hN n hp
 | hsh A l c most =>
   have q:=lay_hsh w0 v N xs A l c most w hk0 own hN hp.1 hp.2.1 hp.2.2
   rw [Nat.add_assoc,← flat32_len hp.2.1,← cpt_len,← List.length_append] at q
   exact q
 | h32 s =>
   have q:=lay_h32 w0 v N xs s _ w hk0 own hN (HashA.of hp) hp
   have e : (layL (.h32 s)).length = 32:=hp
   rw [e];exact q
 | heads A l c => exact lay_heads w0 v N xs A l c w hk0 own hN hp.1 hp.2.1 hp.2.2
 | items A l c =>
   have q:=lay_items w0 v N xs A l c w hk0 own hN hp.1 hp.2.1 hp.2.2
   rw [Nat.add_assoc,← itL_len hp.2.1,← cpt_len,← List.length_append] at q
   exact q
 | head h =>
   have q:=lay_head w0 v N xs h _ w hk0 own hN (HdA.of hp) hp
   have e : (layL (.head h)).length = 80:=hputL_len hp
   rw [e];exact q
 | bytes A l c =>
   have q:=lay_bytes w0 v N xs A l c w hk0 own hN hp.1 hp.2
   rw [Nat.add_assoc,← cpt_len,← List.length_append,List.append_assoc,← List.map_append] at q
   exact q
 | tx t =>
   have q:=lay_tx w0 v N xs t w hk0 own hN hp.1 hp.2.1 hp.2.2
   have e : layL (.tx t) = txL t:=if_pos hp.2.1
   rw [e];exact q
end Go.Proofs.Ytbgpgdhndanigaa
/- What wire.Put answers; the parts of a message that fits. -/
set_option linter.unusedSimpArgs false
set_option linter.unusedVariables false
namespace Go.Proofs.Ytbgpgdhndanigaa
open Go.RowKit
theorem txL_le {t : TxR} {w : World} (h : t.at w) (hs : saneT t = true) : (txL t).length ≤ 30000000:=by
 unfold saneT at hs
 rw [decide_eq_true_eq] at hs
 obtain ⟨h1,h2,h3,h4,h5⟩:=hs
 have a:=fm_le inL 10100 t.ins fun x hx => inL_le (h.is x hx).p (h4 x hx)
 have b:=fm_le outL 10100 t.outs fun x hx => outL_le (h5 x hx)
 have c:=siz_le t.ins.length
 have d:=siz_le t.outs.length
 unfold txL
 simp only [List.length_append,lo_len,cpt_len]
 omega
theorem parts_fit {m : MsgR} {w : World} (h : m.at_ w) (hf : fitsB m = true) : ∀ p ∈ partsM m,p.fit w:=by
 unfold fitsB at hf
 rw [decide_eq_true_eq] at hf
 obtain ⟨k0,k1,hl,hh,hi,hs,hb,ht,-⟩:=hf
 intro p hp
 unfold partsM at hp
 have o:=h.o
 have f1 : (PV.hsh m.lA m.ls m.lc 101).fit w:=⟨by omega,o.l,h.l⟩
 have f2 : (PV.heads m.hA m.hs m.hc).fit w:=⟨hh,o.h,h.h⟩
 have f3 : (PV.items m.iA m.is m.ic).fit w:=⟨hi,o.i,h.i⟩
 have f4 : (PV.hsh m.sA m.shs m.sc 4096).fit w:=⟨hs,o.z,h.s⟩
 have f5 : (PV.bytes m.fA m.fs m.fc).fit w:=⟨by omega,h.f⟩
 have f6 : (PV.u64 m.nonce).fit w:=o.n
 have f7 : (PV.h32 m.stop).fit w:=o.s
 have f8 : (PV.head m.bh).fit w:=o.b
 split at hp
 ·simp only [List.mem_cons,List.not_mem_nil,or_false] at hp
  rcases hp with rfl | rfl | rfl <;> first | trivial | assumption
 split at hp
 ·simp only [List.mem_cons,List.not_mem_nil,or_false] at hp
  subst hp;exact f6
 split at hp
 ·simp only [List.mem_cons,List.not_mem_nil,or_false] at hp
  rcases hp with rfl | rfl | rfl <;> first | trivial | assumption
 split at hp
 ·simp only [List.mem_cons,List.not_mem_nil,or_false] at hp
  subst hp;exact f2
 split at hp
 ·simp only [List.mem_cons,List.not_mem_nil,or_false] at hp
  subst hp;exact f3
 split at hp
 ·simp only [List.mem_cons,List.not_mem_nil,or_false] at hp
  rcases hp with rfl | rfl | rfl | rfl <;> first | trivial | assumption
 split at hp
 ·rename_i hk
  simp only [List.mem_cons,List.not_mem_nil,or_false] at hp
  subst hp
  exact ⟨h.t,ht hk,Nat.le_trans (txL_le h.t (ht hk)) (by omega)⟩
 ·cases hp
theorem parts_len (m : MsgR) : (partsM m).length ≤ 4:=by
 unfold partsM
 repeat' split
 all_goals simp
theorem layL_le {p : PV} {w : World} (h : p.fit w) : (layL p).length ≤ 90000000:=by
 cases p with
 | u32 x => show (loN x.toNat 4).length ≤ _;rw [lo_len];omega
 | u64 n => show (loN n 8).length ≤ _;rw [lo_len];omega
 | hsh A l c most => show (cptL l.length ++ l.flatten).length ≤ _;rw [List.length_append,flat32_len h.2.1,cpt_len];have:=siz_le l.length;have:=h.1;omega
 | h32 s => show s.length ≤ _;rw [show s.length = 32 from h];omega
 | heads A l c => show (hpall l).length ≤ _;unfold hpall;rw [List.length_append,cpt_len,hpa_len l h.2.1];have:=siz_le l.length;have:=h.1;omega
 | items A l c => show (cptL l.length ++ l.flatMap itL).length ≤ _;rw [List.length_append,itL_len h.2.1,cpt_len];have:=siz_le l.length;have:=h.1;omega
 | head x => show (hputL x).length ≤ _;rw [hputL_len h];omega
 | bytes A l c => show (cptL l.length ++ l).length ≤ _;rw [List.length_append,cpt_len];have:=siz_le l.length;have:=h.1;omega
 | tx t => show (if saneT t = true then txL t else []).length ≤ _;rw [if_pos h.2.1];exact h.2.2
def putL (m : MsgR) : List UInt8:=if fitsB m = true then (partsM m).flatMap layL else []
end Go.Proofs.Ytbgpgdhndanigaa
/- wire.Put. -/
set_option linter.unusedSimpArgs false
set_option linter.unusedVariables false
namespace Go.Proofs.Ytbgpgdhndanigaa
open Go.RowKit
attribute [local go_sem ↓] Go.wp_at_zero Go.wp_at_succ
set_option maxRecDepth 100000 in
set_option maxHeartbeats 4000000 in
theorem put_any (m : MsgR) (cs : Array Value) (hA : MsA m cs) (w : World) (h : m.at_ w) :
  Calls Try.prog 7 #[.agg cs] w fun e w' => ∃ v,e = .returned (.tuple #[v,iv (if fitsB m = true then 0 else 2)])∧w'.ownsRow w.heap.size 5 1 v (putL m).length ((putL m).map u8v)∧Keep w w':=by
 have hcn:=hA.n;have hcz:=hA.z;have hci:=hA.i
 have FT : Hid (∀ y,Keep w y → Calls Try.prog 13 #[.agg cs] y fun e w' => e = .returned (.bool (fitsB m))∧Keep y w'):=Lib.hid fun y hy => fits_any m cs hA h.o y (h.t.keep hy)
 have PT : Hid (∀ y,Calls Try.prog 21 #[.agg cs] y fun e w' => ∃ A,e = .returned (.slice A (partsM m).length (partsM m).length)∧Rd w' A ((partsM m).map PV.val)∧Keep y w'):=Lib.hid fun y => parts_any m cs hA h.o y
 have PF : Hid (fitsB m = true → ∀ y,Keep w y → ∀ p ∈ partsM m,p.fit y):=Lib.hid fun hf y hy => parts_fit (h.keep hy) hf
 have hpl:=parts_len m
 have HP : Hid (putL m = if fitsB m = true then (partsM m).flatMap layL else []):=Lib.hid rfl
 generalize putL m = R at *
 generalize fitsB m = FB at *
 generalize partsM m = ps at *
 clear h
 go_enter Try.func7,Try.ntmps7
 go_upto_region 1 with fail
 obtain ⟨w1,hw1⟩ : ∃ w1,w1 = w.alloc (.cells cs 49):=⟨_,rfl⟩
 have HBc : Hid (Blk w1 w.heap.size 49 cs.toList):=by rw [hw1];exact Blk.new w _ cs.toList
 have HK1 : Hid (Keep w w1):=by rw [hw1];exact keep_new _ _
 rw [← hw1]
 clear hw1
 cases FB with
 | false =>
   have hR:=HP.out
   rw [if_neg (by decide)] at hR
   subst hR
   clear PF PT HP
   go_wp2_with (first | ((with_reducible refine load_arr w.heap.size cs (Eq.trans ?_ rfl) HBc.out _ Try.underlying49 rfl hci ?_);rfl) | (go_at_call 13;refine (FT.out _ HK1.out).mono ?_;rintro e w2 ⟨rfl,k2⟩;have HK2:=Lib.hid (keep_trans HK1.out k2);clear k2))
   exact bodyPost_ret (v:=.tuple #[.slice none 0 0,iv 2]) (by simp [results,Try.results7]) rfl ⟨_,rfl,World.ownsRow_nil _ _ _ _,HK2.out⟩
 | true =>
   have hR:=HP.out
   rw [if_pos rfl] at hR
   have HPF:=Lib.hid (PF.out rfl)
   have HRR:=Lib.hid hR
   clear PF HP hR
   go_upto_region 3 with (first | ((with_reducible refine load_arr w.heap.size cs (Eq.trans ?_ rfl) HBc.out _ Try.underlying49 rfl hci ?_);rfl) | (go_at_call 13;refine (FT.out _ HK1.out).mono ?_;rintro e w2 ⟨rfl,k2⟩;have HK2:=Lib.hid (keep_trans HK1.out k2);have HB2:=Lib.hid (HBc.out.keep k2);clear k2))
   clear FT HBc
   go_upto_region 5 with (first | ((with_reducible refine load_arr w.heap.size cs (Eq.trans ?_ rfl) HB2.out _ Try.underlying49 rfl hci ?_);rfl) | (go_at_call 21;refine (PT.out _).mono ?_;rintro e w3 ⟨A,rfl,r3,k3⟩;have HK3:=Lib.hid (keep_trans HK2.out k3);have RP:=Lib.hid r3;clear k3 r3))
   have HF3:=Lib.hid (HPF.out _ HK3.out)
   obtain ⟨n,hn⟩ : ∃ n,ps.length = n:=⟨_,rfl⟩
   have HN:=Lib.hid hn
   rw [hn] at hpl
   simp only [hn]
   clear hn HPF PT HB2
   have Own0 : Hid (w3.ownsRow w3.heap.size 5 1 (.slice none 0 0) ((ps.take 0).flatMap layL).length (((ps.take 0).flatMap layL).map u8v)):=Lib.hid (World.ownsRow_nil _ _ _ _)
   have K0 : Hid (Keep w3 w3):=Lib.hid (Below.refl _ _)
   go_wp2_with fail
   go_loopw [4,13] (fun x i wr => ∃ k : Nat,k ≤ n∧i = .int .i64 k∧Hid (wr.ownsRow w3.heap.size 5 1 x ((ps.take k).flatMap layL).length (((ps.take k).flatMap layL).map u8v))∧Hid (Keep w3 wr)) (fun _ i _ => n - (intOf i).toNat)
   case atStart => exact ⟨0,Nat.zero_le _,rfl,Own0,K0⟩
   case round =>
    obtain ⟨k,hk,rfl,Own1,KR⟩:=hrel
    clear Own0 K0
    by_cases hlt : k < n
    ·have d1 : (k : Int) < n:=by omega
     have hkl : k < ps.length:=by rw [HN.out];exact hlt
     obtain ⟨g,off,hA',hgb,F⟩:=(RP.out.keep KR.out).at (k:=k) (by rw [List.length_map];exact hkl)
     have c0 : wr.cell? ⟨g,off + k,none⟩ = some (ps[k].val):=by rw [F k (by rw [List.length_map];exact hkl),List.getElem_map]
     have hpf:=HF3.out ps[k] (List.getElem_mem hkl)
     have hb:=fm_le layL 90000000 (ps.take k) fun x hx => layL_le (HF3.out x (List.mem_of_mem_take hx))
     have hb2 : (ps.take k).length ≤ 4:=by rw [List.length_take];omega
     have HT : Hid ((ps.take (k + 1)).flatMap layL = (ps.take k).flatMap layL ++ layL ps[k]):=Lib.hid (by rw [List.take_succ_eq_append_getElem hkl,List.flatMap_append];simp only [List.flatMap_cons,List.flatMap_nil,List.append_nil])
     have LY:=Lib.hid (lay_any w3 _ _ _ ps[k] wr KR.out Own1.out (by omega) hpf)
     generalize ps[k] = p at *
     subst hA'
     clear hgb F hb hb2 hpf
     generalize p.val = pv at *
     go_wp2_with (go_at_call 22;refine LY.out.mono ?_;rintro e w4 ⟨v4,rfl,own4,gr4⟩;have Own4:=Lib.hid own4;have K4:=Lib.hid (gr4.old Own1.out KR.out);clear own4 gr4)
     go_roundw
     case rel => exact ⟨k + 1,by omega,by go_num,Lib.hid (own_eq Own4.out (by rw [HT.out,List.length_append]) (by rw [HT.out,List.map_append])),K4⟩
     case measure => simp [intOf];omega
    ·obtain rfl : k = n:=by omega
     have d1 : ¬ (k : Int) < k:=by omega
     have OwnF:=Own1.out
     rw [show ps.take k = ps from by rw [← HN.out];exact List.take_length,← HRR.out] at OwnF
     have OwnH:=Lib.hid OwnF
     clear OwnF Own1
     obtain ⟨Av,cv,rfl,-,-,-⟩:=own_form OwnH.out
     go_wp2
     exact bodyPost_ret (v:=.tuple #[.slice Av R.length cv,iv 0]) (by simp [results,Try.results7]) rfl ⟨_,rfl,own_base OwnH.out HK3.out.size,keep_trans HK3.out KR.out⟩
end Go.Proofs.Ytbgpgdhndanigaa
/- wire.take: numbers. (printed by gen_ie.py) -/
set_option linter.unusedSimpArgs false
set_option linter.unusedVariables false
namespace Go.Proofs.Ytbgpgdhndanigaa
open Go.RowKit
attribute [local go_sem ↓] Go.wp_at_zero Go.wp_at_succ
set_option maxRecDepth 100000 in
set_option maxHeartbeats 4000000 in
theorem take_u64 (x : Nat) (A : Option Addr) (b : List UInt8) (c : Nat) (w : World) (hl : b.length ≤ 1000000000) (hc : b.length ≤ c) (hr : Rd w A (b.map u8v)) :
  Calls Try.prog 29 #[.iface 23 (u64v x),.slice A b.length c] w fun e w' => e = .returned (.tuple #[.iface 23 (u64v (if b.length < 8 then 0 else numN b 8)),iv 8,iv (if b.length < 8 then 1 else 0)])∧Keep w w':=by
 have TK:=Lib.hid (taken_any A b c 8 w (by omega) (by omega) hr)
 clear hr
 by_cases h8 : b.length < 8
 ·rw [if_pos h8,if_pos h8]
  rw [if_pos h8,if_pos h8] at TK
  clear h8
  go_enter Try.func29,Try.ntmps29
  have N1 : ∀ y,(Instr.typeAssert (.iface 23 (u64v x)) 20 22 true).run Try.prog y = .ok (.tuple #[.int .u32 0,.bool false]) y:=run_assert_no Try.underlying22 rfl (by decide) zu32 _ _
  have Y1 : ∀ y,(Instr.typeAssert (.iface 23 (u64v x)) 20 23 true).run Try.prog y = .ok (.tuple #[u64v x,.bool true]) y:=run_assert_yes Try.underlying23 rfl _ _
  go_wp2_with (go_at_call 51;refine TK.out.mono ?_;rintro e w2 ⟨rfl,rfl⟩)
  exact bodyPost_ret (v:=.tuple #[.iface 23 (u64v 0),iv 8,iv 1]) (by simp [results,Try.results29]) rfl ⟨rfl,Below.refl _ _⟩
 ·rw [if_neg h8,if_neg h8]
  rw [if_neg h8,if_neg h8] at TK
  generalize numN b 8 = nv at *
  clear h8
  go_enter Try.func29,Try.ntmps29
  have N1 : ∀ y,(Instr.typeAssert (.iface 23 (u64v x)) 20 22 true).run Try.prog y = .ok (.tuple #[.int .u32 0,.bool false]) y:=run_assert_no Try.underlying22 rfl (by decide) zu32 _ _
  have Y1 : ∀ y,(Instr.typeAssert (.iface 23 (u64v x)) 20 23 true).run Try.prog y = .ok (.tuple #[u64v x,.bool true]) y:=run_assert_yes Try.underlying23 rfl _ _
  go_wp2_with (go_at_call 51;refine TK.out.mono ?_;rintro e w2 ⟨rfl,rfl⟩)
  exact bodyPost_ret (v:=.tuple #[.iface 23 (u64v nv),iv 8,iv 0]) (by simp [results,Try.results29]) rfl ⟨rfl,Below.refl _ _⟩
set_option maxRecDepth 100000 in
set_option maxHeartbeats 4000000 in
theorem take_u32 (x : UInt32) (A : Option Addr) (b : List UInt8) (c : Nat) (w : World) (hl : b.length ≤ 1000000000) (hc : b.length ≤ c) (hr : Rd w A (b.map u8v)) :
  Calls Try.prog 29 #[.iface 22 (u32v x),.slice A b.length c] w fun e w' => e = .returned (.tuple #[.iface 22 (u32v (UInt32.ofNat (if b.length < 4 then 0 else numN b 4))),iv 4,iv (if b.length < 4 then 1 else 0)])∧Keep w w':=by
 have TK:=Lib.hid (taken_any A b c 4 w (by omega) (by omega) hr)
 clear hr
 obtain ⟨V,hV⟩ : ∃ V,(if b.length < 4 then 0 else numN b 4) = V:=⟨_,rfl⟩
 obtain ⟨E,hE⟩ : ∃ E : Int,(if b.length < 4 then (1 : Int) else 0) = E:=⟨_,rfl⟩
 rw [hV,hE] at TK
 rw [hV,hE]
 clear hV hE
 obtain ⟨y32,hy⟩ : ∃ v : UInt32,v = UInt32.ofNat V:=⟨_,rfl⟩
 have hvv : (V : Int) % 4294967296 = (y32.toNat : Int):=by rw [hy,UInt32.toNat_ofNat'];omega
 have hvw : IntKind.u32.wrap (V : Int) = (y32.toNat : Int):=by rw [IntKind.wrap_u32];exact hvv
 rw [← hy]
 clear hy
 go_enter Try.func29,Try.ntmps29
 have Y1 : ∀ y,(Instr.typeAssert (.iface 22 (u32v x)) 20 22 true).run Try.prog y = .ok (.tuple #[u32v x,.bool true]) y:=run_assert_yes Try.underlying22 rfl _ _
 go_wp2_with (go_at_call 51;refine TK.out.mono ?_;rintro e w2 ⟨rfl,rfl⟩)
 exact bodyPost_ret (v:=.tuple #[.iface 22 (u32v y32),iv 4,iv E]) (by simp [results,Try.results29];try rfl) rfl ⟨rfl,Below.refl _ _⟩
set_option maxRecDepth 100000 in
set_option maxHeartbeats 4000000 in
theorem take_items (A0 : Option Addr) (n0 c0 : Nat) (A : Option Addr) (b : List UInt8) (c : Nat) (w : World) (hl : b.length ≤ 1000000000) (hc : b.length ≤ c) (hcm : c ≤ maxLen) (hr : Rd w A (b.map u8v)) :
  Calls Try.prog 29 #[.iface 42 (.slice A0 n0 c0),.slice A b.length c] w fun e w' => ∃ v,e = .returned (.tuple #[.iface 42 v,iv (titN b).2.1,iv (titN b).2.2])∧w'.ownsRow w.heap.size 70 33 v (titN b).1.length ((titN b).1.flatMap Itm.cells)∧Keep w w':=by
 obtain ⟨zh,hzA,hz0⟩:=zhash_letter32
 have TK:=Lib.hid (tit_any A b c w hl hc hcm hr)
 clear hr hzA
 generalize titN b = R at *
 go_enter Try.func29,Try.ntmps29
 have N0 : ∀ y,(Instr.typeAssert (.iface 42 (.slice A0 n0 c0)) 20 22 true).run Try.prog y = .ok (.tuple #[.int .u32 0,.bool false]) y:=run_assert_no Try.underlying22 rfl (by decide) zu32 _ _
 have N1 : ∀ y,(Instr.typeAssert (.iface 42 (.slice A0 n0 c0)) 20 23 true).run Try.prog y = .ok (.tuple #[.int .u64 0,.bool false]) y:=run_assert_no Try.underlying23 rfl (by decide) zu64 _ _
 have N2 : ∀ y,(Instr.typeAssert (.iface 42 (.slice A0 n0 c0)) 20 27 true).run Try.prog y = .ok (.tuple #[.agg zh,.bool false]) y:=run_assert_no hash_under rfl (by decide) hz0 _ _
 have N3 : ∀ y,(Instr.typeAssert (.iface 42 (.slice A0 n0 c0)) 20 103 true).run Try.prog y = .ok (.tuple #[.agg #[.slice none 0 0,.int .u64 0],.bool false]) y:=run_assert_no Try.underlying103 rfl (by decide) zhashes _ _
 have Y1 : ∀ y,(Instr.typeAssert (.iface 42 (.slice A0 n0 c0)) 20 42 true).run Try.prog y = .ok (.tuple #[.slice A0 n0 c0,.bool true]) y:=run_assert_yes Try.underlying42 rfl _ _
 go_wp2_with (go_at_call 53;refine TK.out.mono ?_;rintro e w2 ⟨v2,rfl,o2,k2⟩;have O2:=Lib.hid o2;have K2:=Lib.hid k2;clear o2 k2)
 exact bodyPost_ret (v:=.tuple #[.iface 42 v2,iv R.2.1,iv R.2.2]) (by simp [results,Try.results29]) rfl ⟨v2,rfl,O2.out,K2.out⟩
set_option maxRecDepth 100000 in
set_option maxHeartbeats 4000000 in
theorem take_hsh (A0 : Option Addr) (n0 c0 most : Nat) (A : Option Addr) (b : List UInt8) (c : Nat) (w : World) (hl : b.length ≤ 1000000000) (hc : b.length ≤ c) (hcm : c ≤ maxLen) (hm : most ≤ 1000000) (hr : Rd w A (b.map u8v)) :
  Calls Try.prog 29 #[.iface 103 (.agg #[.slice A0 n0 c0,u64v most]),.slice A b.length c] w fun e w' => ∃ v,e = .returned (.tuple #[.iface 103 (.agg #[v,u64v most]),iv (thsN b most).2.1,iv (thsN b most).2.2])∧w'.ownsRow w.heap.size 27 32 v (thsN b most).1.length (hsL (thsN b most).1)∧Keep w w':=by
 obtain ⟨zh,hzA,hz0⟩:=zhash_letter32
 have TK : Hid (∀ y,Keep w y → Calls Try.prog 52 #[.slice A b.length c,u64v most] y fun e w' => ∃ v,e = .returned (.tuple #[v,iv (thsN b most).2.1,iv (thsN b most).2.2])∧w'.ownsRow y.heap.size 27 32 v (thsN b most).1.length (hsL (thsN b most).1)∧Keep y w'):=Lib.hid fun y hy => ths_any A b c most y hl hc hcm hm (hr.keep hy)
 clear hr hzA
 generalize thsN b most = R at *
 go_enter Try.func29,Try.ntmps29
 have N0 : ∀ y,(Instr.typeAssert (.iface 103 (.agg #[.slice A0 n0 c0,u64v most])) 20 22 true).run Try.prog y = .ok (.tuple #[.int .u32 0,.bool false]) y:=run_assert_no Try.underlying22 rfl (by decide) zu32 _ _
 have N1 : ∀ y,(Instr.typeAssert (.iface 103 (.agg #[.slice A0 n0 c0,u64v most])) 20 23 true).run Try.prog y = .ok (.tuple #[.int .u64 0,.bool false]) y:=run_assert_no Try.underlying23 rfl (by decide) zu64 _ _
 have N2 : ∀ y,(Instr.typeAssert (.iface 103 (.agg #[.slice A0 n0 c0,u64v most])) 20 27 true).run Try.prog y = .ok (.tuple #[.agg zh,.bool false]) y:=run_assert_no hash_under rfl (by decide) hz0 _ _
 have Y1 : ∀ y,(Instr.typeAssert (.iface 103 (.agg #[.slice A0 n0 c0,u64v most])) 20 103 true).run Try.prog y = .ok (.tuple #[.agg #[.slice A0 n0 c0,u64v most],.bool true]) y:=run_assert_yes Try.underlying103 rfl _ _
 go_upto_region 17 with fail
 obtain ⟨w1,hw1⟩ : ∃ w1,w1 = w.alloc (.cells #[.slice A0 n0 c0,u64v most] 103):=⟨_,rfl⟩
 have HB1 : Hid (Blk w1 w.heap.size 103 [.slice A0 n0 c0,u64v most]):=by rw [hw1];exact Lib.hid (Blk.new w _ _)
 have K1 : Hid (Keep w w1):=by rw [hw1];exact Lib.hid (keep_new _ _)
 unfold u64v at hw1
 rw [← hw1]
 clear hw1
 have b1:=HB1.out.cell 1
 simp only [List.getElem?_cons_succ,List.getElem?_cons_zero] at b1
 go_wp2_with (go_at_call 52;refine (TK.out _ K1.out).mono ?_;rintro e w2 ⟨v2,rfl,o2,k2⟩;obtain ⟨A2,c2,rfl,-,-,-⟩:=own_form o2;have b1:=keep_cell k2 b1;have O2:=Lib.hid o2;have K2:=Lib.hid (keep_trans K1.out k2);clear o2 k2)
 exact bodyPost_ret (v:=.tuple #[.iface 103 (.agg #[.slice A2 R.1.length c2,u64v most]),iv R.2.1,iv R.2.2]) (by simp [results,Try.results29]) rfl ⟨_,rfl,own_base O2.out K1.out.size,K2.out⟩
end Go.Proofs.Ytbgpgdhndanigaa
/- wire.take: headers. (printed by gen_if.py) -/
set_option linter.unusedSimpArgs false
set_option linter.unusedVariables false
namespace Go.Proofs.Ytbgpgdhndanigaa
open Go.RowKit
attribute [local go_sem ↓] Go.wp_at_zero Go.wp_at_succ
set_option maxRecDepth 100000 in
set_option maxHeartbeats 4000000 in
theorem take_heads (A0 : Option Addr) (n0 c0 : Nat) (A : Option Addr) (b : List UInt8) (c : Nat) (w : World) (hl : b.length ≤ 1000000000) (hc : b.length ≤ c) (hcm : c ≤ maxLen) (hr : Rd w A (b.map u8v)) :
  Calls Try.prog 29 #[.iface 24 (.slice A0 n0 c0),.slice A b.length c] w fun e w' => ∃ v,e = .returned (.tuple #[.iface 24 v,iv b.length,iv (hgall b).2])∧w'.ownsRow w.heap.size 30 68 v (hgall b).1.length ((hgall b).1.flatMap Hd.cells)∧Keep w w':=by
 obtain ⟨zh,hzA,hz0⟩:=zhash_letter32
 obtain ⟨zd,hzD,hd0⟩:=zhead_letterA
 have TK:=Lib.hid (hgall_any A b c w hl hc hcm hr)
 clear hr hzA hzD
 generalize hgall b = R at *
 go_enter Try.func29,Try.ntmps29
 have NH : ∀ y,(Instr.typeAssert (.iface 24 (.slice A0 n0 c0)) 20 27 true).run Try.prog y = .ok (.tuple #[.agg zh,.bool false]) y:=run_assert_no hash_under rfl (by decide) hz0 _ _
 have N0 : ∀ y,(Instr.typeAssert (.iface 24 (.slice A0 n0 c0)) 20 22 true).run Try.prog y = .ok (.tuple #[.int .u32 0,.bool false]) y:=run_assert_no Try.underlying22 rfl (by decide) zu32 _ _
 have N1 : ∀ y,(Instr.typeAssert (.iface 24 (.slice A0 n0 c0)) 20 23 true).run Try.prog y = .ok (.tuple #[.int .u64 0,.bool false]) y:=run_assert_no Try.underlying23 rfl (by decide) zu64 _ _
 have N2 : ∀ y,(Instr.typeAssert (.iface 24 (.slice A0 n0 c0)) 20 103 true).run Try.prog y = .ok (.tuple #[.agg #[.slice none 0 0,.int .u64 0],.bool false]) y:=run_assert_no Try.underlying103 rfl (by decide) zhashes _ _
 have N3 : ∀ y,(Instr.typeAssert (.iface 24 (.slice A0 n0 c0)) 20 42 true).run Try.prog y = .ok (.tuple #[.slice none 0 0,.bool false]) y:=run_assert_no Try.underlying42 rfl (by decide) zitems _ _
 have N4 : ∀ y,(Instr.typeAssert (.iface 24 (.slice A0 n0 c0)) 20 31 true).run Try.prog y = .ok (.tuple #[.slice none 0 0,.bool false]) y:=run_assert_no Try.underlying31 rfl (by decide) zbytes _ _
 have N5 : ∀ y,(Instr.typeAssert (.iface 24 (.slice A0 n0 c0)) 20 30 true).run Try.prog y = .ok (.tuple #[.agg zd,.bool false]) y:=run_assert_no Try.underlying30 rfl (by decide) hd0 _ _
 have Y1 : ∀ y,(Instr.typeAssert (.iface 24 (.slice A0 n0 c0)) 20 24 true).run Try.prog y = .ok (.tuple #[.slice A0 n0 c0,.bool true]) y:=run_assert_yes Try.underlying24 rfl _ _
 go_wp2_with (go_at_call 56;refine TK.out.mono ?_;rintro e w2 ⟨v2,rfl,o2,k2⟩;have O2:=Lib.hid o2;have K2:=Lib.hid k2;clear o2 k2)
 exact bodyPost_ret (v:=.tuple #[.iface 24 v2,iv b.length,iv R.2]) (by simp [results,Try.results29]) rfl ⟨v2,rfl,O2.out,K2.out⟩
set_option maxRecDepth 100000 in
set_option maxHeartbeats 4000000 in
theorem take_bytes (A0 : Option Addr) (n0 c0 : Nat) (A : Option Addr) (b : List UInt8) (c : Nat) (w : World) (hl : b.length ≤ 1000000000) (hc : b.length ≤ c) (hcm : c ≤ maxLen) (hr : Rd w A (b.map u8v)) :
  Calls Try.prog 29 #[.iface 31 (.slice A0 n0 c0),.slice A b.length c] w fun e w' => ∃ v,e = .returned (.tuple #[.iface 31 v,iv (bytN b 1024).2.1,iv (bytN b 1024).2.2])∧w'.ownsRow w.heap.size 5 1 v (bytN b 1024).1.length ((bytN b 1024).1.map u8v)∧Keep w w':=by
 obtain ⟨zh,hzA,hz0⟩:=zhash_letter32
 obtain ⟨zd,hzD,hd0⟩:=zhead_letterA
 have TK:=Lib.hid (cbytes_any A b c 1024 w (by omega) hc (by omega) hr)
 clear hr hzA hzD
 generalize bytN b 1024 = R at *
 go_enter Try.func29,Try.ntmps29
 have NH : ∀ y,(Instr.typeAssert (.iface 31 (.slice A0 n0 c0)) 20 27 true).run Try.prog y = .ok (.tuple #[.agg zh,.bool false]) y:=run_assert_no hash_under rfl (by decide) hz0 _ _
 have N0 : ∀ y,(Instr.typeAssert (.iface 31 (.slice A0 n0 c0)) 20 22 true).run Try.prog y = .ok (.tuple #[.int .u32 0,.bool false]) y:=run_assert_no Try.underlying22 rfl (by decide) zu32 _ _
 have N1 : ∀ y,(Instr.typeAssert (.iface 31 (.slice A0 n0 c0)) 20 23 true).run Try.prog y = .ok (.tuple #[.int .u64 0,.bool false]) y:=run_assert_no Try.underlying23 rfl (by decide) zu64 _ _
 have N2 : ∀ y,(Instr.typeAssert (.iface 31 (.slice A0 n0 c0)) 20 103 true).run Try.prog y = .ok (.tuple #[.agg #[.slice none 0 0,.int .u64 0],.bool false]) y:=run_assert_no Try.underlying103 rfl (by decide) zhashes _ _
 have N3 : ∀ y,(Instr.typeAssert (.iface 31 (.slice A0 n0 c0)) 20 42 true).run Try.prog y = .ok (.tuple #[.slice none 0 0,.bool false]) y:=run_assert_no Try.underlying42 rfl (by decide) zitems _ _
 have Y1 : ∀ y,(Instr.typeAssert (.iface 31 (.slice A0 n0 c0)) 20 31 true).run Try.prog y = .ok (.tuple #[.slice A0 n0 c0,.bool true]) y:=run_assert_yes Try.underlying31 rfl _ _
 go_wp2_with (go_at_call 54;refine TK.out.mono ?_;rintro e w2 ⟨v2,rfl,o2,k2⟩;have O2:=Lib.hid o2;have K2:=Lib.hid k2;clear o2 k2)
 exact bodyPost_ret (v:=.tuple #[.iface 31 v2,iv R.2.1,iv R.2.2]) (by simp [results,Try.results29]) rfl ⟨v2,rfl,O2.out,K2.out⟩
end Go.Proofs.Ytbgpgdhndanigaa
/- wire.take: a transaction. (printed by gen_ig.py) -/
set_option linter.unusedSimpArgs false
set_option linter.unusedVariables false
namespace Go.Proofs.Ytbgpgdhndanigaa
open Go.RowKit
attribute [local go_sem ↓] Go.wp_at_zero Go.wp_at_succ
set_option maxRecDepth 100000 in
set_option maxHeartbeats 4000000 in
theorem take_tx (s : TxR) (A : Option Addr) (b : List UInt8) (c : Nat) (w : World) (hl : b.length ≤ 1000000000) (hc : b.length ≤ c) (hcm : c ≤ maxLen) (hr : Rd w A (b.map u8v)) :
  Calls Try.prog 29 #[.iface 47 (.agg #[u32v s.ver,.slice s.iA s.ins.length s.ic,.slice s.oA s.outs.length s.oc,u32v s.lock]),.slice A b.length c] w fun e w' => ∃ t : TxR,e = .returned (.tuple #[.iface 47 (.agg #[u32v t.ver,.slice t.iA t.ins.length t.ic,.slice t.oA t.outs.length t.oc,u32v t.lock]),iv (tgetN b).2.1,iv (tgetN b).2.2])∧t.pl = (tgetN b).1∧(t.at w'∧∀ W,MidF (fun _ => True) w w' W → t.at W)∧t.ins.length ≤ 1000∧t.outs.length ≤ 1000∧Keep w w':=by
 obtain ⟨zh,hzA,hz0⟩:=zhash_letter32
 obtain ⟨zd,hzD,hd0⟩:=zhead_letterA
 have TK : Hid (∀ y,Keep w y → Calls Try.prog 57 #[.slice A b.length c] y fun e w' => ∃ t : TxR,e = .returned (.tuple #[.agg #[u32v t.ver,.slice t.iA t.ins.length t.ic,.slice t.oA t.outs.length t.oc,u32v t.lock],iv (tgetN b).2.1,iv (tgetN b).2.2])∧t.pl = (tgetN b).1∧(t.at w'∧∀ W,MidF (fun _ => True) y w' W → t.at W)∧t.ins.length ≤ 1000∧t.outs.length ≤ 1000∧Keep y w'):=Lib.hid fun y hy => tget_any A b c y hl hc hcm (hr.keep hy)
 clear hr hzA hzD
 generalize tgetN b = R at *
 go_enter Try.func29,Try.ntmps29
 have NH : ∀ y,(Instr.typeAssert (.iface 47 (.agg #[u32v s.ver,.slice s.iA s.ins.length s.ic,.slice s.oA s.outs.length s.oc,u32v s.lock])) 20 27 true).run Try.prog y = .ok (.tuple #[.agg zh,.bool false]) y:=run_assert_no hash_under rfl (by decide) hz0 _ _
 have N0 : ∀ y,(Instr.typeAssert (.iface 47 (.agg #[u32v s.ver,.slice s.iA s.ins.length s.ic,.slice s.oA s.outs.length s.oc,u32v s.lock])) 20 22 true).run Try.prog y = .ok (.tuple #[.int .u32 0,.bool false]) y:=run_assert_no Try.underlying22 rfl (by decide) zu32 _ _
 have N1 : ∀ y,(Instr.typeAssert (.iface 47 (.agg #[u32v s.ver,.slice s.iA s.ins.length s.ic,.slice s.oA s.outs.length s.oc,u32v s.lock])) 20 23 true).run Try.prog y = .ok (.tuple #[.int .u64 0,.bool false]) y:=run_assert_no Try.underlying23 rfl (by decide) zu64 _ _
 have N2 : ∀ y,(Instr.typeAssert (.iface 47 (.agg #[u32v s.ver,.slice s.iA s.ins.length s.ic,.slice s.oA s.outs.length s.oc,u32v s.lock])) 20 103 true).run Try.prog y = .ok (.tuple #[.agg #[.slice none 0 0,.int .u64 0],.bool false]) y:=run_assert_no Try.underlying103 rfl (by decide) zhashes _ _
 have N3 : ∀ y,(Instr.typeAssert (.iface 47 (.agg #[u32v s.ver,.slice s.iA s.ins.length s.ic,.slice s.oA s.outs.length s.oc,u32v s.lock])) 20 42 true).run Try.prog y = .ok (.tuple #[.slice none 0 0,.bool false]) y:=run_assert_no Try.underlying42 rfl (by decide) zitems _ _
 have N4 : ∀ y,(Instr.typeAssert (.iface 47 (.agg #[u32v s.ver,.slice s.iA s.ins.length s.ic,.slice s.oA s.outs.length s.oc,u32v s.lock])) 20 31 true).run Try.prog y = .ok (.tuple #[.slice none 0 0,.bool false]) y:=run_assert_no Try.underlying31 rfl (by decide) zbytes _ _
 have N5 : ∀ y,(Instr.typeAssert (.iface 47 (.agg #[u32v s.ver,.slice s.iA s.ins.length s.ic,.slice s.oA s.outs.length s.oc,u32v s.lock])) 20 30 true).run Try.prog y = .ok (.tuple #[.agg zd,.bool false]) y:=run_assert_no Try.underlying30 rfl (by decide) hd0 _ _
 have N6 : ∀ y,(Instr.typeAssert (.iface 47 (.agg #[u32v s.ver,.slice s.iA s.ins.length s.ic,.slice s.oA s.outs.length s.oc,u32v s.lock])) 20 24 true).run Try.prog y = .ok (.tuple #[.slice none 0 0,.bool false]) y:=run_assert_no Try.underlying24 rfl (by decide) zheads _ _
 have Y1 : ∀ y,(Instr.typeAssert (.iface 47 (.agg #[u32v s.ver,.slice s.iA s.ins.length s.ic,.slice s.oA s.outs.length s.oc,u32v s.lock])) 20 47 true).run Try.prog y = .ok (.tuple #[.agg #[u32v s.ver,.slice s.iA s.ins.length s.ic,.slice s.oA s.outs.length s.oc,u32v s.lock],.bool true]) y:=run_assert_yes Try.underlying47 rfl _ _
 go_upto_region 37 with fail
 obtain ⟨w1,hw1⟩ : ∃ w1,w1 = w.alloc (.cells #[u32v s.ver,.slice s.iA s.ins.length s.ic,.slice s.oA s.outs.length s.oc,u32v s.lock] 47):=⟨_,rfl⟩
 have K1 : Hid (Keep w w1):=by rw [hw1];exact Lib.hid (keep_new _ _)
 unfold u32v at hw1
 rw [← hw1]
 clear hw1
 go_wp2_with (go_at_call 57;refine (TK.out _ K1.out).mono ?_;rintro e w2 ⟨t,rfl,h1,h2,h3,h4,k2⟩;have H1:=Lib.hid h1;have H2:=Lib.hid h2;have H3:=Lib.hid h3;have H4:=Lib.hid h4;have K2:=Lib.hid (keep_trans K1.out k2);clear h1 h2 h3 h4 k2)
 exact bodyPost_ret (v:=.tuple #[.iface 47 (.agg #[u32v t.ver,.slice t.iA t.ins.length t.ic,.slice t.oA t.outs.length t.oc,u32v t.lock]),iv R.2.1,iv R.2.2]) (by simp [results,Try.results29];try rfl) rfl ⟨t,rfl,H1.out,⟨H2.out.1.keep (keep_new _ _),fun W hm => H2.out.2 W ⟨trivial,fun k h1 h2 => (hm.2 k (Nat.le_trans K1.out.size h1) (by simp;omega)).trans ((keep_new w2 _).block k h2)⟩⟩,H3.out,H4.out,keep_trans K2.out (keep_new _ _)⟩
end Go.Proofs.Ytbgpgdhndanigaa
/- wire.take: a hash. (printed by gen_ih.py) -/
set_option linter.unusedSimpArgs false
set_option linter.unusedVariables false
namespace Go.Proofs.Ytbgpgdhndanigaa
open Go.RowKit
attribute [local go_sem ↓] Go.wp_at_zero Go.wp_at_succ
set_option maxRecDepth 100000 in
set_option maxHeartbeats 4000000 in
theorem take_h32_short (l : List UInt8) (ls : Array Value) (hA : HashA l ls) (A : Option Addr) (n c : Nat) (w : World) (h : n < 32) :
  Calls Try.prog 29 #[.iface 27 (.agg ls),.slice A n c] w fun e w' => e = .returned (.tuple #[.nilIface,iv 0,iv 1])∧Keep w w':=by
 obtain ⟨zh,hzA,hz0⟩:=zhash_letter32
 have hzn:=hzA.n;have hzz:=hzA.z
 have hln:=hA.n;have hlz:=hA.z;have hli:=hA.i
 have HA:=Lib.hid hA
 clear hzA hA
 have d1 : (n : Int) < 32:=by omega
 go_enter Try.func29,Try.ntmps29
 have N0 : ∀ y,(Instr.typeAssert (.iface 27 (.agg ls)) 20 22 true).run Try.prog y = .ok (.tuple #[.int .u32 0,.bool false]) y:=run_assert_no Try.underlying22 rfl (by decide) zu32 _ _
 have N1 : ∀ y,(Instr.typeAssert (.iface 27 (.agg ls)) 20 23 true).run Try.prog y = .ok (.tuple #[.int .u64 0,.bool false]) y:=run_assert_no Try.underlying23 rfl (by decide) zu64 _ _
 have Y1 : ∀ y,(Instr.typeAssert (.iface 27 (.agg ls)) 20 27 true).run Try.prog y = .ok (.tuple #[.agg ls,.bool true]) y:=run_assert_yes hash_under rfl _ _
 have hst : ∀ y : World,(storeCells ⟨y.heap.size,0,none⟩ ls.toList 0).run Try.prog (y.alloc (.cells zh 27)) = .ok () (y.alloc (.cells ls 27)):=fun y => run_storeCells_new (P:=Try.prog) y 27 zh ls hli (hzz.trans hlz.symm) (by have:=all_oneCell_toArray HA.out.o;simpa using this)
 go_wp2
 exact bodyPost_ret (v:=.tuple #[.nilIface,iv 0,iv 1]) (by simp [results,Try.results29]) rfl ⟨rfl,keep_new _ _⟩
set_option maxRecDepth 100000 in
set_option maxHeartbeats 4000000 in
theorem take_h32 (l : List UInt8) (ls : Array Value) (hA : HashA l ls) (A : Option Addr) (b : List UInt8) (c : Nat) (w : World) (h : 32 ≤ b.length) (hl : b.length ≤ 1000000000) (hc : b.length ≤ c) (hcm : c ≤ maxLen) (hr : Rd w A (b.map u8v)) :
  Calls Try.prog 29 #[.iface 27 (.agg ls),.slice A b.length c] w fun e w' => e = .returned (.tuple #[.iface 27 (.agg ((b.take 32).map u8v).toArray),iv 32,iv 0])∧Keep w w':=by
 obtain ⟨zh,hzA,hz0⟩:=zhash_letter32
 have hzn:=hzA.n;have hzz:=hzA.z
 have hln:=hA.n;have hlz:=hA.z;have hli:=hA.i
 have HA:=Lib.hid hA
 obtain ⟨ss,hss⟩ : ∃ ss,HashA (b.take 32) ss:=⟨_,HashA.of (by simp;omega)⟩
 obtain ⟨g,off,rfl,hrg⟩:=rd_hash hr (k:=0) (by omega) (cs:=ss) (by rw [List.drop_zero];exact hss)
 have RX : Hid (w.rangeAt g (off + 0) ss.toList):=Lib.hid hrg
 have hsn:=hss.n;have hssz:=hss.z;have hsi:=hss.i
 rw [hss.e]
 clear hzA hA hr hrg hss
 obtain ⟨n,hn⟩ : ∃ n,b.length = n:=⟨_,rfl⟩
 rw [hn] at h hl hc ⊢
 clear hn
 have d1 : ¬ (n : Int) < 32:=by omega
 unfold maxLen at hcm
 go_enter Try.func29,Try.ntmps29
 have N0 : ∀ y,(Instr.typeAssert (.iface 27 (.agg ls)) 20 22 true).run Try.prog y = .ok (.tuple #[.int .u32 0,.bool false]) y:=run_assert_no Try.underlying22 rfl (by decide) zu32 _ _
 have N1 : ∀ y,(Instr.typeAssert (.iface 27 (.agg ls)) 20 23 true).run Try.prog y = .ok (.tuple #[.int .u64 0,.bool false]) y:=run_assert_no Try.underlying23 rfl (by decide) zu64 _ _
 have Y1 : ∀ y,(Instr.typeAssert (.iface 27 (.agg ls)) 20 27 true).run Try.prog y = .ok (.tuple #[.agg ls,.bool true]) y:=run_assert_yes hash_under rfl _ _
 have hst : ∀ y : World,(storeCells ⟨y.heap.size,0,none⟩ ls.toList 0).run Try.prog (y.alloc (.cells zh 27)) = .ok () (y.alloc (.cells ls 27)):=fun y => run_storeCells_new (P:=Try.prog) y 27 zh ls hli (hzz.trans hlz.symm) (by have:=all_oneCell_toArray HA.out.o;simpa using this)
 go_upto_region 12 with fail
 obtain ⟨w1,hw1⟩ : ∃ w1,w1 = w.alloc (.cells ls 27):=⟨_,rfl⟩
 have k1 : Keep w w1:=by rw [hw1];exact keep_new _ _
 have RX1 : Hid (w1.rangeAt g (off + 0) ss.toList):=Lib.hid fun j v hv => keep_cell k1 (RX.out j v hv)
 have K1:=Lib.hid k1
 rw [← hw1]
 clear hw1 hst k1 RX
 have s2a : ∀ (A : Option Addr) (y : World) (c' : Nat),(Instr.arrayAt 27 (.slice A 32 c')).run Try.prog y = .ok (.pointer A) y:=fun A y c' => run_s2a hash_under (Nat.le_refl _) y
 go_wp2_with (first | ((with_reducible refine load_partg g (off + 0) ss (Eq.trans ?_ rfl) RX1.out _ hash_under rfl hsi rfl ?_);rfl) | ((with_reducible refine load_partg g off ss (Eq.trans ?_ rfl) RX1.out _ hash_under rfl hsi rfl ?_);rfl))
 exact bodyPost_ret (v:=.tuple #[.iface 27 (.agg ss),iv 32,iv 0]) (by simp [results,Try.results29]) rfl ⟨rfl,K1.out⟩
end Go.Proofs.Ytbgpgdhndanigaa
/- wire.take: a header. (printed by gen_ii.py) -/
set_option linter.unusedSimpArgs false
set_option linter.unusedVariables false
namespace Go.Proofs.Ytbgpgdhndanigaa
open Go.RowKit
attribute [local go_sem ↓] Go.wp_at_zero Go.wp_at_succ
set_option maxRecDepth 100000 in
set_option maxHeartbeats 4000000 in
theorem hget_shortA (A : Option Addr) (n c : Nat) (w : World) (h : n < 80) :
  Calls Try.prog 55 #[.slice A n c] w fun e w' => ∃ cs,e = .returned (.tuple #[.agg cs,.int .i64 1])∧HdA zHdr cs∧Keep w w':=by
 obtain ⟨zd,hzD,hd0,hdb⟩:=zheadB_letter
 have hdn:=hzD.n;have hdz:=hzD.z;have hdi:=hzD.i
 have HZ:=Lib.hid hzD;have HBu:=Lib.hid hdb
 clear hzD hdb
 have d1 : (n : Int) < 80:=by omega
 go_enter Try.func55,Try.ntmps55
 go_upto_region 1 with fail
 obtain ⟨w1,hw1⟩ : ∃ w1,w1 = w.alloc (.cells zd 30):=⟨_,rfl⟩
 have HB1 : Hid (Blk w1 w.heap.size 30 zd.toList):=by rw [hw1];exact Lib.hid (Blk.new w _ zd.toList)
 have K1 : Hid (Keep w w1):=by rw [hw1];exact Lib.hid (keep_new _ _)
 rw [← hw1]
 clear hw1
 obtain ⟨w8,hst8,hb8,hg8⟩:=run_store_blk (P:=Try.prog) zd.toList HB1.out rfl HZ.out.o
 have Hb8:=Lib.hid hb8;have Hg8:=Lib.hid hg8
 clear hb8 hg8
 go_wp2_with ((with_reducible refine list_bldg [] zd (Eq.trans ?_ rfl) HBu.out (Eq.trans ?_ rfl) ?_);rfl;rfl)
 exact bodyPost_ret (v:=.tuple #[.agg zd,.int .i64 1]) (results_cell_tmp_row Try.results55 _ _ w.heap.size _ _ _ _ rfl Hb8.out Try.underlying30 rfl (by rw [List.size_toArray,Array.length_toList];exact hdi)) rfl ⟨zd,rfl,HZ.out,K1.out.grown Hg8.out K1.out.size (fun q hq => by injection hq with hq;omega)⟩
set_option maxRecDepth 100000 in
set_option maxHeartbeats 4000000 in
theorem take_head (l : Hd) (ls : Array Value) (hA : HdA l ls) (A : Option Addr) (b : List UInt8) (c : Nat) (w : World) (hl : b.length ≤ 1000000000) (hc : b.length ≤ c) (hcm : c ≤ maxLen) (hr : Rd w A (b.map u8v)) :
  Calls Try.prog 29 #[.iface 30 (.agg ls),.slice A b.length c] w fun e w' => ∃ h cs,e = .returned (.tuple #[.iface 30 (.agg cs),iv 80,iv (if b.length < 80 then 1 else 0)])∧HdA h cs∧(¬ b.length < 80 → h = hgetL (b.take 80))∧Keep w w':=by
 obtain ⟨zh,hzA,hz0⟩:=zhash_letter32
 obtain ⟨zd,hzD,hd0⟩:=zhead_letterA
 have hdn:=hzD.n;have hdz:=hzD.z;have hdi:=hzD.i
 have hln:=hA.n;have hlz:=hA.z;have hli:=hA.i
 have HA:=Lib.hid hA
 obtain ⟨E,hE⟩ : ∃ E : Int,(if b.length < 80 then (1 : Int) else 0) = E:=⟨_,rfl⟩
 obtain ⟨n,hn⟩ : ∃ n : Nat,min b.length 80 = n:=⟨_,rfl⟩
 have TK : Hid (∀ y,Keep w y → Calls Try.prog 55 #[.slice A n c] y fun e w' => ∃ h cs,e = .returned (.tuple #[.agg cs,iv E])∧HdA h cs∧(¬ b.length < 80 → h = hgetL (b.take 80))∧Keep y w'):=Lib.hid fun y hy => by
  by_cases h80 : b.length < 80
  ·rw [if_pos h80] at hE
   subst hE
   refine (hget_shortA A n c y (by omega)).mono ?_
   rintro e w2 ⟨cs,rfl,h1,k2⟩
   exact ⟨zHdr,cs,rfl,h1,fun h => absurd h80 h,k2⟩
  ·rw [if_neg h80] at hE
   subst hE
   obtain rfl : n = 80:=by omega
   have q:=(hr.keep hy).take 80
   rw [← List.map_take] at q
   refine (hget_any A (b.take 80) c y (by rw [List.length_take];omega) (by omega) hcm q).mono ?_
   rintro e w2 ⟨cs,rfl,h1,k2⟩
   exact ⟨_,cs,rfl,h1,fun _ => rfl,k2⟩
 rw [hE]
 clear hr hzA hA hE hzD
 have hnc : n ≤ c:=by omega
 unfold maxLen at hcm
 obtain ⟨L,hL⟩ : ∃ L,b.length = L:=⟨_,rfl⟩
 simp only [hL] at hn hl hc TK ⊢
 clear hL
 rcases Nat.lt_or_ge 80 L with hlt | hge
 ·have d1 : (80 : Int) < (L : Int):=by omega
  obtain rfl : n = 80:=by omega
  clear hlt hn
  go_enter Try.func29,Try.ntmps29
  have NH : ∀ y,(Instr.typeAssert (.iface 30 (.agg ls)) 20 27 true).run Try.prog y = .ok (.tuple #[.agg zh,.bool false]) y:=run_assert_no hash_under rfl (by decide) hz0 _ _
  have N0 : ∀ y,(Instr.typeAssert (.iface 30 (.agg ls)) 20 22 true).run Try.prog y = .ok (.tuple #[.int .u32 0,.bool false]) y:=run_assert_no Try.underlying22 rfl (by decide) zu32 _ _
  have N1 : ∀ y,(Instr.typeAssert (.iface 30 (.agg ls)) 20 23 true).run Try.prog y = .ok (.tuple #[.int .u64 0,.bool false]) y:=run_assert_no Try.underlying23 rfl (by decide) zu64 _ _
  have N2 : ∀ y,(Instr.typeAssert (.iface 30 (.agg ls)) 20 103 true).run Try.prog y = .ok (.tuple #[.agg #[.slice none 0 0,.int .u64 0],.bool false]) y:=run_assert_no Try.underlying103 rfl (by decide) zhashes _ _
  have N3 : ∀ y,(Instr.typeAssert (.iface 30 (.agg ls)) 20 42 true).run Try.prog y = .ok (.tuple #[.slice none 0 0,.bool false]) y:=run_assert_no Try.underlying42 rfl (by decide) zitems _ _
  have N4 : ∀ y,(Instr.typeAssert (.iface 30 (.agg ls)) 20 31 true).run Try.prog y = .ok (.tuple #[.slice none 0 0,.bool false]) y:=run_assert_no Try.underlying31 rfl (by decide) zbytes _ _
  have Y1 : ∀ y,(Instr.typeAssert (.iface 30 (.agg ls)) 20 30 true).run Try.prog y = .ok (.tuple #[.agg ls,.bool true]) y:=run_assert_yes Try.underlying30 rfl _ _
  have hst : ∀ y : World,(storeCells ⟨y.heap.size,0,none⟩ ls.toList 0).run Try.prog (y.alloc (.cells zd 30)) = .ok () (y.alloc (.cells ls 30)):=fun y => run_storeCells_new (P:=Try.prog) y 30 zd ls hli (hdz.trans hlz.symm) (by have:=all_oneCell_toArray HA.out.o;simpa using this)
  go_upto_region 29 with fail
  obtain ⟨w1,hw1⟩ : ∃ w1,w1 = w.alloc (.cells ls 30):=⟨_,rfl⟩
  have K1 : Hid (Keep w w1):=by rw [hw1];exact Lib.hid (keep_new _ _)
  rw [← hw1]
  clear hw1 hst
  go_upto_region 30 with (go_at_call 55;refine (TK.out _ K1.out).mono ?_;rintro e w2 ⟨h,cs,rfl,hA2,hh,k2⟩;have HA2:=Lib.hid hA2;have HH:=Lib.hid hh;have K2:=Lib.hid (keep_trans K1.out k2);have hcn:=hA2.n;have hcz:=hA2.z;have hci:=hA2.i;have hst2 : ∀ y : World,(storeCells ⟨y.heap.size,0,none⟩ cs.toList 0).run Try.prog (y.alloc (.cells zd 30)) = .ok () (y.alloc (.cells cs 30)):=fun y => run_storeCells_new (P:=Try.prog) y 30 zd cs hci (hdz.trans hcz.symm) (by have:=all_oneCell_toArray HA2.out.o;simpa using this);clear hA2 hh k2)
  obtain ⟨w3,hw3⟩ : ∃ w3,w3 = w2.alloc (.cells cs 30):=⟨_,rfl⟩
  have HB3 : Hid (Blk w3 w2.heap.size 30 cs.toList):=by rw [hw3];exact Lib.hid (Blk.new w2 _ cs.toList)
  have K3 : Hid (Keep w w3):=by rw [hw3];exact Lib.hid (keep_trans K2.out (keep_new _ _))
  rw [← hw3]
  clear hw3 hst2
  go_wp2_with ((with_reducible refine load_arr w2.heap.size cs (Eq.trans ?_ rfl) HB3.out _ Try.underlying30 rfl hci ?_);rfl)
  exact bodyPost_ret (v:=.tuple #[.iface 30 (.agg cs),iv 80,iv E]) (by simp [results,Try.results29]) rfl ⟨h,cs,rfl,HA2.out,HH.out,K3.out⟩
 ·have d1 : (L : Int) ≤ 80:=by omega
  obtain rfl : n = L:=by omega
  clear hge hn
  go_enter Try.func29,Try.ntmps29
  have NH : ∀ y,(Instr.typeAssert (.iface 30 (.agg ls)) 20 27 true).run Try.prog y = .ok (.tuple #[.agg zh,.bool false]) y:=run_assert_no hash_under rfl (by decide) hz0 _ _
  have N0 : ∀ y,(Instr.typeAssert (.iface 30 (.agg ls)) 20 22 true).run Try.prog y = .ok (.tuple #[.int .u32 0,.bool false]) y:=run_assert_no Try.underlying22 rfl (by decide) zu32 _ _
  have N1 : ∀ y,(Instr.typeAssert (.iface 30 (.agg ls)) 20 23 true).run Try.prog y = .ok (.tuple #[.int .u64 0,.bool false]) y:=run_assert_no Try.underlying23 rfl (by decide) zu64 _ _
  have N2 : ∀ y,(Instr.typeAssert (.iface 30 (.agg ls)) 20 103 true).run Try.prog y = .ok (.tuple #[.agg #[.slice none 0 0,.int .u64 0],.bool false]) y:=run_assert_no Try.underlying103 rfl (by decide) zhashes _ _
  have N3 : ∀ y,(Instr.typeAssert (.iface 30 (.agg ls)) 20 42 true).run Try.prog y = .ok (.tuple #[.slice none 0 0,.bool false]) y:=run_assert_no Try.underlying42 rfl (by decide) zitems _ _
  have N4 : ∀ y,(Instr.typeAssert (.iface 30 (.agg ls)) 20 31 true).run Try.prog y = .ok (.tuple #[.slice none 0 0,.bool false]) y:=run_assert_no Try.underlying31 rfl (by decide) zbytes _ _
  have Y1 : ∀ y,(Instr.typeAssert (.iface 30 (.agg ls)) 20 30 true).run Try.prog y = .ok (.tuple #[.agg ls,.bool true]) y:=run_assert_yes Try.underlying30 rfl _ _
  have hst : ∀ y : World,(storeCells ⟨y.heap.size,0,none⟩ ls.toList 0).run Try.prog (y.alloc (.cells zd 30)) = .ok () (y.alloc (.cells ls 30)):=fun y => run_storeCells_new (P:=Try.prog) y 30 zd ls hli (hdz.trans hlz.symm) (by have:=all_oneCell_toArray HA.out.o;simpa using this)
  go_upto_region 29 with fail
  obtain ⟨w1,hw1⟩ : ∃ w1,w1 = w.alloc (.cells ls 30):=⟨_,rfl⟩
  have K1 : Hid (Keep w w1):=by rw [hw1];exact Lib.hid (keep_new _ _)
  rw [← hw1]
  clear hw1 hst
  go_upto_region 30 with (go_at_call 55;refine (TK.out _ K1.out).mono ?_;rintro e w2 ⟨h,cs,rfl,hA2,hh,k2⟩;have HA2:=Lib.hid hA2;have HH:=Lib.hid hh;have K2:=Lib.hid (keep_trans K1.out k2);have hcn:=hA2.n;have hcz:=hA2.z;have hci:=hA2.i;have hst2 : ∀ y : World,(storeCells ⟨y.heap.size,0,none⟩ cs.toList 0).run Try.prog (y.alloc (.cells zd 30)) = .ok () (y.alloc (.cells cs 30)):=fun y => run_storeCells_new (P:=Try.prog) y 30 zd cs hci (hdz.trans hcz.symm) (by have:=all_oneCell_toArray HA2.out.o;simpa using this);clear hA2 hh k2)
  obtain ⟨w3,hw3⟩ : ∃ w3,w3 = w2.alloc (.cells cs 30):=⟨_,rfl⟩
  have HB3 : Hid (Blk w3 w2.heap.size 30 cs.toList):=by rw [hw3];exact Lib.hid (Blk.new w2 _ cs.toList)
  have K3 : Hid (Keep w w3):=by rw [hw3];exact Lib.hid (keep_trans K2.out (keep_new _ _))
  rw [← hw3]
  clear hw3 hst2
  go_wp2_with ((with_reducible refine load_arr w2.heap.size cs (Eq.trans ?_ rfl) HB3.out _ Try.underlying30 rfl hci ?_);rfl)
  exact bodyPost_ret (v:=.tuple #[.iface 30 (.agg cs),iv 80,iv E]) (by simp [results,Try.results29]) rfl ⟨h,cs,rfl,HA2.out,HH.out,K3.out⟩
end Go.Proofs.Ytbgpgdhndanigaa
/- What wire.take and wire.Get answer: plain. -/
set_option linter.unusedSimpArgs false
set_option linter.unusedVariables false
namespace Go.Proofs.Ytbgpgdhndanigaa
open Go.RowKit
def PV.pl : PV → PV
 | .hsh _ l _ most => .hsh none l 0 most
 | .heads _ l _ => .heads none l 0
 | .items _ l _ => .items none l 0
 | .bytes _ l _ => .bytes none l 0
 | .tx t => .tx t.pl
 | p => p
def PV.at_ (w : World) : PV → Prop
 | .u32 _ => True
 | .u64 n => n < 2 ^ 64
 | .hsh A l c _ => (∀ s ∈ l,s.length = 32)∧(l.length ≤ c∧c ≤ maxLen)∧Rd w A (hsL l)
 | .h32 s => s.length = 32
 | .heads A l c => (∀ h ∈ l,h.ok)∧(l.length ≤ c∧c ≤ maxLen)∧Rd w A (l.flatMap Hd.cells)
 | .items A l c => (∀ x ∈ l,x.ok)∧(l.length ≤ c∧c ≤ maxLen)∧Rd w A (l.flatMap Itm.cells)
 | .head h => h.ok
 | .bytes A l c => (l.length ≤ c∧c ≤ maxLen)∧Rd w A (l.map u8v)
 | .tx t => t.at w
theorem PV.at_.keep {w w' : World} {p : PV} (h : p.at_ w) (k : Keep w w') : p.at_ w':=by
 cases p with
 | u32 x => trivial
 | u64 n => exact h
 | hsh A l c most => exact ⟨h.1,h.2.1,h.2.2.keep k⟩
 | h32 s => exact h
 | heads A l c => exact ⟨h.1,h.2.1,h.2.2.keep k⟩
 | items A l c => exact ⟨h.1,h.2.1,h.2.2.keep k⟩
 | head h' => exact h
 | bytes A l c => exact ⟨h.1,h.2.keep k⟩
 | tx t => exact TxR.at.keep h k
def PV.tak (b : List UInt8) : PV → PV × Nat × Int
 | .u32 _ => (.u32 (UInt32.ofNat (if b.length < 4 then 0 else numN b 4)),4,if b.length < 4 then 1 else 0)
 | .u64 _ => (.u64 (if b.length < 8 then 0 else numN b 8),8,if b.length < 8 then 1 else 0)
 | .hsh _ _ _ most => (.hsh none (thsN b most).1 0 most,(thsN b most).2.1,(thsN b most).2.2)
 | .h32 _ => (.h32 (b.take 32),if b.length < 32 then 0 else 32,if b.length < 32 then 1 else 0)
 | .heads _ _ _ => (.heads none (hgall b).1 0,b.length,(hgall b).2)
 | .items _ _ _ => (.items none (titN b).1 0,(titN b).2.1,(titN b).2.2)
 | .head _ => (.head (hgetL (b.take 80)),80,if b.length < 80 then 1 else 0)
 | .bytes _ _ _ => (.bytes none (bytN b 1024).1 0,(bytN b 1024).2.1,(bytN b 1024).2.2)
 | .tx _ => (.tx (tgetN b).1,(tgetN b).2.1,(tgetN b).2.2)
def PV.like : PV → Prop
 | .hsh _ _ _ most => most ≤ 1000000
 | .h32 s => s.length = 32
 | .head h => h.ok
 | _ => True
def getsN : List PV → List UInt8 → List PV × List UInt8 × Int
 | [],b => ([],b,0)
 | p :: ps,b => if (p.tak b).2.2 = 0 then ((p.tak b).1 :: (getsN ps (b.drop (p.tak b).2.1)).1,(getsN ps (b.drop (p.tak b).2.1)).2) else ([],b,(p.tak b).2.2)
def msgOf (k : Int) : List PV → MsgR
 | [.u64 n] => { msgZ k with nonce:=n }
 | [.heads A l c] => { msgZ k with hA:=A,hs:=l,hc:=c }
 | [.items A l c] => { msgZ k with iA:=A,is:=l,ic:=c }
 | [.tx t] => { msgZ k with t:=t }
 | [.u32 p,.u64 n,.u32 h] => { msgZ k with proto:=p,nonce:=n,height:=h }
 | [.u32 p,.hsh A l c _,.h32 s] => { msgZ k with proto:=p,lA:=A,ls:=l,lc:=c,stop:=s }
 | [.head h,.u32 t,.hsh A l c _,.bytes B f d] => { msgZ k with bh:=h,total:=t,sA:=A,shs:=l,sc:=c,fA:=B,fs:=f,fc:=d }
 | _ => msgZ k
def MsgR.pl (m : MsgR) : MsgR:={ m with hA:=none,hc:=0,lA:=none,lc:=0,iA:=none,ic:=0,sA:=none,sc:=0,fA:=none,fc:=0,t:=m.t.pl }
def wgetN (s : List UInt8) (b : List UInt8) : MsgR × Int :=
 if (kindN s).2 = true then
  if (getsN (partsM (msgZ (kindN s).1)) b).2.2 = 0 then
   if (getsN (partsM (msgZ (kindN s).1)) b).2.1 = [] then (msgOf (kindN s).1 (getsN (partsM (msgZ (kindN s).1)) b).1,0) else (msgZ 0,2)
  else (msgZ 0,(getsN (partsM (msgZ (kindN s).1)) b).2.2)
 else (msgZ 0,2)
end Go.Proofs.Ytbgpgdhndanigaa
