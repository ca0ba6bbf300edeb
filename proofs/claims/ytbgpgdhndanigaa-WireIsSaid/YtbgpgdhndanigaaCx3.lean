/- Texts merged by pack.py: Ve, Vf, Hdr, Vg, Kc, Kd, Vh, Ke, MoG. -/
import Derived.Test.YtbgpgdhndanigaaCx2
import Derived.Test.YtbgpgdhndanigaaCx1
import Derived.Deep.MidRow
/- wire.takeHashes. (printed by gen_ve1.py) -/
set_option linter.unusedSimpArgs false
set_option linter.unusedVariables false
namespace Go.Proofs.Ytbgpgdhndanigaa
open Go.RowKit
attribute [local go_sem ↓] Go.wp_at_zero Go.wp_at_succ
def hshs (b : List UInt8) (at_ n : Nat) : List (List UInt8):=(List.range n).map fun i => (b.drop (at_ + i * 32)).take 32
theorem hshs_succ (b : List UInt8) (at_ n : Nat) : hshs b at_ (n + 1) = hshs b at_ n ++ [(b.drop (at_ + n * 32)).take 32]:=by
 unfold hshs;rw [List.range_succ,List.map_append];rfl
theorem hshs_len (b : List UInt8) (at_ n : Nat) : (hshs b at_ n).length = n:=by simp [hshs]
def thsN (b : List UInt8) (most : Nat) : List (List UInt8) × Nat × Int :=
 if (bndN b most).2.2 = 0 then if b.length < (bndN b most).2.1 + (bndN b most).1 * 32 then ([],0,1) else (hshs b (bndN b most).2.1 (bndN b most).1,(bndN b most).2.1 + (bndN b most).1 * 32,0) else ([],0,(bndN b most).2.2)
theorem run_s2a {P : Program} {arr e : TypeId} {n m c : Nat} {A : Option Addr} (hu : P.underlying arr = some (.array n e)) (hn : n ≤ m) (w : World) : (Instr.arrayAt arr (.slice A m c)).run P w = .ok (.pointer A) w:=by
 have hlt : ¬ m < n:=by omega
 simp [Instr.arrayAt,run_underlying hu,hlt]
theorem rd_hash {w : World} {A : Option Addr} {b : List UInt8} (hr : Rd w A (b.map u8v)) {k : Nat} (h : k + 32 ≤ b.length) {cs : Array Value} (hcs : HashA ((b.drop k).take 32) cs) :
  ∃ g off,A = some ⟨g,off,none⟩∧w.rangeAt g (off + k) cs.toList:=by
 obtain ⟨g,off,h1,h2,h3⟩:=hr.at (k:=k) (by simp;omega)
 refine ⟨g,off,h1,fun j v hv => ?_⟩
 rw [hcs.l] at hv
 have hj : j < 32:=by have:=(List.getElem?_eq_some_iff.1 hv).1;simp at this;omega
 rw [Nat.add_assoc,h3 (k + j) (by simp;omega)]
 rw [List.getElem?_map,List.getElem?_take_of_lt hj,List.getElem?_drop,List.getElem?_eq_getElem (show k + j < b.length by omega)] at hv
 rw [List.getElem_map]
 exact hv
set_option maxRecDepth 100000 in
set_option maxHeartbeats 4000000 in
theorem ths_any (A : Option Addr) (b : List UInt8) (c most : Nat) (w : World) (hl : b.length ≤ 1000000000) (hc : b.length ≤ c) (hcm : c ≤ maxLen) (hm : most ≤ 1000000) (hr : Rd w A (b.map u8v)) :
  Calls Try.prog 52 #[.slice A b.length c,u64v most] w fun e w' => ∃ v,e = .returned (.tuple #[v,iv (thsN b most).2.1,iv (thsN b most).2.2])∧w'.ownsRow w.heap.size 27 32 v (thsN b most).1.length (hsL (thsN b most).1)∧Keep w w':=by
 have G1 : Hid (Calls Try.prog 72 #[.slice A b.length c,u64v most] w fun e w' => e = .returned (.tuple #[iv (bndN b most).1,iv (bndN b most).2.1,iv (bndN b most).2.2])∧Keep w w'):=Lib.hid (bnd_any A b c most w (by omega) hr)
 have HRG:=Lib.hid (bnd_rng b most)
 have HB : Hid (∀ R,thsN b most = R → R = if (bndN b most).2.2 = 0 then if b.length < (bndN b most).2.1 + (bndN b most).1 * 32 then ([],0,1) else (hshs b (bndN b most).2.1 (bndN b most).1,(bndN b most).2.1 + (bndN b most).1 * 32,0) else ([],0,(bndN b most).2.2)):=Lib.hid fun R h => by subst h;rfl
 replace HB:=Lib.hid (HB.out _ rfl)
 have RB:=Lib.hid hr
 clear hr
 generalize thsN b most = R at *
 generalize bndN b most = G at *
 obtain ⟨n,k,e0⟩:=G
 obtain ⟨L,hL⟩ : ∃ L,b.length = L:=⟨_,rfl⟩
 have HLL:=Lib.hid hL
 rw [hL] at HB G1 HRG hl hc ⊢
 clear hL
 unfold maxLen at hcm
 simp only at G1 HB HRG
 go_enter Try.func52,Try.ntmps52
 go_wp2_with fail
 refine G1.out.mono ?_
 clear G1
 rintro e w1 ⟨rfl,k1⟩
 have HK1:=Lib.hid k1
 clear k1
 have hv:=HB.out
 by_cases h0 : e0 = 0
 case neg =>
  rw [if_neg h0] at hv
  subst hv
  have d1 : (e0 != 0) = true:=by rw [bne_iff_ne];exact h0
  clear HB HRG
  go_wp2
  exact bodyPost_ret (v:=.tuple #[.slice none 0 0,iv 0,iv e0]) (by simp [results,Try.results52]) rfl ⟨_,rfl,World.ownsRow_nil _ _ _ _,HK1.out⟩
 subst h0
 rw [if_pos rfl] at hv
 obtain ⟨q1,q2,q3,q4⟩:=HRG.out rfl
 have hw1 : IntKind.i64.wrap ((n : Int) * 32) = (n : Int) * 32:=IntWalk.i64_in _ (by omega)
 have hw2 : IntKind.i64.wrap ((k : Int) + (n : Int) * 32) = (k : Int) + (n : Int) * 32:=IntWalk.i64_in _ (by omega)
 by_cases h1 : L < k + n * 32
 ·rw [if_pos h1] at hv
  subst hv
  have d1 : (L : Int) < (k : Int) + (n : Int) * 32:=by omega
  clear HB h1 HRG
  go_wp2
  exact bodyPost_ret (v:=.tuple #[.slice none 0 0,iv 0,iv 1]) (by simp [results,Try.results52]) rfl ⟨_,rfl,World.ownsRow_nil _ _ _ _,HK1.out⟩
 rw [if_neg h1] at hv
 have HV:=Lib.hid hv
 have d1 : ¬ (L : Int) < (k : Int) + (n : Int) * 32:=by omega
 clear hv HB HRG
 go_wp2_with fail
 clear d1
 go_loopw [11,12] (fun v x wr => ∃ i : Nat,i ≤ n∧x = .int .i64 ((k + i * 32 : Nat) : Int)∧Hid (wr.ownsRow w.heap.size 27 32 v i (hsL (hshs b k i)))∧Hid (Keep w wr)) (fun _ x _ => k + n * 32 - (intOf x).toNat)
 case atStart => exact ⟨0,Nat.zero_le _,by simp,Lib.hid (World.ownsRow_nil _ _ _ _),HK1⟩
 case round =>
  obtain ⟨i,hi,rfl,Own1,HKr⟩:=hrel
  have e1 : ((k + i * 32 : Nat) : Int) = (k : Int) + (i : Int) * 32:=by omega
  by_cases hlt : i < n
  ·have hxl : ((b.drop (k + i * 32)).take 32).length = 32:=by rw [List.length_take,List.length_drop,HLL.out];omega
   obtain ⟨ds,hds⟩ : ∃ ds,HashA ((b.drop (k + i * 32)).take 32) ds:=⟨_,HashA.of hxl⟩
   obtain ⟨g,off,rfl,hrg⟩:=rd_hash (RB.out.keep HKr.out) (k:=k + i * 32) (by rw [HLL.out];omega) hds
   have HSN : Hid (hsL (hshs b k (i + 1)) = hsL (hshs b k i) ++ ds.toList):=Lib.hid (by rw [hshs_succ,hsL_snoc,hds.l])
   obtain ⟨a,ha⟩ : ∃ a,k + i * 32 = a:=⟨_,rfl⟩
   rw [ha] at hrg ⊢
   have HRD:=Lib.hid hrg
   have hdz:=hds.z;have hdn:=hds.n;have hdi:=hds.i
   have Hds:=Lib.hid hds
   have d2 : (a : Int) < (k : Int) + (n : Int) * 32:=by omega
   have hw3 : IntKind.i64.wrap ((a : Int) + 32) = (a : Int) + 32:=IntWalk.i64_in _ (by omega)
   have hs1:=HKr.out.size
   have hsa:=run_s2a (P:=Try.prog) (c:=c - a) (A:=some ⟨g,off + a,none⟩) hash_under (Nat.le_refl 32)
   clear hxl hrg hds e1
   go_upto_region 10 with (first
    | ((with_reducible refine load_partg g (off + a) ds (Eq.trans ?_ rfl) HRD.out _ Try.underlying27 rfl hdi rfl ?_);rfl)
    | ((with_reducible refine list_build1h hashTb ds hdz (by omega) (Eq.trans ?_ rfl) ?_);rfl)
    | (at_builtin;refine wpList_app hashTb (by rfl) _ _ (by rfl) w.heap.size _ i _ (by rfl) (Own1.out.alloc _) _ 1 1 ds.toList (by rfl) (by rw [Array.length_toList,hdz]) (by simpa using Rd.new wr ds.toList 27) Hds.out.o (by omega) (by unfold maxLen;omega) (by simp;omega) ?_;intro v3 w3 own3 hg3 hat3;have k3:=keep_grown (keep_trans HKr.out (keep_new _ _)) (by simp;omega) hg3 (Own1.out.alloc _);rw [← HSN.out] at own3))
   have Own2:=Lib.hid own3;have HK2:=Lib.hid k3
   clear own3 k3 hg3 hat3 hsa HRD Own1 HKr
   go_wp2
   go_roundw
   case rel => exact ⟨i + 1,by omega,by go_num,Own2,HK2⟩
   case measure => simp [intOf];omega
  ·obtain rfl : i = n:=by omega
   have d2 : ¬ ((k + i * 32 : Nat) : Int) < (k : Int) + (i : Int) * 32:=by omega
   have hv:=HV.out
   subst hv
   clear HV
   obtain ⟨Ao,co,rfl,-,-,-⟩:=own_form Own1.out
   go_wp2
   exact bodyPost_ret (v:=.tuple #[.slice Ao i co,iv ((k : Int) + (i : Int) * 32),iv 0]) (by simp [results,Try.results52]) rfl ⟨_,by simp,own_eq Own1.out (hshs_len b k i).symm rfl,HKr.out⟩
end Go.Proofs.Ytbgpgdhndanigaa
/- wire.takeItems. (printed by gen_vf.py) -/
set_option linter.unusedSimpArgs false
set_option linter.unusedVariables false
namespace Go.Proofs.Ytbgpgdhndanigaa
open Go.RowKit
attribute [local go_sem ↓] Go.wp_at_zero Go.wp_at_succ
structure Itm where
 ty : UInt32
 h : List UInt8
def Itm.ok (x : Itm) : Prop:=x.h.length = 32
def Itm.cells (x : Itm) : List Value:=u32v x.ty :: x.h.map u8v
theorem Itm.len {x : Itm} (h : x.ok) : x.cells.length = 33:=by unfold Itm.ok at h;simp [Itm.cells,h]
theorem item_info : (Try.prog.info? 70).map (·.size) = some 33:=by kernel_rfl
structure ItA (x : Itm) (cs : Array Value) : Prop where
 l : cs.toList = x.cells
 z : cs.size = 33
 i : (Try.prog.info? 70).map (·.size) = some cs.size
 n : ¬ cs = #[]
 o : ∀ v ∈ cs.toList,v.oneCell' = true
theorem Itm.one (x : Itm) : ∀ u ∈ x.cells,u.oneCell' = true:=by
 intro u hu
 rcases List.mem_cons.1 hu with rfl | hu
 ·rfl
 ·obtain ⟨y,_,rfl⟩:=List.mem_map.1 hu;rfl
theorem ItA.of {x : Itm} (h : x.ok) : ItA x x.cells.toArray:=by
 have hz : x.cells.toArray.size = 33:=by simpa using Itm.len h
 exact ⟨rfl,hz,by rw [hz];exact item_info,fun e => by rw [e] at hz;simp at hz,by simpa using x.one⟩
noncomputable def zitem : Array Value:=match (Try.prog.info? 70).bind (·.zero) with | some (.agg c) => c | _ => #[]
theorem zitem_size : zitem.size = 33:=by kernel_rfl
theorem zitem_zero (w : World) : (zeroValue 70).run Try.prog w = .ok (.agg zitem) w:=by kernel_rfl
theorem zitem_letter : ∃ zs : Array Value,zs.size = 33∧(∀ w,(zeroValue 70).run Try.prog w = .ok (.agg zs) w)∧¬ zs = #[] :=
 ⟨zitem,zitem_size,zitem_zero,fun h => by have:=zitem_size;rw [h] at this;cases this⟩
set_option maxRecDepth 100000 in
theorem itemT : ElT Try.prog 42 70 (Value.agg zitem) 33 36:=ElT.mk' Try.underlying42 (by kernel_rfl) zitem_size (by omega)
theorem item_built (t : UInt32) (l : List UInt8) (ds : Array Value) (hl : l.length = 32) (hd : HashA l ds) : Try.prog.built 70 [(0,u32v t),(1,.agg ds)] = some (Itm.cells ⟨t,l⟩).toArray:=by
 obtain rfl:=hd.e
 obtain ⟨a0,a1,a2,a3,a4,a5,a6,a7,a8,a9,b0,b1,b2,b3,b4,b5,b6,b7,b8,b9,c0,c1,c2,c3,c4,c5,c6,c7,c8,c9,d0,d1,rfl⟩:=list32b hl
 show _ = _
 kernel_rfl
def itmOf (b : List UInt8) (a : Nat) : Itm:=⟨UInt32.ofNat (numN (b.drop a) 4),(b.drop (a + 4)).take 32⟩
def itms (b : List UInt8) (at_ n : Nat) : List Itm:=(List.range n).map fun i => itmOf b (at_ + i * 36)
theorem itms_succ (b : List UInt8) (at_ n : Nat) : itms b at_ (n + 1) = itms b at_ n ++ [itmOf b (at_ + n * 36)]:=by
 unfold itms;rw [List.range_succ,List.map_append];rfl
theorem itms_len (b : List UInt8) (at_ n : Nat) : (itms b at_ n).length = n:=by simp [itms]
def titN (b : List UInt8) : List Itm × Nat × Int :=
 if (bndN b 50000).2.2 = 0 then if b.length < (bndN b 50000).2.1 + (bndN b 50000).1 * 36 then ([],0,1) else (itms b (bndN b 50000).2.1 (bndN b 50000).1,(bndN b 50000).2.1 + (bndN b 50000).1 * 36,0) else ([],0,(bndN b 50000).2.2)
set_option maxRecDepth 100000 in
set_option maxHeartbeats 4000000 in
theorem tit_any (A : Option Addr) (b : List UInt8) (c : Nat) (w : World) (hl : b.length ≤ 1000000000) (hc : b.length ≤ c) (hcm : c ≤ maxLen) (hr : Rd w A (b.map u8v)) :
  Calls Try.prog 53 #[.slice A b.length c] w fun e w' => ∃ v,e = .returned (.tuple #[v,iv (titN b).2.1,iv (titN b).2.2])∧w'.ownsRow w.heap.size 70 33 v (titN b).1.length ((titN b).1.flatMap Itm.cells)∧Keep w w':=by
 have G1 : Hid (Calls Try.prog 72 #[.slice A b.length c,u64v 50000] w fun e w' => e = .returned (.tuple #[iv (bndN b 50000).1,iv (bndN b 50000).2.1,iv (bndN b 50000).2.2])∧Keep w w'):=Lib.hid (bnd_any A b c 50000 w (by omega) hr)
 have HRG:=Lib.hid (bnd_rng b 50000)
 have HB : Hid (∀ R,titN b = R → R = if (bndN b 50000).2.2 = 0 then if b.length < (bndN b 50000).2.1 + (bndN b 50000).1 * 36 then ([],0,1) else (itms b (bndN b 50000).2.1 (bndN b 50000).1,(bndN b 50000).2.1 + (bndN b 50000).1 * 36,0) else ([],0,(bndN b 50000).2.2)):=Lib.hid fun R h => by subst h;rfl
 replace HB:=Lib.hid (HB.out _ rfl)
 have RB:=Lib.hid hr
 have TK : Hid (∀ y A' m c' a,Keep w y → (b.drop a).length = m → 4 ≤ m → m ≤ 1000000000 → Rd y A' ((b.drop a).map u8v) → Calls Try.prog 51 #[.slice A' m c',iv 4] y fun e w' => e = .returned (.tuple #[u64v (numN (b.drop a) 4),iv 0])∧y = w'):=Lib.hid fun y A' m c' a hy h1 h2 h3 h4 => by
  subst h1
  have:=taken_any A' (b.drop a) c' 4 y (by omega) (by omega) h4
  rw [if_neg (by omega),if_neg (by omega)] at this
  exact this
 clear hr
 generalize titN b = R at *
 generalize bndN b 50000 = G at *
 obtain ⟨n,k,e0⟩:=G
 obtain ⟨L,hL⟩ : ∃ L,b.length = L:=⟨_,rfl⟩
 have HLL:=Lib.hid hL
 rw [hL] at HB G1 HRG hl hc ⊢
 clear hL
 unfold maxLen at hcm
 simp only at G1 HB HRG
 go_enter Try.func53,Try.ntmps53
 go_wp2_with fail
 refine G1.out.mono ?_
 clear G1
 rintro e w1 ⟨rfl,k1⟩
 have HK1:=Lib.hid k1
 clear k1
 have hv:=HB.out
 by_cases h0 : e0 = 0
 case neg =>
  rw [if_neg h0] at hv
  subst hv
  have d1 : (e0 != 0) = true:=by rw [bne_iff_ne];exact h0
  clear HB HRG
  go_wp2
  exact bodyPost_ret (v:=.tuple #[.slice none 0 0,iv 0,iv e0]) (by simp [results,Try.results53]) rfl ⟨_,rfl,World.ownsRow_nil _ _ _ _,HK1.out⟩
 subst h0
 rw [if_pos rfl] at hv
 obtain ⟨q1,q2,q3,q4⟩:=HRG.out rfl
 have hw1 : IntKind.i64.wrap ((n : Int) * 36) = (n : Int) * 36:=IntWalk.i64_in _ (by omega)
 have hw2 : IntKind.i64.wrap ((k : Int) + (n : Int) * 36) = (k : Int) + (n : Int) * 36:=IntWalk.i64_in _ (by omega)
 by_cases h1 : L < k + n * 36
 ·rw [if_pos h1] at hv
  subst hv
  have d1 : (L : Int) < (k : Int) + (n : Int) * 36:=by omega
  clear HB h1 HRG
  go_wp2
  exact bodyPost_ret (v:=.tuple #[.slice none 0 0,iv 0,iv 1]) (by simp [results,Try.results53]) rfl ⟨_,rfl,World.ownsRow_nil _ _ _ _,HK1.out⟩
 rw [if_neg h1] at hv
 have HV:=Lib.hid hv
 have d1 : ¬ (L : Int) < (k : Int) + (n : Int) * 36:=by omega
 clear hv HB HRG
 go_wp2_with fail
 clear d1
 go_loopw [9,10] (fun v x wr => ∃ i : Nat,i ≤ n∧x = .int .i64 ((k + i * 36 : Nat) : Int)∧Hid (wr.ownsRow w.heap.size 70 33 v i ((itms b k i).flatMap Itm.cells))∧Hid (Keep w wr)) (fun _ x _ => k + n * 36 - (intOf x).toNat)
 case atStart => exact ⟨0,Nat.zero_le _,by simp,Lib.hid (World.ownsRow_nil _ _ _ _),HK1⟩
 case round =>
  obtain ⟨i,hi,rfl,Own1,HKr⟩:=hrel
  by_cases hlt : i < n
  ·have hxl : ((b.drop (k + i * 36 + 4)).take 32).length = 32:=by rw [List.length_take,List.length_drop,HLL.out];omega
   obtain ⟨ds,hds⟩ : ∃ ds,HashA ((b.drop (k + i * 36 + 4)).take 32) ds:=⟨_,HashA.of hxl⟩
   obtain ⟨g,off,rfl,hrg⟩:=rd_hash (RB.out.keep HKr.out) (k:=k + i * 36 + 4) (by rw [HLL.out];omega) hds
   have hbu:=item_built (UInt32.ofNat (numN (b.drop (k + i * 36)) 4)) _ ds hxl hds
   obtain ⟨es,hes⟩ : ∃ es,ItA (itmOf b (k + i * 36)) es∧(Itm.cells ⟨UInt32.ofNat (numN (b.drop (k + i * 36)) 4),(b.drop (k + i * 36 + 4)).take 32⟩).toArray = es:=⟨_,ItA.of (show (itmOf b (k + i * 36)).ok from hxl),rfl⟩
   rw [hes.2] at hbu
   have HSN : Hid ((itms b k (i + 1)).flatMap Itm.cells = (itms b k i).flatMap Itm.cells ++ es.toList):=Lib.hid (by rw [itms_succ,List.flatMap_append,hes.1.l];simp)
   obtain ⟨a,ha⟩ : ∃ a,k + i * 36 = a:=⟨_,rfl⟩
   rw [ha] at hrg hbu ⊢
   have RBA : Hid (Rd wr (some ⟨g,off + a,none⟩) ((b.drop a).map u8v)):=Lib.hid (by have:=(RB.out.keep HKr.out).dropN (k:=a) (by rw [List.length_map,HLL.out];omega);rw [Option.map_some,add_lit0] at this;rw [List.map_drop];exact this)
   have HDL : Hid ((b.drop a).length = L - a):=Lib.hid (by rw [List.length_drop,HLL.out])
   have T2:=Lib.hid fun y A' m c' => TK.out y A' m c' a
   have hn4:=numN_lt (b.drop a) 4
   generalize numN (b.drop a) 4 = N4 at *
   obtain ⟨t,ht⟩ : ∃ t : UInt32,t = UInt32.ofNat N4:=⟨_,rfl⟩
   have htn : (N4 : Int) = (t.toNat : Int):=by rw [ht,UInt32.toNat_ofNat'];omega
   have hw5 : IntKind.u32.wrap (N4 : Int) = (t.toNat : Int):=by rw [IntKind.wrap_u32,htn];have:=t.toNat_lt;omega
   have hw6 : (N4 : Int) % 4294967296 = (t.toNat : Int):=by rw [htn];have:=t.toNat_lt;omega
   rw [← ht] at hbu
   have HRD : Hid (wr.rangeAt g (off + (a + 4)) ds.toList):=Lib.hid hrg
   have hdz:=hds.z;have hdn:=hds.n;have hdi:=hds.i
   have Hds:=Lib.hid hds;have Hes:=Lib.hid hes.1
   have hez:=hes.1.z;have hen:=hes.1.n;have hei:=hes.1.i
   have d2 : (a : Int) < (k : Int) + (n : Int) * 36:=by omega
   have hw3 : IntKind.i64.wrap ((a : Int) + 36) = (a : Int) + 36:=IntWalk.i64_in _ (by omega)
   have hw4 : IntKind.i64.wrap ((a : Int) + 4) = (a : Int) + 4:=IntWalk.i64_in _ (by omega)
   have hs1:=HKr.out.size
   have hsa:=run_s2a (P:=Try.prog) (c:=c - (a + 4)) (A:=some ⟨g,off + (a + 4),none⟩) hash_under (Nat.le_refl 32)
   have Hbu:=Lib.hid hbu
   clear hxl hrg hds hes ht hbu htn TK
   go_wp2_with fail
   (with_reducible refine (T2.out _ _ _ _ HKr.out HDL.out (by omega) (by omega) ?_).mono ?_)
   ·exact RBA.out
   rintro e w2 ⟨rfl,rfl⟩
   clear T2 RBA HDL
   go_upto_region 10 with (first
    | ((with_reducible refine load_partg g (off + (a + 4)) ds (Eq.trans ?_ rfl) HRD.out _ Try.underlying27 rfl hdi rfl ?_);rfl)
    | ((with_reducible refine list_bldg [(0,u32v t),(1,.agg ds)] es (Eq.trans ?_ rfl) Hbu.out (Eq.trans ?_ rfl) ?_);rfl;rfl)
    | ((with_reducible refine list_build1h itemT es hez (by omega) (Eq.trans ?_ rfl) ?_);rfl)
    | (at_builtin;refine wpList_app itemT (by rfl) _ _ (by rfl) w.heap.size _ i _ (by rfl) (Own1.out.alloc _) _ 1 1 es.toList (by rfl) (by rw [Array.length_toList,hez]) (by simpa using Rd.new wr es.toList 70) Hes.out.o (by omega) (by unfold maxLen;omega) (by simp;omega) ?_;intro v3 w3 own3 hg3 hat3;have k3:=keep_grown (keep_trans HKr.out (keep_new _ _)) (by simp;omega) hg3 (Own1.out.alloc _);rw [← HSN.out] at own3))
   have Own2:=Lib.hid own3;have HK2:=Lib.hid k3
   clear own3 k3 hg3 hat3 hsa HRD Own1 HKr
   go_wp2
   go_roundw
   case rel => exact ⟨i + 1,by omega,by go_num,Own2,HK2⟩
   case measure => simp [intOf];omega
  ·obtain rfl : i = n:=by omega
   have d2 : ¬ ((k + i * 36 : Nat) : Int) < (k : Int) + (i : Int) * 36:=by omega
   have hv:=HV.out
   subst hv
   clear HV TK
   obtain ⟨Ao,co,rfl,-,-,-⟩:=own_form Own1.out
   go_wp2
   exact bodyPost_ret (v:=.tuple #[.slice Ao i co,iv ((k : Int) + (i : Int) * 36),iv 0]) (by simp [results,Try.results53]) rfl ⟨_,by simp,own_eq Own1.out (itms_len b k i).symm rfl,HKr.out⟩
end Go.Proofs.Ytbgpgdhndanigaa
/- A header's bytes: Put, Get. -/
set_option linter.unusedSimpArgs false
set_option linter.unusedVariables false
namespace Go.Proofs.Ytbgpgdhndanigaa
open Go.RowKit
attribute [local go_sem ↓] Go.wp_at_zero Go.wp_at_succ
set_option maxRecDepth 100000 in
set_option maxHeartbeats 1000000 in
theorem hput_any (h : Hd) (cs : Array Value) (w : World) (hk : h.ok) (hcs : HdA h cs) :
  Calls Try.prog 44 #[.agg cs] w fun e w' => ∃ A,e = .returned (.slice A 80 80)∧Rd w' A ((hputL h).map u8v)∧Keep w w':=by
 have hpl:=hputL_len hk
 have A1 : Hid (∀ w',Calls Try.prog 66 #[.agg cs] w' fun e w'' => e = .returned (.agg ((hputL h).map u8v).toArray)∧Keep w' w''):=fun w' => array_any h cs w' hk hcs
 generalize hputL h = p at *
 obtain ⟨ps,hps⟩ : ∃ ps : Array Value,ps.toList = p.map u8v:=⟨(p.map u8v).toArray,rfl⟩
 have hpz : ps.size = 80:=by rw [← Array.length_toList,hps,List.length_map,hpl]
 have hpn : ¬ ps = #[]:=by intro h;rw [h] at hpz;simp at hpz
 have hpi : (Try.prog.info? 133).map (·.size) = some ps.size:=by rw [hpz];kernel_rfl
 rw [show (p.map u8v).toArray = ps by rw [← hps,Array.toArray_toList]] at A1
 obtain ⟨zs,hz1,hz2,hz3⟩:=z80_letter
 have hst : ∀ ww : World,(storeCells ⟨ww.heap.size,0,none⟩ ps.toList 0).run Try.prog (ww.alloc (.cells zs 133)) = .ok () (ww.alloc (.cells ps 133)):=fun ww =>
  run_storeCells_new (P:=Try.prog) ww 133 zs ps hpi (hz1.trans hpz.symm) (by have:=all_oneCell_toArray (show ∀ v ∈ ps.toList,v.oneCell' = true by rw [hps];exact one_w8 _);rwa [Array.toArray_toList] at this)
 have Hps:=Lib.hid hps
 have hcz:=hcs.z;have hcn:=hcs.n;have hci:=hcs.i
 clear hps hpi hcs hpl
 go_enter Try.func44,Try.ntmps44
 have Hbx : Hid (Blk (w.alloc (.cells cs 30)) w.heap.size 30 cs.toList):=Blk.new w _ cs.toList
 go_upto_region 1 with fail
 go_wp2_with ((with_reducible refine load_arr w.heap.size cs (Eq.trans ?_ rfl) Hbx.out _ Try.underlying30 rfl hci ?_);rfl)
 refine (A1.out _).mono ?_
 rintro e w1 ⟨rfl,k1⟩
 have kw1:=keep_trans (keep_new w _) k1
 go_wp2
 go_ret
 refine ⟨_,rfl,?_,keep_trans kw1 (keep_new _ _)⟩
 rw [← Hps.out]
 exact (show Blk _ w1.heap.size 133 ps.toList from Blk.new w1 _ ps.toList).rd
theorem or_add (k : Nat) (hk : k < 4) (n y : Int) (h0 : 0 ≤ n) (h1 : n < 2 ^ (8 * k)) (h2 : 0 ≤ y) (h3 : y < 256) : bits .or .u32 n (y * 2 ^ (8 * k) % 4294967296) = n + y * 2 ^ (8 * k):=by
 rcases (show k = 0 ∨ k = 1 ∨ k = 2 ∨ k = 3 by omega) with rfl | rfl | rfl | rfl
 ·obtain rfl : n = 0:=by simp at h1;omega
  have e:=u32_or 0 (y * 2 ^ (8 * 0) % 4294967296) (by omega) (by omega) (by omega) (by omega)
  rw [e];simp;omega
 ·simp only [show (8 * 1 : Nat) = 8 from rfl,show ((2 : Int) ^ 8) = 256 from rfl] at *
  rw [u32_or8 _ _ h0 h1 (by omega) (by omega) (by omega)];omega
 ·simp only [show (8 * 2 : Nat) = 16 from rfl,show ((2 : Int) ^ 16) = 65536 from rfl] at *
  rw [u32_or16 _ _ h0 h1 (by omega) (by omega) (by omega)];omega
 ·simp only [show (8 * 3 : Nat) = 24 from rfl,show ((2 : Int) ^ 24) = 16777216 from rfl] at *
  rw [u32_or24 _ _ h0 h1 (by omega) (by omega) (by omega)];omega
def numE (b : List UInt8) : Nat → Int
 | 0 => 0
 | k + 1 => numE b k + (b.getD k 0).toNat * 2 ^ (8 * k)
theorem numE_rng (b : List UInt8) (k : Nat) : 0 ≤ numE b k∧numE b k < 2 ^ (8 * k):=by
 induction k with
 | zero => simp [numE]
 | succ k ih =>
   have hy:=(b.getD k 0).toNat_lt
   have hp : (0 : Int) < 2 ^ (8 * k):=Int.pow_pos (by omega)
   have e : (2 : Int) ^ (8 * (k + 1)) = 256 * 2 ^ (8 * k):=by rw [Nat.mul_succ,Int.pow_add];omega
   rw [numE,e]
   have h1 : ((b.getD k 0).toNat : Int) * 2 ^ (8 * k) ≤ 255 * 2 ^ (8 * k):=Int.mul_le_mul_of_nonneg_right (by omega) (by omega)
   have h2 : (0 : Int) ≤ ((b.getD k 0).toNat : Int) * 2 ^ (8 * k):=Int.mul_nonneg (by omega) (by omega)
   omega
def num32 (b : List UInt8) : UInt32:=w32 (numE b 4)
set_option maxRecDepth 100000 in
set_option maxHeartbeats 1000000 in
theorem number_any (A : Option Addr) (b : List UInt8) (n c : Nat) (w : World) (hn : n = b.length) (hl : 4 ≤ b.length) (hr : Rd w A (b.map u8v)) :
  Calls Try.prog 74 #[.slice A n c] w fun e w' => e = .returned (u32v (num32 b))∧w = w':=by
 obtain ⟨g,off,rfl,hg,hc⟩:=hr.at (k:=0) (by simp;omega)
 have hn4 : 4 ≤ n:=by omega
 clear hn
 go_enter Try.func74,Try.ntmps74
 go_wp2_with fail
 go_loopw [3,5] (fun v i wr => ∃ k : Nat,k ≤ 4∧i = .int .i64 k∧v = .int .u32 (numE b k)∧w = wr) (fun _ i _ => 4 - (intOf i).toNat)
 case atStart => exact ⟨0,by omega,rfl,rfl,rfl⟩
 case round =>
  obtain ⟨k,hk,rfl,rfl,rfl⟩:=hrel
  by_cases hlt : k < 4
  ·obtain ⟨y,hy⟩ : ∃ y,b[k]? = some y:=⟨_,List.getElem?_eq_getElem (by omega)⟩
   have c0:=hc k (by simp;omega)
   rw [show (b.map u8v)[k]'(by simp;omega) = u8v y by
    obtain ⟨_,h⟩:=List.getElem?_eq_some_iff.1 hy
    simp [h]] at c0
   have hy2:=y.toNat_lt
   have hr1:=numE_rng b k
   have hor:=or_add k hlt (numE b k) y.toNat hr1.1 hr1.2 (by omega) (by omega)
   have Hne:=Lib.hid (show numE b (k + 1) = numE b k + y.toNat * 2 ^ (8 * k) by rw [numE,getD_of hy])
   generalize numE b k = e at *
   clear hy hr1 hc hr
   go_wp2
   go_roundw
   case rel => exact ⟨k + 1,by omega,by go_num,by rw [Hne.out],by trivial⟩
   case measure => simp [intOf];omega
  ·have Hk:=Lib.hid (show k = 4 by omega)
   have hr1:=numE_rng b 4
   go_wp2
   go_ret
   refine ⟨?_,rfl⟩
   rw [Hk.out]
   exact ret_int (w32_of hr1.1 (by have:=hr1.2;omega))
end Go.Proofs.Ytbgpgdhndanigaa
namespace Go.Proofs.Ytbgpgdhndanigaa
open Go.RowKit
attribute [local go_sem ↓] Go.wp_at_zero Go.wp_at_succ
def hgetL (b : List UInt8) : Hd:=⟨num32 b,(b.drop 4).take 32,(b.drop 36).take 32,num32 (b.drop 68),num32 (b.drop 72),num32 (b.drop 76)⟩
theorem hgetL_ok {b : List UInt8} (hb : b.length = 80) : (hgetL b).ok:=by
 unfold hgetL Hd.ok;simp [hb]
theorem head_set (a t b n : UInt32) : ((((Hd.cells ⟨0,z32,z32,0,0,0⟩).set 0 (u32v a)).set 65 (u32v t)).set 66 (u32v b)).set 67 (u32v n) = Hd.cells ⟨a,z32,z32,t,b,n⟩:=by kernel_rfl
set_option maxRecDepth 100000 in
set_option maxHeartbeats 3000000 in
theorem hget_any (A : Option Addr) (b : List UInt8) (c : Nat) (w : World) (hb : b.length = 80) (hc : 80 ≤ c) (hcm : c ≤ maxLen) (hr : Rd w A (b.map u8v)) :
  Calls Try.prog 55 #[.slice A 80 c] w fun e w' => ∃ cs,e = .returned (.tuple #[.agg cs,.int .i64 0])∧HdA (hgetL b) cs∧Keep w w':=by
 obtain ⟨g,off,rfl,hg,_⟩:=hr.at (k:=0) (by simp;omega)
 unfold maxLen at hcm
 obtain ⟨zs,hz1,hz2,hz3,hz4⟩:=zhead_letter
 obtain ⟨bs,hbs⟩ : ∃ bs : Array Value,bs.toList = (Hd.cells ⟨num32 b,z32,z32,num32 (b.drop 68),num32 (b.drop 72),num32 (b.drop 76)⟩):=⟨_,rfl⟩
 have hset : (((zs.toList.set 0 (u32v (num32 b))).set 65 (u32v (num32 (b.drop 68)))).set 66 (u32v (num32 (b.drop 72)))).set 67 (u32v (num32 (b.drop 76))) = bs.toList:=by rw [hz4,hbs,head_set]
 have hbz : bs.size = 68:=by rw [← Array.length_toList,hbs];exact Hd.len ⟨rfl,rfl⟩
 have hbn : ¬ bs = #[]:=by intro h;rw [h] at hbz;simp at hbz
 have Hst : Hid (∀ ww : World,(storeCells ⟨ww.heap.size,0,none⟩ ((((zs.toList.set 0 (u32v (num32 b))).set 65 (u32v (num32 (b.drop 68)))).set 66 (u32v (num32 (b.drop 72)))).set 67 (u32v (num32 (b.drop 76)))) 0).run Try.prog (ww.alloc (.cells zs 30)) = .ok () (ww.alloc (.cells bs 30))):=fun ww => by
  rw [hset]
  exact run_storeCells_new (P:=Try.prog) ww 30 zs bs (by rw [hbz];kernel_rfl) (hz1.trans hbz.symm) (by have:=all_oneCell_toArray (show ∀ v ∈ bs.toList,v.oneCell' = true by rw [hbs];exact Hd.one _);rwa [Array.toArray_toList] at this)
 have hsub : ∀ (w' : World),Keep w w' → ∀ k,k ≤ 80 → Rd w' (some ⟨g,off + k,none⟩) ((b.drop k).map u8v):=fun w' h k hk => by
  have h1:=(hr.keep h).sub k (80 - k) (by simp [hb];omega)
  rw [List.take_of_length_le (by simp [hb])] at h1
  rwa [List.map_drop]
 have N1 : Hid (∀ w',Keep w w' → Calls Try.prog 74 #[.slice (some ⟨g,off,none⟩) 80 c] w' fun e w'' => e = .returned (u32v (num32 b))∧w' = w''):=fun w' h => number_any _ b 80 c w' hb.symm (by omega) (hr.keep h)
 have N4 : Hid (∀ w',Keep w w' → Calls Try.prog 74 #[.slice (some ⟨g,off + 68,none⟩) 12 (c - 68)] w' fun e w'' => e = .returned (u32v (num32 (b.drop 68)))∧w' = w''):=fun w' h => number_any _ (b.drop 68) 12 _ w' (by simp [hb]) (by simp [hb]) (hsub w' h 68 (by omega))
 have N7 : Hid (∀ w',Keep w w' → Calls Try.prog 74 #[.slice (some ⟨g,off + 72,none⟩) 8 (c - 72)] w' fun e w'' => e = .returned (u32v (num32 (b.drop 72)))∧w' = w''):=fun w' h => number_any _ (b.drop 72) 8 _ w' (by simp [hb]) (by simp [hb]) (hsub w' h 72 (by omega))
 have N10 : Hid (∀ w',Keep w w' → Calls Try.prog 74 #[.slice (some ⟨g,off + 76,none⟩) 4 (c - 76)] w' fun e w'' => e = .returned (u32v (num32 (b.drop 76)))∧w' = w''):=fun w' h => number_any _ (b.drop 76) 4 _ w' (by simp [hb]) (by simp [hb]) (hsub w' h 76 (by omega))
 have HS1 : Hid (∀ w',Keep w w' → Rd w' (some ⟨g,off + 4,none⟩) (((b.drop 4).take 32).map u8v)):=fun w' h => by
  have h1:=(hr.keep h).sub 4 32 (by simp [hb])
  rwa [← List.map_drop,← List.map_take] at h1
 have HS2 : Hid (∀ w',Keep w w' → Rd w' (some ⟨g,off + 36,none⟩) (((b.drop 36).take 32).map u8v)):=fun w' h => by
  have h1:=(hr.keep h).sub 36 32 (by simp [hb])
  rwa [← List.map_drop,← List.map_take] at h1
 have Hbs:=Lib.hid hbs;have Hb:=Lib.hid hb
 have ht1 : Hid (((b.drop 4).take 32).length = 32):=by simp [Hid,hb]
 have ht2 : Hid (((b.drop 36).take 32).length = 32):=by simp [Hid,hb]
 have HG : Hid (hgetL b = ⟨num32 b,(b.drop 4).take 32,(b.drop 36).take 32,num32 (b.drop 68),num32 (b.drop 72),num32 (b.drop 76)⟩):=rfl
 generalize hgetL b = H at HG ⊢
 generalize num32 b = na at *
 generalize num32 (b.drop 68) = nt at *
 generalize num32 (b.drop 72) = nb at *
 generalize num32 (b.drop 76) = nn at *
 generalize (b.drop 4).take 32 = p1 at *
 generalize (b.drop 36).take 32 = p2 at *
 clear hbs hb hsub hr hset hz4
 go_enter Try.func55,Try.ntmps55
 go_upto_region 5 with fail
 have HR1 : Hid (Blk (w.alloc (.cells zs 30)) w.heap.size 30 zs.toList):=Blk.new w _ zs.toList
 have kw1:=keep_new w (.cells zs 30)
 have hz0 : w.heap.size < (w.alloc (.cells zs 30)).heap.size:=by simp
 generalize w.alloc (.cells zs 30) = w1 at HR1 kw1 hz0 ⊢
 go_cut [4] (fun p wx => ∃ w9 : World,p = .pointer (some ⟨w9.heap.size,0,none⟩)∧Blk wx w9.heap.size 30 bs.toList∧Keep w1 wx∧w1.heap.size ≤ w9.heap.size)
 case first =>
  refine wp_region_tree (.take [0,2,3,5,6,8,9] (.fork 1 (.fork 4 (.fork 7 (.fork 10 (.take [11] (.force [12] .done)) 12 (.force [10] (.take [11] .done))) 12 (.force [7,10] (.take [11] .done))) 12 (.force [4,7,10] (.take [11] .done))) 12 (.force [1,4,7,10] (.take [11] .done)))) [13] (by kernel_rfl) (by kernel_rfl) (fun w9 k9 => ?_)
  have k8:=k9
  replace k9:=keep_trans kw1 k9
  refine mt_take w9 (Below.refl _ _) ?_
  simp only [pick_cons,pick_nil,nth_zero,nth_succ]
  repeat (go_big_quiet_step (fail))
  refine wpQuiet_nil ?_
  refine mt_fork ?_ ?_
  ·simp only [pick_cons,pick_nil,nth_zero,nth_succ]
   refine fc_step rfl (fun K hK => ?_)
   go_simp
   (with_reducible refine (N1.out _ k9).mono ?_)
   rintro e wX ⟨rfl,rfl⟩
   refine hK _ _ (Below.refl _ _) ?_
   clear hK K
   refine fc_nil ?_
   refine mt_fork ?_ ?_
   ·simp only [pick_cons,pick_nil,nth_zero,nth_succ]
    refine fc_step rfl (fun K hK => ?_)
    go_simp
    (with_reducible refine (N4.out _ k9).mono ?_)
    rintro e wX ⟨rfl,rfl⟩
    refine hK _ _ (Below.refl _ _) ?_
    clear hK K
    refine fc_nil ?_
    refine mt_fork ?_ ?_
    ·simp only [pick_cons,pick_nil,nth_zero,nth_succ]
     refine fc_step rfl (fun K hK => ?_)
     go_simp
     (with_reducible refine (N7.out _ k9).mono ?_)
     rintro e wX ⟨rfl,rfl⟩
     refine hK _ _ (Below.refl _ _) ?_
     clear hK K
     refine fc_nil ?_
     refine mt_fork ?_ ?_
     ·simp only [pick_cons,pick_nil,nth_zero,nth_succ]
      refine fc_step rfl (fun K hK => ?_)
      go_simp
      (with_reducible refine (N10.out _ k9).mono ?_)
      rintro e wX ⟨rfl,rfl⟩
      refine hK _ _ (Below.refl _ _) ?_
      clear hK K
      refine fc_nil ?_
      refine mt_take w9 (Below.refl _ _) ?_
      simp only [pick_cons,pick_nil,nth_zero,nth_succ]
      repeat (go_big_quiet_step (fail))
      refine wpQuiet_nil ?_
      refine mt_force ?_
      simp only [pick_cons,pick_nil,nth_zero,nth_succ]
      refine fc_step rfl (fun K hK => ?_)
      go_simp
      refine hK _ _ (keep_new _ _) ?_
      clear hK K
      refine fc_nil ?_
      refine mt_end ?_
      have hst:=Hst.out w9
      go_wp2
      go_meet
      exact ⟨w9,rfl,Blk.new w9 _ bs.toList,keep_trans k8 (keep_new _ _),k8.size⟩
     ·simp only [pick_cons,pick_nil,nth_zero,nth_succ]
      refine fc_step rfl (fun K hK => ?_)
      go_simp
      refine hK _ _ (keep_new _ _) ?_
      clear hK K
      refine fc_nil ?_
      refine mt_force ?_
      simp only [pick_cons,pick_nil,nth_zero,nth_succ]
      refine fc_step rfl (fun K hK => ?_)
      go_simp
      (with_reducible refine (N10.out _ (keep_trans k9 (keep_new _ _))).mono ?_)
      rintro e wX ⟨rfl,rfl⟩
      refine hK _ _ (Below.refl _ _) ?_
      clear hK K
      refine fc_nil ?_
      refine mt_take (w9.alloc (.cells zs 30)) (Below.refl _ _) ?_
      simp only [pick_cons,pick_nil,nth_zero,nth_succ]
      repeat (go_big_quiet_step (fail))
      refine wpQuiet_nil ?_
      refine mt_end ?_
      have hst:=Hst.out w9
      go_wp2
      go_meet
      exact ⟨w9,rfl,Blk.new w9 _ bs.toList,keep_trans k8 (keep_new _ _),k8.size⟩
    ·simp only [pick_cons,pick_nil,nth_zero,nth_succ]
     refine fc_step rfl (fun K hK => ?_)
     go_simp
     refine hK _ _ (keep_new _ _) ?_
     clear hK K
     refine fc_nil ?_
     refine mt_force ?_
     simp only [pick_cons,pick_nil,nth_zero,nth_succ]
     refine fc_step rfl (fun K hK => ?_)
     go_simp
     (with_reducible refine (N7.out _ (keep_trans k9 (keep_new _ _))).mono ?_)
     rintro e wX ⟨rfl,rfl⟩
     refine hK _ _ (Below.refl _ _) ?_
     clear hK K
     refine fc_step rfl (fun K hK => ?_)
     go_simp
     (with_reducible refine (N10.out _ (keep_trans k9 (keep_new _ _))).mono ?_)
     rintro e wX ⟨rfl,rfl⟩
     refine hK _ _ (Below.refl _ _) ?_
     clear hK K
     refine fc_nil ?_
     refine mt_take (w9.alloc (.cells zs 30)) (Below.refl _ _) ?_
     simp only [pick_cons,pick_nil,nth_zero,nth_succ]
     repeat (go_big_quiet_step (fail))
     refine wpQuiet_nil ?_
     refine mt_end ?_
     have hst:=Hst.out w9
     go_wp2
     go_meet
     exact ⟨w9,rfl,Blk.new w9 _ bs.toList,keep_trans k8 (keep_new _ _),k8.size⟩
   ·simp only [pick_cons,pick_nil,nth_zero,nth_succ]
    refine fc_step rfl (fun K hK => ?_)
    go_simp
    refine hK _ _ (keep_new _ _) ?_
    clear hK K
    refine fc_nil ?_
    refine mt_force ?_
    simp only [pick_cons,pick_nil,nth_zero,nth_succ]
    refine fc_step rfl (fun K hK => ?_)
    go_simp
    (with_reducible refine (N4.out _ (keep_trans k9 (keep_new _ _))).mono ?_)
    rintro e wX ⟨rfl,rfl⟩
    refine hK _ _ (Below.refl _ _) ?_
    clear hK K
    refine fc_step rfl (fun K hK => ?_)
    go_simp
    (with_reducible refine (N7.out _ (keep_trans k9 (keep_new _ _))).mono ?_)
    rintro e wX ⟨rfl,rfl⟩
    refine hK _ _ (Below.refl _ _) ?_
    clear hK K
    refine fc_step rfl (fun K hK => ?_)
    go_simp
    (with_reducible refine (N10.out _ (keep_trans k9 (keep_new _ _))).mono ?_)
    rintro e wX ⟨rfl,rfl⟩
    refine hK _ _ (Below.refl _ _) ?_
    clear hK K
    refine fc_nil ?_
    refine mt_take (w9.alloc (.cells zs 30)) (Below.refl _ _) ?_
    simp only [pick_cons,pick_nil,nth_zero,nth_succ]
    repeat (go_big_quiet_step (fail))
    refine wpQuiet_nil ?_
    refine mt_end ?_
    have hst:=Hst.out w9
    go_wp2
    go_meet
    exact ⟨w9,rfl,Blk.new w9 _ bs.toList,keep_trans k8 (keep_new _ _),k8.size⟩
  ·simp only [pick_cons,pick_nil,nth_zero,nth_succ]
   refine fc_step rfl (fun K hK => ?_)
   go_simp
   refine hK _ _ (keep_new _ _) ?_
   clear hK K
   refine fc_nil ?_
   refine mt_force ?_
   simp only [pick_cons,pick_nil,nth_zero,nth_succ]
   refine fc_step rfl (fun K hK => ?_)
   go_simp
   (with_reducible refine (N1.out _ (keep_trans k9 (keep_new _ _))).mono ?_)
   rintro e wX ⟨rfl,rfl⟩
   refine hK _ _ (Below.refl _ _) ?_
   clear hK K
   refine fc_step rfl (fun K hK => ?_)
   go_simp
   (with_reducible refine (N4.out _ (keep_trans k9 (keep_new _ _))).mono ?_)
   rintro e wX ⟨rfl,rfl⟩
   refine hK _ _ (Below.refl _ _) ?_
   clear hK K
   refine fc_step rfl (fun K hK => ?_)
   go_simp
   (with_reducible refine (N7.out _ (keep_trans k9 (keep_new _ _))).mono ?_)
   rintro e wX ⟨rfl,rfl⟩
   refine hK _ _ (Below.refl _ _) ?_
   clear hK K
   refine fc_step rfl (fun K hK => ?_)
   go_simp
   (with_reducible refine (N10.out _ (keep_trans k9 (keep_new _ _))).mono ?_)
   rintro e wX ⟨rfl,rfl⟩
   refine hK _ _ (Below.refl _ _) ?_
   clear hK K
   refine fc_nil ?_
   refine mt_take (w9.alloc (.cells zs 30)) (Below.refl _ _) ?_
   simp only [pick_cons,pick_nil,nth_zero,nth_succ]
   repeat (go_big_quiet_step (fail))
   refine wpQuiet_nil ?_
   refine mt_end ?_
   have hst:=Hst.out w9
   go_wp2
   go_meet
   exact ⟨w9,rfl,Blk.new w9 _ bs.toList,keep_trans k8 (keep_new _ _),k8.size⟩
 case rest =>
  obtain ⟨w9,rfl,hb9,k9,hz9⟩:=hcut
  have HB1:=Lib.hid hb9;have HR1':=Lib.hid (HR1.out.keep k9);have HK1:=Lib.hid k9
  generalize w9.heap.size = G at HB1 hz9 ⊢
  clear hb9 k9 HR1
  have HR1:=HR1'
  have Hbl : Hid (bs.toList.length = 68):=(Array.length_toList).trans hbz
  clear HR1' N1 N4 N7 N10 Hst
  go_upto_region 6 with fail
  refine wp_region_tree (.take [0,1,2,3] .done) [4] (by kernel_rfl) (by kernel_rfl) (fun v2 k2 => ?_)
  have b2:=Lib.hid (HB1.out.keep k2);have r2:=Lib.hid (HR1.out.keep k2);have q2:=Lib.hid (keep_trans HK1.out k2)
  refine mt_take v2 (Below.refl _ _) ?_
  simp only [pick_cons,pick_nil,nth_zero,nth_succ]
  repeat (go_big_quiet_step (fail))
  refine wpQuiet_nil (mt_end ?_)
  refine wpList_cpy byteW (by rfl) _ _ (by rfl) G 1 32 32 (by rfl) (some ⟨g,off + 4,none⟩) 32 (c - 4) (p1.map u8v) (by rfl) (by rw [List.length_map];exact ht1) (HS1.out v2 (keep_trans kw1 q2.out)) (one_w8 _) bs.toList _ b2.out (by rw [Array.length_toList,hbz];omega) ?_
  intro w2 ho2 hg2
  simp only [Act.put,Array.set!_eq_setIfInBounds,List.setIfInBounds_toArray,List.set_cons_succ,List.set_cons_zero]
  have HB2 : Hid (Blk w2 G 30 (splice bs.toList 1 (p1.map u8v))):=by
   have h:=ho2.out
   rwa [List.take_of_length_le (by rw [List.length_map];have : p1.length = 32:=ht1;omega)] at h
  have HR2:=Lib.hid (r2.out.grown hg2 (fun e => by injection e with e;omega))
  have HK2 : Hid (Keep w1 w2):=q2.out.grown hg2 q2.out.size (fun q hq => by injection hq with hq;omega)
  clear ho2 hg2 b2 r2 q2 k2 HB1 HR1 HK1
  have Hl2 : Hid ((splice bs.toList 1 (p1.map u8v)).length = 68):=(length_splice _ _ _ (by rw [Hbl.out,List.length_map];have : p1.length = 32:=ht1;omega)).trans Hbl.out
  generalize hx2 : splice bs.toList 1 (p1.map u8v) = x2 at HB2 Hl2
  have Hx2:=Lib.hid hx2;clear hx2
  go_upto_region 7 with fail
  refine wp_region_tree (.take [0,1,2,3] .done) [4] (by kernel_rfl) (by kernel_rfl) (fun v3 k3 => ?_)
  have b3:=Lib.hid (HB2.out.keep k3);have r3:=Lib.hid (HR2.out.keep k3);have q3:=Lib.hid (keep_trans HK2.out k3)
  refine mt_take v3 (Below.refl _ _) ?_
  simp only [pick_cons,pick_nil,nth_zero,nth_succ]
  repeat (go_big_quiet_step (fail))
  refine wpQuiet_nil (mt_end ?_)
  refine wpList_cpy byteW (by rfl) _ _ (by rfl) G 33 32 32 (by rfl) (some ⟨g,off + 36,none⟩) 32 (c - 36) (p2.map u8v) (by rfl) (by rw [List.length_map];exact ht2) (HS2.out v3 (keep_trans kw1 q3.out)) (one_w8 _) x2 _ b3.out (by rw [Hl2.out];omega) ?_
  intro w3 ho3 hg3
  simp only [Act.put,Array.set!_eq_setIfInBounds,List.setIfInBounds_toArray,List.set_cons_succ,List.set_cons_zero]
  have HB3 : Hid (Blk w3 G 30 (splice x2 33 (p2.map u8v))):=by
   have h:=ho3.out
   rwa [List.take_of_length_le (by rw [List.length_map];have : p2.length = 32:=ht2;omega)] at h
  have HR3:=Lib.hid (r3.out.grown hg3 (fun e => by injection e with e;omega))
  have HK3 : Hid (Keep w1 w3):=q3.out.grown hg3 q3.out.size (fun q hq => by injection hq with hq;omega)
  clear ho3 hg3 b3 r3 q3 k3 HB2 HR2 HK2
  have hfin : splice x2 33 (p2.map u8v) = H.cells:=by
   rw [← Hx2.out,Hbs.out,HG.out]
   have e1 : Hd.cells ⟨na,z32,z32,nt,nb,nn⟩ = [u32v na] ++ (z32.map u8v ++ (z32.map u8v ++ [u32v nt,u32v nb,u32v nn])):=rfl
   rw [e1,splice_mid [u32v na] _ _ (p1.map u8v) 1 rfl (by rw [List.length_map,List.length_map];exact Eq.symm ht1),← List.append_assoc,
    splice_mid ([u32v na] ++ p1.map u8v) _ _ (p2.map u8v) 33 (by have : p1.length = 32:=ht1;simp [this]) (by rw [List.length_map,List.length_map];exact Eq.symm ht2)]
   simp [Hd.cells]
  have hok : H.ok:=by rw [HG.out];exact ⟨ht1,ht2⟩
  rw [hfin] at HB3
  clear hfin Hx2
  obtain ⟨cs,hcs⟩ : ∃ cs,HdA H cs:=⟨_,HdA.of hok⟩
  have hcz:=hcs.z;have hcn:=hcs.n;have hci:=hcs.i
  have HB4 : Hid (Blk w3 G 30 cs.toList):=by rw [hcs.l];exact HB3.out
  obtain ⟨w8,hst,hb8,hg8⟩:=run_store_blk (P:=Try.prog) cs.toList HR3.out (by simp [hz1,hcz]) hcs.o
  have Hb8:=Lib.hid hb8;have Hg8:=Lib.hid hg8;have Hcs:=Lib.hid hcs
  clear hb8 hg8 hcs hok
  go_upto_region 8 with fail
  go_wp2_with ((with_reducible refine load_arr G cs (Eq.trans ?_ rfl) HB4.out _ Try.underlying30 rfl hci ?_);rfl)
  have hb8:=Hb8.out
  have hk8 : Keep w w3:=keep_trans kw1 HK3.out
  exact bodyPost_ret (v:=.tuple #[.agg cs,.int .i64 0]) (results_cell_tmp_row Try.results55 _ _ w.heap.size _ _ _ _ rfl hb8 Try.underlying30 rfl (by rw [List.size_toArray,Array.length_toList];exact hci)) rfl ⟨cs,rfl,Hcs.out,hk8.grown Hg8.out hk8.size (fun q hq => by injection hq with hq;omega)⟩
end Go.Proofs.Ytbgpgdhndanigaa
/- header.Get of too few bytes, PutAll, GetAll. (printed by gen_vg.py) -/
set_option linter.unusedSimpArgs false
set_option linter.unusedVariables false
namespace Go.Proofs.Ytbgpgdhndanigaa
open Go.RowKit
attribute [local go_sem ↓] Go.wp_at_zero Go.wp_at_succ
theorem zhead_HdA : HdA ⟨0,z32,z32,0,0,0⟩ zhead:=by
 have h:=HdA.of (h:=⟨0,z32,z32,0,0,0⟩) ⟨rfl,rfl⟩
 rwa [← zhead_list,Array.toArray_toList] at h
theorem zhead_built : Try.prog.built 30 [] = some zhead:=by kernel_rfl
theorem zheadB_letter : ∃ zs : Array Value,HdA ⟨0,z32,z32,0,0,0⟩ zs∧(∀ w,(zeroValue 30).run Try.prog w = .ok (.agg zs) w)∧Try.prog.built 30 [] = some zs :=
 ⟨zhead,zhead_HdA,zhead_zero,zhead_built⟩
def hpa (l : List Hd) : List UInt8:=l.flatMap fun h => hputL h ++ [0]
def hpall (l : List Hd) : List UInt8:=cptL l.length ++ hpa l
theorem hpa_len (l : List Hd) (hk : ∀ h ∈ l,h.ok) : (hpa l).length = l.length * 81:=by
 unfold hpa
 exact flatMap_len' _ 81 l fun h hh => by rw [List.length_append,hputL_len (hk h hh)];rfl
set_option maxRecDepth 100000 in
set_option maxHeartbeats 4000000 in
theorem hpall_any (A : Option Addr) (l : List Hd) (c : Nat) (w : World) (hl : l.length ≤ 2000) (hk : ∀ h ∈ l,h.ok) (hr : Rd w A (l.flatMap Hd.cells)) :
  Calls Try.prog 45 #[.slice A l.length c] w fun e w' => ∃ v,e = .returned (.tuple #[v,iv 0])∧w'.ownsRow w.heap.size 5 1 v (hpall l).length ((hpall l).map u8v)∧Keep w w':=by
 have C1 : Hid (∀ y,Calls Try.prog 65 #[.slice none 0 0,u64v l.length] y fun e w' => ∃ v,e = .returned v∧w'.ownsRow y.heap.size 5 1 v (sizN l.length) ((cptL l.length).map u8v)∧Keep y w'):=Lib.hid fun y => cput_any l.length (by omega) y
 have hs:=siz_le l.length
 have HLEN : Hid ((hpall l).length = sizN l.length + l.length * 81):=Lib.hid (by unfold hpall;rw [List.length_append,cpt_len,hpa_len l hk])
 have HAT : Hid (∀ k (h : k < l.length),∃ (x : Hd) (xs : Array Value),x.ok∧HdA x xs∧(l.take (k + 1)) = l.take k ++ [x]∧∃ b off,A = some ⟨b,off,none⟩∧w.rangeAt b (off + k * 68) xs.toList):=Lib.hid fun k h => by
  obtain ⟨b,off,h1,-,h2⟩:=heads_at hr hk h
  have hx:=HdA.of (hk _ (List.getElem_mem h))
  exact ⟨l[k],_,hk _ (List.getElem_mem h),hx,List.take_succ_eq_append_getElem h,b,off,h1,by rw [hx.l];exact h2⟩
 have HFN : Hid ((cptL l.length ++ hpa (l.take l.length)) = hpall l):=Lib.hid (by rw [List.take_length];rfl)
 have H0 : Hid (∀ C : List UInt8,C ++ hpa (l.take 0) = C):=Lib.hid fun C => by simp [hpa]
 have H1 : Hid (∀ (C : List UInt8) k x,l.take (k + 1) = l.take k ++ [x] → C ++ hpa (l.take (k + 1)) = (C ++ hpa (l.take k)) ++ (hputL x ++ [0])):=Lib.hid fun C k x h => by rw [h];simp [hpa]
 clear hr hk
 generalize hpall l = R at *
 generalize cptL l.length = C at *
 generalize sizN l.length = s at *
 obtain ⟨n,hn⟩ : ∃ n,l.length = n:=⟨_,rfl⟩
 rw [hn] at C1 HLEN HAT HFN hl ⊢
 clear hn
 have d1 : ¬ (2000 : Int) < n:=by omega
 have hw : IntKind.u64.wrap (n : Int) = n:=by rw [IntKind.wrap_u64];omega
 obtain ⟨zs,hz1,hz2,hz3,hz4⟩:=zhead_letter
 clear hz4
 go_enter Try.func45,Try.ntmps45
 go_wp2_with fail
 refine (C1.out _).mono ?_
 clear C1
 rintro e w1 ⟨v1,rfl,hown,k1⟩
 have Own0 : Hid (w1.ownsRow w.heap.size 5 1 v1 (s + 0 * 81) ((C ++ hpa (l.take 0)).map u8v)):=Lib.hid (own_eq hown (by omega) (by rw [H0.out]))
 have HK1:=Lib.hid k1
 clear k1 hown H0
 go_wp2_with fail
 clear d1 hw
 go_loopw [4,16] (fun v x wr => ∃ k : Nat,k ≤ n∧x = .int .i64 k∧Hid (wr.ownsRow w.heap.size 5 1 v (s + k * 81) ((C ++ hpa (l.take k)).map u8v))∧Hid (Keep w wr)) (fun _ x _ => n - (intOf x).toNat)
 case atStart => exact ⟨0,Nat.zero_le _,rfl,Own0,HK1⟩
 case round =>
  obtain ⟨k,hk,rfl,Own1,HKr⟩:=hrel
  by_cases hlt : k < n
  ·obtain ⟨x,xs,hxo,hxs,htk,b,off,rfl,hrg⟩:=HAT.out k hlt
   have HH1:=Lib.hid (H1.out C k x htk)
   have P1 : Hid (∀ y,Calls Try.prog 44 #[.agg xs] y fun e w' => ∃ A,e = .returned (.slice A 80 80)∧Rd w' A ((hputL x).map u8v)∧Keep y w'):=Lib.hid fun y => hput_any x xs y hxo hxs
   have HPL:=Lib.hid (hputL_len hxo)
   have hxz:=hxs.z;have hxn:=hxs.n;have hxi:=hxs.i
   have RX : Hid (wr.rangeAt b (off + k * 68) xs.toList):=Lib.hid fun j v hv => keep_cell HKr.out (hrg j v hv)
   have hst : (storeCells ⟨wr.heap.size,0,none⟩ xs.toList 0).run Try.prog (wr.alloc (.cells zs 30)) = .ok () (wr.alloc (.cells xs 30)):=run_storeCells_new (P:=Try.prog) wr 30 zs xs hxi (hz1.trans hxz.symm) (by have:=all_oneCell_toArray hxs.o;rwa [Array.toArray_toList] at this)
   have d2 : (k : Int) < n:=by omega
   clear hxo hxs htk hrg HAT H1
   obtain ⟨Av,cv,rfl,-,-,-⟩:=own_form Own1.out
   go_upto_region 7 with ((with_reducible refine load_partg b (off + k * 68) xs (Eq.trans ?_ rfl) RX.out _ Try.underlying30 rfl hxi rfl ?_);rfl)
   obtain ⟨w2,hw2⟩ : ∃ w2,w2 = wr.alloc (.cells xs 30):=⟨_,rfl⟩
   have HB2 : Hid (Blk w2 wr.heap.size 30 xs.toList):=by rw [hw2];exact Lib.hid (Blk.new wr 30 xs.toList)
   have HK2 : Hid (Keep w w2):=by rw [hw2];exact Lib.hid (keep_trans HKr.out (keep_new _ _))
   have Own2 : Hid (w2.ownsRow w.heap.size 5 1 (.slice Av (s + k * 81) cv) (s + k * 81) ((C ++ hpa (l.take k)).map u8v)):=by rw [hw2];exact Lib.hid (Own1.out.alloc _)
   rw [← hw2]
   clear hw2 hst RX HKr Own1
   generalize wr.heap.size = gb at *
   have RB : Hid (w2.rangeAt gb 0 xs.toList):=Lib.hid (range_of HB2.out 0 xs.toList (by simp [List.take_of_length_le]))
   clear HB2
   go_wp2_with ((with_reducible refine load_partg gb 0 xs (Eq.trans ?_ rfl) RB.out _ Try.underlying30 rfl hxi rfl ?_);rfl)
   refine (P1.out _).mono ?_
   clear P1 RB
   rintro e w3 ⟨Ap,rfl,hrp,k3⟩
   have HK3:=Lib.hid (keep_trans HK2.out k3)
   have Own3:=Lib.hid (own_keep Own2.out k3)
   have RP:=Lib.hid hrp
   clear k3 hrp HK2 Own2
   go_upto_region 8 with (at_builtin;refine wpList_app byteT (by rfl) _ _ (by rfl) w.heap.size _ (s + k * 81) _ (by rfl) Own3.out _ 80 80 ((hputL x).map u8v) (by rfl) (by rw [List.length_map,HPL.out]) RP.out (one_bytes _) (by omega) (by unfold maxLen;omega) (by have:=HK3.out.size;omega) ?_;intro v4 w4 own4 hg4 hat4;have Own4:=Lib.hid own4;have HK4:=Lib.hid (keep_grown HK3.out (by have:=HK3.out.size;omega) hg4 Own3.out);clear own4 hg4 hat4 Own3 HK3)
   go_wp2_with (at_builtin;refine wpList_app byteT (by rfl) _ _ (by rfl) w.heap.size _ (s + k * 81 + 80) _ (by rfl) (Own4.out.alloc _) _ 1 1 [.int .u8 0] (by rfl) (by rfl) (Rd.new _ _ _) (by simp [Value.oneCell']) (by omega) (by unfold maxLen;omega) (by have:=HK4.out.size;simp;omega) ?_;intro v5 w5 own5 hg5 hat5;have Own5:=Lib.hid own5;have HK5:=Lib.hid (keep_grown (HK4.out.alloc (HK4.out.size) _) (by have:=HK4.out.size;simp;omega) hg5 (Own4.out.alloc _));clear own5 hg5 hat5 Own4 HK4)
   go_roundw
   case rel => exact ⟨k + 1,by omega,by go_num,Lib.hid (own_eq Own5.out (by omega) (by rw [HH1.out];simp)),HK5⟩
   case measure => simp [intOf];omega
  ·obtain rfl : k = n:=by omega
   have d2 : ¬ (k : Int) < k:=by omega
   obtain ⟨Ao,co,rfl,-,-,-⟩:=own_form Own1.out
   go_wp2
   exact bodyPost_ret (v:=.tuple #[.slice Ao (s + k * 81) co,iv 0]) (by simp [results,Try.results45]) rfl ⟨_,rfl,own_eq Own1.out HLEN.out.symm (by rw [HFN.out]),HKr.out⟩
end Go.Proofs.Ytbgpgdhndanigaa
/- florinref07.four, Put, PutAll. (printed by gen_kc.py) -/
set_option linter.unusedSimpArgs false
set_option linter.unusedVariables false
namespace Go.Proofs.Ytbgpgdhndanigaa
open Go.RowKit
attribute [local go_sem ↓] Go.wp_at_zero Go.wp_at_succ
theorem Bf.row {w0 w : World} (k : Keep w0 w) (l : List UInt8) (hl : l.length ≤ 1000000000) : Bf w0 (w.alloc (.cells (l.map u8v).toArray 5)) (some ⟨w.heap.size,0,none⟩) l.length l :=
 ⟨own_eq (World.ownsRow_lit (base:=w0.heap.size) (size:=1) (e:=5) w (l.map u8v).toArray l.length k.size (by unfold maxLen;omega) (by simp)) rfl (by simp),k.alloc k.size _⟩
set_option maxRecDepth 100000 in
set_option maxHeartbeats 1000000 in
theorem rfour_any (x : UInt32) (w : World) : Calls Try.prog 71 #[u32v x] w (Bfd w (le4 x)):=by
 have hx:=x.toNat_lt
 obtain ⟨a,ha⟩ : ∃ a,w8 (leE x 0) = a:=⟨_,rfl⟩
 obtain ⟨b,hb⟩ : ∃ b,w8 (leE x 1) = b:=⟨_,rfl⟩
 obtain ⟨c,hc⟩ : ∃ c,w8 (leE x 2) = c:=⟨_,rfl⟩
 obtain ⟨d,hd⟩ : ∃ d,w8 (leE x 3) = d:=⟨_,rfl⟩
 have e0 : (x.toNat : Int) % 256 = (a.toNat : Int):=by rw [← ha,← w8_of (by unfold leE;omega) (by unfold leE;omega)];unfold leE;simp
 have e1 : (x.toNat : Int) / 256 % 256 = (b.toNat : Int):=by rw [← hb,← w8_of (by unfold leE;omega) (by unfold leE;omega)];unfold leE;simp
 have e2 : (x.toNat : Int) / 65536 % 256 = (c.toNat : Int):=by rw [← hc,← w8_of (by unfold leE;omega) (by unfold leE;omega)];unfold leE;simp
 have e3 : (x.toNat : Int) / 16777216 = (d.toNat : Int):=by rw [← hd,← w8_of (by unfold leE;omega) (by unfold leE;omega)];unfold leE;simp;omega
 have HL : Hid (le4 x = [a,b,c,d]):=Lib.hid (by unfold le4;rw [ha,hb,hc,hd])
 clear ha hb hc hd
 rw [HL.out]
 unfold Bfd
 go_enter Try.func71,Try.ntmps71
 go_wp2
 exact bodyPost_ret (v:=.slice (some ⟨w.heap.size,0,none⟩) 4 4) (by simp [results,Try.results71]) rfl ⟨_,_,rfl,Bf.row (Below.refl _ _) [a,b,c,d] (by simp)⟩
set_option maxRecDepth 100000 in
set_option maxHeartbeats 4000000 in
theorem rhput_any (h : Hd) (cs : Array Value) (w : World) (hk : h.ok) (hcs : HdA h cs) :
  Calls Try.prog 48 #[.agg cs] w (Bfd w (hputL h)):=by
 have hcz:=hcs.z;have hcn:=hcs.n;have hci:=hcs.i
 have F4 : Hid (∀ x y,Calls Try.prog 71 #[u32v x] y (Bfd y (le4 x))):=Lib.hid fun x y => rfour_any x y
 have F4L : ∀ x,(le4 x).length ≤ 4:=fun x => Nat.le_refl _
 have HB0 : Hid (Blk (w.alloc (.cells cs 30)) w.heap.size 30 h.cells):=by rw [← hcs.l];exact Lib.hid (Blk.new w _ cs.toList)
 have HPL : Hid (hputL h = ((((le4 h.ver ++ h.prev) ++ h.root) ++ le4 h.time) ++ le4 h.bits) ++ le4 h.nonce):=Lib.hid (by unfold hputL;simp only [List.append_assoc])
 have HK:=Lib.hid hk
 have hp32:=hk.1;have hr32:=hk.2
 clear hcs hk
 rw [HPL.out]
 clear HPL
 go_enter Try.func48,Try.ntmps48
 obtain ⟨w1,hw1⟩ : ∃ x,x = w.alloc (.cells cs 30):=⟨_,rfl⟩
 have k1 : Hid (Keep w w1):=by rw [hw1];exact Lib.hid (keep_new _ _)
 rw [← hw1] at HB0
 have HB1:=HB0
 have hsz1 : w.heap.size < w1.heap.size:=by rw [hw1];simp
 go_upto_region 1 with fail
 rw [← hw1]
 clear hw1 HB0
 generalize hg : w.heap.size = g at *
 have v0:=hd_cell0 HB1.out HK.out
 go_wp2_with fail
 refine (F4.out _ _).mono ?_
 clear v0
 rintro e w2 ⟨A2,c2,rfl,b2⟩
 have BF2:=Lib.hid b2
 clear b2
 have hl2 : (le4 h.ver).length ≤ 4:=Nat.le_refl _
 have r2:=hd_prev (HB1.out.keep BF2.out.k) HK.out
 go_upto_region 3 with (at_builtin;refine wpList_bf (by rfl) _ _ (by rfl) BF2.out (by rfl) (some ⟨g,1,none⟩) 32 32 h.prev (by rfl) hp32 r2 (by omega) ?_;rintro z3 A3 c3 w3 E3 b3 -)
 have BF3:=Lib.hid b3
 have hl3 : z3.length ≤ 36:=by rw [E3.out,List.length_append];omega
 clear b3 BF2 r2
 have r3:=hd_root (HB1.out.keep BF3.out.k) HK.out
 go_upto_region 4 with (at_builtin;refine wpList_bf (by rfl) _ _ (by rfl) BF3.out (by rfl) (some ⟨g,33,none⟩) 32 32 h.root (by rfl) hr32 r3 (by omega) ?_;rintro z4 A4 c4 w4 E4 b4 -)
 have BF4:=Lib.hid b4
 have hl4 : z4.length ≤ 68:=by rw [E4.out,List.length_append];omega
 clear b4 BF3 r3
 have v0:=hd_cell65 (HB1.out.keep BF4.out.k) HK.out
 go_wp2_with fail
 refine (F4.out _ _).mono ?_
 clear v0
 rintro e w5 ⟨A5,c5,rfl,b5⟩
 have BF5:=Lib.hid (BF4.out.keep b5.k)
 have r0:=b5.rd
 have hlf : (le4 h.time).length ≤ 4:=Nat.le_refl _
 go_upto_region 5 with (at_builtin;refine wpList_bf (by rfl) _ _ (by rfl) BF5.out (by rfl) _ _ _ (le4 h.time) (by rfl) rfl r0 (by omega) ?_;rintro z6 A6 c6 w6 E6 b6 -)
 have BF6:=Lib.hid b6
 have hl6 : z6.length ≤ z4.length + 4:=by rw [E6.out,List.length_append];omega
 clear b5 b6 BF4 BF5 r0 hlf
 have v0:=hd_cell66 (HB1.out.keep BF6.out.k) HK.out
 go_wp2_with fail
 refine (F4.out _ _).mono ?_
 clear v0
 rintro e w7 ⟨A7,c7,rfl,b7⟩
 have BF7:=Lib.hid (BF6.out.keep b7.k)
 have r0:=b7.rd
 have hlf : (le4 h.bits).length ≤ 4:=Nat.le_refl _
 go_upto_region 6 with (at_builtin;refine wpList_bf (by rfl) _ _ (by rfl) BF7.out (by rfl) _ _ _ (le4 h.bits) (by rfl) rfl r0 (by omega) ?_;rintro z8 A8 c8 w8 E8 b8 -)
 have BF8:=Lib.hid b8
 have hl8 : z8.length ≤ z6.length + 4:=by rw [E8.out,List.length_append];omega
 clear b7 b8 BF6 BF7 r0 hlf
 have v0:=hd_cell67 (HB1.out.keep BF8.out.k) HK.out
 go_wp2_with fail
 refine (F4.out _ _).mono ?_
 clear v0
 rintro e w9 ⟨A9,c9,rfl,b9⟩
 have BF9:=Lib.hid (BF8.out.keep b9.k)
 have r0:=b9.rd
 have hlf : (le4 h.nonce).length ≤ 4:=Nat.le_refl _
 go_wp2_with (at_builtin;refine wpList_bf (by rfl) _ _ (by rfl) BF9.out (by rfl) _ _ _ (le4 h.nonce) (by rfl) rfl r0 (by omega) ?_;rintro z10 A10 c10 w10 E10 b10 -)
 have BF10:=Lib.hid b10
 have hl10 : z10.length ≤ z8.length + 4:=by rw [E10.out,List.length_append];omega
 clear b9 b10 BF8 BF9 r0 hlf
 have ez : z10 = ((((le4 h.ver ++ h.prev) ++ h.root) ++ le4 h.time) ++ le4 h.bits) ++ le4 h.nonce:=by rw [E10.out,E8.out,E6.out,E4.out,E3.out]
 rw [← ez]
 exact bodyPost_ret (v:=.slice A10 z10.length c10) (by simp [results,Try.results48]) rfl ⟨_,_,rfl,BF10.out.up k1.out⟩
theorem hpa_snoc (l : List Hd) (x : Hd) : hpa (l ++ [x]) = hpa l ++ (hputL x ++ [0]):=by unfold hpa;simp
set_option maxRecDepth 100000 in
set_option maxHeartbeats 4000000 in
theorem rhpall_any (A : Option Addr) (l : List Hd) (c : Nat) (w : World) (hl : l.length ≤ 2000) (hk : ∀ h ∈ l,h.ok) (hr : Rd w A (l.flatMap Hd.cells)) :
  Calls Try.prog 25 #[.slice A l.length c] w fun e w' => ∃ A' c',e = .returned (.tuple #[.slice A' (hpall l).length c',iv 0])∧Bf w w' A' c' (hpall l):=by
 have C1 : Hid (∀ y,Calls Try.prog 47 #[.slice none 0 0,u64v l.length] y (Bfd y (cptL l.length))):=Lib.hid fun y => rcput_any l.length (by omega) y
 have HAT : Hid (∀ k (h : k < l.length),∃ (x : Hd) (xs : Array Value),x.ok∧HdA x xs∧(l.take (k + 1)) = l.take k ++ [x]∧∃ b off,A = some ⟨b,off,none⟩∧w.rangeAt b (off + k * 68) xs.toList):=Lib.hid fun k h => by
  obtain ⟨b,off,h1,-,h2⟩:=heads_at hr hk h
  have hx:=HdA.of (hk _ (List.getElem_mem h))
  exact ⟨l[k],_,hk _ (List.getElem_mem h),hx,List.take_succ_eq_append_getElem h,b,off,h1,by rw [hx.l];exact h2⟩
 have HFN : Hid (cptL l.length ++ hpa (l.take l.length) = hpall l):=Lib.hid (by rw [List.take_length];rfl)
 have HPL : Hid (∀ k,k ≤ l.length → (hpa (l.take k)).length = k * 81):=Lib.hid fun k h => by rw [hpa_len _ (fun x hx => hk x (List.mem_of_mem_take hx)),List.length_take,Nat.min_eq_left h]
 have hs:=siz_le l.length
 have HCL : (cptL l.length).length ≤ sizN l.length:=Nat.le_of_eq (cpt_len _)
 clear hr hk
 generalize hpall l = R at *
 generalize cptL l.length = C at *
 generalize sizN l.length = s at *
 obtain ⟨n,hn⟩ : ∃ n,l.length = n:=⟨_,rfl⟩
 rw [hn] at C1 HAT HFN HPL hl ⊢
 clear hn
 have d1 : ¬ (2000 : Int) < n:=by omega
 have hw : IntKind.u64.wrap (n : Int) = n:=by rw [IntKind.wrap_u64];omega
 go_enter Try.func25,Try.ntmps25
 go_wp2_with fail
 refine (C1.out _).mono ?_
 clear C1
 rintro e w1 ⟨A1,c1,rfl,b1⟩
 have B1 : Hid (Bf w w1 A1 c1 (C ++ hpa (l.take 0))):=Lib.hid (by rw [show C ++ hpa (l.take 0) = C by simp [hpa]];exact b1)
 have hC0 : C.length = (C ++ hpa (l.take 0)).length:=by simp [hpa]
 rw [hC0]
 clear b1 hC0
 generalize hz0 : C ++ hpa (l.take 0) = z0 at *
 have HZ0:=Lib.hid hz0
 clear hz0
 go_wp2_with fail
 clear d1 hw
 go_loopw [4,5] (fun v x wr => ∃ (k : Nat) (z : List UInt8) (A' : Option Addr) (c' : Nat),k ≤ n∧x = .int .i64 k∧v = .slice A' z.length c'∧Hid (C ++ hpa (l.take k) = z)∧Hid (Bf w wr A' c' z)) (fun _ x _ => n - (intOf x).toNat)
 case atStart => exact ⟨0,z0,_,_,Nat.zero_le _,rfl,rfl,HZ0,B1⟩
 case round =>
  obtain ⟨k,z,A',c',hk,rfl,rfl,HZ,BR⟩:=hrel
  clear B1
  by_cases hlt : k < n
  ·obtain ⟨x,xs,hxo,hxs,htk,b,off,rfl,hrg⟩:=HAT.out k hlt
   have HH1 : Hid (C ++ hpa (l.take (k + 1)) = (z ++ hputL x) ++ [0]):=Lib.hid (by rw [htk,hpa_snoc,← HZ.out];simp only [List.append_assoc])
   have hzl : z.length ≤ s + k * 81:=by rw [← HZ.out,List.length_append,HPL.out k (by omega)];omega
   have P1 : Hid (∀ y,Calls Try.prog 48 #[.agg xs] y (Bfd y (hputL x))):=Lib.hid fun y => rhput_any x xs y hxo hxs
   have hpl : (hputL x).length ≤ 80:=Nat.le_of_eq (hputL_len hxo)
   have hxz:=hxs.z;have hxn:=hxs.n;have hxi:=hxs.i
   have RX : Hid (wr.rangeAt b (off + k * 68) xs.toList):=Lib.hid fun j v hv => keep_cell BR.out.k (hrg j v hv)
   have d2 : (k : Int) < n:=by omega
   clear hxo hxs htk hrg HAT
   generalize hputL x = px at *
   go_wp2_with ((with_reducible refine load_partg b (off + k * 68) xs (Eq.trans ?_ rfl) RX.out _ Try.underlying30 rfl hxi rfl ?_);rfl)
   refine (P1.out _).mono ?_
   clear P1 RX
   rintro e w3 ⟨Ap,cp,rfl,b3⟩
   have BR3:=Lib.hid (BR.out.keep b3.k)
   have RP:=Lib.hid b3.rd
   clear b3 BR
   go_upto_region 8 with (at_builtin;refine wpList_bf (by rfl) _ _ (by rfl) BR3.out (by rfl) _ _ _ px (by rfl) rfl RP.out (by omega) ?_;rintro z4 A4 c4 w4 E4 b4 -)
   have BR4:=Lib.hid b4
   have hl4 : z4.length ≤ z.length + px.length:=by rw [E4.out,List.length_append];omega
   clear b4 BR3 RP
   go_wp2_with (at_builtin;refine wpList_bf (by rfl) _ _ (by rfl) (BR4.out.alloc _) (by rfl) _ 1 1 [0] (by rfl) (by rfl) (Rd.new _ [.int .u8 0] _) (by omega) ?_;rintro z5 A5 c5 w5 E5 b5 -;have BR5:=Lib.hid b5;clear b5)
   have HZ5 : Hid (C ++ hpa (l.take (k + 1)) = z5):=Lib.hid (by rw [HH1.out,E5.out,E4.out])
   clear hl4 hpl hzl
   go_roundw
   case rel => exact ⟨k + 1,z5,A5,c5,by omega,by go_num,rfl,HZ5,BR5⟩
   case measure => simp [intOf];omega
  ·obtain rfl : k = n:=by omega
   have d2 : ¬ (k : Int) < k:=by omega
   obtain rfl : z = R:=HZ.out.symm.trans HFN.out
   go_wp2
   exact bodyPost_ret (v:=.tuple #[.slice A' z.length c',iv 0]) (by simp [results,Try.results25]) rfl ⟨A',c',rfl,BR.out⟩
end Go.Proofs.Ytbgpgdhndanigaa
/- florinref07.number, Get. (printed by gen_kd.py) -/
set_option linter.unusedSimpArgs false
set_option linter.unusedVariables false
namespace Go.Proofs.Ytbgpgdhndanigaa
open Go.RowKit
attribute [local go_sem ↓] Go.wp_at_zero Go.wp_at_succ
set_option maxRecDepth 100000 in
set_option maxHeartbeats 2000000 in
theorem rnum_any (g off c at_ : Nat) (b : List UInt8) (w : World) (hb : b.length = 80) (ha : at_ + 4 ≤ 80) (hr : Rd w (some ⟨g,off,none⟩) (b.map u8v)) :
  Calls Try.prog 89 #[.slice (some ⟨g,off,none⟩) 80 c,iv at_] w fun e w' => e = .returned (u32v (num32 (b.drop at_)))∧Keep w w':=by
 have HC : ∀ j,j < 4 → w.cell? ⟨g,off + (at_ + j),none⟩ = some (u8v ((b.drop at_).getD j 0)):=fun j hj => by
  obtain ⟨g',off',h1,-,h3⟩:=hr.at (k:=at_ + j) (by simp;omega)
  cases h1
  rw [h3 (at_ + j) (by simp;omega)]
  simp [List.getD_eq_getElem?_getD,List.getElem?_drop,List.getElem?_eq_getElem (show at_ + j < b.length by omega)]
 have hv : ((num32 (b.drop at_)).toNat : Int) = (((b.drop at_).getD 0 0).toNat + ((b.drop at_).getD 1 0).toNat * 256 + ((b.drop at_).getD 2 0).toNat * 65536 + ((b.drop at_).getD 3 0).toNat * 16777216 : Nat):=by
  have h:=numE_rng (b.drop at_) 4
  unfold num32
  rw [← w32_of h.1 (by have:=h.2;omega)]
  simp only [numE]
  omega
 have c0:=HC 0 (by omega);have c1:=HC 1 (by omega);have c2:=HC 2 (by omega);have c3:=HC 3 (by omega)
 rw [Nat.add_zero] at c0
 have h0:=((b.drop at_).getD 0 0).toNat_lt;have h1:=((b.drop at_).getD 1 0).toNat_lt;have h2:=((b.drop at_).getD 2 0).toNat_lt;have h3:=((b.drop at_).getD 3 0).toNat_lt
 unfold u32v
 rw [hv]
 clear HC hv
 generalize (b.drop at_).getD 0 0 = y0 at *
 generalize (b.drop at_).getD 1 0 = y1 at *
 generalize (b.drop at_).getD 2 0 = y2 at *
 generalize (b.drop at_).getD 3 0 = y3 at *
 have o1:=u32_or8 (y0.toNat : Int) ((y1.toNat : Int) * 256) (by omega) (by omega) (by omega) (by omega) (by omega)
 have o2:=u32_or16 ((y0.toNat : Int) + (y1.toNat : Int) * 256) ((y2.toNat : Int) * 65536) (by omega) (by omega) (by omega) (by omega) (by omega)
 have o3:=u32_or24 ((y0.toNat : Int) + (y1.toNat : Int) * 256 + (y2.toNat : Int) * 65536) ((y3.toNat : Int) * 16777216) (by omega) (by omega) (by omega) (by omega) (by omega)
 have a0:=aft_cell c0;have a1:=aft_cell c1;have a2:=aft_cell c2;have a3:=aft_cell c3
 have hw0 : IntKind.u32.wrap (y0.toNat : Int) = y0.toNat:=by rw [IntKind.wrap_u32];omega
 have hw1 : IntKind.u32.wrap (y1.toNat : Int) = y1.toNat:=by rw [IntKind.wrap_u32];omega
 have hw2 : IntKind.u32.wrap (y2.toNat : Int) = y2.toNat:=by rw [IntKind.wrap_u32];omega
 have hw3 : IntKind.u32.wrap (y3.toNat : Int) = y3.toNat:=by rw [IntKind.wrap_u32];omega
 clear hr hb
 go_enter Try.func89,Try.ntmps89
 go_upto_region 1 with fail
 refine wp_region_tree (.take [0,1,2,3,4,5,6,7,8,9,10,11,12,13,14,15,16,17,18,19,20,21,22,23,24,25,26,27,28,29] .done) [] (by kernel_rfl) (by kernel_rfl) (fun w3 k3 => ?_)
 have HK:=Lib.hid k3
 clear k3 a0 a1 a2 a3
 have a0:=aft_cell (keep_cell HK.out c0);have a1:=aft_cell (keep_cell HK.out c1);have a2:=aft_cell (keep_cell HK.out c2);have a3:=aft_cell (keep_cell HK.out c3)
 refine mt_take w3 (Below.refl _ _) ?_
 simp only [pick_cons,pick_nil,nth_zero,nth_succ]
 repeat (go_big_quiet_step (fail))
 refine wpQuiet_nil (mt_end ?_)
 clear a0 a1 a2 a3 c0 c1 c2 c3
 go_wp2
 exact bodyPost_ret (v:=.int .u32 ((y0.toNat : Int) + (y1.toNat : Int) * 256 + (y2.toNat : Int) * 65536 + (y3.toNat : Int) * 16777216)) (by simp [results,Try.results89,o1,o2,o3]) rfl ⟨by congr 1,HK.out⟩
def hdM (v t b n : UInt32) (P R : List UInt8) (k : Nat) : Hd:=⟨v,P.take k ++ z32.drop k,R.take k ++ z32.drop k,t,b,n⟩
theorem z32_len : z32.length = 32:=rfl
theorem tk_set (P z : List UInt8) (k : Nat) (hP : k < P.length) (hz : k < z.length) : (P.take k ++ z.drop k).set k (P.getD k 0) = P.take (k + 1) ++ z.drop (k + 1):=by
 rw [List.set_append_right _ _ (by rw [List.length_take];omega),List.length_take,Nat.min_eq_left (by omega),Nat.sub_self,List.drop_eq_getElem_cons hz,List.set_cons_zero,List.take_succ_eq_append_getElem hP,List.append_assoc,List.getD_eq_getElem?_getD,List.getElem?_eq_getElem hP]
 rfl
theorem hdM_len (v t b n : UInt32) {P R : List UInt8} (hP : P.length = 32) (hR : R.length = 32) {k : Nat} (hk : k ≤ 32) : (hdM v t b n P R k).ok:=by
 unfold hdM Hd.ok
 simp only [List.length_append,List.length_take,List.length_drop,z32_len]
 omega
theorem hdM_set (v t b n : UInt32) {P R : List UInt8} (hP : P.length = 32) (hR : R.length = 32) {k : Nat} (hk : k < 32) : ((hdM v t b n P R k).cells.set (1 + k) (u8v (P.getD k 0))).set (33 + k) (u8v (R.getD k 0)) = (hdM v t b n P R (k + 1)).cells:=by
 have h0:=(hdM_len v t b n hP hR (Nat.le_of_lt hk)).1
 unfold Hd.cells
 rw [show 1 + k = k + 1 by omega,show 33 + k = (32 + k) + 1 by omega,List.set_cons_succ,List.set_cons_succ]
 have h1:=(hdM_len v t b n hP hR (Nat.le_of_lt hk)).1;have h2:=(hdM_len v t b n hP hR (Nat.le_of_lt hk)).2
 rw [List.set_append_left _ _ (by rw [List.length_map];omega),List.set_append_right _ _ (by rw [List.length_set,List.length_map];omega),List.length_set,List.length_map,h1,Nat.add_sub_cancel_left,List.set_append_left _ _ (by rw [List.length_map];omega),← List.map_set,← List.map_set]
 have e1:=tk_set P z32 k (by omega) (by rw [z32_len];omega)
 have e2:=tk_set R z32 k (by omega) (by rw [z32_len];omega)
 show _ = u32v v :: (List.map u8v (P.take (k + 1) ++ z32.drop (k + 1)) ++ (List.map u8v (R.take (k + 1) ++ z32.drop (k + 1)) ++ _))
 rw [← e1,← e2]
 rfl
theorem hdM_all (v t b n : UInt32) {P R : List UInt8} (hP : P.length = 32) (hR : R.length = 32) : hdM v t b n P R 32 = ⟨v,P,R,t,b,n⟩:=by
 unfold hdM
 rw [List.take_of_length_le (by omega),List.take_of_length_le (by omega),List.drop_of_length_le (by rw [z32_len];omega),List.append_nil,List.append_nil]
set_option maxRecDepth 100000 in
set_option maxHeartbeats 8000000 in
theorem rhget_any (A : Option Addr) (b : List UInt8) (c : Nat) (w : World) (hb : b.length = 80) (hr : Rd w A (b.map u8v)) :
  Calls Try.prog 83 #[.slice A 80 c] w fun e w' => ∃ cs,e = .returned (.tuple #[.agg cs,iv 0])∧HdA (hgetL b) cs∧Keep w w':=by
 obtain ⟨g,off,rfl,hg,hcc⟩:=hr.at (k:=0) (by simp;omega)
 obtain ⟨zs,hz1,hz2,hz3,hz4⟩:=zhead_letter
 obtain ⟨bs,hbs⟩ : ∃ bs : Array Value,bs.toList = (hdM (num32 b) (num32 (b.drop 68)) (num32 (b.drop 72)) (num32 (b.drop 76)) ((b.drop 4).take 32) ((b.drop 36).take 32) 0).cells:=⟨_,rfl⟩
 have hset : (((zs.toList.set 0 (u32v (num32 b))).set 65 (u32v (num32 (b.drop 68)))).set 66 (u32v (num32 (b.drop 72)))).set 67 (u32v (num32 (b.drop 76))) = bs.toList:=by rw [hz4,hbs,head_set];rfl
 have hbz : bs.size = 68:=by rw [← Array.length_toList,hbs];exact Hd.len ⟨rfl,rfl⟩
 have Hst : Hid (∀ ww : World,(storeCells ⟨ww.heap.size,0,none⟩ ((((zs.toList.set 0 (u32v (num32 b))).set 65 (u32v (num32 (b.drop 68)))).set 66 (u32v (num32 (b.drop 72)))).set 67 (u32v (num32 (b.drop 76)))) 0).run Try.prog (ww.alloc (.cells zs 30)) = .ok () (ww.alloc (.cells bs 30))):=fun ww => by
  rw [hset]
  exact run_storeCells_new (P:=Try.prog) ww 30 zs bs (by rw [hbz];kernel_rfl) (hz1.trans hbz.symm) (by have:=all_oneCell_toArray (show ∀ v ∈ bs.toList,v.oneCell' = true by rw [hbs];exact Hd.one _);rwa [Array.toArray_toList] at this)
 have NU : Hid (∀ y (a : Nat),Keep w y → a + 4 ≤ 80 → Calls Try.prog 89 #[.slice (some ⟨g,off,none⟩) 80 c,iv a] y fun e w' => e = .returned (u32v (num32 (b.drop a)))∧Keep y w'):=Lib.hid fun y a hy ha => rnum_any g off c a b y hb ha (hr.keep hy)
 have HC : Hid (∀ j,j < 80 → w.cell? ⟨g,off + j,none⟩ = some (u8v (b.getD j 0))):=Lib.hid fun j hj => by
  rw [hcc j (by simp;omega)]
  simp [List.getD_eq_getElem?_getD,List.getElem?_eq_getElem (show j < b.length by omega)]
 have HP : Hid (∀ k,k < 32 → ((b.drop 4).take 32).getD k 0 = b.getD (4 + k) 0∧((b.drop 36).take 32).getD k 0 = b.getD (36 + k) 0):=Lib.hid fun k hk => by
  simp [List.getD_eq_getElem?_getD,List.getElem?_take,hk]
 have hP32 : ((b.drop 4).take 32).length = 32:=by simp [hb]
 have hR32 : ((b.drop 36).take 32).length = 32:=by simp [hb]
 have HMS : Hid (∀ k,k < 32 → _):=Lib.hid fun k (hk : k < 32) => hdM_set (num32 b) (num32 (b.drop 68)) (num32 (b.drop 72)) (num32 (b.drop 76)) hP32 hR32 hk
 have HML : Hid (∀ k,k ≤ 32 → _):=Lib.hid fun k (hk : k ≤ 32) => Hd.len (hdM_len (num32 b) (num32 (b.drop 68)) (num32 (b.drop 72)) (num32 (b.drop 76)) hP32 hR32 hk)
 have HMA:=Lib.hid (hdM_all (num32 b) (num32 (b.drop 68)) (num32 (b.drop 72)) (num32 (b.drop 76)) hP32 hR32)
 have HG : Hid (hgetL b = ⟨num32 b,(b.drop 4).take 32,(b.drop 36).take 32,num32 (b.drop 68),num32 (b.drop 72),num32 (b.drop 76)⟩):=rfl
 have HOK:=Lib.hid (hgetL_ok hb)
 rw [← HG.out] at HMA
 have Hbs:=Lib.hid hbs
 have N0 : Hid (num32 (b.drop 0) = num32 b):=Lib.hid rfl
 clear HG hr hcc hset hz4 hbs hP32 hR32
 generalize hgetL b = H at *
 generalize num32 b = na at *
 obtain ⟨nt,hnt⟩ : ∃ x,num32 (b.drop 68) = x:=⟨_,rfl⟩
 obtain ⟨nb,hnb⟩ : ∃ x,num32 (b.drop 72) = x:=⟨_,rfl⟩
 obtain ⟨nn,hnn⟩ : ∃ x,num32 (b.drop 76) = x:=⟨_,rfl⟩
 have N1:=Lib.hid hnt;have N2:=Lib.hid hnb;have N3:=Lib.hid hnn
 rw [hnt,hnb,hnn] at Hst HMS HML HMA Hbs
 clear hnt hnb hnn
 generalize (b.drop 4).take 32 = p1 at *
 generalize (b.drop 36).take 32 = p2 at *
 obtain ⟨bb,hbb⟩ : ∃ f : Nat → UInt8,(fun k => b.getD k 0) = f:=⟨_,rfl⟩
 have hbb' : ∀ k,b.getD k 0 = bb k:=fun k => by rw [← hbb]
 simp only [hbb'] at HC HP
 clear hbb hbb'
 obtain ⟨mm,hmm⟩ : ∃ f : Nat → Hd,(fun k => hdM na nt nb nn p1 p2 k) = f:=⟨_,rfl⟩
 have hmm' : ∀ k,hdM na nt nb nn p1 p2 k = mm k:=fun k => by rw [← hmm]
 simp only [hmm'] at HMS HML HMA Hbs
 clear hmm hmm'
 go_enter Try.func83,Try.ntmps83
 go_upto_region 5 with fail
 obtain ⟨w1,hw1⟩ : ∃ x,x = w.alloc (.cells zs 30):=⟨_,rfl⟩
 have HR1 : Hid (Blk w1 w.heap.size 30 zs.toList):=by rw [hw1];exact Lib.hid (Blk.new w _ zs.toList)
 have HK1 : Hid (Keep w w1):=by rw [hw1];exact Lib.hid (keep_new _ _)
 rw [← hw1]
 clear hw1
 go_wp2_with fail
 refine (NU.out _ 0 HK1.out (by omega)).mono ?_
 rw [N0.out]
 rintro e w2 ⟨rfl,k2⟩
 have HR2:=Lib.hid (HR1.out.keep k2)
 have HK2:=Lib.hid (keep_trans HK1.out k2)
 clear k2 HR1 HK1 N0
 go_wp2_with fail
 refine (NU.out _ 68 HK2.out (by omega)).mono ?_
 rw [N1.out]
 rintro e w3 ⟨rfl,k3⟩
 have HR3:=Lib.hid (HR2.out.keep k3)
 have HK3:=Lib.hid (keep_trans HK2.out k3)
 clear k3 HR2 HK2 N1
 go_wp2_with fail
 refine (NU.out _ 72 HK3.out (by omega)).mono ?_
 rw [N2.out]
 rintro e w4 ⟨rfl,k4⟩
 have HR4:=Lib.hid (HR3.out.keep k4)
 have HK4:=Lib.hid (keep_trans HK3.out k4)
 clear k4 HR3 HK3 N2
 go_wp2_with fail
 refine (NU.out _ 76 HK4.out (by omega)).mono ?_
 rw [N3.out]
 rintro e w5 ⟨rfl,k5⟩
 have HR5:=Lib.hid (HR4.out.keep k5)
 have HK5:=Lib.hid (keep_trans HK4.out k5)
 clear k5 HR4 HK4 N3
 clear NU
 have hst:=Hst.out w5
 clear Hst
 go_upto_region 6 with fail
 obtain ⟨w6,hw6⟩ : ∃ x,x = w5.alloc (.cells bs 30):=⟨_,rfl⟩
 have HB6 : Hid (Blk w6 w5.heap.size 30 (mm 0).cells):=by rw [hw6,← Hbs.out];exact Lib.hid (Blk.new w5 _ bs.toList)
 have HR6 : Hid (Blk w6 w.heap.size 30 zs.toList):=by rw [hw6];exact Lib.hid (HR5.out.alloc _)
 have HK6 : Hid (Keep w w6):=by rw [hw6];exact Lib.hid (keep_trans HK5.out (keep_new _ _))
 have hlt0:=HR5.out.lt
 have hgl : g < w5.heap.size:=by have:=HK5.out.size;omega
 have hwl : w.heap.size ≤ w5.heap.size:=HK5.out.size
 rw [← hw6]
 clear hw6 hst HR5 HK5 Hbs hbz
 generalize w5.heap.size = G at *
 go_wp2_with fail
 go_loopw [5] (fun i wr => ∃ k : Nat,k ≤ 32∧i = .int .i64 k∧Hid (Blk wr G 30 (mm k).cells)∧Hid (w6.grownBy wr (some G))) (fun i _ => 32 - (intOf i).toNat)
 case atStart => exact ⟨0,by omega,rfl,HB6,Lib.hid (grown_refl _ _)⟩
 case round =>
  obtain ⟨k,hk,rfl,HBr,HGr⟩:=hrel
  clear HB6
  by_cases hlt : k < 32
  ·have HKr : Hid (Keep w wr):=Lib.hid (HK6.out.grown HGr.out HK6.out.size (fun q hq => by injection hq with hq;omega))
   have hml:=HML.out k (by omega)
   obtain ⟨o1,ho1⟩ : ∃ o,(mm k).cells[1 + k]? = some o:=⟨_,List.getElem?_eq_getElem (by rw [hml];omega)⟩
   obtain ⟨o2,ho2⟩ : ∃ o,(mm k).cells[33 + k]? = some o:=⟨_,List.getElem?_eq_getElem (by rw [hml];omega)⟩
   have r1:=HBr.out.cell (1 + k);rw [ho1] at r1
   have f1:=HBr.out.frozen (1 + k)
   have c1:=keep_cell HKr.out (HC.out (4 + k) (by omega))
   have HMk:=Lib.hid (HMS.out k hlt)
   rw [(HP.out k hlt).1,(HP.out k hlt).2] at HMk
   have HO2:=Lib.hid ho2
   clear ho1 ho2 hml HML HMS HP
   go_upto_region 10 with fail
   obtain ⟨w7,hw7⟩ : ∃ x,x = wr.setCell ⟨G,1 + k,none⟩ (u8v (bb (4 + k))):=⟨_,rfl⟩
   have HB7 : Hid (Blk w7 G 30 ((mm k).cells.set (1 + k) (u8v (bb (4 + k))))):=by rw [hw7];exact Lib.hid (HBr.out.set_ _ _)
   have HG7 : Hid (w6.grownBy w7 (some G)):=by rw [hw7];exact Lib.hid (grown_set HGr.out)
   rw [← hw7]
   clear hw7 r1 f1 c1 HBr HGr HKr
   have HK7 : Hid (Keep w w7):=Lib.hid (HK6.out.grown HG7.out HK6.out.size (fun q hq => by injection hq with hq;omega))
   have r1:=HB7.out.cell (33 + k);rw [List.getElem?_set_ne (by omega),HO2.out] at r1
   have f1:=HB7.out.frozen (33 + k)
   have c1:=keep_cell HK7.out (HC.out (36 + k) (by omega))
   have HB8 : Hid (Blk (w7.setCell ⟨G,33 + k,none⟩ (u8v (bb (36 + k)))) G 30 (mm (k + 1)).cells):=by rw [← HMk.out];exact Lib.hid (HB7.out.set_ _ _)
   have HG8 : Hid (w6.grownBy (w7.setCell ⟨G,33 + k,none⟩ (u8v (bb (36 + k)))) (some G)):=Lib.hid (grown_set HG7.out)
   clear HB7 HG7 HMk HO2 HK7
   go_wp2
   go_roundw
   case rel => exact ⟨k + 1,by omega,by go_num,HB8,HG8⟩
   case measure => simp [intOf];omega
  ·obtain rfl : k = 32:=by omega
   have hB:=HBr.out
   rw [HMA.out] at hB
   have HKr : Hid (Keep w wr):=Lib.hid (HK6.out.grown HGr.out HK6.out.size (fun q hq => by injection hq with hq;omega))
   have HRr:=Lib.hid (HR6.out.grown HGr.out (fun e => by injection e with e;omega))
   obtain ⟨cs,hcs⟩ : ∃ cs,HdA H cs:=⟨_,HdA.of HOK.out⟩
   have hcz:=hcs.z;have hcn:=hcs.n;have hci:=hcs.i
   have HB4 : Hid (Blk wr G 30 cs.toList):=by rw [hcs.l];exact hB
   obtain ⟨w8,hst,hb8,hg8⟩:=run_store_blk (P:=Try.prog) cs.toList HRr.out (by simp [hz1,hcz]) hcs.o
   have Hb8:=Lib.hid hb8;have Hg8:=Lib.hid hg8;have Hcs:=Lib.hid hcs
   clear hb8 hg8 hcs HBr hB HMA HOK HML HMS HP HC
   go_upto_region 11 with fail
   go_wp2_with ((with_reducible refine load_arr G cs (Eq.trans ?_ rfl) HB4.out _ Try.underlying30 rfl hci ?_);rfl)
   have hb8:=Hb8.out
   exact bodyPost_ret (v:=.tuple #[.agg cs,.int .i64 0]) (results_cell_tmp_row Try.results83 _ _ w.heap.size _ _ _ _ rfl hb8 Try.underlying30 rfl (by rw [List.size_toArray,Array.length_toList];exact hci)) rfl ⟨cs,rfl,Hcs.out,HKr.out.grown Hg8.out HKr.out.size (fun q hq => by injection hq with hq;omega)⟩
end Go.Proofs.Ytbgpgdhndanigaa
/- header.GetAll. (printed by gen_vh.py) -/
set_option linter.unusedSimpArgs false
set_option linter.unusedVariables false
namespace Go.Proofs.Ytbgpgdhndanigaa
open Go.RowKit
attribute [local go_sem ↓] Go.wp_at_zero Go.wp_at_succ
def hgal (b : List UInt8) : Nat → Nat → List Hd × Int
 | 0,a => if b.length ≤ a then ([],0) else ([],2)
 | n + 1,a => if b.length ≤ a + 80 then ([],1) else if b.getD (a + 80) 0 = 0 then
     if (hgal b n (a + 81)).2 = 0 then (hgetL ((b.drop a).take 80) :: (hgal b n (a + 81)).1,0) else ([],(hgal b n (a + 81)).2)
   else ([],2)
def hgall (b : List UInt8) : List Hd × Int:=if (bndN b 2000).2.2 = 0 then hgal b (bndN b 2000).1 (bndN b 2000).2.1 else ([],(bndN b 2000).2.2)
def hgalW (ds : List Hd) (r : List Hd × Int) : List Hd × Int:=if r.2 = 0 then (ds ++ r.1,0) else ([],r.2)
theorem hgalW_nil (r : List Hd × Int) (h : r.2 = 0 ∨ r.1 = []) : hgalW [] r = r:=by
 unfold hgalW
 split
 ·rename_i q;rw [List.nil_append,← q]
 ·rename_i q
  rcases h with h | h
  ·exact absurd h q
  ·rw [← h]
theorem hgal_e (b : List UInt8) : ∀ n a,(hgal b n a).2 = 0 ∨ (hgal b n a).1 = []
 | 0,a => by unfold hgal;split <;> simp
 | n + 1,a => by unfold hgal;split;· exact .inr rfl
                 ·split
                  ·split
                   ·exact .inl rfl
                   ·exact .inr rfl
                  ·exact .inr rfl
theorem hgalW_step (b : List UInt8) (ds : List Hd) (n a : Nat) (h1 : ¬ b.length ≤ a + 80) (h2 : b.getD (a + 80) 0 = 0) : hgalW ds (hgal b (n + 1) a) = hgalW (ds ++ [hgetL ((b.drop a).take 80)]) (hgal b n (a + 81)):=by
 rw [hgal,if_neg h1,if_pos h2]
 unfold hgalW
 by_cases h : (hgal b n (a + 81)).2 = 0
 ·rw [if_pos h,if_pos rfl,if_pos h];simp
 ·rw [if_neg h,if_neg h,if_neg h]
theorem hgalW_short (b : List UInt8) (ds : List Hd) (n a : Nat) (h1 : b.length ≤ a + 80) : hgalW ds (hgal b (n + 1) a) = ([],1):=by
 rw [hgal,if_pos h1];rfl
theorem hgalW_form (b : List UInt8) (ds : List Hd) (n a : Nat) (h1 : ¬ b.length ≤ a + 80) (h2 : b.getD (a + 80) 0 ≠ 0) : hgalW ds (hgal b (n + 1) a) = ([],2):=by
 rw [hgal,if_neg h1,if_neg h2];rfl
theorem hgalW_end (b : List UInt8) (ds : List Hd) (a : Nat) : hgalW ds (hgal b 0 a) = if b.length ≤ a then (ds,0) else ([],2):=by
 unfold hgal
 split
 ·unfold hgalW;rw [if_pos rfl,List.append_nil]
 ·rfl
set_option maxRecDepth 100000 in
set_option maxHeartbeats 8000000 in
theorem hgall_any (A : Option Addr) (b : List UInt8) (c : Nat) (w : World) (hl : b.length ≤ 1000000000) (hc : b.length ≤ c) (hcm : c ≤ maxLen) (hr : Rd w A (b.map u8v)) :
  Calls Try.prog 56 #[.slice A b.length c] w fun e w' => ∃ v,e = .returned (.tuple #[v,iv (hgall b).2])∧w'.ownsRow w.heap.size 30 68 v (hgall b).1.length ((hgall b).1.flatMap Hd.cells)∧Keep w w':=by
 have G1 : Hid (Calls Try.prog 72 #[.slice A b.length c,u64v 2000] w fun e w' => e = .returned (.tuple #[iv (bndN b 2000).1,iv (bndN b 2000).2.1,iv (bndN b 2000).2.2])∧Keep w w'):=Lib.hid (bnd_any A b c 2000 w (by omega) hr)
 have HRG:=Lib.hid (bnd_rng b 2000)
 have HB : Hid (∀ R,hgall b = R → R = if (bndN b 2000).2.2 = 0 then hgalW [] (hgal b (bndN b 2000).1 (bndN b 2000).2.1) else ([],(bndN b 2000).2.2)):=Lib.hid fun R h => by
  subst h;unfold hgall
  rw [hgalW_nil _ (hgal_e _ _ _)]
 replace HB:=Lib.hid (HB.out _ rfl)
 have RB:=Lib.hid hr
 have HG : Hid (∀ y A' c' a,Keep w y → a + 80 ≤ b.length → 80 ≤ c' → c' ≤ maxLen → Rd y A' ((b.drop a).map u8v) → Calls Try.prog 55 #[.slice A' 80 c'] y fun e w' => ∃ cs,e = .returned (.tuple #[.agg cs,.int .i64 0])∧HdA (hgetL ((b.drop a).take 80)) cs∧Keep y w'):=Lib.hid fun y A' c' a hy h1 h2 h3 h4 => by
  have h5:=h4.take 80
  rw [← List.map_take] at h5
  exact hget_any A' ((b.drop a).take 80) c' y (by rw [List.length_take,List.length_drop];omega) h2 h3 h5
 have S1 : Hid (∀ ds n a,¬ b.length ≤ a + 80 → b.getD (a + 80) 0 = 0 → hgalW ds (hgal b (n + 1) a) = hgalW (ds ++ [hgetL ((b.drop a).take 80)]) (hgal b n (a + 81))):=Lib.hid fun ds n a => hgalW_step b ds n a
 have S2 : Hid (∀ ds n a,b.length ≤ a + 80 → hgalW ds (hgal b (n + 1) a) = ([],1)):=Lib.hid fun ds n a => hgalW_short b ds n a
 have S3 : Hid (∀ ds n a,¬ b.length ≤ a + 80 → b.getD (a + 80) 0 ≠ 0 → hgalW ds (hgal b (n + 1) a) = ([],2)):=Lib.hid fun ds n a => hgalW_form b ds n a
 have S4 : Hid (∀ ds a,hgalW ds (hgal b 0 a) = if b.length ≤ a then (ds,0) else ([],2)):=Lib.hid fun ds a => hgalW_end b ds a
 clear hr
 generalize hgall b = R at *
 generalize bndN b 2000 = G at *
 obtain ⟨n,k,e0⟩:=G
 obtain ⟨L,hL⟩ : ∃ L,b.length = L:=⟨_,rfl⟩
 have HLL:=Lib.hid hL
 rw [hL] at G1 HRG HG S1 S2 S3 S4 hl hc ⊢
 clear hL
 unfold maxLen at hcm
 simp only at G1 HB HRG
 obtain ⟨zs,hz1,hz2,hz3,hz4⟩:=zhead_letter
 clear hz4
 go_enter Try.func56,Try.ntmps56
 go_wp2_with fail
 refine G1.out.mono ?_
 clear G1
 rintro e w1 ⟨rfl,k1⟩
 have HK1:=Lib.hid k1
 clear k1
 have hv:=HB.out
 by_cases h0 : e0 = 0
 case neg =>
  rw [if_neg h0] at hv
  subst hv
  have d1 : (e0 != 0) = true:=by rw [bne_iff_ne];exact h0
  clear HB HRG HG S1 S2 S3 S4
  go_wp2
  exact bodyPost_ret (v:=.tuple #[.slice none 0 0,iv e0]) (by simp [results,Try.results56]) rfl ⟨_,rfl,World.ownsRow_nil _ _ _ _,HK1.out⟩
 subst h0
 rw [if_pos rfl] at hv
 obtain ⟨q1,q2,q3,q4⟩:=HRG.out rfl
 have HV:=Lib.hid hv
 clear hv HB HRG
 obtain ⟨g0,off0,rfl,-,-⟩:=RB.out.at (k:=0) (by rw [List.length_map,HLL.out];omega)
 have hsub : IntKind.i64.wrap ((L : Int) - k) = (L : Int) - k:=IntWalk.i64_in _ (by omega)
 go_upto_region 4 with fail
 go_cut [0] (fun s0 wx => ∃ A',s0 = .slice A' (L - k) (c - k)∧Hid (Rd w A' ((b.drop k).map u8v))∧wx = w1)
 case first =>
  go_wp2_with fail
  all_goals go_meet
  all_goals
   first
    | (refine ⟨some ⟨g0,off0 + k,none⟩,rfl,Lib.hid ?_,rfl⟩
       have:=RB.out.dropN (k:=k) (by rw [List.length_map,HLL.out];omega)
       rw [Option.map_some,add_lit0] at this
       rw [List.map_drop];exact this)
    | (refine ⟨some ⟨g0,off0,none⟩,by congr 1;omega,Lib.hid ?_,rfl⟩
       have : b.drop k = []:=List.drop_eq_nil_of_le (by rw [HLL.out];omega)
       rw [this];exact Rd.nil _ _)
 case rest =>
  obtain ⟨A1,rfl,RD1,rfl⟩:=hcut
  go_wp2_with fail
  clear hsub
  go_loopw [0,7,23] (fun s0 v x wr => ∃ (i a : Nat) (A' : Option Addr) (ds : List Hd),i ≤ n∧a ≤ L∧x = .int .i64 i∧s0 = .slice A' (L - a) (c - a)∧ds.length = i∧Hid (Rd w A' ((b.drop a).map u8v))∧Hid (wr.ownsRow w.heap.size 30 68 v i (ds.flatMap Hd.cells))∧Hid (R = hgalW ds (hgal b (n - i) a))∧Hid (Keep w wr)) (fun _ _ x _ => n - (intOf x).toNat)
  case atStart => exact ⟨0,k,A1,[],Nat.zero_le _,q3,rfl,rfl,rfl,RD1,Lib.hid (World.ownsRow_nil _ _ _ _),Lib.hid (by rw [Nat.sub_zero];exact HV.out),HK1⟩
  case round =>
   obtain ⟨i,a,A',ds,hi,ha,rfl,rfl,hdl,RDa,Own1,HRi,HKr⟩:=hrel
   have HDL:=Lib.hid hdl
   clear hdl
   by_cases hlt : i < n
   ·have d1 : (i : Int) < n:=by omega
    have hr:=HRi.out
    rw [show n - i = (n - (i + 1)) + 1 by omega] at hr
    by_cases h80 : L ≤ a + 80
    ·rw [S2.out _ _ _ h80] at hr
     subst hr
     have d2 : ((L - a : Nat) : Int) ≤ 80:=by omega
     have d3 : L - a ≤ 80:=by omega
     clear HRi S1 S2 S3 S4 HG
     go_wp2
     exact bodyPost_ret (v:=.tuple #[.slice none 0 0,iv 1]) (by simp [results,Try.results56]) rfl ⟨_,rfl,World.ownsRow_nil _ _ _ _,HKr.out⟩
    obtain ⟨g,off,rfl,hg,hcell⟩:=RDa.out.at (k:=80) (by rw [List.length_map,List.length_drop,HLL.out];omega)
    have c80:=hcell 80 (by rw [List.length_map,List.length_drop,HLL.out];omega)
    have h80v : (b.map u8v).drop a = (b.drop a).map u8v:=List.map_drop.symm
    obtain ⟨y,hy⟩ : ∃ y,b.getD (a + 80) 0 = y:=⟨_,rfl⟩
    have hcy : wr.cell? ⟨g,off + 80,none⟩ = some (u8v y):=by
     rw [keep_cell HKr.out c80,← hy]
     simp [List.getD_eq_getElem?_getD,List.getElem?_eq_getElem (show a + 80 < b.length by rw [HLL.out];omega)]
    have HCY:=Lib.hid hcy
    have HY:=Lib.hid hy
    have HG2 : Hid (∀ y m c',Keep w y → m = 80 → c' = c - a → Calls Try.prog 55 #[.slice (some ⟨g,off,none⟩) m c'] y fun e w' => ∃ cs,e = .returned (.tuple #[.agg cs,.int .i64 0])∧HdA (hgetL ((b.drop a).take 80)) cs∧Keep y w'):=Lib.hid fun y m c' h1 h3 h4 => by
     subst h3;subst h4
     exact HG.out y _ _ a h1 (by omega) (by omega) (by unfold maxLen;omega) (RDa.out.keep h1)
    have d2 : ¬ ((L - a : Nat) : Int) ≤ 80:=by omega
    have d3 : ¬ (L - a ≤ 80):=by omega
    have d4 : 80 ≤ c - a:=by omega
    have HR2:=Lib.hid hr
    clear hr HRi c80 h80v hy hcy hcell HG S2
    go_wp2_with fail
    (with_reducible refine (HG2.out _ _ _ HKr.out rfl rfl).mono ?_)
    clear HG2
    rintro e w2 ⟨cs,rfl,hcs,k2⟩
    have hcz:=hcs.z;have hcn:=hcs.n;have hci:=hcs.i
    have hst : (storeCells ⟨w2.heap.size,0,none⟩ cs.toList 0).run Try.prog (w2.alloc (.cells zs 30)) = .ok () (w2.alloc (.cells cs 30)):=run_storeCells_new (P:=Try.prog) w2 30 zs cs hci (hz1.trans hcz.symm) (by have:=all_oneCell_toArray hcs.o;rwa [Array.toArray_toList] at this)
    have Hcs:=Lib.hid hcs
    obtain ⟨Av,cv,rfl,-,-,-⟩:=own_form Own1.out
    have Own2:=Lib.hid (own_keep Own1.out k2)
    have HK2:=Lib.hid (keep_trans HKr.out k2)
    have HRW:=Lib.hid k2
    clear hcs k2 Own1 HKr
    go_upto_region 11 with fail
    obtain ⟨w3,hw3⟩ : ∃ w3,w3 = w2.alloc (.cells cs 30):=⟨_,rfl⟩
    have HB3 : Hid (Blk w3 w2.heap.size 30 cs.toList):=by rw [hw3];exact Lib.hid (Blk.new w2 30 cs.toList)
    have HK3 : Hid (Keep w w3):=by rw [hw3];exact Lib.hid (keep_trans HK2.out (keep_new _ _))
    have HR3 : Hid (Keep wr w3):=by rw [hw3];exact Lib.hid (keep_trans HRW.out (keep_new _ _))
    have Own3 : Hid (w3.ownsRow w.heap.size 30 68 (.slice Av i cv) i (ds.flatMap Hd.cells)):=by rw [hw3];exact Lib.hid (Own2.out.alloc _)
    rw [← hw3]
    clear hw3 hst HK2 HRW Own2
    generalize w2.heap.size = gb at *
    have c80:=keep_cell HR3.out HCY.out
    have RB : Hid (w3.rangeAt gb 0 cs.toList):=Lib.hid (range_of HB3.out 0 cs.toList (by simp [List.take_of_length_le]))
    clear HB3
    have d5 : ((80 : Nat) : Int) < ((L - a : Nat) : Int):=by omega
    by_cases hy0 : y = 0
    ·have d6 : ((y.toNat : Int) != 0) = false:=by rw [hy0];rfl
     have hr:=HR2.out
     rw [S1.out _ _ _ h80 (HY.out.trans hy0)] at hr
     have HR4:=Lib.hid hr
     clear hr HR2 S1 S3 hy0 HY
     have hs3:=HK3.out.size
     have RBK:=Lib.hid RB.out
     go_upto_region 16 with (first
      | ((with_reducible refine load_partg gb 0 cs (Eq.trans ?_ rfl) RB.out _ Try.underlying30 rfl hci rfl ?_);rfl)
      | ((with_reducible refine list_build1h headTb cs hcz (by omega) (Eq.trans ?_ rfl) ?_);rfl)
      | (at_builtin;refine wpList_app headTb (by rfl) _ _ (by rfl) w.heap.size _ i _ (by rfl) (Own3.out.alloc _) _ 1 1 cs.toList (by rfl) (by rw [Array.length_toList,hcz]) (by simpa using Rd.new w3 cs.toList 30) Hcs.out.o (by omega) (by unfold maxLen;omega) (by simp;omega) ?_;intro v4 w4 own4 hg4 hat4;have k4:=keep_grown (HK3.out.alloc HK3.out.size _) (by simp;omega) hg4 (Own3.out.alloc _)))
     have Own4:=Lib.hid own4;have HK4:=Lib.hid k4
     clear own4 k4 hg4 hat4 RB RBK c80 d5 d6 Own3
     have d7 : ((81 : Nat) : Int) ≤ ((L - a : Nat) : Int):=by omega
     have d8 : 81 ≤ L - a:=by omega
     have HRD : Hid (Rd w (if c - a = 81 then some ⟨g,off,none⟩ else some ⟨g,off + 81,none⟩) ((b.drop (a + 81)).map u8v)):=Lib.hid (by
      split
      ·have : b.drop (a + 81) = []:=List.drop_eq_nil_of_le (by rw [HLL.out];omega)
       rw [this];exact Rd.nil _ _
      ·have q:=RDa.out.dropN (k:=81) (by rw [List.length_map,List.length_drop,HLL.out];omega)
       rw [Option.map_some,add_lit0,← List.map_drop,List.drop_drop] at q
       exact q)
     go_wp2
     go_roundw
     case rel => exact ⟨i + 1,a + 81,(if c - a = 81 then some ⟨g,off,none⟩ else some ⟨g,off + 81,none⟩),ds ++ [hgetL ((b.drop a).take 80)],by omega,by omega,by go_num,by rw [Nat.sub_sub,Nat.sub_sub],by rw [List.length_append,HDL.out];rfl,HRD,Lib.hid (own_eq Own4.out rfl (by rw [List.flatMap_append,Hcs.out.l];simp)),HR4,HK4⟩
     case measure => simp [intOf];omega
    ·have hyn : y.toNat ≠ 0:=fun q => hy0 (UInt8.toNat_inj.1 (q.trans rfl))
     have d6 : ((y.toNat : Int) != 0) = true:=by rw [bne_iff_ne];omega
     have hr:=HR2.out
     rw [S3.out _ _ _ h80 (fun q => hy0 (HY.out.symm.trans q))] at hr
     subst hr
     clear HR2 S1 S3 HY RB
     go_wp2
     exact bodyPost_ret (v:=.tuple #[.slice none 0 0,iv 2]) (by simp [results,Try.results56]) rfl ⟨_,rfl,World.ownsRow_nil _ _ _ _,HK3.out⟩
   ·obtain rfl : i = n:=by omega
    have d1 : ¬ (i : Int) < i:=by omega
    have hr:=HRi.out
    rw [Nat.sub_self,S4.out] at hr
    clear HRi S1 S2 S3 S4 HG
    obtain ⟨Av,cv,rfl,-,-,-⟩:=own_form Own1.out
    by_cases hLa : L ≤ a
    ·rw [if_pos hLa] at hr
     subst hr
     have d2 : ¬ (0 : Int) < ((L - a : Nat) : Int):=by omega
     have d3 : ¬ 0 < L - a:=by omega
     go_wp2
     exact bodyPost_ret (v:=.tuple #[.slice Av i cv,iv 0]) (by simp [results,Try.results56]) rfl ⟨_,rfl,own_eq Own1.out HDL.out.symm rfl,HKr.out⟩
    ·rw [if_neg hLa] at hr
     subst hr
     have d2 : (0 : Int) < ((L - a : Nat) : Int):=by omega
     have d3 : 0 < L - a:=by omega
     go_wp2
     exact bodyPost_ret (v:=.tuple #[.slice none 0 0,iv 2]) (by simp [results,Try.results56]) rfl ⟨_,rfl,World.ownsRow_nil _ _ _ _,HKr.out⟩
end Go.Proofs.Ytbgpgdhndanigaa
/- Rows that a call makes; florinref07.GetAll. (printed by gen_ke.py) -/
set_option linter.unusedSimpArgs false
set_option linter.unusedVariables false
namespace Go.Proofs.Ytbgpgdhndanigaa
open Go.RowKit
attribute [local go_sem ↓] Go.wp_at_zero Go.wp_at_succ
structure Br (e : TypeId) (size : Nat) (w0 w : World) (A : Option Addr) (c n : Nat) (xs : List Value) : Prop where
 o : w.ownsRow w0.heap.size e size (.slice A n c) n xs
 k : Keep w0 w
section
variable {e : TypeId} {size n c : Nat} {w0 w w1 w' : World} {A : Option Addr} {xs : List Value}
theorem Br.nil (k : Keep w0 w) : Br e size w0 w none 0 0 []:=⟨World.ownsRow_nil _ _ _ _,k⟩
theorem Br.keep (h : Br e size w0 w A c n xs) (k : Keep w w') : Br e size w0 w' A c n xs:=⟨own_keep h.o k,keep_trans h.k k⟩
theorem Br.alloc (h : Br e size w0 w A c n xs) (o : Obj) : Br e size w0 (w.alloc o) A c n xs:=h.keep (keep_new _ _)
theorem Br.rd (h : Br e size w0 w A c n xs) : Rd w A xs:=own_rd h.o
theorem Br.up (h : Br e size w1 w A c n xs) (k : Keep w0 w1) : Br e size w0 w A c n xs:=⟨own_base h.o k.size,keep_trans k h.k⟩
theorem Br.cap (h : Br e size w0 w A c n xs) : n ≤ c∧c ≤ maxLen:=by
 obtain ⟨_,_,e,h1,h2,-⟩:=own_form h.o
 injection e with _ _ e
 subst e
 exact ⟨h1,h2⟩
theorem Br.eq {n' : Nat} {xs' : List Value} (h : Br e size w0 w A c n xs) (hn : n = n') (hx : xs = xs') : Br e size w0 w A c n' xs':=hn ▸ hx ▸ h
end
theorem wpList_br {t e : TypeId} {z : Value} {size bytes : Nat} (T : ElT Try.prog t e z size bytes) {w0 w : World} {A : Option Addr} {c n : Nat} {xs : List Value} {ops : Array Oper} {rest : List Oper} {o : Oper} {a : Act} {Q : Exit → Act → World → Prop} (hgd : o.guard = none) (s x : Operand)
  (ho : o.op = .call { callee:=.builtin .append,args:=#[s,x],argTypes:=#[t,t] }) (h : Br e size w0 w A c n xs) (hs : a.eval s = .slice A n c)
  (A1 : Option Addr) (m c1 : Nat) (ys : List Value) (hx : a.eval x = .slice A1 m c1) (hl : ys.length = m * size) (hr : Rd w A1 ys) (h1 : ∀ u ∈ ys,u.oneCell' = true) (hb : (n + m) * bytes ≤ 140737488355328) (hm : n + m ≤ maxLen)
  (H : ∀ A' c' w',Br e size w0 w' A' c' (n + m) (xs ++ ys) → w.grownBy w' (Value.slice A n c).ownBlock → wpList Try.prog ops Q rest (a.put o.dst (.slice A' (n + m) c')) w') : wpList Try.prog ops Q (o :: rest) a w :=
 wpList_app T hgd s x ho w0.heap.size _ n _ hs h.o A1 m c1 ys hx hl hr h1 hb hm (h.k.size) fun v' w' q1 q2 q3 => by
  obtain ⟨A',c',rfl,-,-,-⟩:=own_form q1
  exact H A' c' w' ⟨q1,keep_grown h.k h.k.size q2 h.o⟩ q2
set_option maxRecDepth 100000 in
set_option maxHeartbeats 8000000 in
theorem rhgall_any (A : Option Addr) (b : List UInt8) (c : Nat) (w : World) (hl : b.length ≤ 1000000000) (hc : b.length ≤ c) (hcm : c ≤ maxLen) (hr : Rd w A (b.map u8v)) :
  Calls Try.prog 81 #[.slice A b.length c] w fun e w' => ∃ A' c',e = .returned (.tuple #[.slice A' (hgall b).1.length c',iv (hgall b).2])∧Br 30 68 w w' A' c' (hgall b).1.length ((hgall b).1.flatMap Hd.cells):=by
 have G1 : Hid (Calls Try.prog 88 #[.slice A b.length c,u64v 2000] w fun e w' => e = .returned (.tuple #[iv (bndN b 2000).1,iv (bndN b 2000).2.1,iv (bndN b 2000).2.2])∧Keep w w'):=Lib.hid (rbnd_any A b c 2000 w (by omega) hr)
 have HRG:=Lib.hid (bnd_rng b 2000)
 have HB : Hid (hgall b = if (bndN b 2000).2.2 = 0 then hgalW [] (hgal b (bndN b 2000).1 (bndN b 2000).2.1) else ([],(bndN b 2000).2.2)):=Lib.hid (by
  unfold hgall
  rw [hgalW_nil _ (hgal_e _ _ _)])
 have HG : Hid (∀ y A' c' a,Keep w y → a + 80 ≤ b.length → Rd y A' ((b.drop a).map u8v) → Calls Try.prog 83 #[.slice A' 80 c'] y fun e w' => ∃ cs,e = .returned (.tuple #[.agg cs,iv 0])∧HdA (hgetL ((b.drop a).take 80)) cs∧Keep y w'):=Lib.hid fun y A' c' a hy h1 h4 => by
  have h5:=h4.take 80
  rw [← List.map_take] at h5
  exact rhget_any A' ((b.drop a).take 80) c' y (by rw [List.length_take,List.length_drop];omega) h5
 have S1 : Hid (∀ ds n a,¬ b.length ≤ a + 80 → b.getD (a + 80) 0 = 0 → hgalW ds (hgal b (n + 1) a) = hgalW (ds ++ [hgetL ((b.drop a).take 80)]) (hgal b n (a + 81))):=Lib.hid fun ds n a => hgalW_step b ds n a
 have S2 : Hid (∀ ds n a,b.length ≤ a + 80 → hgalW ds (hgal b (n + 1) a) = ([],1)):=Lib.hid fun ds n a => hgalW_short b ds n a
 have S3 : Hid (∀ ds n a,¬ b.length ≤ a + 80 → b.getD (a + 80) 0 ≠ 0 → hgalW ds (hgal b (n + 1) a) = ([],2)):=Lib.hid fun ds n a => hgalW_form b ds n a
 have S4 : Hid (∀ ds a,hgalW ds (hgal b 0 a) = if b.length ≤ a then (ds,0) else ([],2)):=Lib.hid fun ds a => hgalW_end b ds a
 have RB:=Lib.hid hr
 clear hr
 generalize hgall b = R at *
 generalize bndN b 2000 = G at *
 obtain ⟨n,k,e0⟩:=G
 obtain ⟨L,hL⟩ : ∃ L,b.length = L:=⟨_,rfl⟩
 have HLL:=Lib.hid hL
 rw [hL] at G1 HRG HG S1 S2 S3 S4 hl hc ⊢
 clear hL
 unfold maxLen at hcm
 simp only at G1 HB HRG
 obtain ⟨zs,hz1,hz2,hz3,hz4⟩:=zhead_letter
 clear hz4
 go_enter Try.func81,Try.ntmps81
 go_wp2_with fail
 refine G1.out.mono ?_
 clear G1
 rintro e w1 ⟨rfl,k1⟩
 have HK1:=Lib.hid k1
 clear k1
 have hv:=HB.out
 by_cases h0 : e0 = 0
 case neg =>
  rw [if_neg h0] at hv
  subst hv
  have d1 : (e0 != 0) = true:=by rw [bne_iff_ne];exact h0
  clear HB HRG HG S1 S2 S3 S4
  go_wp2
  exact bodyPost_ret (v:=.tuple #[.slice none 0 0,iv e0]) (by simp [results,Try.results81]) rfl ⟨none,0,rfl,Br.nil HK1.out⟩
 subst h0
 rw [if_pos rfl] at hv
 obtain ⟨q1,q2,q3,q4,q5⟩:=HRG.out rfl
 have HV:=Lib.hid hv
 clear hv HB HRG
 obtain ⟨g,off,rfl,-,hcc⟩:=RB.out.at (k:=0) (by rw [List.length_map,HLL.out];omega)
 have HC : Hid (∀ j,j < L → w.cell? ⟨g,off + j,none⟩ = some (u8v (b.getD j 0))):=Lib.hid fun j hj => by
  rw [hcc j (by rw [List.length_map,HLL.out];exact hj)]
  simp [List.getD_eq_getElem?_getD,List.getElem?_eq_getElem (show j < b.length by rw [HLL.out];exact hj)]
 clear hcc
 go_wp2_with fail
 go_loopw [5,7,8] (fun a_ v x wr => ∃ (i a : Nat) (A' : Option Addr) (c' : Nat) (ds : List Hd),i ≤ n∧a ≤ L∧x = .int .i64 i∧a_ = .int .i64 a∧v = .slice A' i c'∧Hid (ds.length = i)∧Hid (Br 30 68 w wr A' c' i (ds.flatMap Hd.cells))∧Hid (R = hgalW ds (hgal b (n - i) a))) (fun _ _ x _ => n - (intOf x).toNat)
 case atStart => exact ⟨0,k,none,0,[],Nat.zero_le _,q3,rfl,rfl,rfl,Lib.hid rfl,Lib.hid (Br.nil HK1.out),Lib.hid (by rw [Nat.sub_zero];exact HV.out)⟩
 case round =>
  obtain ⟨i,a,A',c',ds,hi,ha,rfl,rfl,rfl,HDL,BR,HRi⟩:=hrel
  have hw81 : IntKind.i64.wrap ((a : Int) + 81) = (a : Int) + 81:=IntWalk.i64_in _ (by omega)
  have hw80 : IntKind.i64.wrap ((a : Int) + 80) = (a : Int) + 80:=IntWalk.i64_in _ (by omega)
  by_cases hlt : i < n
  ·have d1 : (i : Int) < n:=by omega
   have hr:=HRi.out
   rw [show n - i = (n - (i + 1)) + 1 by omega] at hr
   by_cases h80 : L ≤ a + 80
   ·rw [S2.out _ _ _ h80] at hr
    subst hr
    have d2 : (L : Int) < (a : Int) + 81:=by omega
    clear HRi S1 S2 S3 S4 HG HC h80
    go_wp2
    exact bodyPost_ret (v:=.tuple #[.slice none 0 0,iv 1]) (by simp [results,Try.results81]) rfl ⟨none,0,rfl,Br.nil BR.out.k⟩
   have d2 : ¬ (L : Int) < (a : Int) + 81:=by omega
   have d3 : (a : Int) + 80 < L:=by omega
   have d4 : ¬ c = a:=by omega
   obtain ⟨y,hy⟩ : ∃ y,b.getD (a + 80) 0 = y:=⟨_,rfl⟩
   have c80:=keep_cell BR.out.k (HC.out (a + 80) (by omega))
   rw [hy] at c80
   have HY:=Lib.hid hy
   have HR2:=Lib.hid hr
   clear hr HRi hy HC S2
   by_cases hy0 : y = 0
   case neg =>
    have hyn : y.toNat ≠ 0:=fun q => hy0 (UInt8.toNat_inj.1 (q.trans rfl))
    have d6 : ((y.toNat : Int) != 0) = true:=by rw [bne_iff_ne];omega
    have hr:=HR2.out
    rw [S3.out _ _ _ h80 (fun q => hy0 (HY.out.symm.trans q))] at hr
    subst hr
    clear HR2 S1 S3 S4 HY HG
    go_wp2
    exact bodyPost_ret (v:=.tuple #[.slice none 0 0,iv 2]) (by simp [results,Try.results81]) rfl ⟨none,0,rfl,Br.nil BR.out.k⟩
   have d6 : ((y.toNat : Int) != 0) = false:=by rw [hy0];rfl
   have hr:=HR2.out
   rw [S1.out _ _ _ h80 (HY.out.trans hy0)] at hr
   have HR4:=Lib.hid hr
   have HG2 : Hid (∀ y c',Keep w y → Calls Try.prog 83 #[.slice (some ⟨g,off + a,none⟩) 80 c'] y fun e w' => ∃ cs,e = .returned (.tuple #[.agg cs,iv 0])∧HdA (hgetL ((b.drop a).take 80)) cs∧Keep y w'):=Lib.hid fun y c' hy => HG.out y _ c' a hy (by omega) (by
    have q:=(RB.out.keep hy).dropN (k:=a) (by rw [List.length_map,HLL.out];omega)
    rwa [Option.map_some,add_lit0,← List.map_drop] at q)
   have HLN : Hid ((ds ++ [hgetL ((b.drop a).take 80)]).length = i + 1):=Lib.hid (by rw [List.length_append,HDL.out];rfl)
   clear hr HR2 HY S3 HG hy0
   generalize hgetL ((b.drop a).take 80) = hx at *
   go_wp2_with fail
   (with_reducible refine (HG2.out _ _ BR.out.k).mono ?_)
   clear HG2 c80
   rintro e w2 ⟨cs,rfl,hcs,k2⟩
   have hcz:=hcs.z;have hcn:=hcs.n;have hci:=hcs.i
   have hst : (storeCells ⟨w2.heap.size,0,none⟩ cs.toList 0).run Try.prog (w2.alloc (.cells zs 30)) = .ok () (w2.alloc (.cells cs 30)):=run_storeCells_new (P:=Try.prog) w2 30 zs cs hci (hz1.trans hcz.symm) (by have:=all_oneCell_toArray hcs.o;rwa [Array.toArray_toList] at this)
   have Hcs:=Lib.hid hcs
   have BR2:=Lib.hid (BR.out.keep k2)
   clear hcs k2 BR
   go_upto_region 13 with fail
   obtain ⟨w3,hw3⟩ : ∃ w3,w3 = w2.alloc (.cells cs 30):=⟨_,rfl⟩
   have HB3 : Hid (Blk w3 w2.heap.size 30 cs.toList):=by rw [hw3];exact Lib.hid (Blk.new w2 30 cs.toList)
   have BR3 : Hid (Br 30 68 w w3 A' c' i (ds.flatMap Hd.cells)):=by rw [hw3];exact Lib.hid (BR2.out.alloc _)
   rw [← hw3]
   clear hw3 hst BR2
   generalize w2.heap.size = gb at *
   have RG : Hid (w3.rangeAt gb 0 cs.toList):=Lib.hid (range_of HB3.out 0 cs.toList (by simp [List.take_of_length_le]))
   clear HB3
   go_upto_region 14 with (first
    | ((with_reducible refine load_partg gb 0 cs (Eq.trans ?_ rfl) RG.out _ Try.underlying30 rfl hci rfl ?_);rfl)
    | ((with_reducible refine list_build1h headTb cs hcz (by omega) (Eq.trans ?_ rfl) ?_);rfl)
    | (at_builtin;refine wpList_br headTb (by rfl) _ _ (by rfl) (BR3.out.alloc _) (by rfl) _ 1 1 cs.toList (by rfl) (by rw [Array.length_toList,hcz]) (by simpa using Rd.new w3 cs.toList 30) Hcs.out.o (by omega) (by unfold maxLen;omega) ?_;intro A4 c4 w4 b4 g4;have BR4:=Lib.hid b4;clear b4 g4 BR3))
   clear RG d2 d3 d6
   go_wp2
   go_roundw
   case rel => exact ⟨i + 1,a + 81,A4,c4,ds ++ [hx],by omega,by omega,by go_num,by go_num,rfl,HLN,Lib.hid (BR4.out.eq rfl (by rw [List.flatMap_append,Hcs.out.l];simp)),HR4⟩
   case measure => simp [intOf];omega
  ·obtain rfl : i = n:=by omega
   have d1 : ¬ (i : Int) < i:=by omega
   have hr:=HRi.out
   rw [Nat.sub_self,S4.out] at hr
   clear HRi S1 S2 S3 S4 HG HC
   by_cases hLa : L ≤ a
   ·rw [if_pos hLa] at hr
    subst hr
    have d2 : ¬ (a : Int) < L:=by omega
    clear hLa
    go_wp2
    exact bodyPost_ret (v:=.tuple #[.slice A' i c',iv 0]) (by simp [results,Try.results81]) rfl ⟨A',c',by rw [HDL.out],BR.out.eq HDL.out.symm rfl⟩
   ·rw [if_neg hLa] at hr
    subst hr
    have d2 : (a : Int) < L:=by omega
    clear hLa
    go_wp2
    exact bodyPost_ret (v:=.tuple #[.slice none 0 0,iv 2]) (by simp [results,Try.results81]) rfl ⟨none,0,rfl,Br.nil BR.out.k⟩
end Go.Proofs.Ytbgpgdhndanigaa
/- XMov's theory once more, where one block may turn: the one that is appended to. By the program gen_mog.py. -/
set_option linter.unusedSimpArgs false
set_option linter.unusedVariables false
namespace Go.Proofs.Ytbgpgdhndanigaa.G
open Go.RowKit
class Mk where
 m : Option Nat
variable [MM : Mk]
def Gr (w w' : World) : Prop:=w.grownBy w' MM.m
theorem Gr.refl (w : World) : Gr w w:=⟨rfl,rfl,rfl,Nat.le_refl _,fun _ _ _ => rfl⟩
theorem Gr.drew (w : World) : Gr w { w with drawn:=w.drawn + 1 }:=⟨rfl,rfl,rfl,Nat.le_refl _,fun _ _ _ => rfl⟩
theorem Gr.trans {a b c : World} (h : Gr a b) (k : Gr b c) : Gr a c:=World.grownBy.trans h k
theorem Gr.of_keep {a b : World} (h : Keep a b) : Gr a b:=⟨h.os,h.tape,h.output,h.size,fun k hk _ => h.block k hk⟩
open Classical in
noncomputable def aftG (w x : World) : World:=if Gr w x then x else w
theorem aftG_keep (w x : World) : Gr w (aftG w x):=by
 unfold aftG;split
 ·assumption
 ·exact Gr.refl _
theorem aftG_of {w w' : World} (h : Gr w w') : w' = aftG w w':=by unfold aftG;rw [if_pos h]
theorem aftG_cell {w : World} {b o : Nat} {v : Value} (h : w.cell? ⟨b,o,none⟩ = some v) (hne : MM.m ≠ some b) : ∀ x,(aftG w x).cell? ⟨b,o,none⟩ = some v:=fun x => grown_cell (aftG_keep w x) h hne
section
variable {P : Program} {ops : Array Oper} {Q : Exit → Act → World → Prop} {tl : List Nat}
def wpAnyK (P : Program) (ops : Array Oper) (Q : Exit → Act → World → Prop) (tl : List Nat) : Nat → Array Bool → Act → World → Prop
 | 0,listed,a,w => Region.ready .any ops listed = []∧Q .normal a w
 | n + 1,listed,a,w => (Region.ready .any ops listed = [] → Q .normal a w) ∧
   ∀ i ∈ Region.ready .any ops listed,wpOp P ops Q i (fun a' w' => (i ∉ tl → Gr w w')∧wpAnyK P ops Q tl n (listed.setIfInBounds i true) a' w') a w
theorem wpAny_of_K : ∀ (n : Nat) (listed : Array Bool) (a : Act) (w : World),wpAnyK P ops Q tl n listed a w → wpAny P .any ops Q n listed a w
 | 0,_,_,_,h => h
 | n + 1,_,_,_,h => ⟨h.1,fun i hi => wpOp_mono (fun a' w' h' => wpAny_of_K n _ a' w' h'.2) (h.2 i hi)⟩
theorem wpAnyK_first (hs : Region.noSelect ops = true) {i : Nat} {oi : Oper} {v : Value} (hi : ops[i]? = some oi) (hQ : ∀ c a w,Q (.panic c) (a.put oi.dst v) w → Q (.panic c) a w)
  {S : World → Prop} (hk : ∀ w w',S w → Gr w w' → S w') (hr : (∀ j ∈ tl,reachB ops j i = true) ∨ ∀ w,S w) : ∀ (fuel : Nat) (listed : Array Bool) (a : Act) (w : World),Closed ops listed →
   (∀ j oj,ops[j]? = some oj → j ≠ i → listed.getD j true = false → (∀ e ∈ oj.after,Region.binds .any e = true → e.on ≠ i) → oi.apart ops oj = true) →
   i ∈ Region.ready .any ops listed → YieldsIf P ops S oi v a → S w →
   wpAnyK P ops Q tl fuel (listed.setIfInBounds i true) (a.put oi.dst v) w → wpAnyK P ops Q tl (fuel + 1) listed a w:=by
 intro fuel
 have hsel:=fun j o cs b (h : ops[j]? = some o) => Region.noSelect_spec hs j o cs b h
 induction fuel with
 | zero =>
   intro listed a w _ _ hri hy hS H
   refine ⟨fun h => absurd hri (by rw [h];simp),fun j hj => ?_⟩
   by_cases hji : j = i
   ·subst hji;exact hy.wpOp hi hS ⟨fun _ => Gr.refl _,H⟩
   ·have:=ready_mono hj hji
    rw [H.1] at this
    cases this
 | succ fuel ih =>
   intro listed a w hc hfree hri hy hS H
   refine ⟨fun h => absurd hri (by rw [h];simp),fun j hj => ?_⟩
   by_cases hji : j = i
   ·subst hji;exact hy.wpOp hi hS ⟨fun _ => Gr.refl _,H⟩
   ·have h1:=H.2 j (ready_mono hj hji)
    obtain ⟨hjun,oj,hoj,hall⟩:=mem_ready.1 hj
    have hiun:=(mem_ready.1 hri).1
    have hnot : ∀ e ∈ oj.after,Region.binds .any e = true → e.on ≠ i:=fun e he hb heq => by
     have h1:=hall e he hb
     rw [heq,getD_tf hiun] at h1
     cases h1
    have hjt : j ∉ tl ∨ ∀ w,S w:=hr.imp (fun hr hjt => by
     have:=reach_listed hc j i (fun k hk => ready_waits hj hk) (hr j hjt)
     rw [getD_tf hiun] at this
     cases this) id
    have h2:=wpOp_putIf hoj (hfree j oj hoj hji hjun hnot) (fun cs b => hsel i oi cs b hi) (fun cs b => hsel j oj cs b hoj) hQ hy h1
    have hfree' : ∀ k ok,ops[k]? = some ok → k ≠ i → (listed.setIfInBounds j true).getD k true = false →
      (∀ e ∈ ok.after,Region.binds .any e = true → e.on ≠ i) → oi.apart ops ok = true:=fun k ok hk hki hun hno => by
     refine hfree k ok hk hki ?_ hno
     by_cases hjk : j = k
     ·subst hjk;exact hjun
     ·rw [getD_set_ne true hjk] at hun;exact hun
    refine wpOp_mono (fun a' w' h3 => ⟨fun hn => h3.2.1 hn,ih (listed.setIfInBounds j true) a' w' (hc.set_ hj) hfree' (ready_mono hri (Ne.symm hji)) h3.1 (hjt.elim (fun hn => hk _ _ hS (h3.2.1 hn)) (fun h => h _)) ?_⟩) h2
    rw [Array.setIfInBounds_comm _ _ hji]
    exact h3.2.2
def freeB (o : Oper) : Bool :=
 match o.op with
 | .move _ | .assign _ | .extract .. => true
 | _ => false
def takesB (ops : Array Oper) (tl : List Nat) : List Nat → Array Bool → Bool
 | [],_ => true
 | i :: l,listed => (Region.ready .any ops listed).contains i && Region.free .any ops listed i && (match ops[i]? with | some o => plainB o | none => false) && ((match ops[i]? with | some o => freeB o | none => false) || tl.all fun j => reachB ops j i) && takesB ops tl l (listed.setIfInBounds i true)
def forceB (ops : Array Oper) : List Nat → Array Bool → Bool
 | [],_ => true
 | i :: l,listed => decide (Region.ready .any ops listed = [i]) && forceB ops l (listed.setIfInBounds i true)
def wpForce (P : Program) (ops : Array Oper) (Q : Exit → Act → World → Prop) (N : Act → World → Prop) : List Oper → Act → World → Prop
 | [],a,w => N a w
 | o :: l,a,w => if Region.wanted o (yielded ops a.tmps) then (∀ K : Act → World → Prop,(∀ a' w',Gr w w' → wpForce P ops Q N l a' w' → K a' w') → o.wp P a w K Q) else wpForce P ops Q N l (a.put o.dst undef) w
theorem wpAnyK_tail (t0 : List Nat) : ∀ (t : List Nat) (T : List Oper) (listed : Array Bool) (a : Act) (w : World),(∀ i ∈ t,i ∈ t0) → forceB ops t listed = true → Region.ready .any ops (setAll listed t) = [] →
  (∀ (k : Nat),T[k]? = (t[k]?).bind (fun (i : Nat) => ops[i]?)) → wpList P ops Q T a w → wpAnyK P ops Q t0 t.length listed a w
 | [],T,listed,a,w,_,_,he,hT,hw => by
   have : T = []:=by cases T with
    | nil => rfl
    | cons x T => have:=hT 0;simp at this
   subst this
   exact ⟨he,hw⟩
 | t :: l,T,listed,a,w,h0,hB,he,hT,hw => by
   simp only [forceB,Bool.and_eq_true,decide_eq_true_eq] at hB
   refine ⟨fun h0 => (by rw [hB.1] at h0;cases h0),fun i hi => ?_⟩
   rw [hB.1] at hi
   obtain rfl : i = t:=by simpa using hi
   have hlt : i < ops.size:=by
    have hr : i ∈ Region.ready .any ops listed:=by rw [hB.1];simp
    obtain ⟨o,ho,_⟩:=(mem_ready.1 hr).2
    exact (Array.getElem?_eq_some_iff.1 ho).1
   cases T with
   | nil => have:=hT 0;simp [hlt] at this
   | cons o T =>
     have ho : ops[i]? = some o:=by have:=hT 0;simpa using this.symm
     have hw' : wpOp P ops Q i (wpList P ops Q T) a w:=by unfold wpOp;simp only [ho];exact hw
     exact wpOp_mono (fun a' w' h' => ⟨fun hn => absurd (h0 i (by simp)) hn,wpAnyK_tail t0 l T _ a' w' (fun j hj => h0 j (by simp [hj])) hB.2 he (fun k => by have:=hT (k + 1);simpa using this) h'⟩) hw'
theorem wpAnyK_force (g : Nat) {N : Act → World → Prop} : ∀ (l : List Nat) (L : List Oper) (listed : Array Bool) (a : Act) (w : World),Closed ops listed → forceB ops l listed = true →
  (∀ (k : Nat),L[k]? = (l[k]?).bind (fun (i : Nat) => ops[i]?)) → (∀ a w,Closed ops (setAll listed l) → N a w → wpAnyK P ops Q tl g (setAll listed l) a w) → wpForce P ops Q N L a w → wpAnyK P ops Q tl (g + l.length) listed a w
 | [],L,listed,a,w,hc,_,hL,hN,h => by
   have : L = []:=by cases L with
    | nil => rfl
    | cons x T => have:=hL 0;simp at this
   subst this
   exact hN a w hc h
 | t :: l,L,listed,a,w,hc,hB,hL,hN,h => by
   simp only [forceB,Bool.and_eq_true,decide_eq_true_eq] at hB
   refine ⟨fun h0 => (by rw [hB.1] at h0;cases h0),fun i hi => ?_⟩
   have hi':=hi
   rw [hB.1] at hi
   obtain rfl : i = t:=by simpa using hi
   have hlt : i < ops.size:=by
    obtain ⟨o,ho,_⟩:=(mem_ready.1 hi').2
    exact (Array.getElem?_eq_some_iff.1 ho).1
   cases L with
   | nil => have:=hL 0;simp [hlt] at this
   | cons o L =>
     have ho : ops[i]? = some o:=by have:=hL 0;simpa using this.symm
     have go:=fun (a' : Act) (w' : World) (h' : wpForce P ops Q N L a' w') => wpAnyK_force g l L (listed.setIfInBounds i true) a' w' (hc.set_ hi') hB.2 (fun k => by have:=hL (k + 1);simpa using this) hN h'
     unfold wpOp
     simp only [ho]
     unfold wpForce at h
     split at h
     ·rename_i hwt
      rw [if_pos hwt]
      exact .inl (h _ fun a' w' hk h' => ⟨fun _ => hk,go a' w' h'⟩)
     ·rename_i hwt
      rw [if_neg hwt]
      exact ⟨fun _ => Gr.refl _,go _ _ h⟩
theorem wpAnyK_takes (hs : Region.noSelect ops = true) (hQ : ∀ c a x v w,Q (.panic c) (a.put x v) w → Q (.panic c) a w) (g : Nat) (w w0 : World) (hw : Gr w0 w) : ∀ (l : List Nat) (L : List Oper) (listed : Array Bool) (a : Act),Closed ops listed → takesB ops tl l listed = true →
  (∀ (k : Nat),L[k]? = (l[k]?).bind (fun (i : Nat) => ops[i]?)) → wpQuiet P ops (fun w' => ∃ x,w' = aftG w0 x) (fun a' => Closed ops (setAll listed l) → wpAnyK P ops Q tl g (setAll listed l) a' w) L a → wpAnyK P ops Q tl (g + l.length) listed a w
 | [],L,listed,a,hc,_,hL,h => by
   have : L = []:=by cases L with
    | nil => rfl
    | cons x T => have:=hL 0;simp at this
   subst this
   exact h hc
 | i :: l,L,listed,a,hc,hB,hL,h => by
   simp only [takesB,Bool.and_eq_true] at hB
   obtain ⟨⟨⟨⟨hr,hf⟩,hpl⟩,hre⟩,hB⟩:=hB
   have hr' : i ∈ Region.ready .any ops listed:=by simpa using hr
   have hi : i < ops.size:=by
    obtain ⟨o,ho,_⟩:=(mem_ready.1 hr').2
    exact (Array.getElem?_eq_some_iff.1 ho).1
   cases L with
   | nil => have:=hL 0;simp [hi] at this
   | cons o L =>
     have ho : ops[i]? = some o:=by have:=hL 0;simpa using this.symm
     rw [ho] at hpl
     have h1 : qOp P ops (fun w' => ∃ x,w' = aftG w0 x) i (wpQuiet P ops (fun w' => ∃ x,w' = aftG w0 x) (fun a' => Closed ops (setAll listed (i :: l)) → wpAnyK P ops Q tl g (setAll listed (i :: l)) a' w) L) a:=by unfold qOp;simp only [ho];exact h
     obtain ⟨v,hy,h⟩:=yieldsIn_of_qOp ho h1
     have hy' : YieldsIf P ops (fun w' => Gr w0 w') o v a:=by
      rcases hy with ⟨h2,h3⟩ | h2
      ·exact .inl ⟨h2,fun w hw => plain_run hpl (h3 w ⟨_,aftG_of hw⟩)⟩
      ·exact .inr h2
     have:=wpAnyK_takes hs hQ g w w0 hw l L (listed.setIfInBounds i true) (a.put o.dst v) (hc.set_ hr') hB (fun k => by have:=hL (k + 1);simpa using this) h
     rw [ho,Bool.or_eq_true] at hre
     rcases hre with hre | hre
     ·have hy2 : YieldsIf P ops (fun _ => True) o v a:=by
       rcases hy' with ⟨h2,h3⟩ | h2
       ·exact .inl ⟨h2,fun w' _ => free_run hre (h3 w hw) w'⟩
       ·exact .inr h2
      exact wpAnyK_first hs ho (fun c a w => hQ c a _ _ w) (fun _ _ _ _ => trivial) (.inr fun _ => trivial) _ listed a w hc (Region.free_spec ho hf) hr' hy2 trivial this
     ·exact wpAnyK_first hs ho (fun c a w => hQ c a _ _ w) (fun _ _ h1 h2 => Gr.trans h1 h2) (.inl fun j hj => List.all_eq_true.1 hre j hj) _ listed a w hc (Region.free_spec ho hf) hr' hy' hw this
def total : List (Bool × List Nat) → Nat
 | [] => 0
 | (_,l) :: r => total r + l.length
end
section
variable {P : Program} {ops : Array Oper} {Q : Exit → Act → World → Prop} {T l : List Oper} {r : List (Bool × List Oper)} {o : Oper} {a : Act} {w : World} {N : Act → World → Prop}
theorem fc_nil (h : N a w) : wpForce P ops Q N [] a w:=h
theorem fc_step (hw : Region.wanted o (yielded ops a.tmps) = true) (h : ∀ K : Act → World → Prop,(∀ a' w',Gr w w' → wpForce P ops Q N l a' w' → K a' w') → o.wp P a w K Q) : wpForce P ops Q N (o :: l) a w:=by
 unfold wpForce;rw [if_pos hw];exact h
end
inductive Mv where
 | done
 | take (l : List Nat) (r : Mv)
 | force (l : List Nat) (r : Mv)
 | fork (i : Nat) (ri : Mv) (j : Nat) (rj : Mv)
 | fork3 (i : Nat) (ri : Mv) (j : Nat) (rj : Mv) (k : Nat) (rk : Mv)
def Mv.total : Mv → Nat
 | .done => 0
 | .take l r => r.total + l.length
 | .force l r => r.total + l.length
 | .fork _ ri _ _ => ri.total + 1
 | .fork3 _ ri _ _ _ _ => ri.total + 1
def Mv.okB (ops : Array Oper) (tl : List Nat) : Mv → Array Bool → Bool
 | .done,listed => forceB ops tl listed && decide (Region.ready .any ops (setAll listed tl) = [])
 | .take l r,listed => (l.all (· < ops.size)) && takesB ops tl l listed && r.okB ops tl (setAll listed l)
 | .force l r,listed => (l.all (· < ops.size)) && forceB ops l listed && r.okB ops tl (setAll listed l)
 | .fork i ri j rj,listed => decide (i < ops.size) && decide (j < ops.size) && decide (Region.ready .any ops listed = [i,j]) && decide (ri.total = rj.total) && ri.okB ops tl (listed.setIfInBounds i true) && rj.okB ops tl (listed.setIfInBounds j true)
 | .fork3 i ri j rj k rk,listed => decide (i < ops.size) && decide (j < ops.size) && decide (k < ops.size) && decide (Region.ready .any ops listed = [i,j,k]) && decide (ri.total = rj.total) && decide (ri.total = rk.total) && ri.okB ops tl (listed.setIfInBounds i true) && rj.okB ops tl (listed.setIfInBounds j true) && rk.okB ops tl (listed.setIfInBounds k true)
def Mv.wp (P : Program) (l0 : List Oper) (Q : Exit → Act → World → Prop) (T : List Oper) : Mv → Act → World → Prop
 | .done,a,w => wpList P l0.toArray Q T a w
 | .take l r,a,w => ∃ w0,Gr w0 w∧wpQuiet P l0.toArray (fun w' => ∃ x,w' = aftG w0 x) (fun a' => r.wp P l0 Q T a' w) (pick l0 l) a
 | .force l r,a,w => wpForce P l0.toArray Q (r.wp P l0 Q T) (pick l0 l) a w
 | .fork i ri j rj,a,w => wpForce P l0.toArray Q (ri.wp P l0 Q T) [nth l0 i] a w∧wpForce P l0.toArray Q (rj.wp P l0 Q T) [nth l0 j] a w
 | .fork3 i ri j rj k rk,a,w => wpForce P l0.toArray Q (ri.wp P l0 Q T) [nth l0 i] a w∧wpForce P l0.toArray Q (rj.wp P l0 Q T) [nth l0 j] a w∧wpForce P l0.toArray Q (rk.wp P l0 Q T) [nth l0 k] a w
section
variable {P : Program} {Q : Exit → Act → World → Prop} {tl : List Nat} {l0 : List Oper}
theorem one_force {ops : Array Oper} {N : Act → World → Prop} {i : Nat} {o : Oper} (ho : ops[i]? = some o) {listed : Array Bool} {a : Act} {w : World} {g : Nat} (hN : ∀ a w,N a w → wpAnyK P ops Q tl g (listed.setIfInBounds i true) a w)
  (h : wpForce P ops Q N [o] a w) : wpOp P ops Q i (fun a' w' => (i ∉ tl → Gr w w')∧wpAnyK P ops Q tl g (listed.setIfInBounds i true) a' w') a w:=by
 unfold wpOp
 simp only [ho]
 unfold wpForce at h
 split at h
 ·rename_i hwt
  rw [if_pos hwt]
  exact .inl (h _ fun a' w' hk h' => ⟨fun _ => hk,hN _ _ h'⟩)
 ·rename_i hwt
  rw [if_neg hwt]
  exact ⟨fun _ => Gr.refl _,hN _ _ h⟩
theorem Mv.sound (hs : Region.noSelect l0.toArray = true) (hQ : ∀ c a x v w,Q (.panic c) (a.put x v) w → Q (.panic c) a w) (htl : ∀ i ∈ tl,i < l0.length) : ∀ (mv : Mv) (listed : Array Bool) (a : Act) (w : World),Closed l0.toArray listed → mv.okB l0.toArray tl listed = true →
  mv.wp P l0 Q (pick l0 tl) a w → wpAnyK P l0.toArray Q tl (mv.total + tl.length) listed a w
 | .done,listed,a,w,hc,hB,h => by
   simp only [Mv.okB,Bool.and_eq_true,decide_eq_true_eq] at hB
   rw [Mv.total,Nat.zero_add]
   exact wpAnyK_tail tl tl (pick l0 tl) listed a w (fun _ h => h) hB.1 hB.2 (filter_get tl htl).2 h
 | .take l r,listed,a,w,hc,hB,h => by
   simp only [Mv.okB,Bool.and_eq_true] at hB
   obtain ⟨⟨hin,htk⟩,hB⟩:=hB
   obtain ⟨w0,hw0,hq⟩:=h
   have hl : ∀ i ∈ l,i < l0.length:=fun i hi => by simpa using List.all_eq_true.1 hin i hi
   rw [show (Mv.take l r).total + tl.length = (r.total + tl.length) + l.length by show r.total + l.length + tl.length = _;omega]
   exact wpAnyK_takes hs hQ _ w w0 hw0 l (pick l0 l) listed a hc htk (filter_get l hl).2 (quiet_mono' (fun a' h' hc' => Mv.sound hs hQ htl r _ a' w hc' hB h') _ _ hq)
 | .force l r,listed,a,w,hc,hB,h => by
   simp only [Mv.okB,Bool.and_eq_true] at hB
   obtain ⟨⟨hin,hfo⟩,hB⟩:=hB
   have hl : ∀ i ∈ l,i < l0.length:=fun i hi => by simpa using List.all_eq_true.1 hin i hi
   rw [show (Mv.force l r).total + tl.length = (r.total + tl.length) + l.length by show r.total + l.length + tl.length = _;omega]
   exact wpAnyK_force _ l (pick l0 l) listed a w hc hfo (filter_get l hl).2 (fun a' w' hc' h' => Mv.sound hs hQ htl r _ a' w' hc' hB h') h
 | .fork i ri j rj,listed,a,w,hc,hB,h => by
   simp only [Mv.okB,Bool.and_eq_true,decide_eq_true_eq] at hB
   obtain ⟨⟨⟨⟨⟨hi,hj⟩,hr⟩,ht⟩,hBi⟩,hBj⟩:=hB
   obtain ⟨h1,h2⟩:=h
   have hoi : l0.toArray[i]? = some (nth l0 i):=by simp at hi ⊢;simp [nth,hi]
   have hoj : l0.toArray[j]? = some (nth l0 j):=by simp at hj ⊢;simp [nth,hj]
   have hri : i ∈ Region.ready .any l0.toArray listed:=by rw [hr];simp
   have hrj : j ∈ Region.ready .any l0.toArray listed:=by rw [hr];simp
   rw [show (Mv.fork i ri j rj).total + tl.length = (ri.total + tl.length) + 1 by show ri.total + 1 + tl.length = _;omega]
   refine ⟨fun h0 => (by rw [hr] at h0;cases h0),fun k hk => ?_⟩
   rw [hr] at hk
   have hk' : k = i ∨ k = j:=by simpa using hk
   by_cases hki : k = i
   ·subst hki
    exact one_force hoi (fun a' w' h' => Mv.sound hs hQ htl ri _ a' w' (hc.set_ hri) hBi h') h1
   ·obtain rfl : k = j:=hk'.resolve_left hki
    rw [ht]
    exact one_force hoj (fun a' w' h' => Mv.sound hs hQ htl rj _ a' w' (hc.set_ hrj) hBj h') h2
 | .fork3 i ri j rj k rk,listed,a,w,hc,hB,h => by
   simp only [Mv.okB,Bool.and_eq_true,decide_eq_true_eq] at hB
   obtain ⟨⟨⟨⟨⟨⟨⟨⟨hi,hj⟩,hk⟩,hr⟩,ht⟩,ht2⟩,hBi⟩,hBj⟩,hBk⟩:=hB
   obtain ⟨h1,h2,h3⟩:=h
   have hoi : l0.toArray[i]? = some (nth l0 i):=by simp at hi ⊢;simp [nth,hi]
   have hoj : l0.toArray[j]? = some (nth l0 j):=by simp at hj ⊢;simp [nth,hj]
   have hok : l0.toArray[k]? = some (nth l0 k):=by simp at hk ⊢;simp [nth,hk]
   have hri : i ∈ Region.ready .any l0.toArray listed:=by rw [hr];simp
   have hrj : j ∈ Region.ready .any l0.toArray listed:=by rw [hr];simp
   have hrk : k ∈ Region.ready .any l0.toArray listed:=by rw [hr];simp
   rw [show (Mv.fork3 i ri j rj k rk).total + tl.length = (ri.total + tl.length) + 1 by show ri.total + 1 + tl.length = _;omega]
   refine ⟨fun h0 => (by rw [hr] at h0;cases h0),fun m hm => ?_⟩
   rw [hr] at hm
   have hm' : m = i ∨ m = j ∨ m = k:=by simpa using hm
   by_cases hmi : m = i
   ·subst hmi
    exact one_force hoi (fun a' w' h' => Mv.sound hs hQ htl ri _ a' w' (hc.set_ hri) hBi h') h1
   ·by_cases hmj : m = j
    ·subst hmj
     rw [ht]
     exact one_force hoj (fun a' w' h' => Mv.sound hs hQ htl rj _ a' w' (hc.set_ hrj) hBj h') h2
    ·obtain rfl : m = k:=(hm'.resolve_left hmi).resolve_left hmj
     rw [ht2]
     exact one_force hok (fun a' w' h' => Mv.sound hs hQ htl rk _ a' w' (hc.set_ hrk) hBk h') h3
end
def mtB (ops : Array Oper) (mv : Mv) (tl : List Nat) : Bool :=
 Region.noSelect ops && (tl.all (· < ops.size)) && decide (mv.total + tl.length = ops.size) && mv.okB ops tl (Array.replicate ops.size false)
theorem wp_region_tree {P : Program} {id : Nat} {Q : Exit → Act → World → Prop} {a : Act} {w : World} {l : List Oper} (mv : Mv) (tl : List Nat) (hm : P.follows .mixedOrders = true) (hB : mtB l.toArray mv tl = true)
  (h : ∀ w1,Keep w w1 → mv.wp P l (Exit.then (fun a w => Q .normal a w) (fun _ _ _ => False)) (pick l tl) a w1) : (Code.region id l.toArray true).wp P Q a w:=by
 simp only [mtB,Bool.and_eq_true,decide_eq_true_eq] at hB
 obtain ⟨⟨⟨hs,htl⟩,hlen⟩,hB⟩:=hB
 refine wp_mono (Q:=Exit.then (fun a w => Q .normal a w) (fun _ _ _ => False)) (wp_region_any hm ?_) fun e a w h => by
  cases e with
  | normal => exact h
  | _ => exact False.elim h
 have:=Mv.sound (P:=P) (Q:=Exit.then (fun a w => Q .normal a w) (fun _ _ _ => False)) hs (fun _ _ _ _ _ h => h) (fun i hi => by simpa using List.all_eq_true.1 htl i hi) mv _ a { w with drawn:=w.drawn + 1 } (closed_none _ _) hB (h _ (((Below.refl _ _).drew)))
 rw [hlen] at this
 exact wpAny_of_K _ _ _ _ this
section
variable {P : Program} {l0 T : List Oper} {Q : Exit → Act → World → Prop} {a : Act} {w : World} {l : List Nat} {r ri rj rk : Mv} {i j k : Nat}
theorem mt_take (w0 : World) (hw : Gr w0 w) (h : wpQuiet P l0.toArray (fun w' => ∃ x,w' = aftG w0 x) (fun a' => r.wp P l0 Q T a' w) (pick l0 l) a) : (Mv.take l r).wp P l0 Q T a w:=⟨w0,hw,h⟩
theorem mt_force (h : wpForce P l0.toArray Q (r.wp P l0 Q T) (pick l0 l) a w) : (Mv.force l r).wp P l0 Q T a w:=h
theorem mt_fork (h1 : wpForce P l0.toArray Q (ri.wp P l0 Q T) [nth l0 i] a w) (h2 : wpForce P l0.toArray Q (rj.wp P l0 Q T) [nth l0 j] a w) : (Mv.fork i ri j rj).wp P l0 Q T a w:=⟨h1,h2⟩
theorem mt_end (h : wpList P l0.toArray Q T a w) : Mv.done.wp P l0 Q T a w:=h
end
end Go.Proofs.Ytbgpgdhndanigaa.G
