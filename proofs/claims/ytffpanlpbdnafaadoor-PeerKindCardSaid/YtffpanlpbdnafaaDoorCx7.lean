/- Texts merged by pack.py: Io, Ip, Rgf, Qa, Arg, Qj, Sha, Eql. -/
import Derived.Test.YtffpanlpbdnafaaDoorCx6
import Derived.Deep.CutBlock
import Derived.Test.YtffpanlpbdnafaaDoorCx5
import Derived.Test.YtffpanlpbdnafaaDoorCx3
import Derived.Test.YtffpanlpbdnafaaDoorCx1
import Derived.ProofKit
import Derived.Deep.Slices
import Derived.Deep.Fields
import Derived.Test.YtffpanlpbdnafaaDoorRows
import Derived.Test.YtffpanlpbdnafaaDoorCx2
import Derived.Deep.RegionHeld3
import Derived.Deep.DrawnRows
import Derived.Deep.DeepCutAuto
import Derived.Deep.RegionLaw
import Derived.Deep.MidRow
import Derived.Deep.WholeRow
/- wire.Get. (printed by gen_io.py) -/
set_option linter.unusedSimpArgs false
set_option linter.unusedVariables false
namespace Go.Proofs.YtffpanlpbdnafaaDoor
open Go.RowKit
attribute [local go_sem ↓] Go.wp_at_zero Go.wp_at_succ
theorem cntE_le {n : Nat} {p : SP} {L : Nat} (h : p.1 ≤ L) : (cntE n p).1 ≤ L:=by unfold cntE;split <;> exact h
theorem tgetS_le (b : List UInt8) : (tgetS b).2.1 ≤ b.length:=by
 rw [tgetS_eq]
 exact tkP_le (outsS_le _ (ctP_le (insS_le _ (cntE_le (ctP_le (tkP_le (Nat.zero_le _)))))))
theorem tak_le (p : PV) (b : List UInt8) (h : (p.tak b).2.2 = 0) : (p.tak b).2.1 ≤ b.length:=by
 cases p with
 | u32 x =>
   replace h : (if b.length < 4 then (1 : Int) else 0) = 0:=h
   show 4 ≤ b.length
   by_cases q : b.length < 4
   ·rw [if_pos q] at h;cases h
   ·omega
 | u64 x =>
   replace h : (if b.length < 8 then (1 : Int) else 0) = 0:=h
   show 8 ≤ b.length
   by_cases q : b.length < 8
   ·rw [if_pos q] at h;cases h
   ·omega
 | hsh A l c most =>
   show (thsN b most).2.1 ≤ _
   unfold thsN
   split
   ·split
    ·exact Nat.zero_le _
    ·show _ + _ ≤ _;omega
   ·exact Nat.zero_le _
 | h32 s =>
   replace h : (if b.length < 32 then (1 : Int) else 0) = 0:=h
   show (if b.length < 32 then 0 else 32) ≤ b.length
   by_cases q : b.length < 32
   ·rw [if_pos q] at h;cases h
   ·rw [if_neg q];omega
 | heads A l c => exact Nat.le_refl _
 | items A l c =>
   show (titN b).2.1 ≤ _
   unfold titN
   split
   ·split
    ·exact Nat.zero_le _
    ·show _ + _ ≤ _;omega
   ·exact Nat.zero_le _
 | head x =>
   replace h : (if b.length < 80 then (1 : Int) else 0) = 0:=h
   show 80 ≤ b.length
   by_cases q : b.length < 80
   ·rw [if_pos q] at h;cases h
   ·omega
 | bytes A l c => exact (byt_le b 1024).1
 | tx t =>
   show (tgetN b).2.1 ≤ _
   unfold tgetN
   split
   ·exact tgetS_le b
   ·exact Nat.zero_le _
theorem anyT : ElT Tryd.prog 122 20 .nilIface 1 16:=ElT.mk' Tryd.underlying122 (by kernel_rfl) rfl (by omega)
theorem wp_build_one {P : Program} {t e : TypeId} {bytes : Nat} (T : ElT P t e .nilIface 1 bytes) {o : Oper} {a : Act} {w : World} {K : Act → World → Prop} {Q : Exit → Act → World → Prop} (x : Operand) (ho : o.op = .buildSlice t 1 #[(0,x)])
  (v : Value) (hz : v.cells = #[v]) (hx : a.eval x = v)
  (h : K (a.put o.dst (.slice (some ⟨w.heap.size,0,none⟩) 1 1)) (w.alloc (.cells #[v] e))) : o.wp P a w K Q:=by
 obtain ⟨i,hi,hiz,his,_⟩:=T.info
 refine wp_buildSlice t e 1 _ ho #[v] i .nilIface T.und hi hiz (by rw [his];omega) (by rw [his];omega) ?_ h
 have hn : Value.nilIface.cells = #[Value.nilIface]:=rfl
 simp only [List.map_toArray,List.map_cons,List.map_nil,hx,Instr.fill,hz,his,hn,Nat.zero_mul,Nat.one_mul]
 simp [Array.range,Array.ofFn_succ]
theorem list_build_one {P : Program} {t e : TypeId} {bytes : Nat} (T : ElT P t e .nilIface 1 bytes) {ops : Array Oper} {rest : List Oper} {a : Act} {w : World} {Q : Exit → Act → World → Prop} {x : Operand} {dst : Option Tmp} {ty' : TypeId} {pos : String} {af : Array Edge}
  (v : Value) (hz : v.cells = #[v]) (hx : a.eval x = v)
  (h : wpList P ops Q rest (a.put dst (.slice (some ⟨w.heap.size,0,none⟩) 1 1)) (w.alloc (.cells #[v] e))) : wpList P ops Q ({ dst:=dst,op:=.buildSlice t 1 #[(0,x)],type:=ty',pos:=pos,after:=af,guard:=none } :: rest) a w :=
 wpList_plain rfl fun _ hK => wp_build_one T x rfl v hz hx (hK _ _ h)
theorem PV.val_if (p : PV) : ∃ t v,p.val = .iface t v:=by cases p <;> exact ⟨_,_,rfl⟩
theorem PV.val_cells (p : PV) : p.val.cells = #[p.val]:=by obtain ⟨t,v,e⟩:=p.val_if;rw [e];rfl
theorem PV.val_one (p : PV) : p.val.oneCell' = true:=by obtain ⟨t,v,e⟩:=p.val_if;rw [e];rfl
theorem parts_like (k : Int) : ∀ p ∈ partsM (msgZ k),p.like:=by
 have f7 : (PV.h32 (msgZ k).stop).like:=(show z32.length = 32 from rfl)
 have f8 : (PV.head (msgZ k).bh).like:=(show zHdr.ok from ⟨rfl,rfl⟩)
 have f1 : (PV.hsh (msgZ k).lA (msgZ k).ls (msgZ k).lc 101).like:=(show (101 : Nat) ≤ 1000000 by omega)
 have f4 : (PV.hsh (msgZ k).sA (msgZ k).shs (msgZ k).sc 4096).like:=(show (4096 : Nat) ≤ 1000000 by omega)
 generalize msgZ k = m at *
 intro p hp
 unfold partsM at hp
 split at hp
 ·simp only [List.mem_cons,List.not_mem_nil,or_false] at hp
  rcases hp with rfl | rfl | rfl <;> trivial
 split at hp
 ·simp only [List.mem_cons,List.not_mem_nil,or_false] at hp
  subst hp;trivial
 split at hp
 ·simp only [List.mem_cons,List.not_mem_nil,or_false] at hp
  rcases hp with rfl | rfl | rfl <;> first | assumption | trivial
 split at hp
 ·simp only [List.mem_cons,List.not_mem_nil,or_false] at hp
  subst hp;trivial
 split at hp
 ·simp only [List.mem_cons,List.not_mem_nil,or_false] at hp
  subst hp;trivial
 split at hp
 ·simp only [List.mem_cons,List.not_mem_nil,or_false] at hp
  rcases hp with rfl | rfl | rfl | rfl <;> first | assumption | trivial
 split at hp
 ·simp only [List.mem_cons,List.not_mem_nil,or_false] at hp
  subst hp;trivial
 ·cases hp
def AtAll (B : Nat) (w : World) (v : Value) (qs : List PV) : Prop:=∀ W : World,(∀ k,B ≤ k → k < w.heap.size → v.ownBlock ≠ some k → W.heap[k]? = w.heap[k]?) → ∀ q ∈ qs,q.at_ W
theorem AtAll.more {B : Nat} {wr w4 w5 : World} {v v' : Value} {qs : List PV} {q : PV} {n : Nat} {e : TypeId} {xs : List Value} (h : AtAll B wr v qs) (own : wr.ownsRow B e 1 v n xs) (hB : B ≤ wr.heap.size) (hk : Keep wr w4) (hg : w4.grownBy w5 v.ownBlock)
  (hv : v'.ownBlock = v.ownBlock ∨ v'.ownBlock = some w4.heap.size) (hm : ∀ W,MidF (fun _ => True) wr w4 W → q.at_ W) : AtAll B w5 v' (qs ++ [q]):=by
 intro W hW
 have g4 : ∀ k,B ≤ k → k < w4.heap.size → v.ownBlock ≠ some k → W.heap[k]? = w4.heap[k]?:=fun k h1 h2 h3 =>
  (hW k h1 (Nat.lt_of_lt_of_le h2 hg.size) (by
   rcases hv with e | e
   ·rw [e];exact h3
   ·rw [e];intro q;cases q;omega)).trans (hg.block k h2 (Ne.symm h3))
 intro x hx
 rcases List.mem_append.1 hx with hx | hx
 ·exact h W (fun k h1 h2 h3 => (g4 k h1 (Nat.lt_of_lt_of_le h2 hk.size) h3).trans (hk.block k h2)) x hx
 ·obtain rfl : x = q:=by simpa using hx
  exact hm W ⟨trivial,fun k h1 h2 => g4 k (Nat.le_trans hB h1) h2 (fun e => by have:=(own.lt k e).2;omega)⟩
def LeftN (G : List PV × List UInt8 × Int) (ps : List PV) (j : Nat) (qs : List PV) (b : List UInt8) : Prop:=G = (qs.map PV.pl ++ (getsN (ps.drop j) b).1,(getsN (ps.drop j) b).2)
theorem LeftN.step {G : List PV × List UInt8 × Int} {ps : List PV} {j : Nat} {qs : List PV} {b : List UInt8} (h : LeftN G ps j qs b) {p : PV} (hp : ps[j]? = some p) (h0 : (p.tak b).2.2 = 0) {q : PV} (hq : q.pl = (p.tak b).1) : LeftN G ps (j + 1) (qs ++ [q]) (b.drop (p.tak b).2.1):=by
 unfold LeftN at h ⊢
 obtain ⟨hj,rfl⟩:=List.getElem?_eq_some_iff.1 hp
 rw [h,List.drop_eq_getElem_cons hj,gets_ok _ _ _ h0,List.map_append,← hq,List.append_assoc];rfl
theorem LeftN.bad {G : List PV × List UInt8 × Int} {ps : List PV} {j : Nat} {qs : List PV} {b : List UInt8} (h : LeftN G ps j qs b) {p : PV} (hp : ps[j]? = some p) (h0 : ¬ (p.tak b).2.2 = 0) : G.2.2 = (p.tak b).2.2:=by
 unfold LeftN at h
 obtain ⟨hj,rfl⟩:=List.getElem?_eq_some_iff.1 hp
 rw [h,List.drop_eq_getElem_cons hj,gets_bad _ _ _ h0]
theorem LeftN.end {G : List PV × List UInt8 × Int} {ps : List PV} {qs : List PV} {b : List UInt8} (h : LeftN G ps ps.length qs b) : G = (qs.map PV.pl,b,0):=by
 unfold LeftN at h
 rw [h,List.drop_length,gets_nil,List.append_nil]
end Go.Proofs.YtffpanlpbdnafaaDoor
/- wire.Get. (printed by gen_ip.py) -/
set_option linter.unusedSimpArgs false
set_option linter.unusedVariables false
namespace Go.Proofs.YtffpanlpbdnafaaDoor
open Go.RowKit
attribute [local go_sem ↓] Go.wp_at_zero Go.wp_at_succ
theorem zmsg_built : Tryd.prog.built 50 [] = some zmsg:=by kernel_rfl
theorem zmsg_letterB : ∃ zs : Array Value,(∀ w,(zeroValue 50).run Tryd.prog w = .ok (.agg zs) w)∧MsA (msgZ 0) zs∧Tryd.prog.built 50 [] = some zs :=
 ⟨zmsg,zmsg_zero,by
  have h:=MsA.of (msgZ_ok 0 (by omega))
  rwa [← zmsg_list,Array.toArray_toList] at h,zmsg_built⟩
end Go.Proofs.YtffpanlpbdnafaaDoor
/- wire.Get: what comes hangs on nothing that was there before. (printed by gen_rgf.py out of XIp) -/
set_option linter.unusedSimpArgs false
set_option linter.unusedVariables false
namespace Go.Proofs.YtffpanlpbdnafaaDoor
open Go.RowKit
attribute [local go_sem ↓] Go.wp_at_zero Go.wp_at_succ
def WgdF (R : MsgR × Int) (w : World) (e : Ending) (w' : World) : Prop:=∃ m : MsgR,e = .returned (.tuple #[.agg m.cells.toArray,iv R.2])∧m.pl = R.1∧(∀ W,MidF (fun _ => True) w w' W → m.at_ W)∧Keep w w'
set_option maxRecDepth 100000 in
set_option maxHeartbeats 4000000 in
theorem get_anyF (s : List UInt8) (A : Option Addr) (b : List UInt8) (c : Nat) (w : World) (hl : b.length ≤ 1000000000) (hc : b.length ≤ c) (hcm : c ≤ maxLen) (hr : Rd w A (b.map u8v)) :
  Calls Tryd.prog 39 #[.string (str s),.slice A b.length c] w (WgdF (wgetN s b) w):=by
 obtain ⟨ys,hyz,hyA,hyb⟩:=zmsg_letterB
 have hyn:=hyA.n;have hyi:=hyA.i;have hys:=hyA.z
 have HY:=Lib.hid hyA;have HB0:=Lib.hid hyb
 have HYE : Hid (ys = (msgZ 0).cells.toArray):=Lib.hid (by rw [← hyA.l,Array.toArray_toList])
 have KT : Hid (∀ y,Calls Tryd.prog 38 #[.string (str s)] y fun e w' => e = .returned (.tuple #[iv (kindN s).1,.bool (kindN s).2])∧Keep y w'):=Lib.hid fun y => kind_any s y
 have HK11 : Hid ((kindN s).2 = true → (kindN s).1 < 11):=Lib.hid fun h => (kindN_spec h).2
 have HRR : Hid (wgetN s b = if (kindN s).2 = true then
   if (getsN (partsM (msgZ (kindN s).1)) b).2.2 = 0 then
    if (getsN (partsM (msgZ (kindN s).1)) b).2.1 = [] then (msgOf (kindN s).1 (getsN (partsM (msgZ (kindN s).1)) b).1,0) else (msgZ 0,2)
   else (msgZ 0,(getsN (partsM (msgZ (kindN s).1)) b).2.2)
  else (msgZ 0,2)):=Lib.hid rfl
 have HR0:=Lib.hid hr;have HL:=Lib.hid hl;have HC:=Lib.hid hc;have HCM:=Lib.hid hcm
 clear hyA hyb hr hl hc hcm
 generalize wgetN s b = R at *
 generalize kindN s = kn at *
 obtain ⟨k,ok⟩:=kn
 simp only at KT HK11 HRR
 unfold WgdF
 go_enter Tryd.func39,Tryd.ntmps39
 go_upto_region 1 with fail
 obtain ⟨w1,hw1⟩ : ∃ w1,w1 = w.alloc (.cells ys 50):=⟨_,rfl⟩
 have HR1 : Hid (Blk w1 w.heap.size 50 ys.toList):=by rw [hw1];exact Lib.hid (Blk.new w _ ys.toList)
 have HK1 : Hid (Keep w w1):=by rw [hw1];exact Lib.hid (keep_new _ _)
 rw [← hw1]
 clear hw1
 have hszk:=HK1.out.size
 cases ok with
 | false =>
   have hR : R = (msgZ 0,2):=by rw [HRR.out,if_neg (by simp)]
   have HR:=Lib.hid hR
   clear hR HRR HK11
   go_upto_region 3 with (go_at_call 38;refine (KT.out _).mono ?_;rintro e w2 ⟨rfl,k2⟩;have HK2:=Lib.hid (keep_trans HK1.out k2);have HR2:=Lib.hid (HR1.out.keep k2);clear k2)
   obtain ⟨w8,hst8,hb8,hg8⟩:=run_store_blk (P:=Tryd.prog) ys.toList HR2.out rfl HY.out.o
   have Hb8:=Lib.hid hb8;have Hg8:=Lib.hid hg8
   clear hb8 hg8
   go_wp2_with ((with_reducible refine list_bldg [] ys (Eq.trans ?_ rfl) HB0.out (Eq.trans ?_ rfl) ?_);rfl;rfl)
   exact bodyPost_ret (v:=.tuple #[.agg ys,iv 2]) (results_cell_tmp_row Tryd.results39 _ _ w.heap.size _ _ _ _ rfl Hb8.out Tryd.underlying50 rfl (by rw [List.size_toArray,Array.length_toList];exact hyi)) rfl ⟨msgZ 0,by rw [HR.out];simp only [HYE.out],by rw [HR.out];rfl,(fun W _ => msgZ_at 0 (by omega) W),HK2.out.grown Hg8.out HK2.out.size (fun q hq => by injection hq with hq;omega)⟩
 | true =>
   have hk11:=HK11.out rfl
   have PT : Hid (∀ ks,MsA (msgZ k) ks → ∀ y,Calls Tryd.prog 52 #[.agg ks] y fun e w' => ∃ A,e = .returned (.slice A (partsM (msgZ k)).length (partsM (msgZ k)).length)∧Rd w' A ((partsM (msgZ k)).map PV.val)∧Keep y w'):=Lib.hid fun ks h y => parts_any (msgZ k) ks h (msgZ_ok k (by omega)) y
   have PL:=Lib.hid (parts_like (k : Int))
   have PN:=parts_len (msgZ (k : Int))
   have MS : Hid (∀ qs : List PV,qs.map PV.tag = (partsM (msgZ k)).map PV.tag → ∀ y,(∀ q ∈ qs,q.at_ y) → ∀ A c,Rd y A (qs.map PV.val) → (msgOf k qs).at_ y∧(msgOf k qs).pl = msgOf k (qs.map PV.pl)∧Calls Tryd.prog 57 #[iv k,.slice A qs.length c] y fun e w' => ∃ ds,e = .returned (.agg ds)∧MsA (msgOf k qs) ds∧Keep y w'):=Lib.hid fun qs h y hat A c hr => message_all k hk11 qs h y hat A c hr
   have GT : Hid ((getsN (partsM (msgZ k)) b).2.2 = 0 → (getsN (partsM (msgZ k)) b).1.map PV.tag = (partsM (msgZ k)).map PV.tag):=Lib.hid (gets_tag _ _)
   have L0 : Hid (LeftN (getsN (partsM (msgZ k)) b) (partsM (msgZ k)) 0 [] b):=Lib.hid rfl
   have hR : R = if (getsN (partsM (msgZ k)) b).2.2 = 0 then
     if (getsN (partsM (msgZ k)) b).2.1 = [] then (msgOf k (getsN (partsM (msgZ k)) b).1,0) else (msgZ 0,2)
    else (msgZ 0,(getsN (partsM (msgZ k)) b).2.2):=by rw [HRR.out,if_pos rfl]
   have HR:=Lib.hid hR
   clear hR HRR HK11
   generalize getsN (partsM (msgZ k)) b = G at *
   obtain ⟨ks,hks⟩ : ∃ ks : Array Value,ks = (msgZ k).cells.toArray:=⟨_,rfl⟩
   have hkA : MsA (msgZ k) ks:=by rw [hks];exact MsA.of (msgZ_ok _ (by omega))
   have HBu : Hid (Tryd.prog.built 50 [(0,.int .i64 k)] = some ks):=Lib.hid (by rw [hks];exact msg_built _)
   clear hks
   have PT1:=Lib.hid (PT.out ks hkA)
   have hkn:=hkA.n
   clear PT hkA
   generalize partsM (msgZ k) = ps at *
   obtain ⟨n,hn⟩ : ∃ n,ps.length = n:=⟨_,rfl⟩
   have HN:=Lib.hid hn
   rw [hn] at PN PT1
   clear hn
   go_upto_region 5 with (go_at_call 38;refine (KT.out _).mono ?_;rintro e w2 ⟨rfl,k2⟩;have HK2:=Lib.hid (keep_trans HK1.out k2);have HR2:=Lib.hid (HR1.out.keep k2);clear k2 HK1 HR1 KT)
   go_upto_region 6 with (first | ((with_reducible refine list_bldg [(0,.int .i64 k)] ks (Eq.trans ?_ rfl) HBu.out (Eq.trans ?_ rfl) ?_);rfl;rfl) | (go_at_call 52;refine (PT1.out _).mono ?_;rintro e w3 ⟨AP,rfl,r3,k3⟩;have HK3:=Lib.hid (keep_trans HK2.out k3);have HR3:=Lib.hid (HR2.out.keep k3);have RP:=Lib.hid r3;clear k3 r3 HK2 HR2 PT1))
   have hszk3:=HK3.out.size
   have A0 : Hid (AtAll w3.heap.size w3 (.slice none 0 0) []):=Lib.hid (fun W _ q hq => by cases hq)
   have Own0 : Hid (w3.ownsRow w3.heap.size 20 1 (.slice none 0 0) 0 (([] : List PV).map PV.val)):=Lib.hid (World.ownsRow_nil _ _ _ _)
   have K0 : Hid (Keep w3 w3):=Lib.hid (Below.refl _ _)
   have R0 : Hid (Rd w3 A (b.map u8v)):=Lib.hid (HR0.out.keep HK3.out)
   have CAPS : Hid (b.length ≤ 1000000000∧b.length ≤ c∧c ≤ maxLen):=Lib.hid ⟨HL.out,HC.out,HCM.out⟩
   clear HR0 HL HC HCM
   go_wp2_with fail
   go_loopw [1,8,26] (fun bv gv i wr => ∃ (j : Nat) (qs : List PV) (b' : List UInt8) (A' : Option Addr) (c' : Nat),j ≤ n∧i = .int .i64 j∧bv = .slice A' b'.length c'∧Hid (qs.length = j)∧Hid (b'.length ≤ 1000000000∧b'.length ≤ c'∧c' ≤ maxLen)∧Hid (Rd w3 A' (b'.map u8v))∧Hid (wr.ownsRow w3.heap.size 20 1 gv j (qs.map PV.val))∧Hid (AtAll w3.heap.size wr gv qs)∧Hid (Keep w3 wr)∧Hid (LeftN G ps j qs b')) (fun _ _ i _ => n - (intOf i).toNat)
   case atStart => exact ⟨0,[],b,A,c,Nat.zero_le _,rfl,rfl,Lib.hid rfl,CAPS,R0,Own0,A0,K0,L0⟩
   case round =>
    obtain ⟨j,qs,b',A',c',hj,rfl,rfl,HQ,HCP,HRB,Own1,AT1,KR,LE⟩:=hrel
    clear Own0 K0 A0 R0 CAPS L0
    by_cases hlt : j < n
    ·have d1 : (j : Int) < n:=by omega
     have hjl : j < ps.length:=by rw [HN.out];exact hlt
     obtain ⟨g,off,hA',hgb,FF⟩:=(RP.out.keep KR.out).at (k:=j) (by rw [List.length_map];exact hjl)
     have c0 : wr.cell? ⟨g,off + j,none⟩ = some (ps[j].val):=by rw [FF j (by rw [List.length_map];exact hjl),List.getElem_map]
     have HPJ : Hid (ps[j]? = some ps[j]):=Lib.hid (List.getElem?_eq_getElem hjl)
     have TK:=Lib.hid (take_any ps[j] (PL.out _ (List.getElem_mem hjl)) A' b' c' wr HCP.out.1 HCP.out.2.1 HCP.out.2.2 (HRB.out.keep KR.out))
     have TL:=Lib.hid (tak_le ps[j] b')
     have LB:=Lib.hid (LE.out.bad HPJ.out)
     have LS : Hid (∀ q : PV,(ps[j].tak b').2.2 = 0 → q.pl = (ps[j].tak b').1 → LeftN G ps (j + 1) (qs ++ [q]) (b'.drop (ps[j].tak b').2.1)):=Lib.hid fun q h1 h2 => LE.out.step HPJ.out h1 h2
     subst hA'
     clear hgb FF HPJ LE
     generalize ps[j].val = pv at *
     generalize ps[j].tak b' = T at *
     generalize ps[j] = p at *
     obtain ⟨T1,T2,T3⟩:=T
     simp only at TK TL LB LS
     obtain ⟨bl,hbl⟩ : ∃ bl,b'.length = bl:=⟨_,rfl⟩
     have HBL:=Lib.hid hbl
     by_cases h0 : T3 = 0
     ·subst h0
      have hT2:=TL.out rfl
      simp only [hbl] at hT2 TK ⊢
      have hbc:=HCP.out.2.1;have hbm:=HCP.out.2.2
      rw [hbl] at hbc
      unfold maxLen at hbm
      clear hbl LB TL
      go_upto_region 12 with (first | (go_at_call 56;refine TK.out.mono ?_;rintro e w4 ⟨v4,rfl,q4,k4⟩;obtain ⟨q,hqv,hq1,hq2,hq3⟩:=q4 trivial;have HQ1:=Lib.hid hq1;have HQ2:=Lib.hid hq2;have HQ3:=Lib.hid hq3;have HQC : Hid (v4.cells = #[v4]):=Lib.hid (by rw [hqv];exact q.val_cells);have HQO : Hid (v4.oneCell' = true):=Lib.hid (by rw [hqv];exact q.val_one);have HQV:=Lib.hid hqv;have K4:=Lib.hid k4;have Own4:=Lib.hid (own_keep Own1.out k4);have HWS : Hid (w3.heap.size ≤ w4.heap.size):=Lib.hid (Nat.le_trans KR.out.size k4.size);clear hqv hq1 hq2 hq3 q4 k4) | ((with_reducible refine list_build_one anyT v4 HQC.out (Eq.trans ?_ rfl) ?_);rfl) | (at_builtin;refine wpList_app anyT (by rfl) _ _ (by rfl) w3.heap.size _ _ _ (by rfl) (Own4.out.alloc _) _ 1 1 [v4] (by rfl) (by rfl) (Rd.new _ _ _) (by intro u hu;rw [List.mem_singleton.1 hu];exact HQO.out) (by omega) (by unfold maxLen;omega) (by have:=HWS.out;simp;omega) ?_;intro v6 w6 own6 hg6 hat6;have Own6:=Lib.hid own6;have HG6:=Lib.hid hg6;have HAT6:=Lib.hid hat6;clear own6 hg6 hat6))
      clear TK
      have RB6 : Hid (Rd w3 (if c' = T2 then A' else A'.map fun x => x.add T2) ((b'.drop T2).map u8v)):=Lib.hid (by
       have q:=HRB.out.drop (k:=T2) (cap:=c') (by rw [List.length_map,HBL.out];exact hT2) (by rw [List.length_map,HBL.out];exact hbc)
       rw [Nat.mul_one,← List.map_drop] at q
       exact q)
      have AT6 : Hid (AtAll w3.heap.size w6 v6 (qs ++ [q])):=Lib.hid (AT1.out.more (w4:=w4.alloc (.cells #[v4] 20)) Own1.out KR.out.size (keep_trans K4.out (keep_new _ _)) HG6.out HAT6.out (fun W hm => HQ3.out W ⟨trivial,fun k h1 h2 => (hm.2 k h1 (by simp;omega)).trans ((keep_new w4 _).block k h2)⟩))
      have KR6 : Hid (Keep w3 w6):=Lib.hid (by
       have k5 : Keep w3 (w4.alloc (.cells #[v4] 20)):=keep_trans (keep_trans KR.out K4.out) (keep_new _ _)
       exact keep_grown k5 k5.size HG6.out (Own4.out.alloc _))
      have LE6:=Lib.hid (LS.out q trivial HQ1.out)
      have HQ6 : Hid ((qs ++ [q]).length = j + 1):=Lib.hid (by rw [List.length_append,HQ.out];rfl)
      have CP6 : Hid ((b'.drop T2).length ≤ 1000000000∧(b'.drop T2).length ≤ c' - T2∧c' - T2 ≤ maxLen):=Lib.hid (by rw [List.length_drop,HBL.out];have h1:=HCP.out.1;rw [HBL.out] at h1;refine ⟨by omega,by omega,by unfold maxLen;omega⟩)
      have Own6' : Hid (w6.ownsRow w3.heap.size 20 1 v6 (j + 1) ((qs ++ [q]).map PV.val)):=Lib.hid (own_eq Own6.out rfl (by rw [List.map_append,HQV.out];rfl))
      clear AT1 Own1 HG6 HAT6 HQ1 HQ2 HQ3 HQC HQO HQV K4 Own4 Own6 LS KR HRB HQ HCP c0 PL
      go_wp2
      go_roundw
      case rel => exact ⟨j + 1,qs ++ [q],b'.drop T2,_,c' - T2,by omega,by go_num,by rw [List.length_drop,HBL.out],HQ6,CP6,RB6,Own6',AT6,KR6,LE6⟩
      case measure => simp [intOf];omega
     ·have hG : G.2.2 = T3:=LB.out h0
      have hR : R = (msgZ 0,T3):=by rw [HR.out,if_neg (by rw [hG];exact h0),hG]
      have HRX:=Lib.hid hR
      have d2 : (T3 != 0) = true:=by rw [bne_iff_ne];exact h0
      clear hG hR HR LB LS TL hbl h0
      go_upto_region 10 with (go_at_call 56;refine TK.out.mono ?_;rintro e w4 ⟨v4,rfl,-,k4⟩;have HK4:=Lib.hid (keep_trans HK3.out (keep_trans KR.out k4));have HR4:=Lib.hid ((HR3.out.keep KR.out).keep k4);clear k4)
      clear TK
      obtain ⟨w8,hst8,hb8,hg8⟩:=run_store_blk (P:=Tryd.prog) ys.toList HR4.out rfl HY.out.o
      have Hb8:=Lib.hid hb8;have Hg8:=Lib.hid hg8
      clear hb8 hg8
      go_wp2_with ((with_reducible refine list_bldg [] ys (Eq.trans ?_ rfl) HB0.out (Eq.trans ?_ rfl) ?_);rfl;rfl)
      exact bodyPost_ret (v:=.tuple #[.agg ys,iv T3]) (results_cell_tmp_row Tryd.results39 _ _ w.heap.size _ _ _ _ rfl Hb8.out Tryd.underlying50 rfl (by rw [List.size_toArray,Array.length_toList];exact hyi)) rfl ⟨msgZ 0,by rw [HRX.out];simp only [HYE.out],by rw [HRX.out];rfl,(fun W _ => msgZ_at 0 (by omega) W),HK4.out.grown Hg8.out HK4.out.size (fun q hq => by injection hq with hq;omega)⟩
    ·obtain rfl : j = n:=by omega
     have d1 : ¬ (j : Int) < j:=by omega
     have hG : G = (qs.map PV.pl,b',0):=by
      have q:=LE.out
      rw [← HN.out] at q
      exact q.end
     have HTG : Hid (qs.map PV.tag = ps.map PV.tag):=Lib.hid (by
      have q:=GT.out (by rw [hG])
      rw [hG,List.map_map] at q
      rw [← q]
      exact List.map_congr_left fun x _ => (pl_tag x).symm)
     have HAT : Hid (∀ q ∈ qs,q.at_ wr):=Lib.hid (AT1.out wr (fun _ _ _ _ => rfl))
     have HKW:=Lib.hid (keep_trans HK3.out KR.out)
     have HRW:=Lib.hid (HR3.out.keep KR.out)
     obtain ⟨A2,c2,hu8,-,-,hrd⟩:=own_form Own1.out
     have HRD:=Lib.hid hrd
     subst hu8
     have OwnF:=Lib.hid Own1.out
     clear hrd GT LE Own1 HRB HCP PL
     by_cases hb : b' = []
     ·subst hb
      have hR : R = (msgOf k (qs.map PV.pl),0):=by rw [HR.out,hG];simp
      have HRX:=Lib.hid hR
      have ME:=Lib.hid (MS.out qs HTG.out wr HAT.out A2 c2 HRD.out)
      rw [HQ.out] at ME
      have ME3:=Lib.hid ME.out.2.2;have ME2:=Lib.hid ME.out.2.1
      clear hR hG HR HAT HRD HQ ME
      simp only [List.length_nil]
      go_upto_region 16 with fail
      go_wp2_with (go_at_call 57;refine ME3.out.mono ?_;rintro e w4 ⟨ds,rfl,hA4,k4⟩;have HA4:=Lib.hid hA4;have hdn:=hA4.n;have hdz:=hA4.z;have hdi:=hA4.i;have HK4:=Lib.hid (keep_trans HKW.out k4);have HR4:=Lib.hid (HRW.out.keep k4);have K4:=Lib.hid k4;obtain ⟨w8,hst8,hb8,hg8⟩:=run_store_blk (P:=Tryd.prog) ds.toList HR4.out (by rw [Array.length_toList,Array.length_toList,hdz,hys]) HA4.out.o;have Hb8:=Lib.hid hb8;have Hg8:=Lib.hid hg8;clear hA4 k4 hb8 hg8)
      have HM8 : ∀ k,w3.heap.size ≤ k → k < wr.heap.size → w8.heap[k]? = wr.heap[k]?:=fun k h1 h2 => (Hg8.out.block k (Nat.lt_of_lt_of_le h2 K4.out.size) (fun e => by have:=Option.some.inj e;have:=HR3.out.lt;omega)).trans (K4.out.block k h2)
      have HATF : ∀ W,MidF (fun _ => True) w w8 W → (msgOf k qs).at_ W:=fun W hW => by
       have HMW : ∀ k,w3.heap.size ≤ k → k < wr.heap.size → W.heap[k]? = wr.heap[k]?:=fun k h1 h2 => (hW.2 k (Nat.le_trans HK3.out.size h1) (Nat.lt_of_lt_of_le h2 (Nat.le_trans K4.out.size Hg8.out.size))).trans (HM8 k h1 h2)
       exact (MS.out qs HTG.out W (AT1.out W (fun k h1 h2 _ => HMW k h1 h2)) A2 c2 (own_mid (F:=fun _ => True) (w:=w3) OwnF.out (Nat.le_refl _) ⟨trivial,HMW⟩)).1
      exact bodyPost_ret (v:=.tuple #[.agg ds,iv 0]) (results_cell_tmp_row Tryd.results39 _ _ w.heap.size _ _ _ _ rfl Hb8.out Tryd.underlying50 rfl (by rw [List.size_toArray,Array.length_toList];exact hdi)) rfl
       ⟨msgOf k qs,by rw [HRX.out,← HA4.out.l,Array.toArray_toList],by rw [HRX.out];exact ME2.out,HATF,HK4.out.grown Hg8.out HK4.out.size (fun q hq => by injection hq with hq;omega)⟩
     ·have hR : R = (msgZ 0,2):=by rw [HR.out,hG];simp [hb]
      have HRX:=Lib.hid hR
      have d2 : (0 : Int) < (b'.length : Int):=by have:=List.length_pos_iff.2 hb;omega
      clear hR hG HR MS HTG HAT HRD HQ hb
      go_upto_region 15 with fail
      obtain ⟨w8,hst8,hb8,hg8⟩:=run_store_blk (P:=Tryd.prog) ys.toList HRW.out rfl HY.out.o
      have Hb8:=Lib.hid hb8;have Hg8:=Lib.hid hg8
      clear hb8 hg8
      go_wp2_with ((with_reducible refine list_bldg [] ys (Eq.trans ?_ rfl) HB0.out (Eq.trans ?_ rfl) ?_);rfl;rfl)
      exact bodyPost_ret (v:=.tuple #[.agg ys,iv 2]) (results_cell_tmp_row Tryd.results39 _ _ w.heap.size _ _ _ _ rfl Hb8.out Tryd.underlying50 rfl (by rw [List.size_toArray,Array.length_toList];exact hyi)) rfl ⟨msgZ 0,by rw [HRX.out];simp only [HYE.out],by rw [HRX.out];rfl,(fun W _ => msgZ_at 0 (by omega) W),HKW.out.grown Hg8.out HKW.out.size (fun q hq => by injection hq with hq;omega)⟩
end Go.Proofs.YtffpanlpbdnafaaDoor
/- Peers in memory; frame.bounded, New; peer.New, banned. -/
set_option linter.unusedSimpArgs false
set_option linter.unusedVariables false
namespace Go.Proofs.YtffpanlpbdnafaaDoor
open Go.RowKit
attribute [local go_sem ↓] Go.wp_at_zero Go.wp_at_succ
structure PeR where
 stage : Int
 nonce : Nat
 height : UInt32
 asked : Bool
 until_ : Int
 misses : Int
 magic : UInt32
 cap : Int
 rA : Option Addr
 rs : List UInt8
 rc : Nat
 bad : Int
namespace PeR
def cells (p : PeR) : List Value:=[iv p.stage,u64v p.nonce,u32v p.height,.bool p.asked,iv p.until_,iv p.misses,u32v p.magic,iv p.cap,.slice p.rA p.rs.length p.rc,iv p.bad]
theorem one (p : PeR) : ∀ u ∈ p.cells,u.oneCell' = true:=by
 intro u hu
 unfold cells at hu
 simp only [List.mem_cons,List.not_mem_nil,or_false] at hu
 rcases hu with rfl | rfl | rfl | rfl | rfl | rfl | rfl | rfl | rfl | rfl <;> rfl
end PeR
theorem pe_info : (Tryd.prog.info? 31).map (·.size) = some 10:=by kernel_rfl
structure PeA (p : PeR) (cs : Array Value) : Prop where
 l : cs.toList = p.cells
 z : cs.size = 10
 i : (Tryd.prog.info? 31).map (·.size) = some cs.size
 n : ¬ cs = #[]
 o : ∀ v ∈ cs.toList,v.oneCell' = true
theorem PeA.of (p : PeR) : PeA p p.cells.toArray :=
 ⟨rfl,rfl,pe_info,(fun e => by cases e),by simpa using p.one⟩
def peZ : PeR:=⟨0,0,0,false,0,0,0,0,none,[],0,0⟩
noncomputable def zpeer : Array Value:=match (Tryd.prog.info? 31).bind (·.zero) with | some (.agg c) => c | _ => #[]
theorem zpeer_zero (w : World) : (zeroValue 31).run Tryd.prog w = .ok (.agg zpeer) w:=by kernel_rfl
theorem zpeer_list : zpeer.toList = peZ.cells:=by kernel_rfl
theorem zpeer_letter : ∃ zs : Array Value,(∀ w,(zeroValue 31).run Tryd.prog w = .ok (.agg zs) w)∧PeA peZ zs :=
 ⟨zpeer,zpeer_zero,by
  have h:=PeA.of peZ
  rwa [← zpeer_list,Array.toArray_toList] at h⟩
def bndF (n : Int) : Int:=min (max n 0) 4000000
def newP (magic : UInt32) (most : Int) : PeR:={ peZ with magic:=magic,cap:=bndF most }
def PeR.ban (p : PeR) : PeR:={ p with stage:=3,asked:=false,rA:=none,rs:=[],rc:=0 }
set_option maxRecDepth 100000 in
theorem bounded_any (n : Int) (w : World) : Calls Tryd.prog 42 #[iv n] w fun e w' => e = .returned (iv (bndF n))∧Keep w w':=by
 have HK : Hid (Keep w w):=Lib.hid (Below.refl _ _)
 have HB : Hid (bndF n = min (max n 0) 4000000):=Lib.hid rfl
 generalize bndF n = B at *
 go_enter Tryd.func42,Tryd.ntmps42
 go_wp2
 all_goals
  rename_i h1
  have e : B = _:=HB.out
  first
  | (have e3 : B = 4000000:=by rw [e];split at h1 <;> omega
     rw [e3]
     exact bodyPost_ret (v:=iv 4000000) (by simp [results,Tryd.results42]) rfl ⟨rfl,HK.out⟩)
  | (have e3 : B = 0:=by rw [e];omega
     rw [e3]
     exact bodyPost_ret (v:=iv 0) (by simp [results,Tryd.results42]) rfl ⟨rfl,HK.out⟩)
  | (have e3 : B = n:=by rw [e];split at h1 <;> omega
     rw [e3]
     exact bodyPost_ret (v:=iv n) (by simp [results,Tryd.results42]) rfl ⟨rfl,HK.out⟩)
def bufL (g : UInt32) (c : Int) (A : Option Addr) (n rc : Nat) (b : Int) : List Value:=[u32v g,iv c,.slice A n rc,iv b]
theorem buf_info : (Tryd.prog.info? 29).map (·.size) = some 4:=by kernel_rfl
structure BuA (l : List Value) (cs : Array Value) : Prop where
 l : cs.toList = l
 z : cs.size = 4
 i : (Tryd.prog.info? 29).map (·.size) = some cs.size
 n : ¬ cs = #[]
 o : ∀ v ∈ cs.toList,v.oneCell' = true
theorem BuA.of (g : UInt32) (c : Int) (A : Option Addr) (n rc : Nat) (b : Int) : BuA (bufL g c A n rc b) (bufL g c A n rc b).toArray :=
 ⟨rfl,rfl,buf_info,(fun e => by cases e),by
  intro v hv
  have hv : v ∈ bufL g c A n rc b:=by simpa using hv
  simp only [bufL,List.mem_cons,List.not_mem_nil,or_false] at hv
  rcases hv with rfl | rfl | rfl | rfl <;> rfl⟩
theorem buf_built (g : UInt32) (c : Int) : ∃ bs,BuA (bufL g c none 0 0 0) bs∧Tryd.prog.built 29 [(0,u32v g),(1,iv c)] = some bs:=⟨_,BuA.of ..,by kernel_rfl⟩
set_option maxRecDepth 100000 in
theorem pe_built (g : UInt32) (c : Int) (bs : Array Value) (h : BuA (bufL g c none 0 0 0) bs) : ∃ ps,PeA { peZ with magic:=g,cap:=c } ps∧Tryd.prog.built 31 [(6,.agg bs)] = some ps:=by
 have e : bs = (bufL g c none 0 0 0).toArray:=by rw [← h.l,Array.toArray_toList]
 subst e
 exact ⟨_,PeA.of _,by kernel_rfl⟩
noncomputable def zbuf : Array Value:=match (Tryd.prog.info? 29).bind (·.zero) with | some (.agg c) => c | _ => #[]
theorem zbuf_zero (w : World) : (zeroValue 29).run Tryd.prog w = .ok (.agg zbuf) w:=by kernel_rfl
theorem zbuf_list : zbuf.toList = bufL 0 0 none 0 0 0:=by kernel_rfl
set_option maxRecDepth 100000 in
theorem zbuf_letter : ∃ zs : Array Value,(∀ w,(zeroValue 29).run Tryd.prog w = .ok (.agg zs) w)∧BuA (bufL 0 0 none 0 0 0) zs :=
 ⟨zbuf,zbuf_zero,by
  have h:=BuA.of 0 0 none 0 0 0
  rwa [← zbuf_list,Array.toArray_toList] at h⟩
set_option maxRecDepth 100000 in
set_option maxHeartbeats 4000000 in
theorem fnew_any (g : UInt32) (n : Int) (w : World) : Calls Tryd.prog 28 #[u32v g,iv n] w fun e w' => ∃ bs,e = .returned (.agg bs)∧BuA (bufL g (bndF n) none 0 0 0) bs∧Keep w w':=by
 have BN : Hid (∀ y,Calls Tryd.prog 42 #[iv n] y fun e w' => e = .returned (iv (bndF n))∧Keep y w'):=Lib.hid fun y => bounded_any n y
 generalize bndF n = B at *
 obtain ⟨zs,hz0,hzA⟩:=zbuf_letter
 obtain ⟨bs,hbA,hbl⟩:=buf_built g B
 have hzn:=hzA.n;have hzz:=hzA.z
 have hbn:=hbA.n;have hbz:=hbA.z;have hbi:=hbA.i
 have HZ:=Lib.hid hzA;have HBA:=Lib.hid hbA
 have HBu:=Lib.hid hbl
 clear hzA hbA hbl
 go_enter Tryd.func28,Tryd.ntmps28
 go_wp2_with fail
 refine (BN.out _).mono ?_
 clear BN
 rintro e w2 ⟨rfl,k2⟩
 have HK2 : Hid (Keep w w2):=Lib.hid (keep_trans (keep_new w _) k2)
 have HR2 : Hid (Blk w2 w.heap.size 29 zs.toList):=Lib.hid ((Blk.new w 29 zs.toList).keep k2)
 clear k2
 obtain ⟨w8,hst8,hb8,hg8⟩:=run_store_blk (P:=Tryd.prog) bs.toList HR2.out (by rw [Array.length_toList,Array.length_toList,hzz,hbz]) HBA.out.o
 have Hb8:=Lib.hid hb8;have Hg8:=Lib.hid hg8
 clear hb8 hg8
 go_wp2_with ((with_reducible refine list_bldg [(0,u32v g),(1,iv B)] bs (Eq.trans ?_ rfl) HBu.out (Eq.trans ?_ rfl) ?_);rfl;rfl)
 exact bodyPost_ret (v:=.agg bs) (results_cell_row Tryd.results28 _ _ w.heap.size _ _ _ _ rfl Hb8.out Tryd.underlying29 rfl (by rw [List.size_toArray,Array.length_toList];exact hbi)) rfl ⟨bs,rfl,HBA.out,HK2.out.grown Hg8.out HK2.out.size (fun q hq => by injection hq with hq;omega)⟩
set_option maxRecDepth 100000 in
set_option maxHeartbeats 4000000 in
theorem pnew_any (g : UInt32) (n : Int) (w : World) : Calls Tryd.prog 9 #[u32v g,iv n] w fun e w' => ∃ ps,e = .returned (.agg ps)∧PeA (newP g n) ps∧Keep w w':=by
 have FN : Hid (∀ y,Calls Tryd.prog 28 #[u32v g,iv n] y fun e w' => ∃ bs,e = .returned (.agg bs)∧BuA (bufL g (bndF n) none 0 0 0) bs∧Keep y w'):=Lib.hid fun y => fnew_any g n y
 unfold newP
 generalize bndF n = B at *
 obtain ⟨zs,hz0,hzA⟩:=zpeer_letter
 have hzn:=hzA.n;have hzz:=hzA.z
 have HZ:=Lib.hid hzA
 clear hzA
 go_enter Tryd.func9,Tryd.ntmps9
 go_wp2_with fail
 refine (FN.out _).mono ?_
 clear FN
 rintro e w2 ⟨bs,rfl,hbA,k2⟩
 have hbn:=hbA.n;have hbz:=hbA.z
 obtain ⟨ps,hpA,hpl⟩:=pe_built g B bs hbA
 have hpn:=hpA.n;have hpz:=hpA.z;have hpi:=hpA.i
 have HP:=Lib.hid hpA;have HBu:=Lib.hid hpl
 clear hpl
 have HK2 : Hid (Keep w w2):=Lib.hid (keep_trans (keep_new w _) k2)
 have HR2 : Hid (Blk w2 w.heap.size 31 zs.toList):=Lib.hid ((Blk.new w 31 zs.toList).keep k2)
 clear k2 hbA hpA
 obtain ⟨w8,hst8,hb8,hg8⟩:=run_store_blk (P:=Tryd.prog) ps.toList HR2.out (by rw [Array.length_toList,Array.length_toList,hzz,hpz]) HP.out.o
 have Hb8:=Lib.hid hb8;have Hg8:=Lib.hid hg8
 clear hb8 hg8
 go_wp2_with ((with_reducible refine list_bldg [(6,.agg bs)] ps (Eq.trans ?_ rfl) HBu.out (Eq.trans ?_ rfl) ?_);rfl;rfl)
 exact bodyPost_ret (v:=.agg ps) (results_cell_row Tryd.results9 _ _ w.heap.size _ _ _ _ rfl Hb8.out Tryd.underlying31 rfl (by rw [List.size_toArray,Array.length_toList];exact hpi)) rfl ⟨ps,rfl,HP.out,HK2.out.grown Hg8.out HK2.out.size (fun q hq => by injection hq with hq;omega)⟩
set_option maxRecDepth 100000 in
set_option maxHeartbeats 4000000 in
theorem banned_any (p : PeR) (cs : Array Value) (hA : PeA p cs) (w : World) : Calls Tryd.prog 27 #[.agg cs] w fun e w' => ∃ ds,e = .returned (.agg ds)∧PeA p.ban ds∧Keep w w':=by
 obtain ⟨zs,hz0,hzA⟩:=zpeer_letter
 have hzn:=hzA.n;have hzz:=hzA.z
 have hcn:=hA.n;have hcz:=hA.z;have hci:=hA.i
 have HA:=Lib.hid hA;have HZ:=Lib.hid hzA
 clear hzA hA
 go_enter Tryd.func27,Tryd.ntmps27
 go_upto_region 1 with fail
 obtain ⟨w1,hw1⟩ : ∃ w1,w1 = (w.alloc (.cells cs 31)).alloc (.cells zs 31):=⟨_,rfl⟩
 have HB1 : Hid (Blk w1 w.heap.size 31 p.cells):=by rw [hw1,← HA.out.l];exact (Blk.new w _ cs.toList).alloc _
 have HR1 : Hid (Blk w1 (w.heap.size + 1) 31 zs.toList):=by
  rw [hw1]
  have h2:=Blk.new (w.alloc (.cells cs 31)) 31 zs.toList
  rw [World.size_alloc] at h2
  exact h2
 have HK1 : Hid (Keep w w1):=by rw [hw1];exact keep_trans (keep_new _ _) (keep_new _ _)
 rw [← hw1]
 clear hw1
 have r0 : w1.cell? ⟨w.heap.size,0,none⟩ = some (iv p.stage):=(HB1.out.cell 0).trans rfl
 have r3 : w1.cell? ⟨w.heap.size,3,none⟩ = some (.bool p.asked):=(HB1.out.cell 3).trans rfl
 have r8 : w1.cell? ⟨w.heap.size,8,none⟩ = some (.slice p.rA p.rs.length p.rc):=(HB1.out.cell 8).trans rfl
 have f0:=HB1.out.frozen 0;have f3:=HB1.out.frozen 3;have f8:=HB1.out.frozen 8
 go_upto_region 4 with fail
 obtain ⟨wx,hwx⟩ : ∃ wx,wx = (((w1.setCell ⟨w.heap.size,0,none⟩ (.int .i64 3)).setCell ⟨w.heap.size,3,none⟩ (.bool false)).setCell ⟨w.heap.size,8,none⟩ (.slice none 0 0)):=⟨_,rfl⟩
 have HX : Blk wx w.heap.size 31 p.ban.cells:=by
  rw [hwx]
  exact (((HB1.out.set_ 0 (.int .i64 3)).set_ 3 (.bool false)).set_ 8 (.slice none 0 0))
 have HRX : Hid (Blk wx (w.heap.size + 1) 31 zs.toList):=by rw [hwx];exact Lib.hid (((HR1.out.far (by simp <;> omega) _).far (by simp <;> omega) _).far (by simp <;> omega) _)
 have HKX : Hid (Keep w wx):=by rw [hwx];exact Lib.hid (Below.setCell (Below.setCell (Below.setCell HK1.out (by simp <;> omega) _) (by simp <;> omega) _) (by simp <;> omega) _)
 rw [← hwx]
 clear hwx r0 f0 r3 f3 r8 f8
 obtain ⟨ds,hds⟩ : ∃ ds,PeA p.ban ds:=⟨_,PeA.of _⟩
 have hdz:=hds.z;have hdn:=hds.n;have hdi:=hds.i
 have HDS:=Lib.hid hds
 have HBx : Hid (Blk wx w.heap.size 31 ds.toList):=by rw [HDS.out.l];exact HX
 obtain ⟨w8,hst8,hb8,hg8⟩:=run_store_blk (P:=Tryd.prog) ds.toList HRX.out (by rw [Array.length_toList,Array.length_toList,hdz,hzz]) HDS.out.o
 have Hb8:=Lib.hid hb8;have Hg8:=Lib.hid hg8
 clear hds hb8 hg8 HX HRX HB1 HR1
 go_wp2_with ((with_reducible refine load_arr w.heap.size ds (Eq.trans ?_ rfl) HBx.out _ Tryd.underlying31 rfl hdi ?_);rfl)
 have hb8:=Hb8.out
 exact bodyPost_ret (v:=.agg ds) (results_cell_row Tryd.results27 _ _ (w.heap.size + 1) _ _ _ _ rfl hb8 Tryd.underlying31 rfl (by rw [List.size_toArray,Array.length_toList];exact hdi)) rfl ⟨ds,rfl,HDS.out,HKX.out.grown Hg8.out HKX.out.size (fun q hq => by injection hq with hq;omega)⟩
end Go.Proofs.YtffpanlpbdnafaaDoor
/- Arguments opened to lists, and the last step of a law: it answers true and leaves what was there. -/
set_option linter.unusedSimpArgs false
set_option linter.unusedVariables false
namespace Go.Proofs.YtffpanlpbdnafaaDoor
open Go.RowKit Go.ChangeShapes Go.WideShapes Go.Deep
theorem addr_plain {w : World} {a : Addr} {v : Value} (h : w.cell? a = some v) : a = ⟨a.block,a.off,none⟩:=by
 obtain ⟨b,o,s⟩:=a
 cases s with
 | none => rfl
 | some x => unfold World.cell? at h;split at h <;> simp at h
theorem Rd.of_add {w : World} {a : Addr} {xs : List Value} (h : ∀ j (hj : j < xs.length),w.cell? (a.add j) = some xs[j]) : Rd w (some a) xs:=by
 by_cases h0 : xs = []
 ·exact .inl h0
 ·have hp : 0 < xs.length:=List.length_pos_iff.2 h0
  have h1:=h 0 hp
  have e : a.add 0 = a:=by unfold Addr.add;simp
  rw [e] at h1
  have ha:=addr_plain h1
  refine .inr ⟨a.block,a.off,by rw [← ha],fun j hj => ?_⟩
  have:=h j hj
  rw [ha,add_lit0] at this
  exact this
theorem list_choose {α β : Type} {f : α → β} {p : α → Prop} : ∀ (l : List β),(∀ x ∈ l,∃ a,x = f a∧p a) → ∃ ys : List α,l = ys.map f∧∀ a ∈ ys,p a
 | [],_ => ⟨[],rfl,by simp⟩
 | x :: l,h => by
   obtain ⟨a,rfl,ha⟩:=h x (by simp)
   obtain ⟨ys,rfl,hys⟩:=list_choose l fun y hy => h y (by simp [hy])
   exact ⟨a :: ys,rfl,by simpa using ⟨ha,hys⟩⟩
section
variable {H : Type} {enc : TypeId × Value → H} {P : Program} {w : World} {spare : Nat → Bool} {held : Bool}
theorem slice_open {t e : TypeId} {size fuel : Nat} {cs : List Value} {x : DataW H × List MemPlace} (ht : P.underlying t = some (.slice e)) (hc : P.cellsOf e = size) (hz : 0 < size)
  (h : DataW.trod enc P w 0 spare held fuel t cs = some x) :
  ∃ (A : Option Addr) (n c : Nat) (Cs : List (List Value)),cs = [.slice A n c]∧n ≤ c∧c ≤ maxLen∧Cs.length = n∧Rd w A Cs.flatten ∧
    ∀ y ∈ Cs,y.length = size∧∃ m z,DataW.trod enc P w 0 spare held m e y = some z:=by
 rcases open_slice ht h with ⟨rfl,_⟩ | ⟨a,len,cap,m,n,D,Pl,rfl,_,hl,hm,hmm,_,hi⟩
 ·exact ⟨none,0,0,[],rfl,Nat.le_refl _,Nat.zero_le _,rfl,.inl rfl,by simp⟩
 ·have hlm : len ≤ m:=by rw [hmm];split <;> omega
  rw [hc] at hi
  obtain ⟨V,hV⟩:=choose_lt (p:=fun i (cs' : List Value) => w.cells? 0 (a.add (i * size)) size = some cs'∧DataW.trod enc P w 0 spare held n e cs' = some (D i,Pl i)) (n:=len) fun i hi' => hi i (by omega)
  have hlen : ∀ y ∈ (List.range len).map V,y.length = size:=by
   intro y hy
   obtain ⟨i,hi',rfl⟩:=List.mem_map.1 hy
   exact (World.cells?_some (hV i (List.mem_range.1 hi')).1).2.1
  refine ⟨some a,len,cap,(List.range len).map V,rfl,hl,hm,by simp,Rd.of_add fun j hj => ?_,fun y hy => ⟨hlen y hy,?_⟩⟩
  ·have hfl : ((List.range len).map V).flatten.length = len * size:=by
    rw [← List.flatMap_id,flatMap_len' id size _ hlen];simp
   have hj' : j < len * size:=by rw [← hfl];exact hj
   have hq : j / size < len:=by rwa [Nat.div_lt_iff_lt_mul hz]
   have hr : j % size < size:=Nat.mod_lt _ hz
   have hcell:=(World.cells?_some (hV (j / size) hq).1).2.2 (j % size) hr
   have hjj : j = j / size * size + j % size:=by rw [Nat.mul_comm];exact (Nat.div_add_mod j size).symm
   have hadd : (a.add (j / size * size)).add (j % size) = a.add j:=by
    rw [add_add',← hjj]
   rw [hadd] at hcell
   rw [hcell,← List.getElem?_eq_getElem hj,← List.flatMap_id]
   conv => rhs;rw [hjj]
   rw [flatMap_get' id size _ hlen (j / size) (j % size) (by simpa using hq) hr]
   simp
  ·obtain ⟨i,hi',rfl⟩:=List.mem_map.1 hy
   exact ⟨n,_,(hV i (List.mem_range.1 hi')).2⟩
theorem bytes_open {t e : TypeId} {fuel : Nat} {cs : List Value} {x : DataW H × List MemPlace} (ht : P.underlying t = some (.slice e)) (he : P.underlying e = some (.int .u8)) (hc : P.cellsOf e = 1)
  (h : DataW.trod enc P w 0 spare held fuel t cs = some x) :
  ∃ (A : Option Addr) (l : List UInt8) (c : Nat),cs = [.slice A l.length c]∧l.length ≤ c∧c ≤ maxLen∧Rd w A (l.map u8v):=by
 obtain ⟨A,n,c,Cs,rfl,h1,h2,rfl,h3,h4⟩:=slice_open ht hc (by omega) h
 obtain ⟨l,rfl,_⟩:=list_choose (f:=fun x : UInt8 => [u8v x]) (p:=fun _ => True) Cs fun y hy => by
  obtain ⟨_,m,z,hz⟩:=h4 y hy
  obtain ⟨n,rfl,_,hw⟩:=DataW.trod_int he hz
  have hb : 0 ≤ n∧n ≤ 255:=by simpa [Lit.wf,IntKind.min,IntKind.max,IntKind.signed,IntKind.bits] using hw
  refine ⟨UInt8.ofNat n.toNat,?_,trivial⟩
  have : ((UInt8.ofNat n.toNat).toNat : Int) = n:=by
   rw [UInt8.toNat_ofNat']
   omega
  show [Value.int .u8 n] = [Value.int .u8 ((UInt8.ofNat n.toNat).toNat : Int)]
  rw [this]
 refine ⟨A,l,c,by simp,by simpa using h1,h2,?_⟩
 have e : (l.map fun x : UInt8 => [u8v x]).flatten = l.map u8v:=by rw [← List.flatMap_def,← List.map_eq_flatMap]
 rwa [e] at h3
end
section
variable {H : Type} {enc : TypeId × Value → H} {P : Program}
theorem trodAll_below (hl : laidOutB P = true) {W W' : World} (hb : Below W.heap.size W W') : ∀ (ts : List TypeId) (vs : List Value) (ds : List (DataW H)) (ps : List MemPlace),
  (∀ t ∈ ts,P.readableRec t = true∧t < P.types.size) → (∀ x ∈ ps,x.block < W.heap.size) → DataW.TrodAll enc P W 0 (fun _ => true) true ts vs ds ps →
  DataW.TrodAll enc P W' 0 (fun b => decide (b < W.heap.size)) true ts vs ds ps
 | [],[],[],ps,_,_,h => h
 | t :: ts,v :: vs,d :: ds,ps,hr,hlt,h => by
   obtain ⟨p,q,h1,h2,rfl⟩:=h
   exact ⟨p,q,Below.trod hl (hr t (by simp)).1 (hr t (by simp)).2 h1 hb fun x hx => hlt x (by simp [hx]),
    trodAll_below hl hb ts vs ds q (fun t ht => hr t (by simp [ht])) (fun x hx => hlt x (by simp [hx])) h2,rfl⟩
 | [],_ :: _,_,_,_,_,h => by cases h
 | [],[],_ :: _,_,_,_,h => by cases h
 | _ :: _,[],_,_,_,_,h => by cases h
 | _ :: _,_ :: _,[],_,_,_,h => by cases h
theorem law_post {f : Func} {s : ChangeSpec} {apart fresh handsOn : Bool} {W W' : World} {args : Array Value} {ds gs : List (DataW H)} {before : List MemPlace} {tb : TypeId}
  (hW : DataW.Whole enc P f.params.toList s.vars apart W args.toList ds gs before) (hv : s.vars = []) (hl : laidOutB P = true)
  (hrB : (f.params.toList.all fun t => P.readableRec t && decide (t < P.types.size)) = true) (hres : f.resultTypes = #[tb]) (htb : P.underlying tb = some .bool)
  (hs : s.fn H ds = { results:=[.lit (.bool true)],args:=ds }) (hb : Below W.heap.size W W') :
  s.post enc P f apart fresh handsOn false W args (.bool true) W':=by
 have hr : ∀ t ∈ f.params.toList,P.readableRec t = true∧t < P.types.size:=fun t ht => by
  have:=List.all_eq_true.1 hrB t ht
  simpa using this
 have hW':=hW
 obtain ⟨p,q,hA,hV,rfl,hfz,hnd⟩:=hW
 rw [hv] at hV
 obtain ⟨rfl,rfl⟩:=trodVars_none hV
 simp only [List.append_nil] at hW'
 have hlt : ∀ x ∈ p,x.block < W.heap.size:=fun x hx => hW'.lt x (by simpa using hx)
 refine ⟨ds,[],p,[],p,[],by simpa using hW',?_,?_,?_,hb.frame _,fun h => by cases h⟩
 ·rw [List.append_nil,hs,hres]
  exact trodAll_mk1 (shut_bool htb true)
 ·rw [List.append_nil,hs]
  exact trodAll_below hl hb _ _ _ _ hr hlt hA
 ·rw [List.append_nil,hs,hv]
  exact rfl
end
end Go.Proofs.YtffpanlpbdnafaaDoor
/- bytes.TrimRight of the byte 0; frame.Command (printed by gen_qj.py) -/
set_option linter.unusedSimpArgs false
set_option linter.unusedVariables false
namespace Go.Proofs.YtffpanlpbdnafaaDoor
open Go.RowKit
attribute [local go_sem ↓] Go.wp_at_zero Go.wp_at_succ
def trimN (l : List UInt8) : Nat → Nat
 | 0 => 0
 | n + 1 => if l[n]? = some 0 then trimN l n else n + 1
theorem trimN_le (l : List UInt8) : ∀ n,trimN l n ≤ n
 | 0 => Nat.le_refl _
 | n + 1 => by unfold trimN;split;exact Nat.le_succ_of_le (trimN_le l n);exact Nat.le_refl _
def lenOf : Value → Nat
 | .slice _ n _ => n
 | _ => 0
set_option maxRecDepth 100000 in
set_option maxHeartbeats 4000000 in
theorem trimb_any (A : Option Addr) (l : List UInt8) (N c : Nat) (w : World) (hN : l.length = N) (hc : N ≤ c∧c ≤ 9223372036854775807) (hr : Rd w A (l.map u8v)) :
  Calls Tryd.prog 58 #[.slice A N c,.int .u8 0] w fun e w' => e = .returned (.slice A (trimN l N) c)∧Keep w w':=by
 have ROW : Hid (∀ k (h : k < N),∃ b off x,A = some ⟨b,off,none⟩∧b < w.heap.size∧w.cell? ⟨b,off + k,none⟩ = some (u8v x)∧l[k]? = some x):=Lib.hid fun k h => by
  obtain ⟨b,off,rfl,hb,hcell⟩:=hr.at (k:=k) (by simp [hN];exact h)
  exact ⟨b,off,l[k],rfl,hb,by have q:=hcell k (by simp [hN];exact h);simpa using q,List.getElem?_eq_getElem (by omega)⟩
 have HK : Hid (Keep w w):=Lib.hid (Below.refl _ _)
 have hc1:=hc.1;have hc2:=hc.2
 clear hr hN hc
 go_enter Tryd.func58,Tryd.ntmps58
 go_wp2_with fail
 go_loopw [0] (fun s wr => ∃ n : Nat,n ≤ N∧s = .slice A n c∧Hid (trimN l n = trimN l N)∧Hid (Keep w wr)) (fun s _ => lenOf s)
 case atStart => exact ⟨N,Nat.le_refl _,rfl,Lib.hid rfl,HK⟩
 case round =>
  obtain ⟨n,hn,rfl,HT,HKr⟩:=hrel
  clear HK
  cases n with
  | zero =>
    have d0 : ¬ (0 : Int) < 0:=by omega
    clear ROW
    go_wp2
    exact bodyPost_ret (v:=.slice A 0 c) (by simp [results,Tryd.results58]) rfl ⟨by rw [← HT.out];rfl,HKr.out⟩
  | succ m =>
    obtain ⟨b,off,x,rfl,hb,hx,hlx⟩:=ROW.out m (by omega)
    have rx:=keep_cell HKr.out hx
    have HLX:=Lib.hid hlx
    have d0 : (0 : Int) < (m : Int) + 1:=by omega
    have d1 : m < m + 1:=by omega
    have d2 : m + 1 ≤ c:=by omega
    clear hx hlx ROW
    by_cases h0 : x = 0
    ·have e0 : (u8v x) = .int .u8 0:=by rw [h0];rfl
     rw [e0] at rx
     have HT2 : Hid (trimN l m = trimN l N):=Lib.hid (by rw [← HT.out,trimN,if_pos (by rw [HLX.out,h0])])
     clear e0 HLX HT h0
     go_wp2
     go_roundw
     case rel => exact ⟨m,by omega,rfl,HT2,HKr⟩
     case measure => simp [lenOf]
    ·have e1 : (x == 0) = false:=by rw [beq_eq_false_iff_ne];exact h0
     have e2 : ¬ (x.toNat : Int) = 0:=fun q => h0 (UInt8.toNat_inj.1 (by show x.toNat = 0;omega))
     have e3 : ((x.toNat : Int) == 0) = false:=by rw [beq_eq_false_iff_ne];exact e2
     have HT2 : Hid (m + 1 = trimN l N):=Lib.hid (by rw [← HT.out,trimN,if_neg (by rw [HLX.out];simpa using h0)])
     clear HLX HT h0
     go_wp2
     exact bodyPost_ret (v:=.slice (some ⟨b,off,none⟩) (m + 1) c) (by simp [results,Tryd.results58]) rfl ⟨by rw [← HT2.out],HKr.out⟩
set_option maxRecDepth 100000 in
set_option maxHeartbeats 4000000 in
theorem trim_any (A : Option Addr) (l : List UInt8) (N c : Nat) (w : World) (hN : l.length = N) (h0 : 0 < N) (hc : N ≤ c∧c ≤ 9223372036854775807) (hr : Rd w A (l.map u8v)) :
  Calls Tryd.prog 40 #[.slice A N c,.string ⟨#[0]⟩] w fun e w' => e = .returned (.slice A (trimN l N) c)∧Keep w w':=by
 have TB : Hid (Calls Tryd.prog 58 #[.slice A N c,.int .u8 0] w fun e w' => e = .returned (.slice A (trimN l N) c)∧Keep w w'):=Lib.hid (trimb_any A l N c w hN hc hr)
 have d0 : ((N : Int) == 0) = false:=by rw [beq_eq_false_iff_ne];omega
 have d1 : ¬ (N : Int) = 0:=by omega
 have d2 : ¬ N = 0:=by omega
 generalize trimN l N = R at *
 clear hr hc hN h0
 go_enter Tryd.func40,Tryd.ntmps40
 go_wp2_with (go_at_call 58;refine TB.out.mono ?_;rintro e w1 ⟨rfl,k1⟩;have K1:=Lib.hid k1;clear k1)
 exact bodyPost_ret (v:=.slice A R c) (by simp [results,Tryd.results40]) rfl ⟨rfl,K1.out⟩
def cmdB (l : List UInt8) : Bool:=decide (1 ≤ l.length) && decide (l.length ≤ 12) && l.all fun x : UInt8 => decide (33 ≤ x.toNat) && decide (x.toNat ≤ 126)
theorem str_size (l : List UInt8) : (str l).size = l.length:=rfl
theorem str_idx (l : List UInt8) (k : Nat) (x : UInt8) (h : l[k]? = some x) (w : World) : (Instr.index 9 (.string (str l)) (.int .i64 (k : Int))).run Tryd.prog w = .ok (u8v x) w:=by
 have hk : k < l.length:=(List.getElem?_eq_some_iff.1 h).1
 rw [run_index_string w 9 (str l) .i64 (k : Int) Tryd.underlying9,dif_pos ⟨by omega,by rw [str_size];omega⟩]
 have e : (str l)[k]'(by rw [str_size];exact hk) = x:=by
  have e1 : (str l)[k]'(by rw [str_size];exact hk) = l[k]:=rfl
  rw [e1];exact (List.getElem?_eq_some_iff.1 h).2
 simp only [Int.toNat_natCast]
 rw [e]
set_option maxRecDepth 100000 in
set_option maxHeartbeats 4000000 in
theorem command_any (l : List UInt8) (w : World) :
  Calls Tryd.prog 41 #[.string (str l)] w fun e w' => e = .returned (.bool (cmdB l))∧Keep w w':=by
 have HK : Hid (Keep w w):=Lib.hid (Below.refl _ _)
 have HZ : Hid ((str l).size = l.length):=Lib.hid (str_size l)
 have HB : Hid (cmdB l = (decide (1 ≤ l.length) && decide (l.length ≤ 12) && l.all fun x : UInt8 => decide (33 ≤ x.toNat) && decide (x.toNat ≤ 126))):=Lib.hid rfl
 generalize cmdB l = R at *
 by_cases h1 : 1 ≤ l.length∧l.length ≤ 12
 ·have d0 : ¬ ((str l).size : Int) < 1:=by rw [str_size];omega
  have d1 : ¬ (12 : Int) < (str l).size:=by rw [str_size];omega
  have d2 : ¬ (str l).size < 1:=by rw [str_size];omega
  have d3 : ¬ 12 < (str l).size:=by rw [str_size];omega
  have d4 : ¬ (str l).size = 0:=by rw [str_size];omega
  have HR : Hid (R = l.all fun x : UInt8 => decide (33 ≤ x.toNat) && decide (x.toNat ≤ 126)):=Lib.hid (by rw [HB.out];simp [h1])
  obtain ⟨N,hN⟩ : ∃ N,N = (str l).size:=⟨_,rfl⟩
  have HN:=Lib.hid hN
  have ROW : Hid (∀ k,k < N → ∃ x : UInt8,l[k]? = some x∧∀ y,(Instr.index 9 (.string (str l)) (.int .i64 (k : Int))).run Tryd.prog y = .ok (u8v x) y):=Lib.hid fun k hk => by
   have hk2 : k < l.length:=by rw [hN,str_size] at hk;exact hk
   exact ⟨l[k],List.getElem?_eq_getElem hk2,str_idx l k _ (List.getElem?_eq_getElem hk2)⟩
  have BAD : Hid (∀ (k : Nat) (x : UInt8),l[k]? = some x → ¬ (33 ≤ x.toNat∧x.toNat ≤ 126) → R = false):=Lib.hid fun k x hx hb => by
   rw [HR.out,List.all_eq_false]
   exact ⟨x,List.mem_of_getElem? hx,by simpa using hb⟩
  have GOOD : Hid ((∀ (k : Nat) (x : UInt8),k < N → l[k]? = some x → 33 ≤ x.toNat∧x.toNat ≤ 126) → R = true):=Lib.hid fun h => by
   rw [HR.out,List.all_eq_true]
   intro x hx
   obtain ⟨k,hk⟩:=List.getElem?_of_mem hx
   have hkN : k < N:=by rw [hN,str_size];exact (List.getElem?_eq_some_iff.1 hk).1
   simpa using h k x hkN hk
  clear h1 HB HR hN
  go_enter Tryd.func41,Tryd.ntmps41
  go_wp2_with fail
  go_loopw [14] (fun i wr => ∃ k : Nat,k ≤ N∧i = .int .i64 k∧Hid (∀ (j : Nat) (x : UInt8),j < k → l[j]? = some x → 33 ≤ x.toNat∧x.toNat ≤ 126)∧Hid (Keep w wr)) (fun i _ => N - (intOf i).toNat)
  case atStart => exact ⟨0,Nat.zero_le _,rfl,Lib.hid (fun j x h => absurd h (Nat.not_lt_zero _)),HK⟩
  case round =>
   obtain ⟨k,hk,rfl,HP,HKr⟩:=hrel
   clear HK
   by_cases hlt : k < N
   ·obtain ⟨x,hx,hi⟩:=ROW.out k hlt
    have HX:=Lib.hid hx
    have l1 : (k : Int) < (str l).size:=by rw [← HN.out];omega
    have l2 : k < (str l).size:=by rw [← HN.out];exact hlt
    clear ROW hx
    by_cases hg : 33 ≤ x.toNat∧x.toNat ≤ 126
    ·have g1 : ¬ (x.toNat : Int) < 33:=by omega
     have g2 : ¬ (126 : Int) < x.toNat:=by omega
     have g3 : ¬ x.toNat < 33:=by omega
     have g4 : ¬ 126 < x.toNat:=by omega
     have HP2 : Hid (∀ (j : Nat) (y : UInt8),j < k + 1 → l[j]? = some y → 33 ≤ y.toNat∧y.toNat ≤ 126):=Lib.hid fun j y hj hy => by
      by_cases e : j < k
      ·exact HP.out j y e hy
      ·obtain rfl : j = k:=by omega
       rw [HX.out] at hy
       obtain rfl:=Option.some.inj hy
       exact hg
     clear hg HP HX BAD GOOD
     go_wp2
     go_roundw
     case rel => exact ⟨k + 1,by omega,by go_num,HP2,HKr⟩
     case measure => simp [intOf];omega
    ·have hR : R = false:=BAD.out k x HX.out hg
     subst hR
     clear BAD GOOD HP HX
     by_cases g : x.toNat < 33
     ·have g1 : (x.toNat : Int) < 33:=by omega
      clear hg
      go_wp2
      exact bodyPost_ret (v:=.bool false) (by simp [results,Tryd.results41]) rfl ⟨rfl,HKr.out⟩
     ·have g1 : ¬ (x.toNat : Int) < 33:=by omega
      have g2 : (126 : Int) < x.toNat:=by omega
      have g4 : 126 < x.toNat:=by omega
      clear hg
      go_wp2
      exact bodyPost_ret (v:=.bool false) (by simp [results,Tryd.results41]) rfl ⟨rfl,HKr.out⟩
   ·have l1 : ¬ (k : Int) < (str l).size:=by rw [← HN.out];omega
    have l2 : ¬ k < (str l).size:=by rw [← HN.out];exact hlt
    have hR : R = true:=GOOD.out fun j y hj hy => HP.out j y (by omega) hy
    subst hR
    clear ROW BAD GOOD HP
    go_wp2
    exact bodyPost_ret (v:=.bool true) (by simp [results,Tryd.results41]) rfl ⟨rfl,HKr.out⟩
 ·have hR : R = false:=by
   rw [HB.out]
   by_cases h2 : 1 ≤ l.length
   ·have h3 : ¬ l.length ≤ 12:=fun q => h1 ⟨h2,q⟩
    simp [h3]
   ·simp [h2]
  subst hR
  clear HB
  by_cases h2 : 1 ≤ l.length
  ·have d0 : ¬ ((str l).size : Int) < 1:=by rw [str_size];omega
   have d1 : (12 : Int) < (str l).size:=by rw [str_size];omega
   have d2 : ¬ (str l).size < 1:=by rw [str_size];omega
   have d3 : 12 < (str l).size:=by rw [str_size];omega
   have d4 : ¬ (str l).size = 0:=by rw [str_size];omega
   clear h1 h2
   go_enter Tryd.func41,Tryd.ntmps41
   go_wp2
   exact bodyPost_ret (v:=.bool false) (by simp [results,Tryd.results41]) rfl ⟨rfl,HK.out⟩
  ·have d0 : ((str l).size : Int) < 1:=by rw [str_size];omega
   have d2 : (str l).size < 1:=by rw [str_size];omega
   have d4 : (str l).size = 0:=by rw [str_size];omega
   clear h1 h2
   go_enter Tryd.func41,Tryd.ntmps41
   go_wp2
   exact bodyPost_ret (v:=.bool false) (by simp [results,Tryd.results41]) rfl ⟨rfl,HK.out⟩
end Go.Proofs.YtffpanlpbdnafaaDoor
/- SHA-256: its words. -/
set_option linter.unusedSimpArgs false
set_option linter.unusedVariables false
namespace Go.Proofs.YtffpanlpbdnafaaDoor
open Go.RowKit
attribute [local go_sem ↓] Go.wp_at_zero Go.wp_at_succ
def rotL (x : UInt32) (s : Nat) : UInt32:=w32 (bits .or .u32 ((x.toNat : Int) * 2 ^ s % 4294967296) ((x.toNat : Int) / 2 ^ (32 - s)))
set_option maxHeartbeats 400000 in
theorem rotl_any (x : UInt32) (k : Int) (s : Nat) (w : World) (hs : bits BinOp.and IntKind.u64 (IntKind.u64.wrap k) 31 = s) (hs1 : 1 ≤ s) (hs2 : s ≤ 31) :
  Calls Tryd.prog 107 #[u32v x,.int .i64 k] w fun e w' => e = .returned (u32v (rotL x s))∧w = w':=by
 have hx:=w32_hi x
 go_enter Tryd.func107,Tryd.ntmps107
 go_wp2
 go_ret
 exact ⟨ret_int (w32_of (bits_lo_u32 _ _ _) (bits_hi_u32 _ _ _)),rfl⟩
def rotR (x : UInt32) (n : Nat) : UInt32:=rotL x (32 - n)
set_option maxHeartbeats 400000 in
theorem turned_any (x : UInt32) (k : Int) (w : World) (hs : bits BinOp.and IntKind.u64 (IntKind.u64.wrap (-k)) 31 = (32 - k.toNat : Nat)) (hs1 : 1 ≤ k.toNat) (hs2 : k.toNat ≤ 31) :
  Calls Tryd.prog 104 #[u32v x,.int .i64 k] w fun e w' => e = .returned (u32v (rotR x k.toNat))∧w = w':=by
 go_enter Tryd.func104,Tryd.ntmps104
 go_wp2_with fail
 refine (rotl_any x (-k) (32 - k.toNat) w hs (by omega) (by omega)).mono ?_
 rintro e w1 ⟨rfl,rfl⟩
 go_wp2
 go_ret
 exact ⟨rfl,rfl⟩
def z64 : List UInt32:=List.replicate 64 0
def beE (y0 y1 y2 y3 : UInt8) : Int:=bits .or .u32 (bits .or .u32 (bits .or .u32 ((y0.toNat : Int) % 4294967296 * 16777216 % 4294967296) ((y1.toNat : Int) % 4294967296 * 65536 % 4294967296)) ((y2.toNat : Int) % 4294967296 * 256 % 4294967296)) ((y3.toNat : Int) % 4294967296)
def be32 (b : List UInt8) (k : Nat) : UInt32:=w32 (beE (b.getD (4 * k) 0) (b.getD (4 * k + 1) 0) (b.getD (4 * k + 2) 0) (b.getD (4 * k + 3) 0))
def wdE (x y a c : UInt32) : Int:=(bits .xor .u32 (bits .xor .u32 ((rotR y 17).toNat : Int) ((rotR y 19).toNat : Int)) ((y.toNat : Int) / 1024) + (a.toNat : Int) + bits .xor .u32 (bits .xor .u32 ((rotR x 7).toNat : Int) ((rotR x 18).toNat : Int)) ((x.toNat : Int) / 8) + (c.toNat : Int)) % 4294967296
def wd2 (l : List UInt32) : Nat → List UInt32
 | 0 => l
 | j + 1 => (wd2 l j).set (j + 16) (w32 (wdE ((wd2 l j).getD (j + 1) 0) ((wd2 l j).getD (j + 14) 0) ((wd2 l j).getD (j + 9) 0) ((wd2 l j).getD j 0)))
theorem wd2_len (l : List UInt32) (j : Nat) : (wd2 l j).length = l.length:=by
 induction j with
 | zero => rfl
 | succ j ih => rw [wd2,List.length_set,ih]
def wd1 (b : List UInt8) : Nat → List UInt32
 | 0 => z64
 | k + 1 => (wd1 b k).set k (be32 b k)
theorem wd1_len (b : List UInt8) (k : Nat) : (wd1 b k).length = 64:=by
 induction k with
 | zero => rfl
 | succ k ih => rw [wd1,List.length_set,ih]
def wordsL (b : List UInt8) : List UInt32:=wd2 (wd1 b 16) 48
theorem z64_blk (w : World) (n : Nat) (hn : n = w.heap.size) : Blk (w.alloc (.cells #[.int .u32 0,.int .u32 0,.int .u32 0,.int .u32 0,.int .u32 0,.int .u32 0,.int .u32 0,.int .u32 0,.int .u32 0,.int .u32 0,.int .u32 0,.int .u32 0,.int .u32 0,.int .u32 0,.int .u32 0,.int .u32 0,.int .u32 0,.int .u32 0,.int .u32 0,.int .u32 0,.int .u32 0,.int .u32 0,.int .u32 0,.int .u32 0,.int .u32 0,.int .u32 0,.int .u32 0,.int .u32 0,.int .u32 0,.int .u32 0,.int .u32 0,.int .u32 0,.int .u32 0,.int .u32 0,.int .u32 0,.int .u32 0,.int .u32 0,.int .u32 0,.int .u32 0,.int .u32 0,.int .u32 0,.int .u32 0,.int .u32 0,.int .u32 0,.int .u32 0,.int .u32 0,.int .u32 0,.int .u32 0,.int .u32 0,.int .u32 0,.int .u32 0,.int .u32 0,.int .u32 0,.int .u32 0,.int .u32 0,.int .u32 0,.int .u32 0,.int .u32 0,.int .u32 0,.int .u32 0,.int .u32 0,.int .u32 0,.int .u32 0,.int .u32 0] 199)) n 199 (z64.map u32v):=hn ▸ Blk.new w _ (z64.map u32v)
set_option maxRecDepth 100000 in
set_option maxHeartbeats 3000000 in
theorem words_any (A : Option Addr) (b : List UInt8) (c : Nat) (w : World) (hb : b.length = 64) (hr : Rd w A (b.map u8v)) :
  Calls Tryd.prog 103 #[.slice A 64 c] w fun e w' => e = .returned (.agg ((wordsL b).map u32v).toArray)∧Keep w w':=by
 go_enter Tryd.func103,Tryd.ntmps103
 go_wp2_with fail
 go_loopw [10] (fun i wr => ∃ k : Nat,k ≤ 16∧i = .int .i64 k∧Keep w wr∧Blk wr w.heap.size 199 (z64.map u32v)∧Blk wr (w.heap.size + 1) 199 ((wd1 b k).map u32v)) (fun i _ => 16 - (intOf i).toNat)
 case atStart => exact ⟨0,by omega,rfl,keep_trans (keep_new _ _) (keep_new _ _),(z64_blk _ _ rfl).alloc _,z64_blk _ _ (by simp)⟩
 case round =>
  obtain ⟨k,hk,rfl,hkr,hb0,hb1⟩:=hrel
  by_cases hlt : k < 16
  ·obtain ⟨g,off,rfl,hg,hc⟩:=(hr.keep hkr).at (k:=0) (by simp;omega)
   have rd : ∀ j y,b[j]? = some y → wr.cell? ⟨g,off + j,none⟩ = some (u8v y):=fun j y h => by
    obtain ⟨hj,rfl⟩:=List.getElem?_eq_some_iff.1 h
    rw [hc j (by simpa using hj)];simp
   obtain ⟨y0,h0⟩ : ∃ y,b[4 * k]? = some y:=⟨_,List.getElem?_eq_getElem (by omega)⟩
   obtain ⟨y1,h1⟩ : ∃ y,b[4 * k + 1]? = some y:=⟨_,List.getElem?_eq_getElem (by omega)⟩
   obtain ⟨y2,h2⟩ : ∃ y,b[4 * k + 2]? = some y:=⟨_,List.getElem?_eq_getElem (by omega)⟩
   obtain ⟨y3,h3⟩ : ∃ y,b[4 * k + 3]? = some y:=⟨_,List.getElem?_eq_getElem (by omega)⟩
   have e0:=rd _ _ h0;have e1:=rd _ _ h1;have e2:=rd _ _ h2;have e3:=rd _ _ h3
   have Hbe:=Lib.hid (show be32 b k = w32 (beE y0 y1 y2 y3) by unfold be32;rw [getD_of h0,getD_of h1,getD_of h2,getD_of h3])
   clear h0 h1 h2 h3
   have Hb0:=Lib.hid hb0;have Hb1:=Lib.hid hb1;clear hb0 hb1
   clear hc rd
   go_wp2
   refine wp_region_tree (.take [0,1,2,3,4,5,6,7,8,9,10,11,12,13,14,15,16,17,18,19,20,21,22,23,24,25,26,27,28,29,30,31,32,33,34] .done) [35] (by kernel_rfl) (by kernel_rfl) (fun w1 k1 => ?_)
   have a0:=aft_cell (keep_cell k1 e0);have a1:=aft_cell (keep_cell k1 e1);have a2:=aft_cell (keep_cell k1 e2);have a3:=aft_cell (keep_cell k1 e3)
   refine mt_take w1 (Below.refl _ _) ?_
   simp only [pick_cons,pick_nil,nth_zero,nth_succ]
   repeat (go_big_quiet_step (fail))
   refine wpQuiet_nil (mt_end ?_)
   have hb1 : Blk w1 (w.heap.size + 1) 199 ((wd1 b k).map u32v):=Hb1.out.keep k1
   have Hb1':=Lib.hid hb1
   have x0:=hb1.cell k;rw [List.getElem?_map,List.getElem?_eq_getElem (by rw [wd1_len];omega)] at x0
   have x1:=hb1.frozen k
   have Hb0':=Lib.hid (Hb0.out.keep k1)
   have k9:=keep_trans hkr k1
   clear a0 a1 a2 a3 e0 e1 e2 e3 hb1
   go_wp2
   go_roundw
   case rel =>
    refine ⟨k + 1,by omega,by go_num,k9.setCell (by simp) _,Hb0'.out.far (by simp) _,?_⟩
    rw [wd1,Hbe.out,set_map _ _ (beE y0 y1 y2 y3) (bits_lo_u32 _ _ _) (bits_hi_u32 _ _ _)]
    exact Hb1'.out.set_ _ _
   case measure => simp [intOf];omega
  ·have Hk:=Lib.hid (show k = 16 by omega)
   have Hb0:=Lib.hid hb0;have Hb1:=Lib.hid hb1;clear hb0 hb1
   go_wp2_with fail
   have hll : (wd1 b k).length = 64:=wd1_len b k
   generalize hl : wd1 b k = l at Hb1 hll
   have Hl:=Lib.hid hl;clear hl
   have hkw:=hkr
   go_loopw [5] (fun i wr => ∃ j : Nat,j ≤ 48∧i = .int .i64 ((j + 16 : Nat) : Int)∧Keep w wr∧Blk wr w.heap.size 199 (z64.map u32v)∧Blk wr (w.heap.size + 1) 199 ((wd2 l j).map u32v)) (fun i _ => 64 - (intOf i).toNat)
   case atStart => exact ⟨0,by omega,rfl,hkw,Hb0.out,Hb1.out⟩
   case round =>
    obtain ⟨j,hj,rfl,hkr,hb0,hb1⟩:=hrel
    by_cases hlt : j < 48
    ·have hl' : (wd2 l j).length = 64:=by rw [wd2_len,hll]
     obtain ⟨x,h0⟩ : ∃ y,(wd2 l j)[j + 1]? = some y:=⟨_,List.getElem?_eq_getElem (by omega)⟩
     obtain ⟨y,h1⟩ : ∃ y,(wd2 l j)[j + 14]? = some y:=⟨_,List.getElem?_eq_getElem (by omega)⟩
     obtain ⟨a,h2⟩ : ∃ y,(wd2 l j)[j + 9]? = some y:=⟨_,List.getElem?_eq_getElem (by omega)⟩
     obtain ⟨d,h3⟩ : ∃ y,(wd2 l j)[j]? = some y:=⟨_,List.getElem?_eq_getElem (by omega)⟩
     obtain ⟨o,h4⟩ : ∃ y,(wd2 l j)[j + 16]? = some y:=⟨_,List.getElem?_eq_getElem (by omega)⟩
     have Hwd:=Lib.hid (show wd2 l (j + 1) = (wd2 l j).set (j + 16) (w32 (wdE x y a d)) by rw [wd2,getD_of h0,getD_of h1,getD_of h2,getD_of h3])
     have c0:=hb1.cell (j + 1);rw [List.getElem?_map,h0] at c0
     have c1:=hb1.cell (j + 14);rw [List.getElem?_map,h1] at c1
     have c2:=hb1.cell (j + 9);rw [List.getElem?_map,h2] at c2
     have c3:=hb1.cell j;rw [List.getElem?_map,h3] at c3
     have c4:=hb1.cell (j + 16);rw [List.getElem?_map,h4] at c4
     have f4:=hb1.frozen (j + 16)
     simp only [Option.map_some] at c0 c1 c2 c3 c4
     have Hb0:=Lib.hid hb0;have Hb1:=Lib.hid hb1
     clear hb0 hb1 h0 h1 h2 h3 h4
     go_wp2
     have a0:=aft_cell c0;have a1:=aft_cell c1
     refine wp_region_aft (by kernel_rfl) (by kernel_rfl) wr (Below.refl _ _) ?_
     repeat (go_big_quiet_step (fail))
     refine wpQuiet_nil ?_
     rintro _ ⟨z,rfl⟩
     have k2:=aft_keep wr z
     generalize aft wr z = w2 at k2 ⊢
     clear a0 a1 c0 c1
     replace c2:=keep_cell k2 c2;replace c3:=keep_cell k2 c3
     have k3:=keep_trans hkr k2
     replace f4:=keep_frozen k2 (cell_lt c4) f4;replace c4:=keep_cell k2 c4
     go_wp2_with (go_at_call 104;refine (turned_any _ _ _ (by rfl) (by decide) (by decide)).mono ?_;rintro e w9 ⟨rfl,rfl⟩)
     refine wp_region_tree (.take [0,1,2,3,4,5,6,7,8,9,10,11,12,13,14] .done) [15] (by kernel_rfl) (by kernel_rfl) (fun w1 k1 => ?_)
     have a2:=aft_cell (keep_cell k1 c2);have a3:=aft_cell (keep_cell k1 c3)
     refine mt_take w1 (Below.refl _ _) ?_
     simp only [pick_cons,pick_nil,nth_zero,nth_succ]
     repeat (go_big_quiet_step (fail))
     refine wpQuiet_nil (mt_end ?_)
     have k4:=keep_trans k3 k1
     have k5:=keep_trans k2 k1
     replace f4:=keep_frozen k1 (cell_lt c4) f4;replace c4:=keep_cell k1 c4
     clear a2 a3 c2 c3
     go_wp2
     go_roundw
     case rel =>
      refine ⟨j + 1,by omega,by go_num,k4.setCell (by simp) _,(Hb0.out.keep k5).far (by simp) _,?_⟩
      rw [Hwd.out,set_map _ _ (wdE x y a d) (by unfold wdE;omega) (by unfold wdE;omega)]
      exact (Hb1.out.keep k5).set_ _ _
     case measure => simp [intOf];omega
    ·have Hj:=Lib.hid (show j = 48 by omega)
     have hl' : (wd2 l j).length = 64:=by rw [wd2_len,hll]
     generalize hl2 : wd2 l j = l' at hb1 hl'
     have Hl2:=Lib.hid hl2;clear hl2
     obtain ⟨cs,hcs⟩ : ∃ cs : Array Value,cs.toList = l'.map u32v:=⟨(l'.map u32v).toArray,rfl⟩
     have hcz : cs.size = 64:=by rw [← Array.length_toList,hcs,List.length_map,hl']
     have hci : (Tryd.prog.info? 199).map (·.size) = some cs.size:=by rw [hcz];kernel_rfl
     have hcn : ¬ cs = #[]:=by intro h;rw [h] at hcz;simp at hcz
     rw [← hcs] at hb1
     obtain ⟨w8,hst,hb8,hg8⟩:=run_store_blk (P:=Tryd.prog) cs.toList hb0 (by simp [hcz];rfl) (by rw [hcs];exact one_w32 _)
     have Hb1':=Lib.hid hb1;have Hb8:=Lib.hid hb8;have Hg8:=Lib.hid hg8;have Hcs:=Lib.hid hcs;clear hb0 hb1 hb8 hg8 hcs
     go_upto_region 14 with fail
     go_wp2_with ((with_reducible refine load_arr (w.heap.size + 1) cs (Eq.trans ?_ rfl) Hb1'.out (.array 64 22) Tryd.underlying199 (arr_row _ _) hci ?_);rfl)
     have hb8:=Hb8.out
     refine bodyPost_ret (v:=.agg cs) (results_cell_row Tryd.results103 _ _ w.heap.size _ _ _ _ rfl hb8 Tryd.underlying199 rfl (by rw [List.size_toArray,Array.length_toList,hcz];kernel_rfl)) rfl ⟨?_,hkr.grown Hg8.out (by have:=hkr.size;omega) (fun q hq => by injection hq with hq;omega)⟩
     rw [show cs = (l'.map u32v).toArray from by rw [← Hcs.out,Array.toArray_toList],← Hl2.out,← Hl.out,Hj.out,Hk.out]
     rfl
end Go.Proofs.YtffpanlpbdnafaaDoor
namespace Go.Proofs.YtffpanlpbdnafaaDoor
open Go.RowKit
attribute [local go_sem ↓] Go.wp_at_zero Go.wp_at_succ
def kTab : List UInt32:=[1116352408,1899447441,3049323471,3921009573,961987163,1508970993,2453635748,2870763221,3624381080,310598401,607225278,1426881987,1925078388,2162078206,2614888103,3248222580,3835390401,4022224774,264347078,604807628,770255983,1249150122,1555081692,1996064986,2554220882,2821834349,2952996808,3210313671,3336571891,3584528711,113926993,338241895,666307205,773529912,1294757372,1396182291,1695183700,1986661051,2177026350,2456956037,2730485921,2820302411,3259730800,3345764771,3516065817,3600352804,4094571909,275423344,430227734,506948616,659060556,883997877,958139571,1322822218,1537002063,1747873779,1955562222,2024104815,2227730452,2361852424,2428436474,2756734187,3204031479,3329325298]
def hTab : List UInt32:=[1779033703,3144134277,1013904242,2773480762,1359893119,2600822924,528734635,1541459225]
structure ShaOk (w : World) : Prop where
 k : ∀ (i : Nat) (y : UInt32),kTab[i]? = some y → w.cell? ⟨3,i,none⟩ = some (u32v y)
 h : ∀ (i : Nat) (y : UInt32),hTab[i]? = some y → w.cell? ⟨0,i,none⟩ = some (u32v y)
theorem ShaOk.keep {w w' : World} (h : ShaOk w) (hk : Keep w w') : ShaOk w':=⟨fun i y e => keep_cell hk (h.k i y e),fun i y e => keep_cell hk (h.h i y e)⟩
set_option maxRecDepth 100000 in
set_option maxHeartbeats 400000 in
theorem constant_any (i : Nat) (w : World) (hS : ShaOk w) (hi : i < 64) :
  Calls Tryd.prog 105 #[.int .i64 i] w fun e w' => e = .returned (u32v (kTab.getD i 0))∧w = w':=by
 obtain ⟨y,hy⟩ : ∃ y,kTab[i]? = some y:=⟨_,List.getElem?_eq_getElem (by exact hi)⟩
 rw [getD_of hy]
 have c0:=hS.k i y hy
 clear hy hS
 go_enter Tryd.func105,Tryd.ntmps105
 go_wp2
 go_ret
 exact ⟨rfl,rfl⟩
set_option maxRecDepth 100000 in
set_option maxHeartbeats 400000 in
theorem initial_any (i : Nat) (w : World) (hS : ShaOk w) (hi : i < 8) :
  Calls Tryd.prog 98 #[.int .i64 i] w fun e w' => e = .returned (u32v (hTab.getD i 0))∧w = w':=by
 obtain ⟨y,hy⟩ : ∃ y,hTab[i]? = some y:=⟨_,List.getElem?_eq_getElem (by exact hi)⟩
 rw [getD_of hy]
 have c0:=hS.h i y hy
 clear hy hS
 go_enter Tryd.func98,Tryd.ntmps98
 go_wp2
 go_ret
 exact ⟨rfl,rfl⟩
structure H8 where
 a : UInt32
 b : UInt32
 c : UInt32
 d : UInt32
 e : UInt32
 f : UInt32
 g : UInt32
 h : UInt32
def H8.l (v : H8) : List UInt32:=[v.a,v.b,v.c,v.d,v.e,v.f,v.g,v.h]
def H8.cells (v : H8) : List Value:=[u32v v.a,u32v v.b,u32v v.c,u32v v.d,u32v v.e,u32v v.f,u32v v.g,u32v v.h]
abbrev H8.agg (v : H8) : Value:=.agg #[u32v v.a,u32v v.b,u32v v.c,u32v v.d,u32v v.e,u32v v.f,u32v v.g,u32v v.h]
theorem H8.cells_eq (v : H8) : v.cells = v.l.map u32v:=rfl
theorem h8 {w : World} {g : Nat} {t : TypeId} {v : H8} (h : Blk w g t v.cells) : w.cell? ⟨g,0,none⟩ = some (u32v v.a)∧w.cell? ⟨g,1,none⟩ = some (u32v v.b)∧w.cell? ⟨g,2,none⟩ = some (u32v v.c)∧w.cell? ⟨g,3,none⟩ = some (u32v v.d)∧w.cell? ⟨g,4,none⟩ = some (u32v v.e)∧w.cell? ⟨g,5,none⟩ = some (u32v v.f)∧w.cell? ⟨g,6,none⟩ = some (u32v v.g)∧w.cell? ⟨g,7,none⟩ = some (u32v v.h) :=
 ⟨h.cell 0,h.cell 1,h.cell 2,h.cell 3,h.cell 4,h.cell 5,h.cell 6,h.cell 7⟩
def h80 : H8:=⟨0,0,0,0,0,0,0,0⟩
theorem h80_blk (w : World) (n : Nat) (t : TypeId) (hn : n = w.heap.size) : Blk (w.alloc (.cells #[.int .u32 0,.int .u32 0,.int .u32 0,.int .u32 0,.int .u32 0,.int .u32 0,.int .u32 0,.int .u32 0] t)) n t h80.cells:=hn ▸ Blk.new w t h80.cells
theorem h8_blk (w : World) (n : Nat) (t : TypeId) (v : H8) (hn : n = w.heap.size) : Blk (w.alloc (.cells #[u32v v.a,u32v v.b,u32v v.c,u32v v.d,u32v v.e,u32v v.f,u32v v.g,u32v v.h] t)) n t v.cells:=hn ▸ Blk.new w t v.cells
def rndT (v : H8) (k w : UInt32) : Int:=(v.h.toNat : Int) + bits .xor .u32 (bits .xor .u32 ((rotR v.e 6).toNat : Int) ((rotR v.e 11).toNat : Int)) ((rotR v.e 25).toNat : Int) + bits .xor .u32 (bits .and .u32 (v.e.toNat : Int) (v.f.toNat : Int)) (bits .and .u32 (bits .xor .u32 IntKind.u32.max (v.e.toNat : Int)) (v.g.toNat : Int)) + (k.toNat : Int) + (w.toNat : Int)
def rndA (v : H8) (k w : UInt32) : Int:=(rndT v k w + (bits .xor .u32 (bits .xor .u32 ((rotR v.a 2).toNat : Int) ((rotR v.a 13).toNat : Int)) ((rotR v.a 22).toNat : Int) + bits .xor .u32 (bits .xor .u32 (bits .and .u32 (v.a.toNat : Int) (v.b.toNat : Int)) (bits .and .u32 (v.a.toNat : Int) (v.c.toNat : Int))) (bits .and .u32 (v.b.toNat : Int) (v.c.toNat : Int)))) % 4294967296
def rndE (v : H8) (k w : UInt32) : Int:=((v.d.toNat : Int) + rndT v k w) % 4294967296
def rnd (v : H8) (k w : UInt32) : H8:=⟨w32 (rndA v k w),v.a,v.b,v.c,w32 (rndE v k w),v.e,v.f,v.g⟩
def addL (v h : List UInt32) : Nat → List UInt32
 | 0 => v
 | k + 1 => (addL v h k).set k (w32 (((v.getD k 0).toNat + (h.getD k 0).toNat : Int) % 4294967296))
theorem addL_get (v h : List UInt32) : ∀ (k j : Nat),k ≤ j → (addL v h k)[j]? = v[j]?
 | 0,_,_ => rfl
 | k + 1,j,hj => by rw [addL,List.getElem?_set_ne (by omega)];exact addL_get v h k j (by omega)
def add32 (x y : UInt32) : UInt32:=w32 ((x.toNat + y.toNat : Int) % 4294967296)
def H8.add (v h : H8) : H8:=⟨add32 v.a h.a,add32 v.b h.b,add32 v.c h.c,add32 v.d h.d,add32 v.e h.e,add32 v.f h.f,add32 v.g h.g,add32 v.h h.h⟩
theorem addL_h8 (v h : H8) : addL v.l h.l 8 = (v.add h).l:=rfl
def rnds (ws : List UInt32) (v : H8) : Nat → H8
 | 0 => v
 | k + 1 => rnd (rnds ws v k) (kTab.getD k 0) (ws.getD k 0)
def blockH (v : H8) (b : List UInt8) : H8:=(rnds (wordsL b) v 64).add v
noncomputable def zw64 : Array Value:=match (Tryd.prog.info? 199).bind (·.zero) with | some (.agg c) => c | _ => #[]
theorem zw64_size : zw64.size = 64:=by kernel_rfl
theorem zw64_zero (w : World) : (zeroValue 199).run Tryd.prog w = .ok (.agg zw64) w:=by kernel_rfl
theorem u32v_w {E : Int} (h0 : 0 ≤ E) (h1 : E ≤ 4294967295) : Value.int .u32 E = u32v (w32 E):=by unfold u32v;rw [← w32_of h0 h1]
theorem h8_set {w : World} {g : Nat} {t : TypeId} {u : H8} (h : Blk w g t u.cells) (v0 v1 v2 v3 v4 v5 v6 v7 : Value) :
  Blk ((((((((w.setCell ⟨g,0,none⟩ v0).setCell ⟨g,1,none⟩ v1).setCell ⟨g,2,none⟩ v2).setCell ⟨g,3,none⟩ v3).setCell ⟨g,4,none⟩ v4).setCell ⟨g,5,none⟩ v5).setCell ⟨g,6,none⟩ v6).setCell ⟨g,7,none⟩ v7) g t [v0,v1,v2,v3,v4,v5,v6,v7] :=
 (((((((h.set_ 0 v0).set_ 1 v1).set_ 2 v2).set_ 3 v3).set_ 4 v4).set_ 5 v5).set_ 6 v6).set_ 7 v7
theorem rnd_cells (u : H8) (k y : UInt32) : (rnd u k y).cells = [.int .u32 (rndA u k y),u32v u.a,u32v u.b,u32v u.c,.int .u32 (rndE u k y),u32v u.e,u32v u.f,u32v u.g]:=by
 have h1:=u32v_w (E:=rndA u k y) (by unfold rndA;omega) (by unfold rndA;omega)
 have h2:=u32v_w (E:=rndE u k y) (by unfold rndE;omega) (by unfold rndE;omega)
 rw [h1,h2];rfl
set_option maxRecDepth 100000 in
set_option maxHeartbeats 3000000 in
theorem block_any (v : H8) (A : Option Addr) (b : List UInt8) (c : Nat) (w : World) (hb : b.length = 64) (hr : Rd w A (b.map u8v)) (hS : ShaOk w) :
  Calls Tryd.prog 97 #[v.agg,.slice A 64 c] w fun e w' => e = .returned (blockH v b).agg∧Keep w w':=by
 obtain ⟨R,hR⟩ : ∃ R,blockH v b = R:=⟨_,rfl⟩
 rw [hR]
 have HR : Hid ((rnds (wordsL b) v 64).add v = R):=hR
 clear hR
 have hwl : (wordsL b).length = 64:=by unfold wordsL;rw [wd2_len,wd1_len]
 have W1 : ∀ w',Keep w w' → Calls Tryd.prog 103 #[.slice A 64 c] w' fun e w'' => e = .returned (.agg ((wordsL b).map u32v).toArray)∧Keep w' w'':=fun w' hk => words_any A b c w' hb (hr.keep hk)
 generalize wordsL b = ws at *
 obtain ⟨cs,hcs⟩ : ∃ cs : Array Value,cs.toList = ws.map u32v:=⟨(ws.map u32v).toArray,rfl⟩
 have hcz : cs.size = 64:=by rw [← Array.length_toList,hcs,List.length_map,hwl]
 have hci : (Tryd.prog.info? 199).map (·.size) = some cs.size:=by rw [hcz];kernel_rfl
 have hcn : ¬ cs = #[]:=by intro h;rw [h] at hcz;simp at hcz
 have hc1 : cs.all (·.oneCell') = true:=by
  rw [show cs = (ws.map u32v).toArray from by rw [← hcs,Array.toArray_toList]];exact all_oneCell_toArray (one_w32 _)
 rw [show (ws.map u32v).toArray = cs from by rw [← hcs,Array.toArray_toList]] at W1
 have HW1:=Lib.hid W1;have Hcs:=Lib.hid hcs;clear W1 hcs hr
 obtain ⟨zs,hzs⟩ : ∃ zs,zs = zw64:=⟨_,rfl⟩
 have hz1 : zs.size = 64:=by rw [hzs];exact zw64_size
 have hz2 : ∀ w,(zeroValue 199).run Tryd.prog w = .ok (.agg zs) w:=fun w => by rw [hzs];exact zw64_zero w
 have hz3 : ¬ zs = #[]:=fun h => by rw [h] at hz1;cases hz1
 have hst : ∀ ww : World,(storeCells ⟨ww.heap.size,0,none⟩ cs.toList 0).run Tryd.prog (ww.alloc (.cells zs 199)) = .ok () (ww.alloc (.cells cs 199)):=fun ww => run_storeCells_new (P:=Tryd.prog) ww 199 zs cs hci (hz1.trans hcz.symm) hc1
 clear hzs hci hc1
 go_enter Tryd.func97,Tryd.ntmps97
 go_wp2_with fail
 refine (HW1.out _ (keep_trans (keep_new _ _) (keep_new _ _))).mono ?_
 rintro e w1 ⟨rfl,k1⟩
 have Hbx:=Lib.hid (((h8_blk w w.heap.size 171 v rfl).alloc _).keep k1)
 have Hbr:=Lib.hid ((h80_blk _ (w.heap.size + 1) 171 (by simp)).keep k1)
 obtain ⟨x0,x1,x2,x3,x4,x5,x6,x7⟩:=h8 Hbx.out
 have hz1 : w.heap.size + 2 ≤ w1.heap.size:=by have:=k1.size;simpa using this
 have hzl : w.heap.size < w1.heap.size:=by omega
 have kw:=keep_trans (keep_trans (keep_new _ _) (keep_new _ _)) k1
 go_wp2_with fail
 have Hb5:=Lib.hid ((Blk.new w1 199 cs.toList).alloc (.cells #[u32v v.a,u32v v.b,u32v v.c,u32v v.d,u32v v.e,u32v v.f,u32v v.g,u32v v.h] 171))
 have Hb6:=Lib.hid (h8_blk (w1.alloc (.cells cs 199)) (w1.heap.size + 1) 171 v (by simp))
 have k2:=keep_trans (keep_new w1 (.cells cs 199)) (keep_new (w1.alloc (.cells cs 199)) (.cells #[u32v v.a,u32v v.b,u32v v.c,u32v v.d,u32v v.e,u32v v.f,u32v v.g,u32v v.h] 171))
 have Hbx2:=Lib.hid (Hbx.out.keep k2);have Hbr2:=Lib.hid (Hbr.out.keep k2)
 clear x0 x1 x2 x3 x4 x5 x6 x7 Hbx Hbr hst
 have kv:=keep_trans kw k2
 generalize (w1.alloc (.cells cs 199)).alloc (.cells #[u32v v.a,u32v v.b,u32v v.c,u32v v.d,u32v v.e,u32v v.f,u32v v.g,u32v v.h] 171) = w2 at k2 kv Hb5 Hb6 Hbx2 Hbr2 ⊢
 go_loopw [22] (fun i wr => ∃ k : Nat,k ≤ 64∧i = .int .i64 k∧Keep w wr∧Blk wr w.heap.size 171 v.cells∧Blk wr (w.heap.size + 1) 171 h80.cells∧Blk wr w1.heap.size 199 cs.toList∧Blk wr (w1.heap.size + 1) 171 (rnds ws v k).cells) (fun i _ => 64 - (intOf i).toNat)
 case atStart => exact ⟨0,by omega,rfl,kv,Hbx2.out,Hbr2.out,Hb5.out,Hb6.out⟩
 case round =>
  obtain ⟨k,hk,rfl,hkr,hbx,hbr,hbw,hbv⟩:=hrel
  by_cases hlt : k < 64
  ·obtain ⟨y,hy⟩ : ∃ y,ws[k]? = some y:=⟨_,List.getElem?_eq_getElem (by omega)⟩
   have Hrn:=Lib.hid (show rnds ws v (k + 1) = rnd (rnds ws v k) (kTab.getD k 0) y by rw [rnds,getD_of hy])
   have cw:=hbw.cell k;rw [Hcs.out,List.getElem?_map,hy,Option.map_some] at cw
   generalize rnds ws v k = u at hbv Hrn
   have hkk : ∀ w',Keep w w' → Calls Tryd.prog 105 #[.int .i64 k] w' fun e w'' => e = .returned (u32v (kTab.getD k 0))∧w' = w'':=fun w' h => constant_any k w' (hS.keep h) hlt
   generalize kTab.getD k 0 = kk at Hrn hkk
   have Hkk:=Lib.hid hkk;clear hkk
   obtain ⟨x0,x1,x2,x3,x4,x5,x6,x7⟩:=h8 hbv
   clear hy
   have Hx:=Lib.hid hbx;have Hr:=Lib.hid hbr;have Hw:=Lib.hid hbw;have Hv:=Lib.hid hbv
   clear hbx hbr hbw hbv
   have a4:=aft_cell x4
   go_wp2
   refine wp_region_aft (by kernel_rfl) (by kernel_rfl) wr (Below.refl _ _) ?_
   repeat (go_big_quiet_step ((go_at_call 104;exact quiet_aft_same (turned_any _ _ _ (by rfl) (by decide) (by decide)))))
   refine wpQuiet_nil ?_
   rintro _ ⟨z,rfl⟩
   have j3:=aft_keep wr z
   generalize aft wr z = w3 at j3 ⊢
   clear a4 x0 x1 x2 x3 x4 x5 x6 x7
   have hbv:=Hv.out.keep j3
   obtain ⟨x0,x1,x2,x3,x4,x5,x6,x7⟩:=h8 hbv
   have k3:=keep_trans hkr j3
   replace cw:=keep_cell j3 cw
   clear hbv
   go_wp2
   have a7:=aft_cell x7;have aw:=aft_cell cw
   refine wp_region_aft (by kernel_rfl) (by kernel_rfl) w3 (Below.refl _ _) ?_
   repeat (go_big_quiet_step ((go_at_call 105;exact quiet_aft_same (Hkk.out _ (keep_trans k3 (aft_keep _ _))))))
   refine wpQuiet_nil ?_
   rintro _ ⟨z4,rfl⟩
   have j4:=aft_keep w3 z4
   generalize aft w3 z4 = w4 at j4 ⊢
   clear a7 aw cw x0 x1 x2 x3 x4 x5 x6 x7
   have k4:=keep_trans k3 j4
   obtain ⟨x0,x1,x2,x3,x4,x5,x6,x7⟩:=h8 (Hv.out.keep (keep_trans j3 j4))
   have a0:=aft_cell x0
   go_wp2
   refine wp_region_aft (by kernel_rfl) (by kernel_rfl) w4 (Below.refl _ _) ?_
   repeat (go_big_quiet_step ((go_at_call 104;exact quiet_aft_same (turned_any _ _ _ (by rfl) (by decide) (by decide)))))
   refine wpQuiet_nil ?_
   rintro _ ⟨z5,rfl⟩
   have j5:=aft_keep w4 z5
   generalize aft w4 z5 = w5 at j5 ⊢
   clear a0 x0 x1 x2 x3 x4 x5 x6 x7
   have k5:=keep_trans k4 j5
   have j2:=keep_trans (keep_trans j3 j4) j5
   have Hv5:=Lib.hid (Hv.out.keep j2)
   obtain ⟨x0,x1,x2,x3,x4,x5,x6,x7⟩:=h8 Hv5.out
   have f0:=Hv5.out.frozen 0;have f1:=Hv5.out.frozen 1;have f2:=Hv5.out.frozen 2;have f3:=Hv5.out.frozen 3;have f4:=Hv5.out.frozen 4;have f5:=Hv5.out.frozen 5;have f6:=Hv5.out.frozen 6;have f7:=Hv5.out.frozen 7
   go_wp2
   go_roundw
   case rel =>
    refine ⟨k + 1,by omega,by go_num,?_,?_,?_,?_,?_⟩
    ·repeat (refine Below.setCell ?_ (by simp;omega) _)
     exact k5
    ·repeat (refine Blk.far ?_ (by simp;omega) _)
     exact Hx.out.keep j2
    ·repeat (refine Blk.far ?_ (by simp;omega) _)
     exact Hr.out.keep j2
    ·repeat (refine Blk.far ?_ (by simp) _)
     exact Hw.out.keep j2
    ·rw [Hrn.out,rnd_cells]
     exact h8_set Hv5.out _ _ _ _ _ _ _ _
   case measure => simp [intOf];omega
  ·have Hk:=Lib.hid (show k = 64 by omega)
   generalize hu : rnds ws v k = u at hbv
   have Hu:=Lib.hid hu
   have Hx:=Lib.hid hbx;have Hr:=Lib.hid hbr;have Hw:=Lib.hid hbw;have Hv:=Lib.hid hbv
   clear hbx hbr hbw hbv hu
   go_wp2_with fail
   go_loopw [113] (fun i w9 => ∃ j : Nat,j ≤ 8∧i = .int .i64 j∧Keep w w9∧Blk w9 w.heap.size 171 (v.l.map u32v)∧Blk w9 (w.heap.size + 1) 171 h80.cells∧Blk w9 (w1.heap.size + 1) 171 ((addL u.l v.l j).map u32v)) (fun i _ => 8 - (intOf i).toNat)
   case atStart => exact ⟨0,by omega,rfl,hkr,Hx.out,Hr.out,Hv.out⟩
   case round =>
    obtain ⟨j,hj,rfl,hkr,hbx,hbr,hbv⟩:=hrel
    by_cases hlt : j < 8
    ·obtain ⟨y,hy⟩ : ∃ y,v.l[j]? = some y:=⟨_,List.getElem?_eq_getElem (by exact hlt)⟩
     obtain ⟨x,hx⟩ : ∃ x,u.l[j]? = some x:=⟨_,List.getElem?_eq_getElem (by exact hlt)⟩
     have Had:=Lib.hid (show addL u.l v.l (j + 1) = (addL u.l v.l j).set j (w32 ((x.toNat + y.toNat : Int) % 4294967296)) by rw [addL,getD_of hy,getD_of hx])
     have c0:=hbv.cell j;rw [List.getElem?_map,addL_get _ _ _ _ (Nat.le_refl _),hx,Option.map_some] at c0
     have c1:=hbx.cell j;rw [List.getElem?_map,hy,Option.map_some] at c1
     have Hx:=Lib.hid hbx;have Hr:=Lib.hid hbr;have Hv:=Lib.hid hbv
     clear hbx hbr hbv hy hx
     go_wp2
     refine wp_region_tree (.take [0,1,2,3,4,5,6,7] .done) [8] (by kernel_rfl) (by kernel_rfl) (fun w3 k3 => ?_)
     have a0:=aft_cell (keep_cell k3 c0);have a1:=aft_cell (keep_cell k3 c1)
     refine mt_take w3 (Below.refl _ _) ?_
     simp only [pick_cons,pick_nil,nth_zero,nth_succ]
     repeat (go_big_quiet_step (fail))
     refine wpQuiet_nil (mt_end ?_)
     have k4:=keep_trans hkr k3
     replace c0:=keep_cell k3 c0
     have f0:=(Hv.out.keep k3).frozen j
     clear a0 a1 c1
     go_wp2
     go_roundw
     case rel =>
      refine ⟨j + 1,by omega,by go_num,k4.setCell (by simp;omega) _,(Hx.out.keep k3).far (by simp;omega) _,(Hr.out.keep k3).far (by simp;omega) _,?_⟩
      rw [Had.out,set_map _ _ _ (by omega) (by omega)]
      exact (Hv.out.keep k3).set_ _ _
     case measure => simp [intOf];omega
    ·have Hj:=Lib.hid (show j = 8 by omega)
     have e8 : addL u.l v.l j = (u.add v).l:=by rw [Hj.out];exact addL_h8 u v
     rw [e8,← H8.cells_eq] at hbv
     clear e8
     have HR2 : Hid (u.add v = R):=by
      have h:=HR.out
      rw [← Hk.out,Hu.out] at h
      exact h
     generalize u.add v = r at hbv HR2
     obtain ⟨x0,x1,x2,x3,x4,x5,x6,x7⟩:=h8 hbv
     have Hr:=Lib.hid hbr
     have c0:=Hr.out.cell 0;have c1:=Hr.out.cell 1;have c2:=Hr.out.cell 2;have c3:=Hr.out.cell 3;have c4:=Hr.out.cell 4;have c5:=Hr.out.cell 5;have c6:=Hr.out.cell 6;have c7:=Hr.out.cell 7
     have f0:=Hr.out.frozen 0;have f1:=Hr.out.frozen 1;have f2:=Hr.out.frozen 2;have f3:=Hr.out.frozen 3;have f4:=Hr.out.frozen 4;have f5:=Hr.out.frozen 5;have f6:=Hr.out.frozen 6;have f7:=Hr.out.frozen 7
     simp only [H8.cells,List.getElem?_cons_zero,List.getElem?_cons_succ] at c0 c1 c2 c3 c4 c5 c6 c7
     clear hbr hbx hbv
     go_wp2
     refine bodyPost_ret (v:=r.agg) (results_cell_row Tryd.results97 _ _ (w.heap.size + 1) _ _ _ _ rfl (h8_set Hr.out _ _ _ _ _ _ _ _) Tryd.underlying171 rfl (by kernel_rfl)) rfl ⟨by rw [← HR2.out],?_⟩
     repeat (refine Below.setCell ?_ (by simp) _)
     exact hkr
end Go.Proofs.YtffpanlpbdnafaaDoor
namespace Go.Proofs.YtffpanlpbdnafaaDoor
open Go.RowKit
attribute [local go_sem ↓] Go.wp_at_zero Go.wp_at_succ
abbrev SV (v : H8) (A : Option Addr) (n c : Nat) (N : Int) : Value:=.agg #[u32v v.a,u32v v.b,u32v v.c,u32v v.d,u32v v.e,u32v v.f,u32v v.g,u32v v.h,.slice A n c,.int .u64 N]
def h0V : H8:=⟨1779033703,3144134277,1013904242,2773480762,1359893119,2600822924,528734635,1541459225⟩
def stL : Nat → List UInt32
 | 0 => [0,0,0,0,0,0,0,0]
 | k + 1 => (stL k).set k (hTab.getD k 0)
theorem stL_len (k : Nat) : (stL k).length = 8:=by
 induction k with
 | zero => rfl
 | succ k ih => rw [stL,List.length_set,ih]
theorem stL_8 : stL 8 = h0V.l:=by decide
set_option maxRecDepth 100000 in
set_option maxHeartbeats 1000000 in
theorem start_any (w : World) (hS : ShaOk w) : Calls Tryd.prog 81 #[] w fun e w' => e = .returned (SV h0V none 0 0 0)∧Keep w w':=by
 go_enter Tryd.func81,Tryd.ntmps81
 go_wp2_with fail
 go_loopw [3] (fun i wr => ∃ k : Nat,k ≤ 8∧i = .int .i64 k∧Keep w wr∧Blk wr w.heap.size 173 ((stL 0).map u32v ++ ([.slice none 0 0,.int .u64 0] : List Value))∧Blk wr (w.heap.size + 1) 173 ((stL k).map u32v ++ ([.slice none 0 0,.int .u64 0] : List Value))) (fun i _ => 8 - (intOf i).toNat)
 case atStart =>
  refine ⟨0,by omega,rfl,keep_trans (keep_new _ _) (keep_new _ _),(Blk.new w _ ((stL 0).map u32v ++ ([.slice none 0 0,.int .u64 0] : List Value))).alloc _,?_⟩
  have h:=Blk.new (w.alloc (.cells ((stL 0).map u32v ++ ([.slice none 0 0,.int .u64 0] : List Value)).toArray 173)) 173 ((stL 0).map u32v ++ ([.slice none 0 0,.int .u64 0] : List Value))
  rw [World.size_alloc] at h
  exact h
 case round =>
  obtain ⟨k,hk,rfl,hkr,hbr,hbs⟩:=hrel
  by_cases hlt : k < 8
  ·have hst:=stL_len k
   have hsu:=Lib.hid (show stL (k + 1) = (stL k).set k (hTab.getD k 0) from rfl)
   have hh : ∀ w',Keep w w' → Calls Tryd.prog 98 #[.int .i64 k] w' fun e w'' => e = .returned (u32v (hTab.getD k 0))∧w' = w'':=fun w' h => initial_any k w' (hS.keep h) hlt
   generalize hTab.getD k 0 = y at hh hsu
   obtain ⟨o,ho⟩ : ∃ o,(stL k)[k]? = some o:=⟨_,List.getElem?_eq_getElem (by omega)⟩
   have c0:=hbs.cell k
   rw [List.getElem?_append_left (by rw [List.length_map,hst];exact hlt),List.getElem?_map,ho,Option.map_some] at c0
   have f0:=hbs.frozen k
   have Hr:=Lib.hid hbr;have Hs:=Lib.hid hbs;have Hst:=Lib.hid hst;have Hh:=Lib.hid hh
   clear hbr hbs hst hh ho
   go_wp2_with (go_at_call 98;refine (Hh.out _ hkr).mono ?_;rintro e w3 ⟨rfl,rfl⟩)
   go_roundw
   case rel =>
    refine ⟨k + 1,by omega,by go_num,hkr.setCell (by simp) _,Hr.out.far (by simp) _,?_⟩
    have h:=Hs.out.set_ k (u32v y)
    rw [List.set_append_left _ _ (by rw [List.length_map,Hst.out];exact hlt),← List.map_set,← hsu.out] at h
    exact h
   case measure => simp [intOf];omega
  ·obtain rfl : 8 = k:=by omega
   rw [stL_8] at hbs
   have c0:=hbs.cell 0;have c1:=hbs.cell 1;have c2:=hbs.cell 2;have c3:=hbs.cell 3;have c4:=hbs.cell 4;have c5:=hbs.cell 5;have c6:=hbs.cell 6;have c7:=hbs.cell 7;have c8:=hbs.cell 8;have c9:=hbs.cell 9
   have d0:=hbr.cell 0;have d1:=hbr.cell 1;have d2:=hbr.cell 2;have d3:=hbr.cell 3;have d4:=hbr.cell 4;have d5:=hbr.cell 5;have d6:=hbr.cell 6;have d7:=hbr.cell 7;have d8:=hbr.cell 8;have d9:=hbr.cell 9
   have f0:=hbr.frozen 0;have f1:=hbr.frozen 1;have f2:=hbr.frozen 2;have f3:=hbr.frozen 3;have f4:=hbr.frozen 4;have f5:=hbr.frozen 5;have f6:=hbr.frozen 6;have f7:=hbr.frozen 7;have f8:=hbr.frozen 8;have f9:=hbr.frozen 9
   simp only [H8.l,stL,List.map_cons,List.map_nil,List.cons_append,List.nil_append,List.getElem?_cons_zero,List.getElem?_cons_succ] at c0 c1 c2 c3 c4 c5 c6 c7 c8 c9 d0 d1 d2 d3 d4 d5 d6 d7 d8 d9
   clear hbr hbs
   go_wp2
   refine bodyPost_ret (v:=SV h0V none 0 0 0) (by simp [results,Tryd.results81,go_sem,d0,d1,d2,d3,d4,d5,d6,d7,d8,d9]) rfl ⟨rfl,?_⟩
   repeat (refine Below.setCell ?_ (by simp) _)
   exact hkr
def padZ (n : Nat) : Nat:=if n % 64 ≤ 55 then 55 - n % 64 else 119 - n % 64
def padE (n k : Nat) : Int:=(n : Int) * 8 / 2 ^ (56 - 8 * k) % 256
def padK (n : Nat) : Nat → List UInt8
 | 0 => 128 :: List.replicate (padZ n + 8) 0
 | k + 1 => (padK n k).set (1 + padZ n + k) (w8 (padE n k))
theorem padK_len (n k : Nat) : (padK n k).length = 9 + padZ n:=by
 induction k with
 | zero => rw [padK,List.length_cons,List.length_replicate];omega
 | succ k ih => rw [padK,List.length_set,ih]
set_option maxRecDepth 100000 in
set_option maxHeartbeats 1000000 in
theorem pad_any (n : Nat) (w : World) (hn : n ≤ 1000000000000) : Calls Tryd.prog 96 #[.int .u64 n] w fun e w' => e = .returned (.slice (some ⟨w.heap.size,0,none⟩) (9 + padZ n) (9 + padZ n))∧Blk w' w.heap.size 5 ((padK n 8).map u8v)∧Keep w w':=by
 obtain ⟨z,hz⟩ : ∃ z,padZ n = z:=⟨_,rfl⟩
 have hzl : z ≤ 63:=by rw [← hz];unfold padZ;split <;> omega
 have Hz:=Lib.hid hz
 rw [hz]
 go_enter Tryd.func96,Tryd.ntmps96
 go_upto_if 13 with fail
 go_cut [3,4] (fun v3 v4 wx => v4 = .int .i64 z∧wx = w)
 case first =>
  by_cases h : n % 64 ≤ 55
  ·have hz:=Hz.out;rw [padZ,if_pos h] at hz
   go_wp2
   all_goals go_meet
   all_goals exact ⟨by congr 1;omega,rfl⟩
  ·have hz:=Hz.out;rw [padZ,if_neg h] at hz
   go_wp2
   all_goals go_meet
   all_goals exact ⟨by congr 1;omega,rfl⟩
 case rest =>
  obtain ⟨rfl,rfl⟩:=hcut
  obtain ⟨wm,hmk,hbm,km,hsz⟩:=make_blk (z + 9) (z + 9) (1 + (z : Int) + 8) (1 + (z : Int) + 8) (by omega) (by omega) (Nat.le_refl _) (by omega) wc
  have c0:=hbm.cell 0;rw [List.getElem?_map,List.getElem?_replicate,if_pos (by omega),Option.map_some] at c0
  have f0:=hbm.frozen 0
  have Hbm:=Lib.hid hbm
  clear hbm hsz
  go_wp2_with fail
  go_loopw [22] (fun i wr => ∃ k : Nat,k ≤ 8∧i = .int .i64 k∧Keep wc wr∧Blk wr wc.heap.size 5 ((padK n k).map u8v)) (fun i _ => 8 - (intOf i).toNat)
  case atStart =>
   refine ⟨0,by omega,rfl,km.setCell (by simp) _,?_⟩
   have h:=Hbm.out.set_ 0 (u8v 128)
   rw [show ((List.replicate (z + 9) (0 : UInt8)).map u8v).set 0 (u8v 128) = (padK n 0).map u8v by rw [padK,Hz.out];rfl] at h
   exact h
  case round =>
   obtain ⟨k,hk,rfl,hkr,hb⟩:=hrel
   by_cases hlt : k < 8
   ·have hpl:=padK_len n k
    rw [Hz.out] at hpl
    obtain ⟨o,ho⟩ : ∃ o,(padK n k)[1 + z + k]? = some o:=⟨_,List.getElem?_eq_getElem (by omega)⟩
    have c1:=hb.cell (1 + z + k);rw [List.getElem?_map,ho,Option.map_some] at c1
    have f1:=hb.frozen (1 + z + k)
    have Hb:=Lib.hid hb
    clear hb ho hpl
    go_wp2
    go_roundw
    case rel =>
     refine ⟨k + 1,by omega,by go_num,hkr.setCell (by simp) _,?_⟩
     rw [padK,Hz.out,set_map8 _ _ (padE n k) (by unfold padE;omega) (by unfold padE;omega)]
     exact Hb.out.set_ _ _
    case measure => simp [intOf];omega
   ·have Hk:=Lib.hid (show k = 8 by omega)
    have Hb:=Lib.hid hb;clear hb
    go_wp2
    go_ret
    refine ⟨by show Ending.returned (Value.slice _ (z + 9) (z + 9)) = _;rw [Nat.add_comm z 9],?_,hkr⟩
    have h:=Hb.out
    rw [Hk.out] at h
    exact h
end Go.Proofs.YtffpanlpbdnafaaDoor
namespace Go.Proofs.YtffpanlpbdnafaaDoor
open Go.RowKit
attribute [local go_sem ↓] Go.wp_at_zero Go.wp_at_succ
set_option maxHeartbeats 1000000 in
theorem ssane_any (v : H8) (A : Option Addr) (n c N : Nat) (w : World) (hn : n < 64) (hN : N ≤ 1000000000000) (h : n = N % 64) :
  Calls Tryd.prog 95 #[SV v A n c N] w fun e w' => e = .returned (.bool true)∧Keep w w':=by
 have t : ((n : Int) == (N : Int) % 64) = true:=by simp;omega
 go_enter Tryd.func95,Tryd.ntmps95
 go_wp2
 go_ret
 exact ⟨ret_bool (by first | rfl | (simp;omega)),keep_new _ _⟩
def blocks (v : H8) (l : List UInt8) : Nat → H8
 | 0 => v
 | k + 1 => blockH (blocks v l k) ((l.drop (64 * k)).take 64)
structure StCells (w : World) (g : Nat) (v : H8) (A : Option Addr) (n c : Nat) (N : Int) : Prop where
 b : Blk w g 173 (v.cells ++ [.slice A n c,.int .u64 N])
theorem StCells.all {w : World} {g : Nat} {v : H8} {A : Option Addr} {n c : Nat} {N : Int} (h : StCells w g v A n c N) :
  w.cell? ⟨g,0,none⟩ = some (u32v v.a)∧w.cell? ⟨g,1,none⟩ = some (u32v v.b)∧w.cell? ⟨g,2,none⟩ = some (u32v v.c)∧w.cell? ⟨g,3,none⟩ = some (u32v v.d)∧w.cell? ⟨g,4,none⟩ = some (u32v v.e)∧w.cell? ⟨g,5,none⟩ = some (u32v v.f)∧w.cell? ⟨g,6,none⟩ = some (u32v v.g)∧w.cell? ⟨g,7,none⟩ = some (u32v v.h)∧w.cell? ⟨g,8,none⟩ = some (.slice A n c)∧w.cell? ⟨g,9,none⟩ = some (.int .u64 N) :=
 ⟨h.b.cell 0,h.b.cell 1,h.b.cell 2,h.b.cell 3,h.b.cell 4,h.b.cell 5,h.b.cell 6,h.b.cell 7,h.b.cell 8,h.b.cell 9⟩
theorem StCells.fr {w : World} {g : Nat} {v : H8} {A : Option Addr} {n c : Nat} {N : Int} (h : StCells w g v A n c N) :
  w.frozen? ⟨g,0,none⟩ = false∧w.frozen? ⟨g,1,none⟩ = false∧w.frozen? ⟨g,2,none⟩ = false∧w.frozen? ⟨g,3,none⟩ = false∧w.frozen? ⟨g,4,none⟩ = false∧w.frozen? ⟨g,5,none⟩ = false∧w.frozen? ⟨g,6,none⟩ = false∧w.frozen? ⟨g,7,none⟩ = false∧w.frozen? ⟨g,8,none⟩ = false∧w.frozen? ⟨g,9,none⟩ = false :=
 ⟨h.b.frozen 0,h.b.frozen 1,h.b.frozen 2,h.b.frozen 3,h.b.frozen 4,h.b.frozen 5,h.b.frozen 6,h.b.frozen 7,h.b.frozen 8,h.b.frozen 9⟩
theorem StCells.keep {w w' : World} {g : Nat} {v : H8} {A : Option Addr} {n c : Nat} {N : Int} (h : StCells w g v A n c N) (hk : Keep w w') : StCells w' g v A n c N:=⟨h.b.keep hk⟩
theorem StCells.grown {w w' : World} {g : Nat} {v : H8} {A : Option Addr} {n c : Nat} {N : Int} {row : Option Nat} (h : StCells w g v A n c N) (hg : w.grownBy w' row) (hne : row ≠ some g) : StCells w' g v A n c N:=⟨h.b.grown hg hne⟩
theorem StCells.new (w : World) (g : Nat) (v : H8) (A : Option Addr) (n c : Nat) (N : Int) (hg : g = w.heap.size) : StCells (w.alloc (.cells #[u32v v.a,u32v v.b,u32v v.c,u32v v.d,u32v v.e,u32v v.f,u32v v.g,u32v v.h,.slice A n c,.int .u64 N] 173)) g v A n c N :=
 ⟨hg ▸ Blk.new w _ (v.cells ++ [.slice A n c,.int .u64 N])⟩
theorem StCells.set8 {w : World} {g : Nat} {v : H8} {A : Option Addr} {n c : Nat} {N : Int} (h : StCells w g v A n c N) (u : H8) :
  StCells ((((((((w.setCell ⟨g,0,none⟩ (u32v u.a)).setCell ⟨g,1,none⟩ (u32v u.b)).setCell ⟨g,2,none⟩ (u32v u.c)).setCell ⟨g,3,none⟩ (u32v u.d)).setCell ⟨g,4,none⟩ (u32v u.e)).setCell ⟨g,5,none⟩ (u32v u.f)).setCell ⟨g,6,none⟩ (u32v u.g)).setCell ⟨g,7,none⟩ (u32v u.h)) g u A n c N :=
 ⟨(((((((h.b.set_ 0 (u32v u.a)).set_ 1 (u32v u.b)).set_ 2 (u32v u.c)).set_ 3 (u32v u.d)).set_ 4 (u32v u.e)).set_ 5 (u32v u.f)).set_ 6 (u32v u.g)).set_ 7 (u32v u.h)⟩
theorem StCells.set10 {w : World} {g : Nat} {v : H8} {A : Option Addr} {n c : Nat} {N : Int} (h : StCells w g v A n c N) (u : H8) (A' : Option Addr) (n' c' : Nat) (N' : Int) :
  ((((((((((w.setCell ⟨g,0,none⟩ (u32v u.a)).setCell ⟨g,1,none⟩ (u32v u.b)).setCell ⟨g,2,none⟩ (u32v u.c)).setCell ⟨g,3,none⟩ (u32v u.d)).setCell ⟨g,4,none⟩ (u32v u.e)).setCell ⟨g,5,none⟩ (u32v u.f)).setCell ⟨g,6,none⟩ (u32v u.g)).setCell ⟨g,7,none⟩ (u32v u.h)).setCell ⟨g,8,none⟩ (.slice A' n' c')).setCell ⟨g,9,none⟩ (.int .u64 N')).heap[g]? = some (.cells #[u32v u.a,u32v u.b,u32v u.c,u32v u.d,u32v u.e,u32v u.f,u32v u.g,u32v u.h,.slice A' n' c',.int .u64 N'] 173 (0,0)) :=
 (((((((((h.b.set_ 0 (u32v u.a)).set_ 1 (u32v u.b)).set_ 2 (u32v u.c)).set_ 3 (u32v u.d)).set_ 4 (u32v u.e)).set_ 5 (u32v u.f)).set_ 6 (u32v u.g)).set_ 7 (u32v u.h)).set_ 8 (.slice A' n' c')).set_ 9 (.int .u64 N')
structure Summed (F : List UInt8) (v : H8) (bk : List UInt8) (vk : H8) : Prop where
 at_ : ∃ m,F.drop (64 * m) = bk∧64 * m + bk.length = F.length∧vk = blocks v F m
theorem Summed.first {F r b : List UInt8} (v : H8) (h : r ++ b = F) (h1 : r.length < 64) (h2 : 64 ≤ r.length + b.length) : Summed F v (b.drop (64 - r.length)) (blockH v (r ++ b.take (64 - r.length))):=by
 subst h
 refine ⟨1,?_,?_,?_⟩
 ·rw [List.drop_append,List.drop_eq_nil_of_le (by omega),List.nil_append]
 ·rw [List.length_drop,List.length_append];omega
 ·show _ = blockH v (((r ++ b).drop (64 * 0)).take 64)
  rw [Nat.mul_zero,List.drop_zero,List.take_append,List.take_of_length_le (l:=r) (by omega)]
theorem Summed.zero {F r b : List UInt8} (v : H8) (h : r ++ b = F) (h1 : r = []) : Summed F v b v:=by
 subst h h1
 exact ⟨0,rfl,by simp,rfl⟩
theorem Summed.next {F bk : List UInt8} {v vk : H8} (h : Summed F v bk vk) (hl : 64 ≤ bk.length) : Summed F v (bk.drop 64) (blockH vk (bk.take 64)):=by
 obtain ⟨m,h1,h2,h3⟩:=h
 refine ⟨m + 1,?_,?_,?_⟩
 ·rw [← h1,List.drop_drop,Nat.mul_succ]
 ·rw [List.length_drop];omega
 ·rw [blocks,h1,h3]
theorem Summed.done {F bk : List UInt8} {v vk : H8} (h : Summed F v bk vk) (hl : bk.length < 64) : blocks v F (F.length / 64) = vk∧F.length % 64 = bk.length∧F.drop (64 * (F.length / 64)) = bk:=by
 obtain ⟨m,h1,h2,h3⟩:=h
 have e : F.length / 64 = m:=by omega
 rw [e]
 exact ⟨h3.symm,by omega,h1⟩
set_option maxRecDepth 100000 in
set_option maxHeartbeats 3000000 in
theorem write_any (v : H8) (RA : Option Addr) (r : List UInt8) (rc N : Nat) (A : Option Addr) (b : List UInt8) (c : Nat) (w : World) (hS : ShaOk w) (hr : Rd w RA (r.map u8v)) (hrl : r.length = N % 64) (hb : Rd w A (b.map u8v)) (hbc : b.length ≤ c) (hcm : c ≤ maxLen) (hbl : b.length ≤ 100000000) (hN : N ≤ 100000000000) (hrb : r = [] ∨ 64 ≤ r.length + b.length) :
  Calls Tryd.prog 80 #[SV v RA r.length rc N,.slice A b.length c] w fun e w' => ∃ A' c',e = .returned (SV (blocks v (r ++ b) ((r ++ b).length / 64)) A' ((r ++ b).length % 64) c' ((N + b.length : Nat) : Int))∧Rd w' A' (((r ++ b).drop (64 * ((r ++ b).length / 64))).map u8v)∧Keep w w':=by
 have Hrl:=Lib.hid hrl;have Hrb:=Lib.hid hrb
 have hrn : r.length < 64:=by omega
 unfold maxLen at hcm
 clear hrl hrb
 obtain ⟨F,hF⟩ : ∃ F,r ++ b = F:=⟨_,rfl⟩
 rw [hF]
 have HF:=Lib.hid hF;clear hF
 have Hr:=Lib.hid hr;have Hb:=Lib.hid hb;have HS:=Lib.hid hS
 clear hr hb hS
 go_enter Tryd.func80,Tryd.ntmps80
 go_wp2_with fail
 refine (ssane_any v RA r.length rc N _ hrn (by omega) Hrl.out).mono ?_
 rintro e w1 ⟨rfl,k1⟩
 have HX1:=Lib.hid (((StCells.new w w.heap.size v RA r.length rc N rfl).b.alloc (.cells (h80.cells ++ ([.slice none 0 0,.int .u64 0] : List Value)).toArray 173)).keep k1)
 have HR1 : Hid (StCells w1 (w.heap.size + 1) h80 none 0 0 0):=(StCells.new _ _ h80 none 0 0 0 (by simp)).keep k1
 have hz1 : w.heap.size + 2 ≤ w1.heap.size:=by have:=k1.size;simpa using this
 have hzl : w.heap.size < w1.heap.size:=by omega
 have kw:=keep_trans (keep_trans (keep_new _ _) (keep_new _ _)) k1
 clear k1
 obtain ⟨x0,x1,x2,x3,x4,x5,x6,x7,x8,x9⟩:=(show StCells w1 w.heap.size v RA r.length rc N from ⟨HX1.out⟩).all
 go_upto_if 24 with fail
 have HO2 : Hid (StCells (w1.alloc (.cells #[.int .u32 v.a.toNat,.int .u32 v.b.toNat,.int .u32 v.c.toNat,.int .u32 v.d.toNat,.int .u32 v.e.toNat,.int .u32 v.f.toNat,.int .u32 v.g.toNat,.int .u32 v.h.toNat,.slice none 0 0,.int .u64 ((N : Int) + (b.length : Int))] 173)) w1.heap.size v none 0 0 ((N : Int) + (b.length : Int))):=StCells.new w1 w1.heap.size v none 0 0 _ rfl
 have k2:=keep_new w1 (.cells #[.int .u32 v.a.toNat,.int .u32 v.b.toNat,.int .u32 v.c.toNat,.int .u32 v.d.toNat,.int .u32 v.e.toNat,.int .u32 v.f.toNat,.int .u32 v.g.toNat,.int .u32 v.h.toNat,.slice none 0 0,.int .u64 ((N : Int) + (b.length : Int))] 173)
 have hz2 : w1.heap.size < (w1.alloc (.cells #[.int .u32 v.a.toNat,.int .u32 v.b.toNat,.int .u32 v.c.toNat,.int .u32 v.d.toNat,.int .u32 v.e.toNat,.int .u32 v.f.toNat,.int .u32 v.g.toNat,.int .u32 v.h.toNat,.slice none 0 0,.int .u64 ((N : Int) + (b.length : Int))] 173)).heap.size:=by simp
 generalize w1.alloc (.cells #[.int .u32 v.a.toNat,.int .u32 v.b.toNat,.int .u32 v.c.toNat,.int .u32 v.d.toNat,.int .u32 v.e.toNat,.int .u32 v.f.toNat,.int .u32 v.g.toNat,.int .u32 v.h.toNat,.slice none 0 0,.int .u64 ((N : Int) + (b.length : Int))] 173) = w2 at HO2 k2 hz2 ⊢
 clear x0 x1 x2 x3 x4 x5 x6 x7 x8 x9
 have HX2:=Lib.hid (HX1.out.keep k2);have HR2:=Lib.hid (HR1.out.keep k2)
 replace kw:=keep_trans kw k2
 clear HX1 HR1 k2
 go_cut [1] (fun s wx => ∃ A1 b1 c1 v1,s = .slice A1 b1.length c1∧b1.length ≤ c1∧c1 ≤ 9223372036854775807∧b1.length ≤ 100000000∧Rd w A1 (b1.map u8v)∧Hid (Summed F v b1 v1)∧Hid (StCells wx w1.heap.size v1 none 0 0 ((N : Int) + (b.length : Int)))∧Hid (StCells wx (w.heap.size + 1) h80 none 0 0 0)∧Keep w wx)
 case first =>
  by_cases hr0 : 0 < r.length
  ·have hge : 64 ≤ r.length + b.length:=by
    rcases Hrb.out with h | h
    ·rw [h] at hr0;simp at hr0
    ·exact h
   obtain ⟨_,_,_,_,_,_,_,_,x8,_⟩:=(show StCells w2 w.heap.size v RA r.length rc N from ⟨HX2.out⟩).all
   obtain ⟨wm,hmk,hbm,km,hsz⟩:=make_blk 0 64 0 64 rfl rfl (by omega) (by omega) w2
   have x8m:=keep_cell km x8
   have own0:=own_made hbm (Nat.le_refl _) (by unfold maxLen;omega)
   have Own0:=Lib.hid own0;have Km:=Lib.hid km
   have hqb : 64 - r.length ≤ b.length:=by omega
   have x8m:=keep_cell km x8
   have own0:=own_made hbm (Nat.le_refl _) (by unfold maxLen;omega)
   have Own0:=Lib.hid own0;have Km:=Lib.hid km
   obtain ⟨q,hq⟩ : ∃ q,r.length + q = 64:=⟨64 - r.length,by omega⟩
   have hmin : min (64 - (r.length : Int)) (b.length : Int) = (q : Int):=by omega
   have hqb : q ≤ b.length:=by omega
   have Hq:=Lib.hid hq;clear hq
   clear hbm own0
   go_upto_region 8 with (at_builtin;refine wpList_app byteW (by rfl) _ _ (by rfl) w2.heap.size _ 0 _ (by rfl) Own0.out _ r.length rc (r.map u8v) (by rfl) (by simp) (Hr.out.keep (keep_trans kw Km.out)) (one_w8 _) (by omega) (by unfold maxLen;omega) (by omega) ?_;intro v3 w3 own3 hg3 hat3)
   rw [Nat.zero_add,List.nil_append] at own3
   obtain ⟨A3,c3,rfl,hc3,hm3,hr3⟩:=own_form own3
   have Own3:=Lib.hid own3
   have k3:=keep_grown Km.out Km.out.size hg3 Own0.out
   clear own3 hr3
   have Brd:=Lib.hid (((Hb.out.take (64 - r.length)).keep (keep_trans kw k3)))
   have hbk : (r ++ b.take (64 - r.length)).length = 64:=by rw [List.length_append,List.length_take];omega
   go_upto_if 44 with (at_builtin;refine wpList_app byteW (by rfl) _ _ (by rfl) w2.heap.size _ r.length _ (by rfl) Own3.out _ (64 - r.length) c ((b.map u8v).take (64 - r.length)) (by rfl) (by simp;omega) Brd.out (fun u hu => one_w8 b u (List.mem_of_mem_take hu)) (by omega) (by unfold maxLen;omega) (by have:=k3.size;omega) ?_;intro v4 w4 own4 hg4 hat4;have own5:=own_eq own4 (n':=64) (xs':=(r ++ b.take (64 - r.length)).map u8v) (by omega) (by rw [List.map_append,List.map_take]);obtain ⟨A4,c4,rfl,hc4,hm4,hr4⟩:=own_form own5)
   have k4:=keep_grown k3 k3.size hg4 Own3.out
   have HO4:=Lib.hid (HO2.out.keep k4);have HR4:=Lib.hid (HR2.out.keep k4)
   have kw4:=keep_trans kw k4
   obtain ⟨x0,x1,x2,x3,x4,x5,x6,x7,_,_⟩:=HO4.out.all
   have Hr4:=Lib.hid hr4;have Hbk:=Lib.hid hbk
   clear own4 own5 hg3 hg4 hat3 hat4 hr4 x8 x8m hmk
   go_wp2_with fail
   refine (block_any v A4 _ c4 _ Hbk.out Hr4.out (HS.out.keep kw4)).mono ?_
   rintro e w5 ⟨rfl,k5⟩
   have HO5:=Lib.hid (HO4.out.keep k5);have HR5:=Lib.hid (HR4.out.keep k5)
   have kw5:=keep_trans kw4 k5
   obtain ⟨y0,y1,y2,y3,y4,y5,y6,y7,_,_⟩:=HO5.out.all
   obtain ⟨f0,f1,f2,f3,f4,f5,f6,f7,_,_⟩:=HO5.out.fr
   clear x0 x1 x2 x3 x4 x5 x6 x7
   have HF':=HF.out
   generalize hu : blockH v (r ++ b.take (64 - r.length)) = u
   have Hu:=Lib.hid hu;clear hu
   go_wp2
   all_goals go_meet
   all_goals refine ⟨_,b.drop (64 - r.length),_,u,by rw [List.length_drop],by rw [List.length_drop];omega,by omega,by rw [List.length_drop];omega,?_,by rw [← Hu.out];exact Summed.first v HF.out hrn hge,HO5.out.set8 u,?_,?_⟩
   all_goals first
    | (rw [List.map_drop];exact Hb.out.dropN (by simp;omega))
    | (rw [List.drop_eq_nil_of_le (by omega)];exact .inl rfl)
    | (repeat (refine Below.setCell ?_ (by simp;omega) _)
       exact kw5)
    | (refine ⟨?_⟩
       repeat (refine Blk.far ?_ (by simp;omega) _)
       exact HR5.out.b)
  ·have HF':=HF.out
   have hr1 : r = []:=List.eq_nil_of_length_eq_zero (by omega)
   have Hr1:=Lib.hid hr1;clear hr1
   go_wp2
   all_goals go_meet
   all_goals exact ⟨A,b,c,v,rfl,hbc,hcm,hbl,Hb.out,Summed.zero v HF.out Hr1.out,HO2.out,HR2.out,kw⟩
 case rest =>
  obtain ⟨A1,b1,c1,v1,rfl,hbc1,hcm1,hbl1,hb1,HS1,HO1,HR1,kw1⟩:=hcut
  have Hb1:=Lib.hid hb1;clear hb1
  go_wp2_with fail
  go_loopw [1] (fun s wr => ∃ A2 b2 c2 v2,s = .slice A2 b2.length c2∧b2.length ≤ c2∧c2 ≤ 9223372036854775807∧b2.length ≤ 100000000∧Rd w A2 (b2.map u8v)∧Hid (Summed F v b2 v2)∧Hid (StCells wr w1.heap.size v2 none 0 0 ((N : Int) + (b.length : Int)))∧Hid (StCells wr (w.heap.size + 1) h80 none 0 0 0)∧Keep w wr) (fun s _ => match s with | .slice _ n _ => n | _ => 0)
  case atStart => exact ⟨A1,b1,c1,v1,rfl,hbc1,hcm1,hbl1,Hb1.out,HS1,HO1,HR1,kw1⟩
  case round =>
   obtain ⟨A2,b2,c2,v2,rfl,hbc2,hcm2,hbl2,hb2,HS2,HO2,HR2,kw2⟩:=hrel
   have Hb2:=Lib.hid hb2;clear hb2
   by_cases hlt : 64 ≤ b2.length
   ·obtain ⟨x0,x1,x2,x3,x4,x5,x6,x7,_,_⟩:=HO2.out.all
    have HBl : Hid (∀ w',Keep w w' → ∀ c',Calls Tryd.prog 97 #[v2.agg,.slice A2 64 c'] w' fun e w'' => e = .returned (blockH v2 (b2.take 64)).agg∧Keep w' w''):=fun w' h c' => block_any v2 A2 (b2.take 64) c' w' (by rw [List.length_take];omega) (by rw [List.map_take];exact (Hb2.out.keep h).take 64) (HS.out.keep h)
    generalize hu : blockH v2 (b2.take 64) = u at HBl
    have Hu:=Lib.hid hu;clear hu
    go_wp2
    refine wp_region_tree (.take [0,1,2,3] (.force [4] (.take [5] .done))) [6] (by kernel_rfl) (by kernel_rfl) (fun w3 k3 => ?_)
    have a0:=aft_cell (keep_cell k3 x0);have a1:=aft_cell (keep_cell k3 x1);have a2:=aft_cell (keep_cell k3 x2);have a3:=aft_cell (keep_cell k3 x3)
    have a4:=aft_cell (keep_cell k3 x4);have a5:=aft_cell (keep_cell k3 x5);have a6:=aft_cell (keep_cell k3 x6);have a7:=aft_cell (keep_cell k3 x7)
    refine mt_take w3 (Below.refl _ _) ?_
    simp only [pick_cons,pick_nil,nth_zero,nth_succ]
    repeat (go_big_quiet_step (fail))
    refine wpQuiet_nil ?_
    clear a0 a1 a2 a3 a4 a5 a6 a7 x0 x1 x2 x3 x4 x5 x6 x7
    refine mt_force ?_
    simp only [pick_cons,pick_nil,nth_zero,nth_succ]
    refine fc_step rfl (fun K hK => ?_)
    go_simp
    have kw3:=keep_trans kw2 k3
    (with_reducible refine (HBl.out _ kw3 _).mono ?_)
    rintro e w4 ⟨rfl,hk⟩
    refine hK _ _ hk ?_
    clear hK K
    refine fc_nil ?_
    refine mt_take w4 (Below.refl _ _) ?_
    simp only [pick_cons,pick_nil,nth_zero,nth_succ]
    repeat (go_big_quiet_step (fail))
    refine wpQuiet_nil (mt_end ?_)
    have k4:=keep_trans k3 hk
    have HO4:=Lib.hid (HO2.out.keep k4);have HR4:=Lib.hid (HR2.out.keep k4)
    have kw4:=keep_trans kw3 hk
    obtain ⟨x0,x1,x2,x3,x4,x5,x6,x7,_,_⟩:=HO4.out.all
    obtain ⟨f0,f1,f2,f3,f4,f5,f6,f7,_,_⟩:=HO4.out.fr
    clear hk
    go_wp2
    go_roundw
    case rel =>
     refine ⟨_,b2.drop 64,c2 - 64,u,by rw [List.length_drop],by rw [List.length_drop];omega,by omega,by rw [List.length_drop];omega,by rw [List.map_drop];exact Hb2.out.dropS 64 c2 (by simpa using hlt) (by simpa using hbc2),by rw [← Hu.out];exact Summed.next HS2.out hlt,HO4.out.set8 u,?_,?_⟩
     ·refine ⟨?_⟩
      repeat (refine Blk.far ?_ (by simp;omega) _)
      exact HR4.out.b
     ·repeat (refine Below.setCell ?_ (by simp;omega) _)
      exact kw4
    case measure => simp;omega
   ·have hlt2 : b2.length < 64:=by omega
    have Hd:=Lib.hid (HS2.out.done hlt2)
    have hnn : ¬ (64 : Int) ≤ (b2.length : Int):=by omega
    go_upto_region 18 with (at_builtin;refine wpList_app byteW (by rfl) _ _ (by rfl) wr.heap.size _ 0 [] (by rfl) (own_zero _ _ _) _ b2.length c2 (b2.map u8v) (by rfl) (by simp) (Hb2.out.keep (keep_trans kw2 (keep_new _ _))) (one_w8 _) (by omega) (by unfold maxLen;omega) (by simp) ?_;intro v9 w9 own9 hg9 hat9;have own10:=own_eq own9 (n':=b2.length) (xs':=b2.map u8v) (by omega) (by simp);obtain ⟨A9,c9,rfl,hc9,hm9,hr9⟩:=own_form own10;have Hf9:=Lib.hid (own_fresh own10);have k9:=keep_grown (keep_new wr _) (by simp) hg9 (own_zero _ _ 1);have HO9:=Lib.hid (HO2.out.keep k9);have HR9:=Lib.hid (HR2.out.keep k9);obtain ⟨x0,x1,x2,x3,x4,x5,x6,x7,x8,x9⟩:=HO9.out.all;obtain ⟨f0,f1,f2,f3,f4,f5,f6,f7,f8,f9⟩:=HO9.out.fr;obtain ⟨y0,y1,y2,y3,y4,y5,y6,y7,y8,y9⟩:=HR9.out.all;obtain ⟨g0,g1,g2,g3,g4,g5,g6,g7,g8,g9⟩:=HR9.out.fr;have Hr9:=Lib.hid hr9;clear own9 own10 hr9 hg9 hat9)
    go_wp2
    have hws:=kw2.size
    have hw1:=HO2.out.b.lt
    have hw2:=HR2.out.b.lt
    refine bodyPost_ret (v:=SV v2 A9 b2.length c9 ((N : Int) + (b.length : Int))) (results_cell_row Tryd.results80 _ _ (w.heap.size + 1) _ _ _ _ rfl (StCells.set10 ⟨HR9.out.b.far (p:=⟨w1.heap.size,8,none⟩) (by simp;omega) _⟩ v2 A9 b2.length c9 _) Tryd.underlying173 rfl (by kernel_rfl)) rfl ?_
    obtain ⟨e1,e2,e3⟩:=Hd.out
    rw [e1,e2,← List.map_drop,e3]
    refine ⟨A9,⟨c9,rfl⟩,?_,?_⟩
    ·rcases Hf9.out with h0 | ⟨g,off,rfl,hg⟩
     ·rw [List.eq_nil_of_length_eq_zero h0];exact .inl rfl
     ·iterate 11 (refine Rd.far ?_ (by simp;omega) _)
      exact Hr9.out
    ·iterate 11 (refine Below.setCell ?_ (by first | (simp;omega) | simp) _)
     exact keep_trans kw2 k9
end Go.Proofs.YtffpanlpbdnafaaDoor
namespace Go.Proofs.YtffpanlpbdnafaaDoor
open Go.RowKit
attribute [local go_sem ↓] Go.wp_at_zero Go.wp_at_succ
def byE (x : UInt32) (d : Int) : Int:=(x.toNat : Int) / d % 256
def outK (V : List UInt32) : Nat → List UInt8
 | 0 => List.replicate 32 0
 | k + 1 => ((((outK V k).set (4 * k) (w8 (byE (V.getD k 0) 16777216))).set (4 * k + 1) (w8 (byE (V.getD k 0) 65536))).set (4 * k + 2) (w8 (byE (V.getD k 0) 256))).set (4 * k + 3) (w8 (byE (V.getD k 0) 1))
theorem outK_len (V : List UInt32) (k : Nat) : (outK V k).length = 32:=by
 induction k with
 | zero => rfl
 | succ k ih => rw [outK,List.length_set,List.length_set,List.length_set,List.length_set,ih]
def outH (V : H8) : List UInt8:=outK V.l 8
theorem outH_len (V : H8) : (outH V).length = 32:=outK_len _ _
def endH (v : H8) (r : List UInt8) (N : Nat) : H8:=blocks v (r ++ padK N 8) ((r ++ padK N 8).length / 64)
def sumL (l : List UInt8) : List UInt8:=outH (endH (blocks h0V l (l.length / 64)) (l.drop (64 * (l.length / 64))) l.length)
def dblL (l : List UInt8) : List UInt8:=sumL (sumL l)
theorem sumL_len (l : List UInt8) : (sumL l).length = 32:=by unfold sumL;exact outH_len _
theorem dblL_len (l : List UInt8) : (dblL l).length = 32:=by unfold dblL;exact sumL_len _
theorem idx8 (V : H8) (k : Nat) (hk : k < 8) (y : UInt32) (hy : V.l[k]? = some y) (w : World) :
  (Instr.index 171 (.agg #[.int .u32 V.a.toNat,.int .u32 V.b.toNat,.int .u32 V.c.toNat,.int .u32 V.d.toNat,.int .u32 V.e.toNat,.int .u32 V.f.toNat,.int .u32 V.g.toNat,.int .u32 V.h.toNat]) (.int .i64 k)).run Tryd.prog w = .ok (u32v y) w:=by
 rcases (show k = 0 ∨ k = 1 ∨ k = 2 ∨ k = 3 ∨ k = 4 ∨ k = 5 ∨ k = 6 ∨ k = 7 by omega) with rfl | rfl | rfl | rfl | rfl | rfl | rfl | rfl
 all_goals
  clear hk
  simp only [H8.l,List.getElem?_cons_zero,List.getElem?_cons_succ,Option.some.injEq] at hy
  subst hy
  first | (go_simp;done) | (simp [Instr.index,asIntOf,run_underlying Tryd.underlying171,go_sem];done)
set_option maxRecDepth 100000 in
set_option maxHeartbeats 3000000 in
theorem end_any (v : H8) (RA : Option Addr) (r : List UInt8) (rc N : Nat) (w : World) (hS : ShaOk w) (hr : Rd w RA (r.map u8v)) (hrl : r.length = N % 64) (hN : N ≤ 100000000000) :
  Calls Tryd.prog 79 #[SV v RA r.length rc N] w fun e w' => e = .returned (hashV (outH (endH v r N)))∧Keep w w':=by
 have hpl:=padK_len N 8
 have P1 : Hid (∀ w',Keep w w' → Calls Tryd.prog 96 #[.int .u64 N] w' fun e w'' => ∃ A',e = .returned (.slice A' (padK N 8).length (padK N 8).length)∧Rd w'' A' ((padK N 8).map u8v)∧Keep w' w''):=fun w' hk =>
  (pad_any N w' (by omega)).mono fun e w'' ⟨h1,h2,h3⟩ => ⟨_,by rw [h1,hpl],h2.rd,h3⟩
 have W1 : Hid (∀ w' A',Keep w w' → Rd w' A' ((padK N 8).map u8v) → Calls Tryd.prog 80 #[SV v RA r.length rc N,.slice A' (padK N 8).length (padK N 8).length] w' fun e w'' => ∃ A2 n2 c2 N2,e = .returned (SV (endH v r N) A2 n2 c2 N2)∧Keep w' w''):=fun w' A' hk hp =>
  (write_any v RA r rc N A' (padK N 8) _ w' (hS.keep hk) (hr.keep hk) hrl hp (Nat.le_refl _) (by rw [hpl];unfold padZ maxLen;split <;> omega) (by rw [hpl];unfold padZ;split <;> omega) hN (by right;rw [hpl,hrl];unfold padZ;split <;> omega)).mono
   fun e w'' ⟨A',c',h1,h2,h3⟩ => ⟨_,_,_,_,h1,h3⟩
 have Hrl:=Lib.hid hrl
 have hrn : r.length < 64:=by omega
 clear hpl hrl hr hS
 generalize endH v r N = V at *
 generalize padK N 8 = pd at *
 go_enter Tryd.func79,Tryd.ntmps79
 go_wp2_with fail
 refine (ssane_any v RA r.length rc N _ hrn (by omega) Hrl.out).mono ?_
 rintro e w1 ⟨rfl,k1⟩
 have HX1 : Hid (StCells w1 w.heap.size v RA r.length rc N):=⟨((StCells.new w w.heap.size v RA r.length rc N rfl).b.alloc _).keep k1⟩
 have HR1:=Lib.hid ((z32_blk (w.alloc (.cells #[u32v v.a,u32v v.b,u32v v.c,u32v v.d,u32v v.e,u32v v.f,u32v v.g,u32v v.h,.slice RA r.length rc,.int .u64 N] 173)) (w.heap.size + 1) 39 (by simp)).keep k1)
 have hz1 : w.heap.size + 2 ≤ w1.heap.size:=by have:=k1.size;simpa using this
 have kw:=keep_trans (keep_trans (keep_new _ _) (keep_new _ _)) k1
 clear k1
 obtain ⟨x0,x1,x2,x3,x4,x5,x6,x7,x8,x9⟩:=HX1.out.all
 go_wp2_with fail
 refine wp_region_tree (.take [0,1,2] (.force [3,4] .done)) [5] (by kernel_rfl) (by kernel_rfl) (fun w3 k3 => ?_)
 have a0:=aft_cell (keep_cell k3 x0);have a1:=aft_cell (keep_cell k3 x1);have a2:=aft_cell (keep_cell k3 x2);have a3:=aft_cell (keep_cell k3 x3)
 have a4:=aft_cell (keep_cell k3 x4);have a5:=aft_cell (keep_cell k3 x5);have a6:=aft_cell (keep_cell k3 x6);have a7:=aft_cell (keep_cell k3 x7)
 have a8:=aft_cell (keep_cell k3 x8);have a9:=aft_cell (keep_cell k3 x9)
 refine mt_take w3 (Below.refl _ _) ?_
 simp only [pick_cons,pick_nil,nth_zero,nth_succ]
 repeat (go_big_quiet_step (fail))
 refine wpQuiet_nil ?_
 clear a0 a1 a2 a3 a4 a5 a6 a7 a8 a9 x0 x1 x2 x3 x4 x5 x6 x7 x8 x9
 refine mt_force ?_
 simp only [pick_cons,pick_nil,nth_zero,nth_succ]
 refine fc_step rfl (fun K hK => ?_)
 go_simp
 have kw3:=keep_trans kw k3
 (with_reducible refine (P1.out _ kw3).mono ?_)
 rintro e w4 ⟨A4,rfl,hr4,hk⟩
 refine hK _ _ hk ?_
 clear hK K
 have kw4:=keep_trans kw3 hk
 have Hr4:=Lib.hid hr4
 have k4:=keep_trans k3 hk
 clear hk hr4
 refine fc_step rfl (fun K hK => ?_)
 go_simp
 (with_reducible refine (W1.out _ _ kw4 Hr4.out).mono ?_)
 rintro e w5 ⟨A5,n5,c5,N5,rfl,hk⟩
 refine hK _ _ hk ?_
 clear hK K
 have kw5:=keep_trans kw4 hk
 have k5:=keep_trans k4 hk
 have HX5:=Lib.hid (HX1.out.keep k5);have HR5:=Lib.hid (HR1.out.keep k5)
 have hz5:=k5.size
 clear hk
 refine fc_nil (mt_end ?_)
 obtain ⟨x0,x1,x2,x3,x4,x5,x6,x7,x8,x9⟩:=HX5.out.all
 obtain ⟨f0,f1,f2,f3,f4,f5,f6,f7,f8,f9⟩:=HX5.out.fr
 have hzl : w.heap.size < w5.heap.size:=by omega
 go_wp2_with fail
 obtain ⟨wq,hwq⟩ : ∃ wq,wq = ((((((((((w5.setCell ⟨w.heap.size,0,none⟩ (u32v V.a)).setCell ⟨w.heap.size,1,none⟩ (u32v V.b)).setCell ⟨w.heap.size,2,none⟩ (u32v V.c)).setCell ⟨w.heap.size,3,none⟩ (u32v V.d)).setCell ⟨w.heap.size,4,none⟩ (u32v V.e)).setCell ⟨w.heap.size,5,none⟩ (u32v V.f)).setCell ⟨w.heap.size,6,none⟩ (u32v V.g)).setCell ⟨w.heap.size,7,none⟩ (u32v V.h)).setCell ⟨w.heap.size,8,none⟩ (.slice A5 n5 c5)).setCell ⟨w.heap.size,9,none⟩ (.int .u64 N5)):=⟨_,rfl⟩
 have hzq : wq.heap.size = w5.heap.size:=by rw [hwq];simp
 have kwq : Keep w wq:=by
  rw [hwq]
  iterate 10 (refine Below.setCell ?_ (by simp) _)
  exact kw5
 have hrq : Blk wq (w.heap.size + 1) 39 ((List.replicate 32 (0 : UInt8)).map u8v):=by
  rw [hwq]
  iterate 10 (refine Blk.far ?_ (by simp) _)
  exact HR5.out
 rw [← hwq]
 clear hwq x0 x1 x2 x3 x4 x5 x6 x7 x8 x9 f0 f1 f2 f3 f4 f5 f6 f7 f8 f9
 rw [← hzq]
 have hsq : w.heap.size + 1 < wq.heap.size:=by omega
 clear hzq
 have ho6:=z32_blk wq wq.heap.size 39 rfl
 have hr6:=hrq.alloc (.cells #[.int .u8 0,.int .u8 0,.int .u8 0,.int .u8 0,.int .u8 0,.int .u8 0,.int .u8 0,.int .u8 0,.int .u8 0,.int .u8 0,.int .u8 0,.int .u8 0,.int .u8 0,.int .u8 0,.int .u8 0,.int .u8 0,.int .u8 0,.int .u8 0,.int .u8 0,.int .u8 0,.int .u8 0,.int .u8 0,.int .u8 0,.int .u8 0,.int .u8 0,.int .u8 0,.int .u8 0,.int .u8 0,.int .u8 0,.int .u8 0,.int .u8 0,.int .u8 0] 39)
 have kw6:=keep_trans kwq (keep_new wq (.cells #[.int .u8 0,.int .u8 0,.int .u8 0,.int .u8 0,.int .u8 0,.int .u8 0,.int .u8 0,.int .u8 0,.int .u8 0,.int .u8 0,.int .u8 0,.int .u8 0,.int .u8 0,.int .u8 0,.int .u8 0,.int .u8 0,.int .u8 0,.int .u8 0,.int .u8 0,.int .u8 0,.int .u8 0,.int .u8 0,.int .u8 0,.int .u8 0,.int .u8 0,.int .u8 0,.int .u8 0,.int .u8 0,.int .u8 0,.int .u8 0,.int .u8 0,.int .u8 0] 39))
 have Ho6:=Lib.hid ho6;have Hr6:=Lib.hid hr6
 generalize wq.alloc (.cells #[.int .u8 0,.int .u8 0,.int .u8 0,.int .u8 0,.int .u8 0,.int .u8 0,.int .u8 0,.int .u8 0,.int .u8 0,.int .u8 0,.int .u8 0,.int .u8 0,.int .u8 0,.int .u8 0,.int .u8 0,.int .u8 0,.int .u8 0,.int .u8 0,.int .u8 0,.int .u8 0,.int .u8 0,.int .u8 0,.int .u8 0,.int .u8 0,.int .u8 0,.int .u8 0,.int .u8 0,.int .u8 0,.int .u8 0,.int .u8 0,.int .u8 0,.int .u8 0] 39) = w6 at Ho6 Hr6 kw6 ⊢
 clear ho6 hr6
 go_loopw [17] (fun i wr => ∃ k : Nat,k ≤ 8∧i = .int .i64 k∧Keep w wr∧Blk wr (w.heap.size + 1) 39 ((List.replicate 32 (0 : UInt8)).map u8v)∧Blk wr wq.heap.size 39 ((outK V.l k).map u8v)) (fun i _ => 8 - (intOf i).toNat)
 case atStart => exact ⟨0,by omega,rfl,kw6,Hr6.out,Ho6.out⟩
 case round =>
  obtain ⟨k,hk,rfl,hkr,hbr,hbo⟩:=hrel
  by_cases hlt : k < 8
  ·obtain ⟨y,hy⟩ : ∃ y,V.l[k]? = some y:=⟨_,List.getElem?_eq_getElem (by exact hlt)⟩
   have hix:=idx8 V k hlt y hy wr
   have Hou:=Lib.hid (show outK V.l (k + 1) = ((((outK V.l k).set (4 * k) (w8 (byE y 16777216))).set (4 * k + 1) (w8 (byE y 65536))).set (4 * k + 2) (w8 (byE y 256))).set (4 * k + 3) (w8 (byE y 1)) by rw [outK,getD_of hy])
   have HL0:=Lib.hid (outK_len V.l k)
   have Hbr:=Lib.hid hbr;have Hbo0:=Lib.hid hbo
   clear hbr hbo hy
   have Hkr0:=Lib.hid hkr
   have hwz:=hkr.size
   obtain ⟨o0,h0⟩ : ∃ o,(outK V.l k)[4 * k]? = some o:=⟨_,List.getElem?_eq_getElem (by rw [HL0.out];omega)⟩
   have c0:=Hbo0.out.cell (4 * k);rw [List.getElem?_map,h0,Option.map_some] at c0
   have f0:=Hbo0.out.frozen (4 * k)
   clear h0
   go_upto_region 9 with fail
   obtain ⟨wa,hw0⟩ : ∃ ww,ww = wr.setCell ⟨wq.heap.size,4 * k,none⟩ (.int .u8 ((y.toNat : Int) / 16777216 % 256)):=⟨_,rfl⟩
   have Hbo1 : Hid (Blk wa wq.heap.size 39 (((outK V.l k).set (4 * k) (w8 (byE y 16777216))).map u8v)):=by
    rw [set_map8 _ _ (byE y 16777216) (by unfold byE;omega) (by unfold byE;omega),hw0]
    have h:=Hbo0.out.set_ (4 * k) (.int .u8 (byE y 16777216))
    exact h
   have HL1 : Hid (((outK V.l k).set (4 * k) (w8 (byE y 16777216))).length = 32):=by
    have h:=HL0.out
    show (List.set _ _ _).length = 32
    rw [List.length_set];exact h
   have Hbr1 : Hid (Blk wa (w.heap.size + 1) 39 ((List.replicate 32 (0 : UInt8)).map u8v)):=by rw [hw0];exact Hbr.out.far (by simp;omega) _
   have Hkr1 : Hid (Keep w wa):=by rw [hw0];exact Hkr0.out.setCell (by simp;omega) _
   rw [← hw0]
   clear hw0 c0 f0
   obtain ⟨o1,h1⟩ : ∃ o,((outK V.l k).set (4 * k) (w8 (byE y 16777216)))[4 * k + 1]? = some o:=⟨_,List.getElem?_eq_getElem (by rw [HL1.out];omega)⟩
   have c1:=Hbo1.out.cell (4 * k + 1);rw [List.getElem?_map,h1,Option.map_some] at c1
   have f1:=Hbo1.out.frozen (4 * k + 1)
   clear h1
   go_upto_region 10 with fail
   obtain ⟨wb,hw1⟩ : ∃ ww,ww = wa.setCell ⟨wq.heap.size,4 * k + 1,none⟩ (.int .u8 ((y.toNat : Int) / 65536 % 256)):=⟨_,rfl⟩
   have Hbo2 : Hid (Blk wb wq.heap.size 39 ((((outK V.l k).set (4 * k) (w8 (byE y 16777216))).set (4 * k + 1) (w8 (byE y 65536))).map u8v)):=by
    rw [set_map8 _ _ (byE y 65536) (by unfold byE;omega) (by unfold byE;omega),hw1]
    have h:=Hbo1.out.set_ (4 * k + 1) (.int .u8 (byE y 65536))
    exact h
   have HL2 : Hid ((((outK V.l k).set (4 * k) (w8 (byE y 16777216))).set (4 * k + 1) (w8 (byE y 65536))).length = 32):=by
    have h:=HL1.out
    show (List.set _ _ _).length = 32
    rw [List.length_set];exact h
   have Hbr2 : Hid (Blk wb (w.heap.size + 1) 39 ((List.replicate 32 (0 : UInt8)).map u8v)):=by rw [hw1];exact Hbr1.out.far (by simp;omega) _
   have Hkr2 : Hid (Keep w wb):=by rw [hw1];exact Hkr1.out.setCell (by simp;omega) _
   rw [← hw1]
   clear hw1 c1 f1
   obtain ⟨o2,h2⟩ : ∃ o,(((outK V.l k).set (4 * k) (w8 (byE y 16777216))).set (4 * k + 1) (w8 (byE y 65536)))[4 * k + 2]? = some o:=⟨_,List.getElem?_eq_getElem (by rw [HL2.out];omega)⟩
   have c2:=Hbo2.out.cell (4 * k + 2);rw [List.getElem?_map,h2,Option.map_some] at c2
   have f2:=Hbo2.out.frozen (4 * k + 2)
   clear h2
   go_upto_region 11 with fail
   obtain ⟨wc,hw2⟩ : ∃ ww,ww = wb.setCell ⟨wq.heap.size,4 * k + 2,none⟩ (.int .u8 ((y.toNat : Int) / 256 % 256)):=⟨_,rfl⟩
   have Hbo3 : Hid (Blk wc wq.heap.size 39 (((((outK V.l k).set (4 * k) (w8 (byE y 16777216))).set (4 * k + 1) (w8 (byE y 65536))).set (4 * k + 2) (w8 (byE y 256))).map u8v)):=by
    rw [set_map8 _ _ (byE y 256) (by unfold byE;omega) (by unfold byE;omega),hw2]
    have h:=Hbo2.out.set_ (4 * k + 2) (.int .u8 (byE y 256))
    exact h
   have HL3 : Hid (((((outK V.l k).set (4 * k) (w8 (byE y 16777216))).set (4 * k + 1) (w8 (byE y 65536))).set (4 * k + 2) (w8 (byE y 256))).length = 32):=by
    have h:=HL2.out
    show (List.set _ _ _).length = 32
    rw [List.length_set];exact h
   have Hbr3 : Hid (Blk wc (w.heap.size + 1) 39 ((List.replicate 32 (0 : UInt8)).map u8v)):=by rw [hw2];exact Hbr2.out.far (by simp;omega) _
   have Hkr3 : Hid (Keep w wc):=by rw [hw2];exact Hkr2.out.setCell (by simp;omega) _
   rw [← hw2]
   clear hw2 c2 f2
   obtain ⟨o3,h3⟩ : ∃ o,((((outK V.l k).set (4 * k) (w8 (byE y 16777216))).set (4 * k + 1) (w8 (byE y 65536))).set (4 * k + 2) (w8 (byE y 256)))[4 * k + 3]? = some o:=⟨_,List.getElem?_eq_getElem (by rw [HL3.out];omega)⟩
   have c3:=Hbo3.out.cell (4 * k + 3);rw [List.getElem?_map,h3,Option.map_some] at c3
   have f3:=Hbo3.out.frozen (4 * k + 3)
   clear h3
   go_upto_region 12 with fail
   obtain ⟨wd,hw3⟩ : ∃ ww,ww = wc.setCell ⟨wq.heap.size,4 * k + 3,none⟩ (.int .u8 ((y.toNat : Int) % 256)):=⟨_,rfl⟩
   have Hbo4 : Hid (Blk wd wq.heap.size 39 ((((((outK V.l k).set (4 * k) (w8 (byE y 16777216))).set (4 * k + 1) (w8 (byE y 65536))).set (4 * k + 2) (w8 (byE y 256))).set (4 * k + 3) (w8 (byE y 1))).map u8v)):=by
    rw [set_map8 _ _ (byE y 1) (by unfold byE;omega) (by unfold byE;omega),hw3]
    have h:=Hbo3.out.set_ (4 * k + 3) (.int .u8 (byE y 1))
    unfold byE at h ⊢;rw [Int.ediv_one] at h ⊢;exact h
   have HL4 : Hid ((((((outK V.l k).set (4 * k) (w8 (byE y 16777216))).set (4 * k + 1) (w8 (byE y 65536))).set (4 * k + 2) (w8 (byE y 256))).set (4 * k + 3) (w8 (byE y 1))).length = 32):=by
    have h:=HL3.out
    show (List.set _ _ _).length = 32
    rw [List.length_set];exact h
   have Hbr4 : Hid (Blk wd (w.heap.size + 1) 39 ((List.replicate 32 (0 : UInt8)).map u8v)):=by rw [hw3];exact Hbr3.out.far (by simp;omega) _
   have Hkr4 : Hid (Keep w wd):=by rw [hw3];exact Hkr3.out.setCell (by simp;omega) _
   rw [← hw3]
   clear hw3 c3 f3
   go_wp2
   go_roundw
   case rel =>
    refine ⟨k + 1,by omega,by go_num,Hkr4.out,Hbr4.out,?_⟩
    rw [Hou.out]
    exact Hbo4.out
   case measure => simp [intOf];omega
  ·have Hk:=Lib.hid (show k = 8 by omega)
   have hxl:=outK_len V.l k
   generalize hx : outK V.l k = x at hbo hxl
   have Hx:=Lib.hid hx;clear hx
   obtain ⟨cs,hcs⟩ : ∃ cs : Array Value,cs.toList = x.map u8v:=⟨(x.map u8v).toArray,rfl⟩
   have hcz : cs.size = 32:=by rw [← Array.length_toList,hcs,List.length_map,hxl]
   have hci : (Tryd.prog.info? 39).map (·.size) = some cs.size:=by rw [hcz];kernel_rfl
   have hcn : ¬ cs = #[]:=by intro h;rw [h] at hcz;simp at hcz
   rw [← hcs] at hbo
   obtain ⟨w8,hst,hb8,hg8⟩:=run_store_blk (P:=Tryd.prog) cs.toList hbr (by simp [hcz]) (by rw [hcs];exact one_w8 _)
   have Hbo:=Lib.hid hbo;have Hb8:=Lib.hid hb8;have Hg8:=Lib.hid hg8;have Hcs:=Lib.hid hcs
   clear hbo hb8 hg8 hcs hbr
   go_upto_region 13 with fail
   go_wp2_with ((with_reducible refine load_arr wq.heap.size cs (Eq.trans ?_ rfl) Hbo.out (.array 32 5) (show Tryd.prog.underlying 39 = _ by kernel_rfl) (arr_row _ _) hci ?_);rfl)
   have hb8:=Hb8.out
   refine bodyPost_ret (v:=.agg cs) (results_cell_row Tryd.results79 _ _ (w.heap.size + 1) _ _ _ (.array 32 5) rfl hb8 (by kernel_rfl) rfl (by rw [List.size_toArray,Array.length_toList,hcz];kernel_rfl)) rfl ⟨?_,hkr.grown Hg8.out (by have:=hkr.size;omega) (fun q hq => by injection hq with hq;omega)⟩
   rw [show cs = (x.map u8v).toArray from by rw [← Hcs.out,Array.toArray_toList],← Hx.out,Hk.out]
   rfl
set_option maxRecDepth 100000 in
set_option maxHeartbeats 1000000 in
theorem sum_any (A : Option Addr) (l : List UInt8) (c : Nat) (w : World) (hS : ShaOk w) (hr : Rd w A (l.map u8v)) (hlc : l.length ≤ c) (hcm : c ≤ maxLen) (hl : l.length ≤ 100000000) :
  Calls Tryd.prog 62 #[.slice A l.length c] w fun e w' => e = .returned (hashV (sumL l))∧Keep w w':=by
 obtain ⟨cs,hcs⟩ : ∃ cs,HashA (sumL l) cs:=⟨_,HashA.of (sumL_len l)⟩
 have E1 : Hid (∀ w' A' c',Keep w w' → Rd w' A' ((l.drop (64 * (l.length / 64))).map u8v) → Calls Tryd.prog 79 #[SV (blocks h0V l (l.length / 64)) A' (l.length % 64) c' l.length] w' fun e w'' => e = .returned (.agg cs)∧Keep w' w''):=fun w' A' c' hk hr' => by
  have hm : (l.drop (64 * (l.length / 64))).length = l.length % 64:=by rw [List.length_drop];omega
  have h:=end_any (blocks h0V l (l.length / 64)) A' (l.drop (64 * (l.length / 64))) c' l.length w' (hS.keep hk) hr' hm (by omega)
  rw [hm] at h
  refine h.mono fun e w'' ⟨h1,h2⟩ => ⟨?_,h2⟩
  rw [h1,← hcs.e];rfl
 have W1 : Hid (∀ w',Keep w w' → Calls Tryd.prog 80 #[SV h0V none 0 0 0,.slice A l.length c] w' fun e w'' => ∃ A' c',e = .returned (SV (blocks h0V l (l.length / 64)) A' (l.length % 64) c' l.length)∧Rd w'' A' ((l.drop (64 * (l.length / 64))).map u8v)∧Keep w' w''):=fun w' hk => by
  have h:=write_any h0V none [] 0 0 A l c w' (hS.keep hk) (.inl rfl) rfl (hr.keep hk) hlc hcm hl (by omega) (.inl rfl)
  simp only [List.nil_append,Nat.zero_add,List.length_nil] at h
  exact h
 have S1 : Hid (∀ w',Keep w w' → Calls Tryd.prog 81 #[] w' fun e w'' => e = .returned (SV h0V none 0 0 0)∧Keep w' w''):=fun w' hk => start_any w' (hS.keep hk)
 rw [show (hashV (sumL l)) = .agg cs by rw [← hcs.e]]
 generalize blocks h0V l (l.length / 64) = V at *
 generalize l.drop (64 * (l.length / 64)) = lr at *
 generalize l.length % 64 = nr at *
 obtain ⟨zs,hzs⟩ : ∃ zs,zs = zhash:=⟨_,rfl⟩
 have hz1 : zs.size = 32:=by rw [hzs];exact zhash_size
 have hz2 : ∀ w,(zeroValue 39).run Tryd.prog w = .ok (.agg zs) w:=fun w => by rw [hzs];exact zhash_zero w
 have hz3 : ¬ zs = #[]:=fun h => by rw [h] at hz1;cases hz1
 have hcz:=hcs.z;have hcn:=hcs.n
 have Hcs:=Lib.hid hcs
 clear hzs hcs hr hS
 go_enter Tryd.func62,Tryd.ntmps62
 go_wp2_with fail
 refine (S1.out _ (keep_new _ _)).mono ?_
 rintro e w1 ⟨rfl,k1⟩
 have kw1:=keep_trans (keep_new w _) k1
 have Hb1:=Lib.hid ((show Blk _ w.heap.size 39 zs.toList from Blk.new w 39 zs.toList).keep k1)
 go_wp2_with fail
 refine (W1.out _ kw1).mono ?_
 rintro e w2 ⟨A2,c2,rfl,hr2,k2⟩
 have Hr2:=Lib.hid hr2;clear hr2
 have kw2:=keep_trans kw1 k2
 go_wp2_with fail
 refine (E1.out _ _ _ kw2 Hr2.out).mono ?_
 rintro e w3 ⟨rfl,k3⟩
 have kw3:=keep_trans kw2 k3
 obtain ⟨w8,hst,hb8,hg8⟩:=run_store_blk (P:=Tryd.prog) cs.toList (Hb1.out.keep (keep_trans k2 k3)) (by simp [hz1,hcz]) Hcs.out.o
 have Hg8:=Lib.hid hg8;have Hb8:=Lib.hid hb8;clear hg8 hb8
 go_wp2
 have hb8:=Hb8.out
 exact bodyPost_ret (v:=.agg cs) (results_cell_row Tryd.results62 _ _ w.heap.size _ _ _ (.array 32 5) rfl hb8 hash_under rfl (by rw [List.size_toArray,Array.length_toList];exact Hcs.out.i)) rfl ⟨rfl,kw3.grown Hg8.out kw3.size (fun q hq => by injection hq with hq;omega)⟩
set_option maxRecDepth 100000 in
set_option maxHeartbeats 1000000 in
theorem double_any (A : Option Addr) (l : List UInt8) (c : Nat) (w : World) (hS : ShaOk w) (hr : Rd w A (l.map u8v)) (hlc : l.length ≤ c) (hcm : c ≤ maxLen) (hl : l.length ≤ 100000000) :
  Calls Tryd.prog 43 #[.slice A l.length c] w fun e w' => e = .returned (hashV (dblL l))∧Keep w w':=by
 obtain ⟨cs,hcs⟩ : ∃ cs,HashA (sumL l) cs:=⟨_,HashA.of (sumL_len l)⟩
 obtain ⟨ds,hds⟩ : ∃ ds,HashA (dblL l) ds:=⟨_,HashA.of (dblL_len l)⟩
 have E1 : Hid (∀ w',Keep w w' → Calls Tryd.prog 62 #[.slice A l.length c] w' fun e w'' => e = .returned (.agg cs)∧Keep w' w''):=fun w' hk =>
  (sum_any A l c w' (hS.keep hk) (hr.keep hk) hlc hcm hl).mono fun e w'' ⟨h1,h2⟩ => ⟨by rw [h1,← hcs.e],h2⟩
 have E2 : Hid (∀ w' g,Keep w w' → Rd w' (some ⟨g,0,none⟩) cs.toList → Calls Tryd.prog 62 #[.slice (some ⟨g,0,none⟩) 32 32] w' fun e w'' => e = .returned (.agg ds)∧Keep w' w''):=fun w' g hk hr' => by
  have h:=sum_any (some ⟨g,0,none⟩) (sumL l) 32 w' (hS.keep hk) (by rw [← hcs.l];exact hr') (by rw [sumL_len];omega) (by unfold maxLen;omega) (by rw [sumL_len];omega)
  rw [sumL_len] at h
  exact h.mono fun e w'' ⟨h1,h2⟩ => ⟨by rw [h1,← hds.e];rfl,h2⟩
 rw [show (hashV (dblL l)) = .agg ds by rw [← hds.e]]
 obtain ⟨zs,hzs⟩ : ∃ zs,zs = zhash:=⟨_,rfl⟩
 have hz1 : zs.size = 32:=by rw [hzs];exact zhash_size
 have hz2 : ∀ w,(zeroValue 39).run Tryd.prog w = .ok (.agg zs) w:=fun w => by rw [hzs];exact zhash_zero w
 have hz3 : ¬ zs = #[]:=fun h => by rw [h] at hz1;cases hz1
 have hcz:=hcs.z;have hcn:=hcs.n
 have hdz:=hds.z;have hdn:=hds.n
 have Hcs:=Lib.hid hcs;have Hds:=Lib.hid hds
 have hst1 : ∀ ww : World,(storeCells ⟨ww.heap.size,0,none⟩ cs.toList 0).run Tryd.prog (ww.alloc (.cells zs 39)) = .ok () (ww.alloc (.cells cs 39)):=fun ww => run_storeCells_new (P:=Tryd.prog) ww 39 zs cs Hcs.out.i (hz1.trans hcz.symm) (by have:=all_oneCell_toArray Hcs.out.o;rwa [Array.toArray_toList] at this)
 clear hzs hcs hds hr hS
 go_enter Tryd.func43,Tryd.ntmps43
 go_wp2_with fail
 refine (E1.out _ (keep_new _ _)).mono ?_
 rintro e w1 ⟨rfl,k1⟩
 have kw1:=keep_trans (keep_new w _) k1
 have Hb1:=Lib.hid ((show Blk _ w.heap.size 39 zs.toList from Blk.new w 39 zs.toList).keep k1)
 go_wp2_with fail
 have hbn : Blk (w1.alloc (.cells cs 39)) w1.heap.size 39 cs.toList:=Blk.new w1 39 cs.toList
 refine (E2.out _ _ (keep_trans kw1 (keep_new _ _)) hbn.rd).mono ?_
 rintro e w2 ⟨rfl,k2⟩
 have kw2:=keep_trans (keep_trans kw1 (keep_new w1 (.cells cs 39))) k2
 obtain ⟨w8,hst,hb8,hg8⟩:=run_store_blk (P:=Tryd.prog) ds.toList ((Hb1.out.alloc _).keep k2) (by simp [hz1,hdz]) Hds.out.o
 have Hg8:=Lib.hid hg8;have Hb8:=Lib.hid hb8;clear hg8 hb8 hst1
 go_wp2
 have hb8:=Hb8.out
 exact bodyPost_ret (v:=.agg ds) (results_cell_row Tryd.results43 _ _ w.heap.size _ _ _ (.array 32 5) rfl hb8 hash_under rfl (by rw [List.size_toArray,Array.length_toList];exact Hds.out.i)) rfl ⟨rfl,kw2.grown Hg8.out kw2.size (fun q hq => by injection hq with hq;omega)⟩
end Go.Proofs.YtffpanlpbdnafaaDoor
/- bytes.Equal. -/
set_option linter.unusedSimpArgs false
set_option linter.unusedVariables false
namespace Go.Proofs.YtffpanlpbdnafaaDoor
open Go.RowKit
attribute [local go_sem ↓] Go.wp_at_zero Go.wp_at_succ
theorem bytes_str {A : Option Addr} {l : List UInt8} {w : World} (n c : Nat) (hn : n = l.length) (hr : Rd w A (l.map u8v)) : (convert 26 9 (.slice A n c)).run Tryd.prog w = .ok (.string (str l)) w:=by
 subst hn
 exact run_bytes_str Tryd.underlying26 Tryd.underlying5 Tryd.underlying9 _ hr
set_option maxHeartbeats 400000 in
theorem equal_any (A : Option Addr) (a : List UInt8) (n c : Nat) (B : Option Addr) (b : List UInt8) (m d : Nat) (w : World) (ha : Rd w A (a.map u8v)) (hb : Rd w B (b.map u8v)) (hn : n = a.length) (hm : m = b.length) :
  Calls Tryd.prog 44 #[.slice A n c,.slice B m d] w fun e w' => e = .returned (.bool (decide (a = b)))∧w = w':=by
 have c1:=bytes_str n c hn ha
 have c2:=bytes_str m d hm hb
 have t:=str_beq a b
 clear hn hm
 go_enter Tryd.func44,Tryd.ntmps44
 go_wp2
 go_ret
 exact ⟨ret_bool (by by_cases h : a = b <;> simp [h]),rfl⟩
end Go.Proofs.YtffpanlpbdnafaaDoor
