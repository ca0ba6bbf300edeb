/- Texts merged by pack.py: Qk, Ql, Qm, Rq4. -/
import Derived.Test.YtiagcenlnekdeaaGreatDoorCx9
import Derived.Test.YtiagcenlnekdeaaGreatDoorCx15
import Derived.Test.YtiagcenlnekdeaaGreatDoorCx5
import Derived.Test.YtiagcenlnekdeaaGreatDoorCx6
import Derived.Test.YtiagcenlnekdeaaGreatDoorCx8
set_option maxRecDepth 1000000
set_option maxHeartbeats 16000000
open Go.Proofs.Tryz
open Go.Lib (hid)
set_option linter.unusedSimpArgs false
set_option linter.unusedVariables false
namespace Go.Proofs.YtiagcenlnekdeaaGreatDoor
open Go.RowKit
attribute [local go_sem ↓] Go.wp_at_zero Go.wp_at_succ
def wB (b:List UInt8):List UInt8:=(b.drop 4).take (mG ((b.drop 4).take 12) 12)
def rH (b:List UInt8):Nat:=fH (b.drop 16) 4
def kP (b:List UInt8):List UInt8:=(b.drop 24).take (rH b)
def fP (g:UInt32) (most:Int) (b:List UInt8):(List UInt8 × List UInt8) × Nat × Int :=
 if ¬ b.take 4=(le4 g).take b.length then(([],[]),0,5)
 else if b.length<24 then(([],[]),0,1)
 else if wz (wB b)=false then(([],[]),0,2)
 else if iC most<rH b then(([],[]),0,3)
 else if b.length<24+rH b then(([],[]),0,1)
 else if ¬ (jH (kP b)).take 4=(b.drop 20).take 4 then(([],[]),0,4)
 else((wB b,kP b),24+rH b,0)
def YN (R:(List UInt8 × List UInt8) × Nat × Int) (w:World) (e:Ending) (w':World):Prop :=
 ∃ P pc,e = .returned (.tuple #[.agg #[.string (str R.1.1),.slice P R.1.2.length pc],iv R.2.1,iv R.2.2])∧R.1.2.length≤pc∧pc≤maxLen∧Rd w' P (R.1.2.map ah)∧lF w.heap.size P R.1.2.length∧Keep w w'
theorem a1T:prog.elem 32=5:=by kernel_rfl
theorem b9w (gb off N c S:Nat) (h:24+S≤c) : ∃ dY,(∀ y:World,(Instr.slice 32 (.slice (some ⟨gb,off,none⟩) N c) (some (.int .i64 24)) (some (.int .i64 (24+(S:Int)))) none).run prog y = .ok (.slice dY S (c - 24)) y)∧(dY=some ⟨gb,off+24,none⟩∨c=24):=by
 have hh:(24+(S:Int)).toNat=24+S:=by omega
 refine⟨if c=24 then some ⟨gb,off,none⟩else some ⟨gb,off+24,none⟩,fun y=>?_,?_⟩
 ·rw[run_slice_lh y 32 (some ⟨gb,off,none⟩) N c (by rw[a1T];exact underlying32) .i64 .i64 24 (24+(S:Int)) (by omega) (by omega) (by omega),a1T,GV,Result.andThen_ok,hh,sliced]
  have e1:24+S - Int.toNat 24=S:=by show 24+S - 24=S;omega
  have e2:c - Int.toNat 24=c - 24:=rfl;rw[e1,e2];by_cases hc:c=24
  ·rw[if_pos (show c=Int.toNat 24 from hc),if_pos hc]
  ·rw[if_neg (show ¬ c=Int.toNat 24 from hc),if_neg hc]
   rfl
 ·by_cases hc:c=24
  ·exact Or.inr hc
  ·exact Or.inl (if_neg hc)
theorem a1Y (g:UInt32) (most:Int) (A:Option Addr) (b:List UInt8) (N c:Nat) (w:World) (hN:b.length=N) (hS:bV w) (hc:N≤c∧c≤maxLen) (hbig:N≤1000000000) (hr:Rd w A (b.map ah)) :
  Calls prog 188 #[ag g,iv most,.slice A N c] w (YN (fP g most b) w):=by
 have HT:Hid (fP g most b=_):=hid (fP.eq_1 g most b);have HK:Hid (Keep w w):=hid (Below.refl _ _);have HS:=hid hS
 have ROW:Hid (∀ k (h:k<N),∃ gb off x,A=some ⟨gb,off,none⟩∧gb<w.heap.size∧w.cell? ⟨gb,off+k,none⟩=some (ah x)∧b[k]?=some x):=hid fun k h=>by
  obtain⟨gb,off,rfl,hb,hcell⟩:=hr.at (k:=k) (by simp[hN];exact h);exact⟨gb,off,b[k],rfl,hb,by have q:=hcell k (by simp[hN];exact h);simpa using q,List.getElem?_eq_getElem (by omega)⟩
 have HR:=hid hr;have HN:=hid hN;have HC:=hid hc;clear hS hr hN hc;generalize fP g most b=R at *;go_enter func188,ntmps188
 go_upto_region 1 with fail
 obtain⟨w1,hw1⟩ : ∃ w1,w1=w.alloc (.cells #[.string ⟨#[]⟩,.slice none 0 0] 150):=⟨_,rfl⟩
 have HB1:Hid (ae w1 w.heap.size 150 [.string ⟨#[]⟩,.slice none 0 0]):=by rw[hw1];exact hid (ae.new w _ [.string ⟨#[]⟩,.slice none 0 0])
 have ai:Hid (Keep w w1):=by rw[hw1];exact hid (aB _ _)
 try rw[←hw1]
 clear hw1
 go_cut [18,19] (fun b81 b82 wx => ∃ M:Nat,b81 = .int .i64 (M:Int)∧b82 = .int .i64 0∧Hid (M=min N 4)∧wx=w1)
 case first =>
  go_wp2
  all_goals go_meet
  ·exact⟨4,rfl,rfl,hid (by omega),rfl⟩
  ·exact⟨N,rfl,rfl,hid (by omega),rfl⟩
 obtain⟨M,rfl,rfl,HM,rfl⟩:=hcut;go_wp2_with fail
 go_loopw [19] (fun i wr => ∃ k:Nat,k≤M∧i = .int .i64 k∧Hid (∀ j,j<k→b[j]?=(le4 g)[j]?)∧Hid (ae wr w.heap.size 150 [.string ⟨#[]⟩,.slice none 0 0])∧Hid (Keep w wr)) (fun i _=>M - (intOf i).toNat)
 case atStart=>exact⟨0,Nat.zero_le _,rfl,hid (fun j h=>absurd h (Nat.not_lt_zero _)),HB1,ai⟩
 case round =>
  obtain⟨k,hk,rfl,HP,mO,bg⟩:=hrel;clear HB1 ai HK;by_cases hlt:k<M
  ·have hm:=HM.out
   have hk4:k<4:=by omega
   have hkN:k<N:=by omega
   obtain⟨gb,off,x,rfl,hgb,hx,hlx⟩:=ROW.out k hkN;have ui:=hid hx;have lH:=hid hlx;have l1:(k:Int)<M:=by omega
   clear hm ROW hx hlx;rcases(show k=0∨k=1∨k=2∨k=3 by omega)with rfl | rfl | rfl | rfl
   ·obtain⟨y,hy,wM⟩ : ∃ y:UInt8,(le4 g)[0]?=some y∧(g.toNat:Int)%256=(y.toNat:Int):=⟨w8 (dN g 0),rfl,by
     have h1:(g.toNat:Int)/2^(8*0)%256=((w8 (dN g 0)).toNat:Int):=rW (Int.emod_nonneg _ (by decide)) (by have q:=Int.emod_lt_of_pos ((g.toNat:Int)/2^(8*0)) (by decide:(0:Int)<256);omega)
     simpa using h1⟩
    have gQ:=hid hy;have jy:=hid wM;clear wM;go_upto_region 4 with fail
    refine bu (.take [0,1,2,3,4,5,6,7,8,9] .done) [] (by kernel_rfl) (by kernel_rfl) (fun w2 k2=>?_);have rx : ∀ u,(dn w2 u).cell? ⟨gb,off,none⟩=some (ah x):=aF (aC k2 (aC bg.out ui.out));have jv:=hid (mO.out.keep k2);have vz:=hid (af bg.out k2);clear k2 mO bg;refine aN w2 (Below.refl _ _) ?_;simp only[au,ax,ak,aj];repeat(go_big_quiet_step (fail))
    clear rx ui hy;by_cases hxy:x=y
    ·have e1:((x.toNat:Int)!=(g.toNat:Int)%256)=false:=by rw[jy.out,hxy];simp
     have e2:((x.toNat:Int)==(g.toNat:Int)%256)=true:=by rw[jy.out,hxy];simp
     have e3:(x.toNat:Int)=(g.toNat:Int)%256:=by rw[jy.out,hxy]
     have HP2:Hid (∀ j,j<0+1→b[j]?=(le4 g)[j]?):=hid fun j hj=>by
      by_cases e:j<0
      ·exact HP.out j e
      ·obtain rfl:j=0:=by omega
       rw[lH.out,gQ.out,hxy]
     clear jy hxy HP lH gQ e3;rw[e1];refine wpQuiet_nil (aT ?_);go_wp2
     go_roundw
     case rel=>exact⟨0+1,by omega,by go_num,HP2,jv,vz⟩
     case measure=>simp[intOf];omega
    ·have e3 : ¬ (x.toNat:Int)=(g.toNat:Int)%256:=by rw[jy.out];exact fun q=>hxy (UInt8.toNat_inj.1 (by omega))
     have e1:((x.toNat:Int)!=(g.toNat:Int)%256)=true:=by rw[bne_iff_ne];exact e3
     have hR:R=(([],[]),0,5):=by
      rw[HT.out,if_pos];intro q;have q2:(b.take 4)[0]?=((le4 g).take b.length)[0]?:=by rw[q]
      rw[List.getElem?_take_of_lt (by omega),List.getElem?_take_of_lt (by rw[HN.out];omega),lH.out,gQ.out]at q2;exact hxy (Option.some.inj q2)
     have iR:=hid hR;clear jy hxy HP lH gQ e3 hR HT HR;rw[e1];refine wpQuiet_nil (aT ?_);have c0:=jv.out.cell 0;have c1:=jv.out.cell 1
     simp only[List.getElem?_cons_succ,List.getElem?_cons_zero]at c0 c1;have f0:=jv.out.frozen 0;have f1:=jv.out.frozen 1
     go_wp2
     exact bodyPost_ret (v:=.tuple #[.agg #[.string ⟨#[]⟩,.slice none 0 0],iv 0,iv 5]) (rU results188 _ _ w.heap.size _ _ _ _ rfl ((jv.out.az 0 (.string ⟨#[]⟩)).az 1 (.slice none 0 0)) underlying150 rfl (by kernel_rfl)) rfl (by
      rw[iR.out]
      exact⟨none,0,rfl,Nat.le_refl _,Nat.zero_le _,Rd.nil _ _,Or.inl rfl,Below.setCell (Below.setCell vz.out (by simp) _) (by simp) _⟩)
   ·obtain⟨y,hy,wM⟩ : ∃ y:UInt8,(le4 g)[1]?=some y∧(g.toNat:Int)/256%256=(y.toNat:Int):=⟨w8 (dN g 1),rfl,by
     have h1:(g.toNat:Int)/2^(8*1)%256=((w8 (dN g 1)).toNat:Int):=rW (Int.emod_nonneg _ (by decide)) (by have q:=Int.emod_lt_of_pos ((g.toNat:Int)/2^(8*1)) (by decide:(0:Int)<256);omega)
     exact h1⟩
    have gQ:=hid hy;have jy:=hid wM;clear wM;go_upto_region 4 with fail
    refine bu (.take [0,1,2,3,4,5,6,7,8,9] .done) [] (by kernel_rfl) (by kernel_rfl) (fun w2 k2=>?_);have rx:=aF (aC k2 (aC bg.out ui.out));have jv:=hid (mO.out.keep k2);have vz:=hid (af bg.out k2);clear k2 mO bg;refine aN w2 (Below.refl _ _) ?_;simp only[au,ax,ak,aj];repeat(go_big_quiet_step (fail))
    clear rx ui hy;by_cases hxy:x=y
    ·have e1:((x.toNat:Int)!=(g.toNat:Int)/256%256)=false:=by rw[jy.out,hxy];simp
     have e2:((x.toNat:Int)==(g.toNat:Int)/256%256)=true:=by rw[jy.out,hxy];simp
     have e3:(x.toNat:Int)=(g.toNat:Int)/256%256:=by rw[jy.out,hxy]
     have HP2:Hid (∀ j,j<1+1→b[j]?=(le4 g)[j]?):=hid fun j hj=>by
      by_cases e:j<1
      ·exact HP.out j e
      ·obtain rfl:j=1:=by omega
       rw[lH.out,gQ.out,hxy]
     clear jy hxy HP lH gQ e3;rw[e1];refine wpQuiet_nil (aT ?_);go_wp2
     go_roundw
     case rel=>exact⟨1+1,by omega,by go_num,HP2,jv,vz⟩
     case measure=>simp[intOf];omega
    ·have e3 : ¬ (x.toNat:Int)=(g.toNat:Int)/256%256:=by rw[jy.out];exact fun q=>hxy (UInt8.toNat_inj.1 (by omega))
     have e1:((x.toNat:Int)!=(g.toNat:Int)/256%256)=true:=by rw[bne_iff_ne];exact e3
     have hR:R=(([],[]),0,5):=by
      rw[HT.out,if_pos];intro q;have q2:(b.take 4)[1]?=((le4 g).take b.length)[1]?:=by rw[q]
      rw[List.getElem?_take_of_lt (by omega),List.getElem?_take_of_lt (by rw[HN.out];omega),lH.out,gQ.out]at q2;exact hxy (Option.some.inj q2)
     have iR:=hid hR;clear jy hxy HP lH gQ e3 hR HT HR;rw[e1];refine wpQuiet_nil (aT ?_);have c0:=jv.out.cell 0;have c1:=jv.out.cell 1
     simp only[List.getElem?_cons_succ,List.getElem?_cons_zero]at c0 c1;have f0:=jv.out.frozen 0;have f1:=jv.out.frozen 1
     go_wp2
     exact bodyPost_ret (v:=.tuple #[.agg #[.string ⟨#[]⟩,.slice none 0 0],iv 0,iv 5]) (rU results188 _ _ w.heap.size _ _ _ _ rfl ((jv.out.az 0 (.string ⟨#[]⟩)).az 1 (.slice none 0 0)) underlying150 rfl (by kernel_rfl)) rfl (by
      rw[iR.out]
      exact⟨none,0,rfl,Nat.le_refl _,Nat.zero_le _,Rd.nil _ _,Or.inl rfl,Below.setCell (Below.setCell vz.out (by simp) _) (by simp) _⟩)
   ·obtain⟨y,hy,wM⟩ : ∃ y:UInt8,(le4 g)[2]?=some y∧(g.toNat:Int)/65536%256=(y.toNat:Int):=⟨w8 (dN g 2),rfl,by
     have h1:(g.toNat:Int)/2^(8*2)%256=((w8 (dN g 2)).toNat:Int):=rW (Int.emod_nonneg _ (by decide)) (by have q:=Int.emod_lt_of_pos ((g.toNat:Int)/2^(8*2)) (by decide:(0:Int)<256);omega)
     exact h1⟩
    have gQ:=hid hy;have jy:=hid wM;clear wM;go_upto_region 4 with fail
    refine bu (.take [0,1,2,3,4,5,6,7,8,9] .done) [] (by kernel_rfl) (by kernel_rfl) (fun w2 k2=>?_);have rx:=aF (aC k2 (aC bg.out ui.out));have jv:=hid (mO.out.keep k2);have vz:=hid (af bg.out k2);clear k2 mO bg;refine aN w2 (Below.refl _ _) ?_;simp only[au,ax,ak,aj];repeat(go_big_quiet_step (fail))
    clear rx ui hy;by_cases hxy:x=y
    ·have e1:((x.toNat:Int)!=(g.toNat:Int)/65536%256)=false:=by rw[jy.out,hxy];simp
     have e2:((x.toNat:Int)==(g.toNat:Int)/65536%256)=true:=by rw[jy.out,hxy];simp
     have e3:(x.toNat:Int)=(g.toNat:Int)/65536%256:=by rw[jy.out,hxy]
     have HP2:Hid (∀ j,j<2+1→b[j]?=(le4 g)[j]?):=hid fun j hj=>by
      by_cases e:j<2
      ·exact HP.out j e
      ·obtain rfl:j=2:=by omega
       rw[lH.out,gQ.out,hxy]
     clear jy hxy HP lH gQ e3;rw[e1];refine wpQuiet_nil (aT ?_);go_wp2
     go_roundw
     case rel=>exact⟨2+1,by omega,by go_num,HP2,jv,vz⟩
     case measure=>simp[intOf];omega
    ·have e3 : ¬ (x.toNat:Int)=(g.toNat:Int)/65536%256:=by rw[jy.out];exact fun q=>hxy (UInt8.toNat_inj.1 (by omega))
     have e1:((x.toNat:Int)!=(g.toNat:Int)/65536%256)=true:=by rw[bne_iff_ne];exact e3
     have hR:R=(([],[]),0,5):=by
      rw[HT.out,if_pos];intro q;have q2:(b.take 4)[2]?=((le4 g).take b.length)[2]?:=by rw[q]
      rw[List.getElem?_take_of_lt (by omega),List.getElem?_take_of_lt (by rw[HN.out];omega),lH.out,gQ.out]at q2;exact hxy (Option.some.inj q2)
     have iR:=hid hR;clear jy hxy HP lH gQ e3 hR HT HR;rw[e1];refine wpQuiet_nil (aT ?_);have c0:=jv.out.cell 0;have c1:=jv.out.cell 1
     simp only[List.getElem?_cons_succ,List.getElem?_cons_zero]at c0 c1;have f0:=jv.out.frozen 0;have f1:=jv.out.frozen 1
     go_wp2
     exact bodyPost_ret (v:=.tuple #[.agg #[.string ⟨#[]⟩,.slice none 0 0],iv 0,iv 5]) (rU results188 _ _ w.heap.size _ _ _ _ rfl ((jv.out.az 0 (.string ⟨#[]⟩)).az 1 (.slice none 0 0)) underlying150 rfl (by kernel_rfl)) rfl (by
      rw[iR.out]
      exact⟨none,0,rfl,Nat.le_refl _,Nat.zero_le _,Rd.nil _ _,Or.inl rfl,Below.setCell (Below.setCell vz.out (by simp) _) (by simp) _⟩)
   ·obtain⟨y,hy,wM⟩ : ∃ y:UInt8,(le4 g)[3]?=some y∧(g.toNat:Int)/16777216%256=(y.toNat:Int):=⟨w8 (dN g 3),rfl,by
     have h1:(g.toNat:Int)/2^(8*3)%256=((w8 (dN g 3)).toNat:Int):=rW (Int.emod_nonneg _ (by decide)) (by have q:=Int.emod_lt_of_pos ((g.toNat:Int)/2^(8*3)) (by decide:(0:Int)<256);omega)
     exact h1⟩
    have gQ:=hid hy;have jy:=hid wM;clear wM;go_upto_region 4 with fail
    refine bu (.take [0,1,2,3,4,5,6,7,8,9] .done) [] (by kernel_rfl) (by kernel_rfl) (fun w2 k2=>?_);have rx:=aF (aC k2 (aC bg.out ui.out));have jv:=hid (mO.out.keep k2);have vz:=hid (af bg.out k2);clear k2 mO bg;refine aN w2 (Below.refl _ _) ?_;simp only[au,ax,ak,aj];repeat(go_big_quiet_step (fail))
    clear rx ui hy;by_cases hxy:x=y
    ·have e1:((x.toNat:Int)!=(g.toNat:Int)/16777216%256)=false:=by rw[jy.out,hxy];simp
     have e2:((x.toNat:Int)==(g.toNat:Int)/16777216%256)=true:=by rw[jy.out,hxy];simp
     have e3:(x.toNat:Int)=(g.toNat:Int)/16777216%256:=by rw[jy.out,hxy]
     have HP2:Hid (∀ j,j<3+1→b[j]?=(le4 g)[j]?):=hid fun j hj=>by
      by_cases e:j<3
      ·exact HP.out j e
      ·obtain rfl:j=3:=by omega
       rw[lH.out,gQ.out,hxy]
     clear jy hxy HP lH gQ e3;rw[e1];refine wpQuiet_nil (aT ?_);go_wp2
     go_roundw
     case rel=>exact⟨3+1,by omega,by go_num,HP2,jv,vz⟩
     case measure=>simp[intOf];omega
    ·have e3 : ¬ (x.toNat:Int)=(g.toNat:Int)/16777216%256:=by rw[jy.out];exact fun q=>hxy (UInt8.toNat_inj.1 (by omega))
     have e1:((x.toNat:Int)!=(g.toNat:Int)/16777216%256)=true:=by rw[bne_iff_ne];exact e3
     have hR:R=(([],[]),0,5):=by
      rw[HT.out,if_pos];intro q;have q2:(b.take 4)[3]?=((le4 g).take b.length)[3]?:=by rw[q]
      rw[List.getElem?_take_of_lt (by omega),List.getElem?_take_of_lt (by rw[HN.out];omega),lH.out,gQ.out]at q2;exact hxy (Option.some.inj q2)
     have iR:=hid hR;clear jy hxy HP lH gQ e3 hR HT HR;rw[e1];refine wpQuiet_nil (aT ?_);have c0:=jv.out.cell 0;have c1:=jv.out.cell 1
     simp only[List.getElem?_cons_succ,List.getElem?_cons_zero]at c0 c1;have f0:=jv.out.frozen 0;have f1:=jv.out.frozen 1
     go_wp2
     exact bodyPost_ret (v:=.tuple #[.agg #[.string ⟨#[]⟩,.slice none 0 0],iv 0,iv 5]) (rU results188 _ _ w.heap.size _ _ _ _ rfl ((jv.out.az 0 (.string ⟨#[]⟩)).az 1 (.slice none 0 0)) underlying150 rfl (by kernel_rfl)) rfl (by
      rw[iR.out]
      exact⟨none,0,rfl,Nat.le_refl _,Nat.zero_le _,Rd.nil _ _,Or.inl rfl,Below.setCell (Below.setCell vz.out (by simp) _) (by simp) _⟩)
  ·have l1 : ¬ (k:Int)<M:=by omega
   have Zz:Hid (b.take 4=(le4 g).take b.length):=hid (by
    have hm:=HM.out;have hb:=HN.out;refine List.ext_getElem? fun j=>?_;by_cases hj:j<M
    ·rw[List.getElem?_take_of_lt (by omega),List.getElem?_take_of_lt (by omega)]
     exact HP.out j (by omega)
    ·rw[List.getElem?_eq_none (by simp;omega),List.getElem?_eq_none (by simp[le4];omega)])
   clear HP HM;have HT1:=hid (HT.out.trans (if_neg (fun q=>q Zz.out)));clear HT Zz;by_cases U8:N<24
   ·have d0:(N:Int)<24:=by omega
    have hR:R=(([],[]),0,1):=by rw[HT1.out,if_pos (by rw[HN.out];exact U8)]
    have iR:=hid hR;clear HT1 hR ROW HR U8;have c0:=mO.out.cell 0;have c1:=mO.out.cell 1
    simp only[List.getElem?_cons_succ,List.getElem?_cons_zero]at c0 c1;have f0:=mO.out.frozen 0;have f1:=mO.out.frozen 1
    go_wp2
    exact bodyPost_ret (v:=.tuple #[.agg #[.string ⟨#[]⟩,.slice none 0 0],iv 0,iv 1]) (rU results188 _ _ w.heap.size _ _ _ _ rfl ((mO.out.az 0 (.string ⟨#[]⟩)).az 1 (.slice none 0 0)) underlying150 rfl (by kernel_rfl)) rfl (by
     rw[iR.out]
     exact⟨none,0,rfl,Nat.le_refl _,Nat.zero_le _,Rd.nil _ _,Or.inl rfl,Below.setCell (Below.setCell bg.out (by simp) _) (by simp) _⟩)
   have d0 : ¬ (N:Int)<24:=by omega
   have HT2:=hid (HT1.out.trans (if_neg (by rw[HN.out];exact U8)));clear HT1;obtain⟨gb,off,x0,rfl,hgb,_,_⟩:=ROW.out 0 (by omega);have Cf:Hid (Rd w (some ⟨gb,off,none⟩) (b.map ah)):=HR;clear HR;have c2S:24≤N:=by omega
   have hc1:N≤c:=HC.out.1;have hc2:c≤9223372036854775807:=HC.out.2
   have R12:Hid (∀ y,Keep w y→Rd y (some ⟨gb,off+4,none⟩) (((b.drop 4).take 12).map ah)):=hid fun y hy=>by
    have q:=(Cf.out.keep hy).sub 4 12 (by rw[List.length_map,HN.out];omega);simpa[List.map_take,List.map_drop]using q
   have dV:Hid (∀ y,Keep w y→Calls prog 210 #[.slice (some ⟨gb,off+4,none⟩) 12 (c - 4),.string ⟨#[0]⟩] y fun e w'=>e = .returned (.slice (some ⟨gb,off+4,none⟩) (mG ((b.drop 4).take 12) 12) (c - 4))∧Keep y w'):=hid fun y hy=>c0p _ _ 12 (c - 4) y (by simp[HN.out];omega) (by omega) ⟨by omega,by omega⟩ (R12.out y hy)
   have X7:Hid (∀ y,Keep w y→(convert 32 9 (.slice (some ⟨gb,off+4,none⟩) (mG ((b.drop 4).take 12) 12) (c - 4))).run prog y = .ok (.string (str (wB b))) y):=hid fun y hy=>by
    have hl:=a6V ((b.drop 4).take 12) 12;refine UG _ _ (by unfold wB;simp[HN.out];omega) ?_;have q:=(R12.out y hy).take (mG ((b.drop 4).take 12) 12)
    have e:(((b.drop 4).take 12).map ah).take (mG ((b.drop 4).take 12) 12)=(wB b).map ah:=by
     rw[←List.map_take,List.take_take,Nat.min_eq_left hl];rfl
    rwa[e]at q
   have CM:Hid (∀ y,Calls prog 91 #[.string (str (wB b))] y fun e w'=>e = .returned (.bool (wz (wB b)))∧Keep y w'):=hid fun y=>a1p (wB b) y;generalize mG ((b.drop 4).take 12) 12=K at *;generalize wB b=cmd at *;generalize wz cmd=cb at *;go_upto_region 10 with(first | (go_at_call 210;refine(dV.out _ bg.out).mono ?_;rintro e w2 ⟨rfl,k2⟩;have HB2:=hid (mO.out.keep k2);have ay:=hid (af bg.out k2);have cv:=X7.out w2 ay.out;clear k2 dV X7))
   go_wp2_with fail
   refine(CM.out _).mono ?_;clear CM;rintro e w3 ⟨rfl,k3⟩;have HB3:=hid (HB2.out.keep k3);have aA:=hid (af ay.out k3);clear k3 HB2 ay cv mO bg ROW
   cases cb
   ·have hR:R=(([],[]),0,2):=by rw[HT2.out,if_pos rfl]
    have iR:=hid hR;clear HT2 hR;have c0:=HB3.out.cell 0;have c1:=HB3.out.cell 1
    simp only[List.getElem?_cons_succ,List.getElem?_cons_zero]at c0 c1;have f0:=HB3.out.frozen 0;have f1:=HB3.out.frozen 1
    go_wp2
    exact bodyPost_ret (v:=.tuple #[.agg #[.string ⟨#[]⟩,.slice none 0 0],iv 0,iv 2]) (rU results188 _ _ w.heap.size _ _ _ _ rfl ((HB3.out.az 0 (.string ⟨#[]⟩)).az 1 (.slice none 0 0)) underlying150 rfl (by kernel_rfl)) rfl (by
     rw[iR.out]
     exact⟨none,0,rfl,Nat.le_refl _,Nat.zero_le _,Rd.nil _ _,Or.inl rfl,Below.setCell (Below.setCell aA.out (by simp) _) (by simp) _⟩)
   have HT3:=hid (HT2.out.trans (if_neg (by decide)));clear HT2
   have Io:Hid (∀ k,k<4→w.cell? ⟨gb,off+(16+k),none⟩=some (ah ((b.drop 16).getD k 0))):=hid fun k hk=>by
    have q:=Cf.out.at (k:=16+k) (by rw[List.length_map,HN.out];omega);obtain⟨b',o',e,_,hcell⟩:=q
    cases e
    have q2:=hcell (16+k) (by rw[List.length_map,HN.out];omega);rw[q2,List.getElem_map,List.getD_eq_getElem?_getD,List.getElem?_drop,List.getElem?_eq_getElem (by rw[HN.out];omega)];rfl
   have IX:Hid (∀ k,fH (b.drop 16) k<2^(8*k)∧fH (b.drop 16) (k+1)=fH (b.drop 16) k+((b.drop 16).getD k 0).toNat*2^(8*k)):=hid fun k=>⟨Gu _ k,rfl⟩
   have kV:Hid (fH (b.drop 16) 0=0):=hid rfl;have Je:Hid (rH b=fH (b.drop 16) 4):=hid rfl;obtain⟨nt,hnt⟩ : ∃ f,fH (b.drop 16)=f:=⟨_,rfl⟩
   obtain⟨tt,htt⟩ : ∃ f:Nat→UInt8,(fun k=>(b.drop 16).getD k 0)=f:=⟨_,rfl⟩
   have Bg : ∀ k,(b.drop 16).getD k 0=tt k:=fun k=>congrFun htt k;rw[hnt]at IX kV Je;simp only[Bg]at Io IX;clear hnt htt Bg;go_upto_region 12 with fail
   go_wp2_with fail
   go_loopw [11,46] (fun v i wx => ∃ k:Nat,k≤4∧i = .int .i64 k∧v = .int .u64 (nt k:Nat)∧w3=wx) (fun _ i _=>4 - (intOf i).toNat)
   case atStart=>exact⟨0,Nat.zero_le _,rfl,by rw[kV.out];rfl,rfl⟩
   case round =>
    obtain⟨k,hk,rfl,rfl,rfl⟩:=hrel;by_cases hlt:k<4
    ·have c0:=aC aA.out (Io.out k hlt)
     obtain⟨h1,h2⟩:=IX.out k;have hy:=(tt k).toNat_lt;have hor:=u64_or (nt k) (tt k).toNat k (by omega) h1 (by omega);rw[←h2]at hor;have l2:(k:Int)<4:=by omega
     have l3:16+k<N:=by omega
     clear h1 h2;obtain⟨n1,hn1⟩ : ∃ n1,nt (k+1)=n1:=⟨_,rfl⟩
     rw[hn1]at hor;have lI:Hid (n1=nt (k+1)):=hid hn1.symm;have hw8:IntKind.u64.wrap ((tt k).toNat:Int)=(tt k).toNat:=by rw[IntKind.wrap_u64];omega
     clear hn1;generalize nt k=n0 at *;generalize tt k=y at *;go_wp2
     go_roundw
     case rel=>exact⟨k+1,by omega,by go_num,by rw[←lI.out],by first | rfl | trivial⟩
     case measure=>simp[intOf];omega
    ·obtain rfl:k=4:=by omega
     rw[←Je.out]
     have hlt4:rH b<4294967296:=by
      rw[Je.out];have q:=(IX.out 4).1;rw[show(2:Nat)^(8*4)=4294967296 from rfl]at q;exact q
     clear Io IX kV Je;have iJ:Hid (kP b=(b.drop 24).take (rH b)):=hid rfl;have gz:Hid (∀ y,Calls prog 153 #[iv most] y fun e w'=>e = .returned (iv (iC most))∧Keep y w'):=hid fun y=>OJ most y;have hbd:0≤iC most∧iC most≤4000000:=by unfold iC;omega
     generalize rH b=S at *;generalize iC most=Hg at *;have l4 : ¬ ((4:Nat):Int)<4:=by decide
     have RJ:=hid hbd;have vK:Hid (IntKind.u64.wrap Hg=Hg):=hid (by rw[IntKind.wrap_u64];omega);have Ob:Hid (IntKind.i64.wrap (S:Int)=S):=hid (IntWalk.i64_in _ (by omega));have HW2:Hid (wrap64 (S:Int)=S):=hid (IntWalk.wrap64_in _ (by omega));have HW3:Hid (wrap64 (24+(S:Int))=24+(S:Int)):=hid (IntWalk.wrap64_in _ (by omega));clear hbd hlt4;go_wp2_with fail
     refine(gz.out _).mono ?_;clear gz;rintro e w4 ⟨rfl,k4⟩;have HB4:=hid (HB3.out.keep k4);have aQ:=hid (af aA.out k4);clear k4 HB3 aA;by_cases hbig2:Hg<(S:Int)
     ·have e2:decide (Hg<(S:Int))=true:=decide_eq_true hbig2
      have hR:R=(([],[]),0,3):=by rw[HT3.out,if_pos hbig2]
      have iR:=hid hR;clear HT3 hR hbig2;have hwb:=vK.out;have c0:=HB4.out.cell 0;have c1:=HB4.out.cell 1
      simp only[List.getElem?_cons_succ,List.getElem?_cons_zero]at c0 c1;have f0:=HB4.out.frozen 0;have f1:=HB4.out.frozen 1
      go_wp2
      exact bodyPost_ret (v:=.tuple #[.agg #[.string ⟨#[]⟩,.slice none 0 0],iv 0,iv 3]) (rU results188 _ _ w.heap.size _ _ _ _ rfl ((HB4.out.az 0 (.string ⟨#[]⟩)).az 1 (.slice none 0 0)) underlying150 rfl (by kernel_rfl)) rfl (by
       rw[iR.out]
       exact⟨none,0,rfl,Nat.le_refl _,Nat.zero_le _,Rd.nil _ _,Or.inl rfl,Below.setCell (Below.setCell aQ.out (by simp) _) (by simp) _⟩)
     have HT4:=hid (HT3.out.trans (if_neg hbig2));have e2:decide (Hg<(S:Int))=false:=decide_eq_false hbig2;have Cj:Hid (S≤4000000):=hid (by have:=RJ.out;omega);clear HT3 hbig2;by_cases hsh:N<24+S
     ·have d5:(N:Int)<24+(S:Int):=by omega
      have hR:R=(([],[]),0,1):=by rw[HT4.out,if_pos (by rw[HN.out];exact hsh)]
      have iR:=hid hR;clear HT4 hR;have hwb:=vK.out;have hws:=Ob.out;have hw2:=HW2.out;have hw3:=HW3.out
      have c0:=HB4.out.cell 0;have c1:=HB4.out.cell 1
      simp only[List.getElem?_cons_succ,List.getElem?_cons_zero]at c0 c1;have f0:=HB4.out.frozen 0;have f1:=HB4.out.frozen 1
      go_wp2
      exact bodyPost_ret (v:=.tuple #[.agg #[.string ⟨#[]⟩,.slice none 0 0],iv 0,iv 1]) (rU results188 _ _ w.heap.size _ _ _ _ rfl ((HB4.out.az 0 (.string ⟨#[]⟩)).az 1 (.slice none 0 0)) underlying150 rfl (by kernel_rfl)) rfl (by
       rw[iR.out]
       exact⟨none,0,rfl,Nat.le_refl _,Nat.zero_le _,Rd.nil _ _,Or.inl rfl,Below.setCell (Below.setCell aQ.out (by simp) _) (by simp) _⟩)
     have sF:=hid (HT4.out.trans (if_neg (by rw[HN.out];exact hsh)));clear HT4;have d5:decide ((N:Int)<24+(S:Int))=false:=decide_eq_false (by omega);have X8:Hid (24+S≤N):=hid (by omega);clear hsh;have hwb:=vK.out;have hws:=Ob.out;have hw2:=HW2.out;have hw3:=HW3.out
     go_upto_region 23 with fail
     clear hwb hws hw2 hw3 d5;rw[HW3.out];have d6:=X8.out;have d7:24+S≤c:=by omega
     obtain⟨dY,hsl,hap⟩:=b9w gb off N c S d7
     have N8:Hid (∀ y,Keep w y→Rd y dY ((kP b).map ah)):=hid fun y hy=>by
      rcases hap with rfl | hc24
      ·have q:=(Cf.out.keep hy).sub 24 S (by rw[List.length_map,HN.out];exact d6)
       rw[iJ.out,List.map_take,List.map_drop];exact q
      ·have e0:kP b=[]:=by
        rw[iJ.out];refine List.eq_nil_of_length_eq_zero ?_;rw[List.length_take];omega
       rw[e0];exact Rd.nil _ _
     have yP:Hid ((kP b).length=S):=hid (by
      have hb:=HN.out
      rw[iJ.out,List.length_take,List.length_drop];omega)
     clear d6 d7 hap iJ;go_upto_region 24 with fail
     have yJ:Hid ((jH (kP b)).length=32):=hid (uw _);obtain⟨ds,hds⟩ : ∃ ds,aX (jH (kP b)) ds:=⟨_,aX.of (uw _)⟩
     have hdn:=hds.n;have hdz:=hds.z;have hdi:=hds.i
     have gZ:=hid hds
     have DB:Hid (∀ y,Keep w y→Calls prog 34 #[.slice dY S (c - 24)] y fun e w'=>e = .returned (.agg ds)∧Keep y w'):=hid fun y hy=>by
      have q:=JQ dY (kP b) (c - 24) y (HS.out.keep hy) (N8.out y hy) (by have:=yP.out;have:=X8.out;omega) (by show c - 24≤9223372036854775807;omega) (by have:=yP.out;have:=Cj.out;omega);rw[yP.out,show zl (jH (kP b)) = .agg ds from congrArg Value.agg hds.e]at q;exact q
     have CL:Hid (∀ y,Keep w y→Calls prog 125 #[.slice dY S (c - 24)] y fun e w' => ∃ P pc,e = .returned (.slice P S pc)∧S≤pc∧pc≤maxLen∧(Rd w' P ((kP b).map ah)∧lF y.heap.size P S)∧Keep y w'):=hid fun y hy=>by
      have q:=clone_any dY (kP b) (c - 24) y (by have:=yP.out;have:=Cj.out;omega) (N8.out y hy);rw[yP.out]at q;refine q.mono ?_;rintro e w' ⟨v,h1,h2,h3⟩;obtain⟨P,pc,rfl,h4,h5,h6⟩:=dD h2;exact⟨P,pc,h1,h4,h5,⟨h6,WR h2⟩,h3⟩
     clear hds;generalize jH (kP b)=D at *;obtain⟨hz,VG,b4Y,b4Z,VH⟩:=BD;have RV:=hid hdi;have RS:=hid hdz;have c2e:=hid hc2;clear hc2 VH l4;go_wp2_with fail
     refine(DB.out _ aQ.out).mono ?_;clear DB hsl;rintro e w5 ⟨rfl,k5⟩;have jE:=hid (HB4.out.keep k5);have aJ:=hid (af aQ.out k5);have hst:=fK w5 27 RV.out (VG.trans RS.out.symm) gZ.out.o;clear k5 HB4 aQ;go_upto_region 25 with fail
     obtain⟨w6,hw⟩ : ∃ y,y=w5.alloc (.cells ds 27):=⟨_,rfl⟩
     have ry:Hid (ae w6 w5.heap.size 27 (D.map ah)):=by rw[hw,←gZ.out.l];exact hid (ae.new w5 _ ds.toList)
     have jr:Hid (ae w6 w.heap.size 150 [.string ⟨#[]⟩,.slice none 0 0]):=by rw[hw];exact hid (jE.out.alloc _)
     have bD:Hid (Keep w w6):=by rw[hw];exact hid (af aJ.out (aB _ _))
     rw[←hw];clear hst hw jE aJ;generalize w5.heap.size=gh at *
     have E1:Hid (∀ y,Keep w6 y→Rd y (some ⟨gh,0,none⟩) ((D.take 4).map ah)):=hid fun y hy=>by
      have q:=((ry.out.keep hy).rd).take 4
      rwa[←List.map_take]at q
     have E2:Hid (∀ y,Keep w y→Rd y (some ⟨gb,off+20,none⟩) (((b.drop 20).take 4).map ah)):=hid fun y hy=>by
      have q:=(Cf.out.keep hy).sub 20 4 (by rw[List.length_map,HN.out];omega);rw[List.map_take,List.map_drop];exact q
     have L1:Hid (4=(D.take 4).length):=hid (by rw[List.length_take,yJ.out];rfl);have L2:Hid (4=((b.drop 20).take 4).length):=hid (by have hb:=HN.out;rw[List.length_take,List.length_drop];omega);have d20 : ¬ c=20:=by omega
     have d21:24≤c:=by omega
     refine bu (.take [0,1,2] (.force [3] (.take [4] .done))) [] (by kernel_rfl) (by kernel_rfl) (fun w7 k7=>?_);have F1:=hid (E1.out w7 k7);have kL:=hid (jr.out.keep k7);have bT:=hid (af bD.out k7);have F2:=hid (E2.out w7 bT.out);clear k7 jr bD ry E1 E2;refine aN w7 (Below.refl _ _) ?_;simp only[au,ax,ak,aj];repeat(go_big_quiet_step (fail))
     refine wpQuiet_nil (bI ?_);simp only[au,ax,ak,aj];refine aI rfl (fun KK a2t=>?_);go_simp
     (with_reducible refine(b3l _ (D.take 4) 4 _ _ ((b.drop 20).take 4) 4 _ w7 F1.out F2.out L1.out L2.out).mono ?_)
     rintro e w8 ⟨rfl,rfl⟩;refine a2t _ _ (Below.refl _ _) ?_;clear a2t KK;by_cases hq:D.take 4=(b.drop 20).take 4
     ·have dq:decide (D.take 4=(b.drop 20).take 4)=true:=decide_eq_true hq
      have hR:R=((cmd,kP b),24+S,0):=by rw[sF.out,if_neg (fun q=>q hq)]
      have iR:=hid hR;rw[dq];clear dq hR sF hq F1 F2 L1 L2;refine aS (aN w7 (Below.refl _ _) ?_);simp only[au,ax,ak,aj];repeat(go_big_quiet_step (fail))
      refine wpQuiet_nil (aT ?_);go_wp2_with fail
      refine(CL.out _ bT.out).mono ?_;have tY:=hid kL.out.lt;clear CL;rintro e w8 ⟨P,pc,rfl,hp1,hp2,hp3,k8⟩;have gq:=hid (kL.out.keep k8);have bK:=hid (af bT.out k8);have cZ:=hid hp1;have HP2:=hid hp2;have fZ:=hid hp3
      clear k8 kL bT hp1 hp2 hp3;have c0:=gq.out.cell 0;have c1:=gq.out.cell 1
      simp only[List.getElem?_cons_succ,List.getElem?_cons_zero]at c0 c1;have f0:=gq.out.frozen 0;have f1:=gq.out.frozen 1
      go_wp2
      have a8y:=((gq.out.az 0 (.string (str cmd))).az 1 (.slice P S pc))
      exact bodyPost_ret (v:=.tuple #[.agg #[.string (str cmd),.slice P S pc],iv ((24+S:Nat):Int),iv 0]) (rU results188 _ _ w.heap.size _ _ _ _ rfl a8y underlying150 rfl (by kernel_rfl)) rfl (by
       rw[iR.out];refine⟨P,pc,?_,?_,HP2.out,?_,?_,Below.setCell (Below.setCell bK.out (by simp) _) (by simp) _⟩
       ·show _=Ending.returned (.tuple #[.agg #[.string (str cmd),.slice P (kP b).length pc],iv ((24+S:Nat):Int),iv 0])
        rw[yP.out]
       ·show(kP b).length≤pc
        rw[yP.out];exact cZ.out
       ·have hlt:=tY.out
        rcases fZ.out.2 with h0 | ⟨bp,op,rfl,hbp⟩
        ·have e0:kP b=[]:=List.eq_nil_of_length_eq_zero (by rw[yP.out];exact h0)
         show Rd _ P ((kP b).map ah)
         rw[e0];exact Rd.nil _ _
        ·have hne:(w.heap.size:Nat)≠bp:=by omega
         exact(fZ.out.1.far (p:=⟨w.heap.size,0,none⟩) hne _).far (p:=⟨w.heap.size,0+1,none⟩) hne _
       ·show lF w.heap.size P (kP b).length
        rw[yP.out]
        exact fZ.out.2.mono (Nat.le_of_lt tY.out))
     ·have dq:decide (D.take 4=(b.drop 20).take 4)=false:=decide_eq_false hq
      have hR:R=(([],[]),0,4):=by rw[sF.out,if_pos hq]
      have iR:=hid hR;rw[dq];clear dq hR sF hq F1 F2 L1 L2 CL;refine aS (aN w7 (Below.refl _ _) ?_);simp only[au,ax,ak,aj];repeat(go_big_quiet_step (fail))
      refine wpQuiet_nil (aT ?_);have c0:=kL.out.cell 0;have c1:=kL.out.cell 1
      simp only[List.getElem?_cons_succ,List.getElem?_cons_zero]at c0 c1;have f0:=kL.out.frozen 0;have f1:=kL.out.frozen 1
      go_wp2
      exact bodyPost_ret (v:=.tuple #[.agg #[.string ⟨#[]⟩,.slice none 0 0],iv 0,iv 4]) (rU results188 _ _ w.heap.size _ _ _ _ rfl ((kL.out.az 0 (.string ⟨#[]⟩)).az 1 (.slice none 0 0)) underlying150 rfl (by kernel_rfl)) rfl (by
       rw[iR.out]
       exact⟨none,0,rfl,Nat.le_refl _,Nat.zero_le _,Rd.nil _ _,Or.inl rfl,Below.setCell (Below.setCell bT.out (by simp) _) (by simp) _⟩)
def Dt (g:UInt32) (n:Int) (l:List UInt8) (b:Int):Bool:=decide (n=iC n)&&(if b=0 then decide ((fP g n l).2.2=1)else decide (l.length=0))
structure aW.at_ (p:aW) (w:World):Prop where
 r:Rd w p.rA (p.rs.map ah)
 c:p.rs.length≤p.rc∧p.rc≤maxLen
 b:p.rs.length≤1000000000
theorem aW.at_.keep {p:aW} {w w':World} (h:p.at_ w) (k:Keep w w'):p.at_ w':=⟨h.r.keep k,h.c,h.b⟩
theorem b3E {zs ds:Array Value} (hz:zs.size=2) (v0 v1:Value) (h0:v0.oneCell'=true) (h1:v1.oneCell'=true) (y:World):(storeCells ⟨y.heap.size,0,none⟩ [v0,v1] 0).run prog (y.alloc (.cells zs 150)) = .ok () (y.alloc (.cells #[v0,v1] 150)) :=
 run_storeCells_new (P:=prog) y 150 zs #[v0,v1] O7 (by rw[hz];rfl) (by simp[h0,h1])
theorem b3G (g:UInt32) (n:Int) (A:Option Addr) (l:List UInt8) (L c:Nat) (b:Int) (bs:Array Value) (hL:l.length=L) (hc:L≤c∧c≤maxLen) (hbig:L≤1000000000) (h:jD (ik g n A L c b) bs) (w:World) (hr:Rd w A (l.map ah)) (hS:bV w) :
  Calls prog 155 #[.agg bs] w fun e w'=>e = .returned (.bool (Dt g n l b))∧Keep w w':=by
 have gz:Hid (∀ y,Calls prog 153 #[iv n] y fun e w'=>e = .returned (iv (iC n))∧Keep y w'):=hid fun y=>OJ n y
 have BK:Hid (∀ y,Keep w y→Calls prog 188 #[ag g,iv n,.slice A L c] y fun e w' => ∃ s P q pc N,e = .returned (.tuple #[.agg #[.string s,.slice P q pc],iv N,iv (fP g n l).2.2])∧Keep y w'):=hid fun y hy =>
  (a1Y g n A l L c y hL (hS.keep hy) hc hbig (hr.keep hy)).mono fun e w' ⟨P,pc,h1,_,_,_,_,h2⟩=>⟨_,P,_,pc,_,h1,h2⟩
 obtain⟨zm,hz0,hzz,hzn,uA⟩:=QN;have hbn:=h.n;have hbz:=h.z;have hbi:=h.i
 have HA:=hid h;have HF:Hid (Dt g n l b=(decide (n=iC n)&&(if b=0 then decide ((fP g n l).2.2=1)else decide (L=0)))):=hid (by rw[←hL];rfl);generalize Dt g n l b=F at *;generalize (fP g n l).2.2=E at *;generalize iC n=B at *;have hfz:zm.size=2:=hzz;clear h uA hc hbig hr hS hL;obtain⟨d,hd⟩ : ∃ d,(n != B)=d:=⟨_,rfl⟩
 obtain⟨p,hp⟩ : ∃ p,(b != 0)=p:=⟨_,rfl⟩
 have hF:F=(!d&&(if p then decide (L=0)else decide (E=1))):=by
  rw[HF.out,←hd,←hp];by_cases e1:n=B <;> by_cases e2:b=0 <;> simp[e1,e2,bne]
 have HF2:=hid hF;clear HF hF;go_enter func155,ntmps155
 go_upto_region 1 with fail
 obtain⟨w1,hw1,-,ai,-⟩:=di w 50 bs;have HB1:Hid (ae w1 w.heap.size 50 (ik g n A L c b)):=by rw[hw1,←HA.out.l];exact hid (ae.new w _ bs.toList)
 rw[←hw1];clear hw1;refine bu (.take [0,1,2,3] (.force [4] (.take [5] .done))) [] (by kernel_rfl) (by kernel_rfl) (fun w9 k9=>?_);have eY:=hid (HB1.out.keep k9);have bP:=hid (af ai.out k9);have q1:=aF (eY.out.cell 1);clear HB1 ai k9;refine aN w9 (Below.refl _ _) ?_;simp only[au,ax,ak,aj];repeat(go_big_quiet_step (fail))
 refine wpQuiet_nil (bI ?_);simp only[au,ax,ak,aj];refine aI rfl (fun K hK=>?_);go_simp
 (with_reducible refine(gz.out _).mono ?_)
 rintro e w2 ⟨rfl,k2⟩;refine hK _ _ k2 ?_;clear hK K gz;have HB2:=hid (eY.out.keep k2);have ay:=hid (af bP.out k2);clear eY bP k2 q1;refine aS (aN w2 (Below.refl _ _) ?_);simp only[au,ax,ak,aj];repeat(go_big_quiet_step (fail))
 refine wpQuiet_nil (aT ?_);have r0:w2.cell? ⟨w.heap.size,0,none⟩=some (ag g):=(HB2.out.cell 0).trans rfl;have r1:w2.cell? ⟨w.heap.size,1,none⟩=some (iv n):=(HB2.out.cell 1).trans rfl;have r2:w2.cell? ⟨w.heap.size,2,none⟩=some (.slice A L c):=(HB2.out.cell 2).trans rfl;have r3:w2.cell? ⟨w.heap.size,3,none⟩=some (iv b):=(HB2.out.cell 3).trans rfl
 cases d
 ·cases p
  ·have hF:F=decide (E=1):=by rw[HF2.out];simp
   clear HF2;go_wp2_with fail
   refine(BK.out _ ay.out).mono ?_;clear BK r0 r1 r2 r3;rintro e w3 ⟨s,P,q,pc,N,rfl,k3⟩;have aA:=hid (af ay.out k3);clear ay k3 HB2;have hst : ∀ ww:World,(storeCells ⟨ww.heap.size,0,none⟩ [.string s,.slice P q pc] 0).run prog (ww.alloc (.cells zm 150)) = .ok () (ww.alloc (.cells #[.string s,.slice P q pc] 150)):=fun ww=>b3E (ds:=#[]) hfz _ _ rfl rfl ww;by_cases hE:E=1
   ·have d1:(E==1)=true:=by rw[hE];rfl
    have Vf:F=true:=by rw[hF,decide_eq_true hE]
    subst Vf;subst hE;clear hF;go_wp2
    all_goals exact bodyPost_ret (v:=.bool true) (by simp[results,results155]) rfl ⟨rfl,af aA.out (aB _ _)⟩
   ·have d1:(E==1)=false:=by rw[beq_eq_false_iff_ne];exact hE
    have Vd:F=false:=by rw[hF,decide_eq_false hE]
    subst Vd;clear hF hE;go_wp2
    all_goals exact bodyPost_ret (v:=.bool false) (by simp[results,results155]) rfl ⟨rfl,af aA.out (aB _ _)⟩
  ·have hF:F=decide (L=0):=by rw[HF2.out];simp
   clear HF2 BK;by_cases hE:L=0
   ·have d1:((L:Int)==0)=true:=by rw[hE];rfl
    have d2:(L:Int)=0:=by omega
    have Vf:F=true:=by rw[hF,decide_eq_true hE]
    subst Vf;subst hE;clear hF;go_wp2
    exact bodyPost_ret (v:=.bool true) (by simp[results,results155]) rfl ⟨rfl,ay.out⟩
   ·have d1:((L:Int)==0)=false:=by rw[beq_eq_false_iff_ne];omega
    have d2 : ¬ (L:Int)=0:=by omega
    have Vd:F=false:=by rw[hF,decide_eq_false hE]
    subst Vd;clear hF;go_wp2
    exact bodyPost_ret (v:=.bool false) (by simp[results,results155]) rfl ⟨rfl,ay.out⟩
 ·have hF:F=false:=by rw[HF2.out];simp
  subst hF;clear HF2 BK;go_wp2
  exact bodyPost_ret (v:=.bool false) (by simp[results,results155]) rfl ⟨rfl,ay.out⟩
def Ei (p:aW):Bool:=decide (0≤p.stage∧p.stage≤3)&&decide (0≤p.misses∧p.misses≤3)&&(decide (0≤p.qY)&&!decide (1099511627776<p.qY))&&(!p.asked || p.stage==2)&&Dt p.magic p.cap p.rs p.bad
theorem b8q (p:aW) (cs:Array Value) (hA:bZ p cs) (w:World) (ha:p.at_ w) (hS:bV w) :
  Calls prog 154 #[.agg cs] w fun e w'=>e = .returned (.bool (Ei p))∧Keep w w':=by
 obtain⟨bs,hbs⟩ : ∃ bs,jD (ik p.magic p.cap p.rA p.rs.length p.rc p.bad) bs:=⟨_,jD.of ..⟩
 have FS:Hid (∀ y,Keep w y→Calls prog 155 #[.agg bs] y fun e w'=>e = .returned (.bool (Dt p.magic p.cap p.rs p.bad))∧Keep y w'):=hid fun y hy=>b3G _ _ _ _ _ _ _ bs rfl ha.c ha.b hbs y (ha.r.keep hy) (hS.keep hy);have hcn:=hA.n;have hcz:=hA.z;have hci:=hA.i
 have hbn:=hbs.n;have hbz:=hbs.z;have hbi:=hbs.i
 have HS:Hid (Ei p=(decide (0≤p.stage∧p.stage≤3)&&decide (0≤p.misses∧p.misses≤3)&&(decide (0≤p.qY)&&!decide (1099511627776<p.qY))&&(!p.asked || p.stage==2)&&Dt p.magic p.cap p.rs p.bad)):=hid rfl;have HA:=hid hA
 have Ii:Hid (p.cells=[iv p.stage,dA p.dO,ag p.height,.bool p.asked,iv p.qY,iv p.misses]++bs.toList):=by
  rw[hbs.l];unfold aW.cells ik;exact hid rfl
 clear hA hbs ha hS;generalize Ei p=S at *;generalize Dt p.magic p.cap p.rs p.bad=F at *;go_enter func154,ntmps154
 go_upto_region 1 with fail
 obtain⟨w1,hw1,-,ai,-⟩:=di w 52 cs;have HB1:Hid (ae w1 w.heap.size 52 p.cells):=by rw[hw1,←HA.out.l];exact hid (ae.new w _ cs.toList)
 rw[←hw1];clear hw1;have r0:w1.cell? ⟨w.heap.size,0,none⟩=some (iv p.stage):=(HB1.out.cell 0).trans rfl;have r3:w1.cell? ⟨w.heap.size,3,none⟩=some (.bool p.asked):=(HB1.out.cell 3).trans rfl;have r4:w1.cell? ⟨w.heap.size,4,none⟩=some (iv p.qY):=(HB1.out.cell 4).trans rfl;have r5:w1.cell? ⟨w.heap.size,5,none⟩=some (iv p.misses):=(HB1.out.cell 5).trans rfl;have RB:Hid (w1.rangeAt w.heap.size 6 bs.toList):=hid (cu HB1.out 6 bs.toList (by rw[Ii.out];simp[List.take_of_length_le]));clear HB1 Ii;generalize p.stage=st at *;generalize p.asked=Dc at *;generalize p.qY=un at *;generalize p.misses=o9 at *;by_cases h0:st<0
 ·have hS:S=false:=by rw[HS.out,show decide (0≤st∧st≤3)=false from by simp;omega];rfl
  go_wp2
  exact bodyPost_ret (v:=.bool false) (by simp[results,results154]) rfl ⟨by first | rfl | rw[hS],ai.out⟩
 by_cases h1:3<st
 ·have hS:S=false:=by rw[HS.out,show decide (0≤st∧st≤3)=false from by simp;omega];rfl
  go_wp2
  exact bodyPost_ret (v:=.bool false) (by simp[results,results154]) rfl ⟨by first | rfl | rw[hS],ai.out⟩
 have e1:decide (0≤st∧st≤3)=true:=by rw[decide_eq_true_eq];omega
 by_cases h2:o9<0
 ·have hS:S=false:=by rw[HS.out,e1,show decide (0≤o9∧o9≤3)=false from by simp;omega];rfl
  go_wp2
  exact bodyPost_ret (v:=.bool false) (by simp[results,results154]) rfl ⟨by first | rfl | rw[hS],ai.out⟩
 by_cases h3:3<o9
 ·have hS:S=false:=by rw[HS.out,e1,show decide (0≤o9∧o9≤3)=false from by simp;omega];rfl
  go_wp2
  exact bodyPost_ret (v:=.bool false) (by simp[results,results154]) rfl ⟨by first | rfl | rw[hS],ai.out⟩
 have e2:decide (0≤o9∧o9≤3)=true:=by rw[decide_eq_true_eq];omega
 by_cases h4:un<0
 ·have hS:S=false:=by rw[HS.out,e1,e2,show decide (0≤un)=false from by simp;omega];rfl
  go_wp2
  exact bodyPost_ret (v:=.bool false) (by simp[results,results154]) rfl ⟨by first | rfl | rw[hS],ai.out⟩
 have e4:decide (0≤un)=true:=by rw[decide_eq_true_eq];omega
 obtain⟨u,hu⟩ : ∃ u,decide (1099511627776<un)=u:=⟨_,rfl⟩
 have HS2:Hid (S=(!u&&(!Dc || st==2)&&F)):=by rw[HS.out,e1,e2,e4,hu];exact hid (by simp)
 clear HS e1 e2 e4
 cases u
 ·by_cases hk:Dc=true
  ·subst hk
   by_cases h6:st=2
   ·subst h6
    go_wp2_with ((with_reducible refine dw w.heap.size 6 bs (Eq.trans ?_ rfl) RB.out _ underlying50 rfl hbi rfl ?_);rfl)
    refine(FS.out _ ai.out).mono ?_;clear FS r0 r3 r4 r5;rintro e w3 ⟨rfl,k3⟩;have aA:=hid (af ai.out k3);clear k3;go_wp2
    exact bodyPost_ret (v:=.bool F) (by simp[results,results154]) rfl ⟨by rw[HS2.out];simp,aA.out⟩
   ·have d6:(st != 2)=true:=by simpa[bne_iff_ne]using h6
    have hS:S=false:=by rw[HS2.out];simp[h6]
    clear h6;go_wp2
    exact bodyPost_ret (v:=.bool false) (by simp[results,results154]) rfl ⟨by first | rfl | rw[hS],ai.out⟩
  ·have hk:Dc=false:=by simpa using hk
   subst hk;go_wp2_with ((with_reducible refine dw w.heap.size 6 bs (Eq.trans ?_ rfl) RB.out _ underlying50 rfl hbi rfl ?_);rfl)
   refine(FS.out _ ai.out).mono ?_;clear FS r0 r3 r4 r5;rintro e w3 ⟨rfl,k3⟩;have aA:=hid (af ai.out k3);clear k3;go_wp2
   exact bodyPost_ret (v:=.bool F) (by simp[results,results154]) rfl ⟨by rw[HS2.out];simp,aA.out⟩
 ·have hS:S=false:=by rw[HS2.out];rfl
  go_wp2
  exact bodyPost_ret (v:=.bool false) (by simp[results,results154]) rfl ⟨by first | rfl | rw[hS],ai.out⟩
def Ej (p:aW):aW:=if Ei p then p else pg p.magic p.cap
theorem b8s (p:aW) (cs:Array Value) (hA:bZ p cs) (w:World) (ha:p.at_ w) (hS:bV w) :
  Calls prog 108 #[.agg cs] w fun e w' => ∃ ds,e = .returned (.agg ds)∧bZ (Ej p) ds∧Keep w w':=by
 obtain⟨zs,hz0,aU⟩:=yD;have JC:Hid (∀ y,Keep w y→Calls prog 154 #[.agg cs] y fun e w'=>e = .returned (.bool (Ei p))∧Keep y w'):=hid fun y hy=>b8q p cs hA y (ha.keep hy) (hS.keep hy);have Ar:Hid (∀ y,Calls prog 75 #[ag p.magic,iv p.cap] y fun e w' => ∃ ps,e = .returned (.agg ps)∧bZ (pg p.magic p.cap) ps∧Keep y w'):=hid fun y=>WU _ _ y;have HT:Hid (Ej p=if Ei p then p else pg p.magic p.cap):=hid rfl;have hcn:=hA.n;have hcz:=hA.z;have hci:=hA.i
 have hzn:=aU.n;have hzz:=aU.z
 have HA:=hid hA;have HZ:=hid aU
 clear hA aU ha hS;generalize Ej p=T at *;generalize Ei p=S at *;generalize pg p.magic p.cap=N at *;go_enter func108,ntmps108
 go_upto_region 1 with fail
 obtain⟨w1,hw1,HB1,HR1,ai,-⟩:=qF w 52 52 cs zs;rw[←hw1];clear hw1;go_wp2_with ((with_reducible refine bY w.heap.size cs (Eq.trans ?_ rfl) HB1.out _ underlying52 rfl hci ?_);rfl)
 refine(JC.out _ ai.out).mono ?_;clear JC;rintro e w2 ⟨rfl,k2⟩;have HB2:=hid (HB1.out.keep k2);have HR2:=hid (HR1.out.keep k2);have ay:=hid (af ai.out k2);clear k2 HB1 HR1 ai;have vg:Hid (ae w2 w.heap.size 52 p.cells):=by rw[←HA.out.l];exact HB2
 cases S
 ·have r6:w2.cell? ⟨w.heap.size,6,none⟩=some (ag p.magic):=(vg.out.cell 6).trans rfl
  have r7:w2.cell? ⟨w.heap.size,7,none⟩=some (iv p.cap):=(vg.out.cell 7).trans rfl;go_wp2_with fail
  refine(Ar.out _).mono ?_;clear Ar r6 r7;rintro e w3 ⟨ps,rfl,hpA,k3⟩;have hpn:=hpA.n;have hpz:=hpA.z;have hpi:=hpA.i
  have HP:=hid hpA;have aA:=hid (af ay.out k3);obtain⟨w8,fQ,aY,bf⟩:=jo ps.toList (HR2.out.keep k3) (by rw[Array.length_toList,Array.length_toList,hzz,hpz]) hpA.o;clear hpA k3 HB2 HR2 ay vg;go_wp2
  exact bodyPost_ret (v:=.agg ps) (gJ results108 aY.out underlying52 hpi rfl rfl) rfl ⟨ps,rfl,by rw[HT.out];exact HP.out,aK aA.out bf.out (by omega)⟩
 ·obtain⟨w8,fQ,aY,bf⟩:=jo cs.toList HR2.out (by rw[Array.length_toList,Array.length_toList,hzz,hcz]) HA.out.o
  clear HR2 vg;go_wp2_with ((with_reducible refine bY w.heap.size cs (Eq.trans ?_ rfl) HB2.out _ underlying52 rfl hci ?_);rfl)
  exact bodyPost_ret (v:=.agg cs) (gJ results108 aY.out underlying52 hci rfl rfl) rfl ⟨cs,rfl,by rw[HT.out];exact HA.out,aK ay.out bf.out (by omega)⟩
theorem b1u (n:Int):iC (iC n)=iC n:=by unfold iC;omega
def D6 (p:aW) (c:Int):aW:=if c=2∨c=3∨c=4∨c=5∨c=6∨c=7∨c=11∨c=13 then(Ej p).JI else Ej p
theorem b6i (p:aW) (cs:Array Value) (hA:bZ p cs) (c:Int) (w:World) (ha:p.at_ w) (hS:bV w) :
  Calls prog 78 #[.agg cs,iv c] w fun e w' => ∃ ds,e = .returned (.agg ds)∧bZ (D6 p c) ds∧Keep w w':=by
 obtain⟨zs,hz0,aU⟩:=yD;have jS:Hid (∀ y,Keep w y→Calls prog 108 #[.agg cs] y fun e w' => ∃ ds,e = .returned (.agg ds)∧bZ (Ej p) ds∧Keep y w'):=hid fun y hy=>b8s p cs hA y (ha.keep hy) (hS.keep hy);have HT:Hid (D6 p c=_):=hid (D6.eq_1 p c);have hcn:=hA.n;have hcz:=hA.z;have hci:=hA.i
 have hzn:=aU.n;have hzz:=aU.z
 have HA:=hid hA;have HZ:=hid aU
 clear hA aU ha hS;generalize D6 p c=R at *;generalize Ej p=q at *;go_enter func78,ntmps78
 go_upto_region 1 with fail
 obtain⟨w1,hw1,HB1,HR1,ai,-⟩:=qF w 52 52 cs zs;rw[←hw1];clear hw1;go_wp2_with ((with_reducible refine bY w.heap.size cs (Eq.trans ?_ rfl) HB1.out _ underlying52 rfl hci ?_);rfl)
 refine(jS.out _ ai.out).mono ?_;clear jS;rintro e w2 ⟨qs,rfl,eP,k2⟩;have DX:=eP.n;have hqz:=eP.z;have hqi:=eP.i
 have HQ:=hid eP;have ay:=hid (af ai.out k2);obtain⟨w3,hst3,hb3,hg3⟩:=bn (P:=prog) qs.toList (HB1.out.keep k2) (by rw[Array.length_toList,Array.length_toList,hcz,hqz]) HQ.out.o;have HB3:Hid (ae w3 w.heap.size 52 q.cells):=by rw[←HQ.out.l];exact hid hb3
 have yI:Hid (ae w3 w.heap.size 52 qs.toList):=hid hb3;have HR3:Hid (ae w3 (w.heap.size+1) 52 zs.toList):=hid ((HR1.out.keep k2).grown hg3 (fun e=>by injection e with e;omega));have aA:Hid (Keep w w3):=hid (aK ay.out hg3 (by omega));clear k2 HB1 ai ay eP hb3 hg3 HR1;go_upto_region 2 with fail
 clear hst3;by_cases hc:c=2∨c=3∨c=4∨c=5∨c=6∨c=7∨c=11∨c=13
 ·have hR:R=q.JI:=HT.out.trans (if_pos hc)
  have iR:=hid hR;clear hR HT;rcases hc with rfl | rfl | rfl | rfl | rfl | rfl | rfl | rfl
  ·go_wp2_with ((with_reducible refine bY w.heap.size qs (Eq.trans ?_ rfl) yI.out _ underlying52 rfl hqi ?_);rfl)
   refine(AQ _ qs HQ.out _).mono ?_;rintro e w5 ⟨bs,rfl,bC,k5⟩;have hbn:=bC.n;have hbz:=bC.z;have hbi:=bC.i
   have dG:=hid bC;have aJ:=hid (af aA.out k5);obtain⟨w8,fQ,aY,bf⟩:=jo bs.toList (HR3.out.keep k5) (by rw[Array.length_toList,Array.length_toList,hzz,hbz]) bC.o;clear bC k5;go_wp2
   exact bodyPost_ret (v:=.agg bs) (gJ results78 aY.out underlying52 hbi rfl rfl) rfl ⟨bs,rfl,by rw[iR.out];exact dG.out,aK aJ.out bf.out (by omega)⟩
  ·go_wp2_with ((with_reducible refine bY w.heap.size qs (Eq.trans ?_ rfl) yI.out _ underlying52 rfl hqi ?_);rfl)
   refine(AQ _ qs HQ.out _).mono ?_;rintro e w5 ⟨bs,rfl,bC,k5⟩;have hbn:=bC.n;have hbz:=bC.z;have hbi:=bC.i
   have dG:=hid bC;have aJ:=hid (af aA.out k5);obtain⟨w8,fQ,aY,bf⟩:=jo bs.toList (HR3.out.keep k5) (by rw[Array.length_toList,Array.length_toList,hzz,hbz]) bC.o;clear bC k5;go_wp2
   exact bodyPost_ret (v:=.agg bs) (gJ results78 aY.out underlying52 hbi rfl rfl) rfl ⟨bs,rfl,by rw[iR.out];exact dG.out,aK aJ.out bf.out (by omega)⟩
  ·go_wp2_with ((with_reducible refine bY w.heap.size qs (Eq.trans ?_ rfl) yI.out _ underlying52 rfl hqi ?_);rfl)
   refine(AQ _ qs HQ.out _).mono ?_;rintro e w5 ⟨bs,rfl,bC,k5⟩;have hbn:=bC.n;have hbz:=bC.z;have hbi:=bC.i
   have dG:=hid bC;have aJ:=hid (af aA.out k5);obtain⟨w8,fQ,aY,bf⟩:=jo bs.toList (HR3.out.keep k5) (by rw[Array.length_toList,Array.length_toList,hzz,hbz]) bC.o;clear bC k5;go_wp2
   exact bodyPost_ret (v:=.agg bs) (gJ results78 aY.out underlying52 hbi rfl rfl) rfl ⟨bs,rfl,by rw[iR.out];exact dG.out,aK aJ.out bf.out (by omega)⟩
  ·go_wp2_with ((with_reducible refine bY w.heap.size qs (Eq.trans ?_ rfl) yI.out _ underlying52 rfl hqi ?_);rfl)
   refine(AQ _ qs HQ.out _).mono ?_;rintro e w5 ⟨bs,rfl,bC,k5⟩;have hbn:=bC.n;have hbz:=bC.z;have hbi:=bC.i
   have dG:=hid bC;have aJ:=hid (af aA.out k5);obtain⟨w8,fQ,aY,bf⟩:=jo bs.toList (HR3.out.keep k5) (by rw[Array.length_toList,Array.length_toList,hzz,hbz]) bC.o;clear bC k5;go_wp2
   exact bodyPost_ret (v:=.agg bs) (gJ results78 aY.out underlying52 hbi rfl rfl) rfl ⟨bs,rfl,by rw[iR.out];exact dG.out,aK aJ.out bf.out (by omega)⟩
  ·go_wp2_with ((with_reducible refine bY w.heap.size qs (Eq.trans ?_ rfl) yI.out _ underlying52 rfl hqi ?_);rfl)
   refine(AQ _ qs HQ.out _).mono ?_;rintro e w5 ⟨bs,rfl,bC,k5⟩;have hbn:=bC.n;have hbz:=bC.z;have hbi:=bC.i
   have dG:=hid bC;have aJ:=hid (af aA.out k5);obtain⟨w8,fQ,aY,bf⟩:=jo bs.toList (HR3.out.keep k5) (by rw[Array.length_toList,Array.length_toList,hzz,hbz]) bC.o;clear bC k5;go_wp2
   exact bodyPost_ret (v:=.agg bs) (gJ results78 aY.out underlying52 hbi rfl rfl) rfl ⟨bs,rfl,by rw[iR.out];exact dG.out,aK aJ.out bf.out (by omega)⟩
  ·go_wp2_with ((with_reducible refine bY w.heap.size qs (Eq.trans ?_ rfl) yI.out _ underlying52 rfl hqi ?_);rfl)
   refine(AQ _ qs HQ.out _).mono ?_;rintro e w5 ⟨bs,rfl,bC,k5⟩;have hbn:=bC.n;have hbz:=bC.z;have hbi:=bC.i
   have dG:=hid bC;have aJ:=hid (af aA.out k5);obtain⟨w8,fQ,aY,bf⟩:=jo bs.toList (HR3.out.keep k5) (by rw[Array.length_toList,Array.length_toList,hzz,hbz]) bC.o;clear bC k5;go_wp2
   exact bodyPost_ret (v:=.agg bs) (gJ results78 aY.out underlying52 hbi rfl rfl) rfl ⟨bs,rfl,by rw[iR.out];exact dG.out,aK aJ.out bf.out (by omega)⟩
  ·go_wp2_with ((with_reducible refine bY w.heap.size qs (Eq.trans ?_ rfl) yI.out _ underlying52 rfl hqi ?_);rfl)
   refine(AQ _ qs HQ.out _).mono ?_;rintro e w5 ⟨bs,rfl,bC,k5⟩;have hbn:=bC.n;have hbz:=bC.z;have hbi:=bC.i
   have dG:=hid bC;have aJ:=hid (af aA.out k5);obtain⟨w8,fQ,aY,bf⟩:=jo bs.toList (HR3.out.keep k5) (by rw[Array.length_toList,Array.length_toList,hzz,hbz]) bC.o;clear bC k5;go_wp2
   exact bodyPost_ret (v:=.agg bs) (gJ results78 aY.out underlying52 hbi rfl rfl) rfl ⟨bs,rfl,by rw[iR.out];exact dG.out,aK aJ.out bf.out (by omega)⟩
  ·go_wp2_with ((with_reducible refine bY w.heap.size qs (Eq.trans ?_ rfl) yI.out _ underlying52 rfl hqi ?_);rfl)
   refine(AQ _ qs HQ.out _).mono ?_;rintro e w5 ⟨bs,rfl,bC,k5⟩;have hbn:=bC.n;have hbz:=bC.z;have hbi:=bC.i
   have dG:=hid bC;have aJ:=hid (af aA.out k5);obtain⟨w8,fQ,aY,bf⟩:=jo bs.toList (HR3.out.keep k5) (by rw[Array.length_toList,Array.length_toList,hzz,hbz]) bC.o;clear bC k5;go_wp2
   exact bodyPost_ret (v:=.agg bs) (gJ results78 aY.out underlying52 hbi rfl rfl) rfl ⟨bs,rfl,by rw[iR.out];exact dG.out,aK aJ.out bf.out (by omega)⟩
 ·have hR:R=q:=HT.out.trans (if_neg hc)
  have iR:=hid hR;have e2:(c==2)=false:=by rw[beq_eq_false_iff_ne];exact fun h=>hc (by simp[h])
  have e3:(c==3)=false:=by rw[beq_eq_false_iff_ne];exact fun h=>hc (by simp[h])
  have e4:(c==4)=false:=by rw[beq_eq_false_iff_ne];exact fun h=>hc (by simp[h])
  have e5:(c==5)=false:=by rw[beq_eq_false_iff_ne];exact fun h=>hc (by simp[h])
  have e6:(c==6)=false:=by rw[beq_eq_false_iff_ne];exact fun h=>hc (by simp[h])
  have e7:(c==7)=false:=by rw[beq_eq_false_iff_ne];exact fun h=>hc (by simp[h])
  have e11:(c==11)=false:=by rw[beq_eq_false_iff_ne];exact fun h=>hc (by simp[h])
  have e13:(c==13)=false:=by rw[beq_eq_false_iff_ne];exact fun h=>hc (by simp[h])
  clear hR HT hc;obtain⟨w8,fQ,hb8,aZ⟩:=bn (P:=prog) qs.toList HR3.out (by rw[Array.length_toList,Array.length_toList,hzz,HQ.out.z]) HQ.out.o;have aY:=hid hb8;have bf:=hid aZ
  have a3a:=HQ.out.i;have c3o:=HQ.out.n;have c3p:=HQ.out.z;clear hb8 aZ;go_wp2_with ((with_reducible refine bY w.heap.size qs (Eq.trans ?_ rfl) yI.out _ underlying52 rfl a3a ?_);rfl)
  exact bodyPost_ret (v:=.agg qs) (gJ results78 aY.out underlying52 a3a rfl rfl) rfl ⟨qs,rfl,by rw[iR.out];exact HQ.out,aK aA.out bf.out (by omega)⟩
theorem a2a (B:Nat) (v:Value) (N:Nat) (xs:List Value) (w:World) (own:w.ownsRow B 5 1 v N xs) (hB:B≤w.heap.size) (hN:N≤900000000) (x:UInt32) :
  Calls prog 92 #[v,ag x] w (rf B v (N+4) (xs++(le4 x).map ah) w):=by
 have HO:=hid own;have HB:=hid hB
 obtain⟨a0,a1,a2,a3,hl,h0,h1,h2,h3⟩ : ∃ a0 a1 a2 a3:UInt8,le4 x=[a0,a1,a2,a3]∧(x.toNat:Int)%256=(a0.toNat:Int)∧(x.toNat:Int)/256%256=(a1.toNat:Int)∧(x.toNat:Int)/65536%256=(a2.toNat:Int)∧(x.toNat:Int)/16777216%256=(a3.toNat:Int):=by
  have key : ∀ k,dN x k=((w8 (dN x k)).toNat:Int):=fun k=>rW (Int.emod_nonneg _ (by decide)) (by have q:=Int.emod_lt_of_pos ((x.toNat:Int)/2^(8*k)) (by decide:(0:Int)<256);unfold dN;omega);have k0:(x.toNat:Int)/1%256=((w8 (dN x 0)).toNat:Int):=key 0;rw[Int.ediv_one]at k0;exact⟨_,_,_,_,rfl,k0,key 1,key 2,key 3⟩
 rw[hl];clear own hl hB;unfold rf;go_enter func92,ntmps92
 go_wp2_with (at_builtin;refine iF jU (by rfl) _ _ (by rfl) B _ N xs (by rfl) (HO.out.alloc _) _ 4 4 [ah a0,ah a1,ah a2,ah a3] (by rfl) (by rfl) (Rd.new _ _ _) (by simp[Value.oneCell']) (by omega) (by unfold maxLen;omega) (by have:=HB.out;simp;omega) ?_;intro v2 w2 kJ hg2 zn;have Own2:=hid kJ;have a7U:=hid (Gr.app (Gr.oz (aB w _) v) hg2 zn);clear kJ hg2 zn)
 exact bodyPost_ret (v:=v2) (by simp[results,results92]) rfl ⟨_,rfl,Own2.out,a7U.out⟩
end Go.Proofs.YtiagcenlnekdeaaGreatDoor
