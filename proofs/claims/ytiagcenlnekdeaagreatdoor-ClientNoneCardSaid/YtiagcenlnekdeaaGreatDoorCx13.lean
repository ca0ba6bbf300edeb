/- Texts merged by pack.py: DsP, JoC, SnA, SnB. -/
import Derived.Test.YtiagcenlnekdeaaGreatDoorCx11
import Derived.Test.YtiagcenlnekdeaaGreatDoorCx12
import Derived.Test.YtiagcenlnekdeaaGreatDoorCx6
import Derived.Stop.BytesEq
set_option maxRecDepth 1000000
set_option maxHeartbeats 16000000
open Go.Proofs.Tryz
open Go.Lib (hid)
set_option linter.unusedSimpArgs false
set_option linter.unusedVariables false
namespace Go.Proofs.YtiagcenlnekdeaaGreatDoor
open Go.RowKit
theorem a6y {b d:List UInt8} {o k:Nat} (hk:k<b.length) (ho:o+d.length≤b.length):(splice b o d)[k]?=if o≤k∧k<o+d.length then d[k - o]? else b[k]?:=by
 unfold splice;by_cases h1:k<o
 ·rw[if_neg (by omega),List.getElem?_append_left (by simp;omega),List.getElem?_take,if_pos h1]
 ·by_cases h2:k<o+d.length
  ·rw[if_pos ⟨by omega,h2⟩,List.getElem?_append_right (by simp;omega),List.getElem?_append_left (by simp;omega)]
   congr 1;simp;omega
  ·rw[if_neg (by omega),List.getElem?_append_right (by simp;omega),List.getElem?_append_right (by simp;omega),List.getElem?_drop]
   congr 1;simp;omega
end Go.Proofs.YtiagcenlnekdeaaGreatDoor
namespace Go.Proofs.YtiagcenlnekdeaaGreatDoor
open Go.RowKit
abbrev WP:=Int × List UInt8
def LJ (nb:Nat) (p:WP):Bool:=decide (0≤p.1∧p.1<(nb/32:Nat)∧p.2.length=32)
def gp (nb:Nat) (ps:List WP):Bool:=decide (nb%32=0∧nb/32≤4096∧ps.length≤100000)&&ps.all (LJ nb)
theorem b88 (nb:Nat) (ws:List aG):lu nb ws=gp nb (ws.map aG.pl):=by
 unfold lu gp;rw[List.length_map,List.all_map];rfl
def qG (b:List UInt8) (ps:List WP):List UInt8:=ps.foldl (fun b p=>splice b (32*p.1.toNat) p.2) b
theorem a08 : ∀ (ws:List aG) (b:List UInt8),ws.foldl yu b=qG b (ws.map aG.pl)
 | [],_=>rfl
 | x::ws,b=>by rw[List.foldl_cons,a08 ws];rfl
theorem Xt (b:List UInt8) (ws:List aG):gB b ws=(if gp b.length (ws.map aG.pl)then b else[])∧(dX b ws).map aG.pl=(if gp b.length (ws.map aG.pl)then ws.map aG.pl else[]):=by
 unfold gB dX;rw[b88]
 split <;> exact⟨rfl,rfl⟩
theorem OQ (nb:Nat) : ∀ (ps:List WP) (b:List UInt8),b.length=nb→ps.all (LJ nb)=true→(qG b ps).length=nb
 | [],_,h,_=>h
 | p::ps,b,h,ha=>by
   rw[List.all_cons,Bool.and_eq_true]at ha
   have:=of_decide_eq_true ha.1
   exact OQ nb ps (splice b (32*p.1.toNat) p.2) (by rw[length_splice,h];omega) ha.2
theorem a6l {nb:Nat} {ps:List WP} (h:gp nb ps=true):ps.all (LJ nb)=true:=by
 unfold gp at h;exact(Bool.and_eq_true_iff.1 h).2
theorem b87 {nb:Nat} {ps:List WP} (h:gp nb ps=true):gp nb []=true:=by
 unfold gp at h ⊢;rw[Bool.and_eq_true]at h ⊢
 have:=of_decide_eq_true h.1
 exact⟨decide_eq_true ⟨this.1,this.2.1,by simp⟩,by simp⟩
end Go.Proofs.YtiagcenlnekdeaaGreatDoor
namespace Go.Proofs.YtiagcenlnekdeaaGreatDoor
open Go.RowKit
def sec (b:List UInt8) (k:Nat):List UInt8:=(b.drop (32*k)).take 32
theorem Qw (b:List UInt8) (k i:Nat) (hi:i<32):(sec b k)[i]?=b[32*k+i]?:=by
 unfold sec;rw[List.getElem?_take,if_pos hi,List.getElem?_drop]
theorem b9d {b:List UInt8} {k:Nat} {d:List UInt8} (hd:d.length=32) (h : ∀ i,i<32→b[32*k+i]?=d[i]?):sec b k=d:=by
 apply List.ext_getElem?
 intro i;by_cases hi:i<32
 ·rw[Qw b k i hi,h i hi]
 ·rw[List.getElem?_eq_none (by unfold sec;rw[List.length_take];omega),List.getElem?_eq_none (by omega)]
theorem b9e {b b':List UInt8} {k:Nat} (h : ∀ i,i<32→b[32*k+i]?=b'[32*k+i]?):sec b k=sec b' k:=by
 apply List.ext_getElem?
 intro i;by_cases hi:i<32
 ·rw[Qw b k i hi,Qw b' k i hi,h i hi]
 ·rw[List.getElem?_eq_none (by unfold sec;rw[List.length_take];omega),List.getElem?_eq_none (by unfold sec;rw[List.length_take];omega)]
theorem b9g {b d:List UInt8} {m k:Nat} (hd:d.length=32) (hm:32*m+32≤b.length) (hk:32*k+32≤b.length):sec (splice b (32*m) d) k=if k=m then d else sec b k:=by
 split
 ·rename_i h
  subst h;refine b9d hd fun i hi=>?_;rw[a6y (by omega) (by omega),if_pos (by omega)]
  congr 1;omega
 ·refine b9e fun i hi=>?_
  rw[a6y (by omega) (by omega),if_neg (by omega)]
theorem b6u (at_:Int) (data:List UInt8) (n:Nat):iM at_ data (n+1)=iM at_ data n++[(at_+n,sec data n)]:=by
 unfold iM;rw[List.range_succ,List.map_append];rfl
theorem a4s {nb:Nat} {at_:Nat} {data:List UInt8} {n:Nat} (h1:32*(at_+n)≤nb) (h2:32*n≤data.length):(iM at_ data n).all (LJ nb)=true:=by
 rw[List.all_eq_true];intro p hp;obtain⟨k,hk,rfl⟩:=List.mem_map.1 hp;have hk:=List.mem_range.1 hk;exact decide_eq_true ⟨by simp;omega,by simp;omega,by simp;omega⟩
theorem a07 (b:List UInt8) (at_:Nat) (data:List UInt8) (k:Nat) (hk:32*k+32≤b.length) : ∀ (n:Nat),32*(at_+n)≤b.length→32*n≤data.length →
  sec (qG b (iM at_ data n)) k=if at_≤k∧k<at_+n then sec data (k - at_)else sec b k
 | 0,_,_=>by rw[if_neg (by omega)];rfl
 | n+1,h1,h2=>by
   have ih:=a07 b at_ data k hk n (by omega) (by omega);have hl:=OQ b.length (iM at_ data n) b rfl (a4s (by omega) (by omega));have hsd:(sec data n).length=32:=by unfold sec;rw[List.length_take,List.length_drop];omega
   have e:qG b (iM at_ data (n+1))=splice (qG b (iM at_ data n)) (32*(at_+n)) (sec data n):=by
    rw[b6u];unfold qG;rw[List.foldl_append]
    show splice _ (32*((at_:Int)+(n:Int)).toNat) _=_
    rw[show((at_:Int)+(n:Int)).toNat=at_+n by omega]
   rw[e,b9g hsd (by omega) (by omega),ih];by_cases h:k=at_+n
   ·rw[if_pos h,if_pos (by omega),h];congr 1;omega
   ·rw[if_neg h]
    by_cases h3:at_≤k∧k<at_+n
    ·rw[if_pos h3,if_pos (by omega)]
    ·rw[if_neg h3,if_neg (by omega)]
theorem b1Q (b:List UInt8) (ps qs:List WP):qG b (ps++qs)=qG (qG b ps) qs:=by unfold qG;rw[List.foldl_append]
theorem b1O (b:List UInt8) (ws:List aG):bytesD b ws=qG (gB b ws) ((dX b ws).map aG.pl):=by unfold bytesD;exact a08 _ _
end Go.Proofs.YtiagcenlnekdeaaGreatDoor
namespace Go.Proofs.YtiagcenlnekdeaaGreatDoor
open Go.RowKit
theorem b9f {s:List UInt8} (h:s.length=32):sec s 0=s:=by unfold sec;rw[Nat.mul_zero,List.drop_zero,List.take_of_length_le (by omega)]
def Ex (H:Nat) (w W:World):Prop:=w.heap.size≤W.heap.size∧∀ k,k<w.heap.size→k≠H→W.heap[k]?=w.heap[k]?
theorem Ex.oz {H:Nat} {w W:World} (h:Keep w W):Ex H w W:=⟨h.size,fun k hk _=>h.block k hk⟩
theorem Ex.trans {H:Nat} {a b c:World} (h:Ex H a b) (g:Ex H b c):Ex H a c:=⟨Nat.le_trans h.1 g.1,fun k hk hn=>(g.2 k (Nat.lt_of_lt_of_le hk h.1) hn).trans (h.2 k hk hn)⟩
theorem Ex.az {H:Nat} {w W:World} (h:Ex H w W) (o:Nat) (v:Value):Ex H w (W.setCell ⟨H,o,none⟩ v):=⟨by simpa using h.1,fun k hk hn=>(GH W H o v k hn).trans (h.2 k hk hn)⟩
theorem Ex.cell {H:Nat} {w W:World} (h:Ex H w W) {b o:Nat} {v:Value} (hc:w.cell? ⟨b,o,none⟩=some v) (hn:b≠H):W.cell? ⟨b,o,none⟩=some v :=
 (World.cell?_of_block (h.2 b (cell_lt hc) hn)).trans hc
theorem Ex.keep {H:Nat} {w W:World} {B:World} (h:Ex H w W) (hb:B.heap.size≤H) (hk:Keep B w) (ho:W.os=w.os∧W.tape=w.tape∧W.output=w.output):Keep B W :=
 ⟨ho.1.trans hk.os,ho.2.1.trans hk.tape,ho.2.2.trans hk.output,Nat.le_trans hk.size h.1,fun k hl=>(h.2 k (Nat.lt_of_lt_of_le hl hk.size) (by omega)).trans (hk.block k hl)⟩
def yF (H G:Nat) (w W:World):Prop:=w.heap.size≤W.heap.size∧∀ k,k<w.heap.size→k≠H→k≠G→W.heap[k]?=w.heap[k]?
theorem yF.oz {H G:Nat} {w W:World} (h:Keep w W):yF H G w W:=⟨h.size,fun k hk _ _=>h.block k hk⟩
theorem yF.trans {H G:Nat} {a b c:World} (h:yF H G a b) (g:yF H G b c):yF H G a c:=⟨Nat.le_trans h.1 g.1,fun k hk hn hm=>(g.2 k (Nat.lt_of_lt_of_le hk h.1) hn hm).trans (h.2 k hk hn hm)⟩
theorem yF.az {H G:Nat} {w W:World} (h:yF H G w W) (o:Nat) (v:Value):yF H G w (W.setCell ⟨G,o,none⟩ v):=⟨by simpa using h.1,fun k hk hn hm=>(GH W G o v k hm).trans (h.2 k hk hn hm)⟩
theorem Rd.blocks {w W:World} {A:Option Addr} {xs:List Value} (h:Rd w A xs) (hb : ∀ k,k<w.heap.size→W.heap[k]?=w.heap[k]?):Rd W A xs :=
 h.mono fun b o v hv=>(World.cell?_of_block (hb b (cell_lt hv))).trans hv
theorem dJ.blocks {w W:World} {A:Option Addr} {b:List UInt8} {c:Nat} {PA:Option Addr} {ws:List aG} {pc:Nat} (h:dJ w A b c PA ws pc) (hb : ∀ k,k<w.heap.size→W.heap[k]?=w.heap[k]?):dJ W A b c PA ws pc :=
 ⟨h.rb.blocks hb,h.bc,h.cm,h.rp.blocks hb,h.pl,h.pm,fun x hx=>⟨(h.ok x hx).1.blocks hb,(h.ok x hx).2⟩⟩
end Go.Proofs.YtiagcenlnekdeaaGreatDoor
namespace Go.Proofs.YtiagcenlnekdeaaGreatDoor
open Go.RowKit
attribute [local go_sem ↓] Go.wp_at_zero Go.wp_at_succ
def nO (B:Nat) (F:World→Prop) (w' W:World):Prop:=F W∧∀ k,B≤k→k<w'.heap.size→W.heap[k]?=w'.heap[k]?
theorem nO.keep {B:Nat} {F:World→Prop} {w w' W:World} (hF : ∀ W,Keep w W→F W) (h0:Keep w w') (h:Keep w' W):nO B F w' W:=⟨hF _ (af h0 h),fun k _ h2=>h.block k h2⟩
theorem nO.call {B:Nat} {F:World→Prop} {w1 w2 w3 W:World} (hB:B≤w1.heap.size) (h12:Keep w1 w2) (h23:w2.heap.size≤w3.heap.size) (hg : ∀ k,B≤k→k<w2.heap.size→w3.heap[k]?=w2.heap[k]?)
  (h:nO B F w3 W):lY (nO B F w1) w1 w2 W:=by
 have hz:=h12.size;refine⟨⟨h.1,fun k h1 h2=>?_⟩,fun k h1 h2=>?_⟩
 ·rw[h.2 k h1 (by omega),hg k h1 (by omega),h12.block k h2]
 ·rw[h.2 k (by omega) (by omega),hg k (by omega) h2]
theorem nO.step {B:Nat} {F:World→Prop} {w2 w3 W:World} (h23:w2.heap.size≤w3.heap.size) (hg : ∀ k,B≤k→k<w2.heap.size→w3.heap[k]?=w2.heap[k]?)
  (h:nO B F w3 W):nO B F w2 W:=⟨h.1,fun k h1 h2=>by rw[h.2 k h1 (by omega),hg k h1 h2]⟩
def nT (b:List UInt8) (ps:List WP) (i:Int):List WP:=if gp b.length ps=true∧oh b.length ps.length i 1=true then ps++[(i,z32)]else ps
def nS (b:List UInt8) (base:Int) (n:Nat):Nat→List WP→List WP
 | 0,ps=>ps
 | k+1,ps=>nT b (nS b base n k ps) (wrap64 (base+(n+k:Nat)))
def Di (b:List UInt8) (base room:Int) (N:Nat) (ps:List WP):List WP :=
 if base<0 then ps else nS b base (4*N) (4*dB room - 4*N) ps
theorem a5Q (b:List UInt8) (vs:List aG) (i:Int) :
  ((wZ b vs i z32).2=0→gB b vs=b∧(wZ b vs i z32).1=nT b (vs.map aG.pl) i)∧((wZ b vs i z32).2≠0→nT b (vs.map aG.pl) i=vs.map aG.pl)∧((wZ b vs i z32).2=0∨(wZ b vs i z32).2=14):=by
 have h32:z32.length=32:=rfl
 have e:wZ b vs i z32=if oh (gB b vs).length (dX b vs).length i 1 then((dX b vs).map aG.pl++iM i z32 1,0)else((dX b vs).map aG.pl,14):=by
  unfold wZ lS;rw[if_pos h32,h32,if_neg (by omega),if_neg (by omega)]
 have e1:iM i z32 1=[(i,z32)]:=by
  unfold iM;simp;decide
 rw[e,e1];have ht:=Xt b vs;have hl:(dX b vs).length=((dX b vs).map aG.pl).length:=by rw[List.length_map]
 unfold nT;by_cases hs:gp b.length (vs.map aG.pl)=true
 ·rw[if_pos hs,if_pos hs]at ht
  rw[hl,ht.1,ht.2];by_cases hk:oh b.length (vs.map aG.pl).length i 1=true
  ·rw[if_pos hk,if_pos ⟨hs,hk⟩]
   exact⟨fun _=>⟨rfl,rfl⟩,fun h=>absurd rfl h,.inl rfl⟩
  ·rw[if_neg hk,if_neg (fun h=>hk h.2)]
   exact⟨fun h=>by simp at h,fun _=>rfl,.inr rfl⟩
 ·rw[if_neg hs,if_neg hs]at ht
  rw[hl,ht.1,ht.2]
  have hk : ¬ oh ([]:List UInt8).length ([]:List WP).length i 1=true:=by
   unfold oh;rw[decide_eq_true_eq];simp;omega
  rw[if_neg hk,if_neg (fun h=>hs h.1)];exact⟨fun h=>by simp at h,fun _=>rfl,.inr rfl⟩
theorem a5s (aH:Nat) (room:Int) (bs:List UInt8) : ∀ (f k:Nat) (last:List UInt8) (hs:List Hd),k≤1024→(mr aH room bs f k last hs).1≤1024
 | 0,k,last,hs,h=>h
 | f+1,k,last,hs,h=>by
   rw[mr]
   split
   ·rename_i h1
    exact a5s aH room bs f _ _ _ (a5f h1)
   ·exact h
theorem a5x (base room:Int) (bs:List UInt8):(dF base room bs).1≤1024:=by
 unfold dF;split
 ·exact Nat.zero_le _
 ·exact a5s _ _ _ _ _ _ _ (Nat.zero_le _)
theorem b2C (A:Option Addr) (b:List UInt8) (c:Nat) (PA:Option Addr) (ws:List aG) (pc:Nat) (base room n:Int) (last:List UInt8) (ls:Array Value) (w:World) (F:World→Prop) (hF : ∀ W,Keep w W→F W) (h : ∀ W,F W→dJ W A b c PA ws pc) (hS:bV w) (hb1 : -9223372036854775808≤base∧base≤9223372036854775807)
  (hls:gV (bW (.slice A b.length c) (.slice PA ws.length pc) base room n last) ls) :
  Calls prog 74 #[.agg ls] w fun e w' => ∃ A' c' PA' pc' vs cs,e = .returned (.agg cs)∧gV (bW (.slice A' b.length c') (.slice PA' vs.length pc') base room ((dF base room (bytesD b ws)).1:Nat) (dF base room (bytesD b ws)).2.1) cs ∧
   vs.map aG.pl=Di b base room (dF base room (bytesD b ws)).1 (ws.map aG.pl)∧(∀ W,lY F w w' W→dJ W A' b c' PA' vs pc')∧Keep w w':=by
 have T1:Hid (∀ w',Keep w w'→Calls prog 103 #[.agg ls] w' fun e w'' => ∃ cs,e = .returned (.agg cs)∧gV (bW (.slice A b.length c) (.slice PA ws.length pc) base room ((dF base room (bytesD b ws)).1:Nat) (dF base room (bytesD b ws)).2.1) cs∧Keep w' w''):=fun w' hk=>V4 A b c PA ws pc base room n last ls w' (h _ (hF _ hk)) (hS.keep hk) hb1 hls
 have P1:Hid (∀ (A2:Option Addr) (c2:Nat) (dM:Option Addr) (dI:Nat) (vs:List aG) (w':World) (Fr:World→Prop) (Z:Nat) (i:Int),(∀ W,Keep w' W→Fr W)→(∀ W,Fr W→dJ W A2 b c2 dM vs dI)→ae w' Z 5 (z32.map ah)→(-9223372036854775808≤i∧i≤9223372036854775807) →
   Calls prog 106 #[dP A2 b.length c2 dM vs.length dI,.int .i64 i,.slice (some ⟨Z,0,none⟩) 32 32] w' fun e w'' => ∃ A' tl c' PA' pc' us er,e = .returned (.tuple #[dP A' tl c' PA' us.length pc',.int .i64 er]) ∧
    (er=0→tl=b.length∧us.map aG.pl=nT b (vs.map aG.pl) i∧∀ W,lY Fr w' w'' W→dJ W A' b c' PA' us pc')∧(er≠0→nT b (vs.map aG.pl) i=vs.map aG.pl)∧Keep w' w''):=fun A2 c2 dM dI vs w' Fr Z i hFr hd hZ hi =>
  (b8v A2 b c2 dM vs dI i (some ⟨Z,0,none⟩) z32 32 w' Fr hFr hd hZ.rd (by decide) hi).mono fun e w'' ⟨A',c',PA',pc',us,h1,h2,h3,h4⟩ =>
   ⟨A',_,c',PA',pc',us,_,h1,fun h0=>by
    obtain⟨q1,q2⟩:=(a5Q b vs i).1 h0;rw[q1]at h3
    exact⟨by rw[q1],h2.trans q2,h3⟩,(a5Q b vs i).2.1,h4⟩
 have hll:Hid ((dF base room (bytesD b ws)).2.1.length=32):=LM _ _ _;have hle:=a5x base room (bytesD b ws);generalize dF base room (bytesD b ws)=OP at *;obtain⟨N,last'⟩:=OP;obtain⟨zs,hz1,hz2,hz3⟩:=Ey;have hlz:=hls.z;have hln:=hls.n;have nX:=hls.i
 have nN:=hid hls;have HF:=hid hF;have Hh:=hid h
 clear hls h hS hF;have hrm:dB room≤1024:=by unfold dB;omega
 generalize hbl:b.length=bl at *;generalize hwl:ws.length=wl at *;have yU:=hid hbl;have Hwl:=hid hwl
 clear hbl hwl;go_enter func74,ntmps74
 go_upto_region 1 with fail
 obtain⟨w1,hw1,ku,HR1,ai,Gf⟩:=qF w 45 45 ls zs;rw[←hw1];clear hw1;go_wp2_with ((with_reducible refine bY w.heap.size ls (Eq.trans ?_ rfl) ku.out _ underlying45 rfl nX ?_);rfl)
 refine(T1.out w1 ai.out).mono ?_;rintro e w2 ⟨cs,rfl,hcs,k2⟩;have hcz:=hcs.z;have hcn:=hcs.n;have hci:=hcs.i
 have dh:=hid hcs;have HR2:=hid (HR1.out.keep k2);have ay:=hid (af ai.out k2);obtain⟨w3,hst,hb3,hg3⟩:=bn (P:=prog) cs.toList (ku.out.keep k2) (by simp[hlz,hcz]) dh.out.o;have J9:=hb3;rw[dh.out.l]at hb3;have HB3:=hid hb3;have Ih:=hid J9;have HR3:=hid (HR2.out.grown hg3 (iw (by omega)))
 have aA:Hid (Keep w w3):=aK ay.out hg3 (by omega);have PL:w1.heap.size≤w3.heap.size:=Nat.le_trans k2.size hg3.size;clear hcs k2 hb3 J9 hg3;go_upto_region 2 with fail
 clear hst;obtain⟨c0,c1,c2,c3,c4⟩:=sS HB3.out;by_cases hn:base<0
 ·have HC:Hid (Di b base room N (ws.map aG.pl)=ws.map aG.pl):=if_pos hn
  obtain⟨w8,fQ,aY,bf⟩:=jo cs.toList HR3.out (by simp[hz1,hcz]) dh.out.o;go_wp2_with ((with_reducible refine bY w.heap.size cs (Eq.trans ?_ rfl) Ih.out _ underlying45 rfl hci ?_);rfl)
  refine bodyPost_ret (v:=.agg cs) (gJ results74 aY.out underlying45 hci rfl rfl) rfl ⟨A,c,PA,pc,ws,cs,rfl,?_,HC.out.symm,fun W hW=>?_,aK aA.out bf.out (by omega)⟩
  ·rw[Hwl.out];exact dh.out
  ·exact Hh.out W hW.1
 ·have HC:Hid (Di b base room N (ws.map aG.pl)=nS b base (4*N) (4*dB room - 4*N) (ws.map aG.pl)):=if_neg hn
  obtain⟨w4,hmk,a2J,k4,jb⟩:=Ll 32 32 32 32 rfl rfl (by omega) (by omega) w3;have Tc:=hid a2J;have HB4:=hid (HB3.out.keep k4);have HR4:=hid (HR3.out.keep k4);have aQ:=hid (af aA.out k4)
  have c2p:=hid k4;clear a2J k4;go_upto_region 5 with fail
  clear hmk c0 c1 c2 c3 c4;obtain⟨c0,c1,c2,c3,c4⟩:=sS HB4.out;go_wp2_with fail
  clear c0 c1 c2 c3 c4 hcz hcn hci Ih HB3 HR3 HR2;have c3b:w.heap.size+2≤w3.heap.size:=by omega
  go_loopw [4] (fun i wr => ∃ (k m:Nat) (A2:Option Addr) (c2:Nat) (dM:Option Addr) (dI:Nat) (vs:List aG),Hid (m=4*N+k)∧k≤4*dB room - 4*N∧i = .int .i64 m∧vs.map aG.pl=nS b base (4*N) k (ws.map aG.pl) ∧
    ae wr w.heap.size 45 (bW (.slice A2 bl c2) (.slice dM vs.length dI) base room N last'.fst)∧ae wr (w.heap.size+1) 45 zs.toList∧ae wr w3.heap.size 5 (z32.map ah) ∧
    (∀ W,nO (w.heap.size+2) F wr W→dJ W A2 b c2 dM vs dI)∧Keep w wr)
   (fun i _=>4*dB room - (intOf i).toNat)
  case atStart =>
   refine⟨0,4*N,A,c,PA,pc,ws,hid rfl,Nat.zero_le _,by go_num,rfl,?_,HR4.out,Tc.out,fun W hW=>Hh.out W hW.1,aQ.out⟩;rw[Hwl.out];exact HB4.out
  case round =>
   obtain⟨k,m,A2,c2,dM,dI,vs,CV,hk,rfl,hvs,hB,hR,hZ,hd,hkr⟩:=hrel;have TR:=hid hvs;have HB:=hid hB;have HR:=hid hR;have HZ:=hid hZ;have Hd:=hid hd;have Oj:=hid hkr
   have PN:=hkr.size;have hLr:=hB.lt;have hRr:=hR.lt;have c3c:=hZ.lt
   have hmk:m=4*N+k:=CV.out;clear hvs hB hR hZ hd hkr;obtain⟨c0,c1,q2,c3,c4⟩:=sS HB.out
   have HQ:Hid (∀ i,(-9223372036854775808≤i∧i≤9223372036854775807)→Calls prog 106 #[dP A2 bl c2 dM vs.length dI,.int .i64 i,.slice (some ⟨w3.heap.size,0,none⟩) 32 32] wr fun e w'' => ∃ A' tl c' PA' pc' us er,e = .returned (.tuple #[dP A' tl c' PA' us.length pc',.int .i64 er]) ∧
    (er=0→tl=bl∧us.map aG.pl=nT b (vs.map aG.pl) i∧∀ W,lY (nO (w.heap.size+2) F wr) wr w'' W→dJ W A' b c' PA' us pc')∧(er≠0→nT b (vs.map aG.pl) i=vs.map aG.pl)∧Keep wr w'') :=
    fun i hi=>P1.out A2 c2 dM dI vs wr (nO (w.heap.size+2) F wr) w3.heap.size i (fun W hW=>nO.keep HF.out Oj.out hW) Hd.out HZ.out hi
   generalize hvl:vs.length=vl at HQ c1 HB;have a0e:=hid hvl;clear hvl;have hrl:4*N≤4*dB room∨k=4*dB room - 4*N:=by omega
   by_cases hlt:m<4*dB room
   ·have hlt':(m:Int)<4*(dB room:Int):=by omega
    clear hmk hlt;go_wp2_with (go_at_call 105;refine(Gy _ _).mono ?_;rintro e wq ⟨rfl,rfl⟩)
    refine(HQ.out (wrap64 (base+m)) (by unfold wrap64;omega)).mono ?_;rintro e w5 ⟨A5,tl,c5,qC,qU,us,er,rfl,hy,hn2,k5⟩;have TT:=hid hy;have TJ:=hid hn2;have K5:=hid k5
    have jE:=hid (HB.out.keep k5);have kX:=hid (HR.out.keep k5);have ZU:=hid (HZ.out.keep k5)
    have nZ:=k5.size;have f0:=jE.out.frozen 0;have f1:=jE.out.frozen 1
    generalize KP:us.length=ul;have TQ:=hid KP;clear hy hn2 k5 c0 c1 q2 c3 c4 KP HQ;obtain⟨c0,c1,c2',c3,c4⟩:=sS jE.out;by_cases he:er=0
    ·subst he
     obtain⟨rfl,hps,hdd⟩:=TT.out rfl;have vS:=hid hps;have TA:=hid hdd
     clear hps hdd;go_upto_region 10 with fail
     obtain⟨w6,hw6,-,K6,-⟩:=mW w5 43 [.slice A5 tl c5,.slice qC ul qU];have jr:Hid (ae w6 w.heap.size 45 (bW (.slice A2 tl c2) (.slice dM vl dI) base room N last'.fst)):=by rw[hw6];exact jE.out.alloc _
     have d0:w6.cell? ⟨w5.heap.size,0,none⟩=some (.slice A5 tl c5):=by rw[hw6];exact Df _ _ _ 0
     have d1:w6.cell? ⟨w5.heap.size,1,none⟩=some (.slice qC ul qU):=by rw[hw6];exact Df _ _ _ 1
     rw[←hw6];clear hw6 c0 c1 c2' c3 c4 f0 f1;obtain⟨c0,c1,c2',c3,c4⟩:=sS jr.out;have f0:=jr.out.frozen 0;have f1:=jr.out.frozen 1
     go_wp2_with fail
     have kL:Hid (ae ((w6.setCell ⟨w.heap.size,0,none⟩ (.slice A5 tl c5)).setCell ⟨w.heap.size,1,none⟩ (.slice qC ul qU)) w.heap.size 45 (bW (.slice A5 tl c5) (.slice qC ul qU) base room N last'.fst)):=by
      rw[←We (.slice A2 tl c2) (.slice dM vl dI)];exact(jr.out.az 0 _).az 1 _
     go_roundw
     case rel =>
      refine⟨k+1,m+1,A5,c5,qC,qU,us,hid (by have:=CV.out;omega),by have:=CV.out;omega,by go_num,?_,?_,?_,?_,?_,?_⟩
      ·rw[vS.out,TR.out]
       show nT _ _ _=nT _ _ _
       rw[CV.out]
      ·rw[TQ.out];exact kL.out
      ·exact((kX.out.keep K6.out).far (by simp) _).far (by simp) _
      ·exact((ZU.out.keep K6.out).far (by simp;omega) _).far (by simp;omega) _
      ·intro W hW
       refine TA.out W (nO.call (w3:=(w6.setCell ⟨w.heap.size,0,none⟩ (.slice A5 tl c5)).setCell ⟨w.heap.size,1,none⟩ (.slice qC ul qU)) (by omega) K5.out (by simpa using K6.out.size) (fun q h1 h2=>?_) hW);rw[GH _ _ _ _ _ (by omega),GH _ _ _ _ _ (by omega)];exact K6.out.block q h2
      ·exact((af (af Oj.out K5.out) K6.out).setCell (by simp) _).setCell (by simp) _
     case measure=>simp[intOf];omega
    ·have g1:(er==0)=false:=by simpa using he
     have Jl:=hid (TJ.out he);clear he;go_wp2_with fail
     have K6:Hid (Keep w5 (w5.alloc (.cells #[.slice A5 tl c5,.slice qC ul qU] 43))):=(Below.refl _ _).alloc (Nat.le_refl _) _
     go_roundw
     case rel =>
      refine⟨k+1,m+1,A2,c2,dM,dI,vs,hid (by have:=CV.out;omega),by have:=CV.out;omega,by go_num,?_,?_,?_,?_,?_,?_⟩
      ·rw[←Jl.out,TR.out]
       show nT _ _ _=nT _ _ _
       rw[CV.out]
      ·rw[a0e.out];exact jE.out.keep K6.out
      ·exact kX.out.keep K6.out
      ·exact ZU.out.keep K6.out
      ·intro W hW
       have h2:=af K5.out K6.out;exact Hd.out W (nO.step h2.size (fun q _ h1=>h2.block q h1) hW)
      ·exact af (af Oj.out K5.out) K6.out
     case measure=>simp[intOf];omega
   ·have hlt' : ¬ (m:Int)<4*(dB room:Int):=by omega
    have a9V:=hid (show k=4*dB room - 4*N by omega);clear hmk hlt HQ;obtain⟨fs,hfs⟩ : ∃ fs:Array Value,fs.toList=bW (.slice A2 bl c2) (.slice dM vl dI) base room (N:Nat) last'.fst:=⟨_,rfl⟩
    have hfA:=gV.of hll.out hfs;have hfz:=hfA.z;have hfn:=hfA.n;have hfi:=hfA.i
    have vO:=hid hfA;have jr:Hid (ae wr w.heap.size 45 fs.toList):=by rw[hfs];exact HB.out
    clear hfA hfs;obtain⟨w8,fQ,aY,bf⟩:=jo fs.toList HR.out (by simp[hz1,hfz]) vO.out.o
    go_wp2_with (first
     | (go_at_call 105;refine(Gy _ _).mono ?_;rintro e wq ⟨rfl,rfl⟩)
     | ((with_reducible refine bY w.heap.size fs (Eq.trans ?_ rfl) jr.out _ underlying45 rfl hfi ?_);rfl))
    refine bodyPost_ret (v:=.agg fs) (gJ results74 aY.out underlying45 hfi rfl rfl) rfl ⟨A2,c2,dM,dI,vs,fs,rfl,?_,?_,fun W hW=>?_,aK Oj.out bf.out (by omega)⟩
    ·rw[a0e.out];exact vO.out
    ·rw[HC.out,←a9V.out];exact TR.out
    ·refine Hd.out W ⟨hW.1,fun q h1 h2=>?_⟩
     have b5L:=bf.out.size;rw[hW.2 q (by omega) (by omega)];exact bf.out.block q h2 (iw (by omega))
end Go.Proofs.YtiagcenlnekdeaaGreatDoor
namespace Go.Proofs.YtiagcenlnekdeaaGreatDoor
open Go.RowKit
attribute [local go_sem ↓] Go.wp_at_zero Go.wp_at_succ
def vW (b:List UInt8) (base:Int) (N:Nat) (ps:List WP):Bool:=gp b.length ps&&oh b.length ps.length (wrap64 (base+(4*N:Nat))) 4
def y7 (b:List UInt8) (base room:Int) (N:Nat) (last:List UInt8) (h:Hd) (ps:List WP):Int × Nat × List UInt8 × List WP :=
 if dB room≤N then(12,N,last,ps)
 else if vW b base N ps then(0,N+1,kK last N h,ps++iM (wrap64 (base+(4*N:Nat))) (iT last N h) 4)
 else(14,N,last,ps)
theorem b6x (b:List UInt8) (vs:List aG) (i:Int) (r:List UInt8) (hr:r.length=128) :
  ((gp b.length (vs.map aG.pl)&&oh b.length (vs.map aG.pl).length i 4)=true→(lS b vs i r).2=0∧gB b vs=b∧(lS b vs i r).1=vs.map aG.pl++iM i r 4) ∧
  ((gp b.length (vs.map aG.pl)&&oh b.length (vs.map aG.pl).length i 4)=false→(lS b vs i r).2=14):=by
 have e:lS b vs i r=if oh (gB b vs).length (dX b vs).length i 4 then((dX b vs).map aG.pl++iM i r 4,0)else((dX b vs).map aG.pl,14):=by
  unfold lS;rw[hr,if_neg (by omega),if_neg (by omega)]
 have ht:=Xt b vs;have hl:(dX b vs).length=((dX b vs).map aG.pl).length:=by rw[List.length_map]
 rw[e];by_cases hs:gp b.length (vs.map aG.pl)=true
 ·rw[if_pos hs,if_pos hs]at ht
  rw[hl,ht.1,ht.2,hs,Bool.true_and];by_cases hk:oh b.length (vs.map aG.pl).length i 4=true
  ·rw[if_pos hk]
   exact⟨fun _=>⟨rfl,rfl,rfl⟩,fun h=>by rw[hk]at h;exact absurd h (by decide)⟩
  ·rw[if_neg hk]
   exact⟨fun h=>absurd h hk,fun _=>rfl⟩
 ·rw[if_neg hs,if_neg hs]at ht
  rw[hl,ht.1,ht.2]
  have hk : ¬ oh ([]:List UInt8).length ([]:List WP).length i 4=true:=by
   unfold oh;rw[decide_eq_true_eq];simp;omega
  rw[if_neg hk];have hs2:gp b.length (vs.map aG.pl)=false:=by simpa using hs
  rw[hs2,Bool.false_and];exact⟨fun h=>absurd h (by decide),fun _=>rfl⟩
theorem b6J (d0 d1:Value) (base room n m:Int) (last:List UInt8):(bW d0 d1 base room n last).set 4 (.int .i64 m)=bW d0 d1 base room m last:=rfl
theorem b6H {d0 d1:Value} {base room n:Int} {last:List UInt8} (hl:last.length=32):((bW d0 d1 base room n last).drop 5).take 32=last.map ah:=by
 unfold bW;rw[List.drop_left' (by rfl),List.take_of_length_le (by rw[List.length_map];omega)]
theorem b6I {d0 d1:Value} {base room n:Int} {last s:List UInt8} (hl:last.length=32) (hs:s.length=32):splice (bW d0 d1 base room n last) 5 (s.map ah)=bW d0 d1 base room n s:=by
 unfold splice bW;rw[List.take_left' (by rfl),List.drop_eq_nil_of_le (by simp;omega),List.append_nil]
theorem gV.last {l:List Value} {cs:Array Value} (h:gV l cs):True:=trivial
theorem b1h (A:Option Addr) (b:List UInt8) (c:Nat) (PA:Option Addr) (ws:List aG) (pc:Nat) (base room n:Int) (last:List UInt8) (ls:Array Value) (h:Hd) (hd:Array Value) (w:World) (F:World→Prop) (hF : ∀ W,Keep w W→F W) (h0 : ∀ W,F W→dJ W A b c PA ws pc) (hS:bV w) (hb1 : -9223372036854775808≤base∧base≤9223372036854775807)
  (hls:gV (bW (.slice A b.length c) (.slice PA ws.length pc) base room n last) ls) (hk:h.ok) (hhd:bF h hd) :
  Calls prog 233 #[.agg ls,.agg hd] w fun e w' => ∃ A' c' PA' pc' vs cs dY,dY=y7 b base room (dF base room (bytesD b ws)).1 (dF base room (bytesD b ws)).2.1 h (ws.map aG.pl)∧e = .returned (.tuple #[.agg cs,.int .i64 dY.1]) ∧
   gV (bW (.slice A' b.length c') (.slice PA' vs.length pc') base room (dY.2.1:Nat) dY.2.2.1) cs ∧
   vs.map aG.pl=dY.2.2.2∧(∀ W,lY F w w' W→dJ W A' b c' PA' vs pc')∧Keep w w':=by
 have T1:Hid (∀ w',Keep w w'→Calls prog 103 #[.agg ls] w' fun e w'' => ∃ cs,e = .returned (.agg cs)∧gV (bW (.slice A b.length c) (.slice PA ws.length pc) base room ((dF base room (bytesD b ws)).1:Nat) (dF base room (bytesD b ws)).2.1) cs∧Keep w' w''):=fun w' hk=>V4 A b c PA ws pc base room n last ls w' (h0 _ (hF _ hk)) (hS.keep hk) hb1 hls;have hll:Hid ((dF base room (bytesD b ws)).2.1.length=32):=LM _ _ _;have hle:=a5x base room (bytesD b ws);generalize dF base room (bytesD b ws)=OP at *;obtain⟨N,last',hs'⟩:=OP;obtain⟨dY,JZ⟩ : ∃ dY,dY=y7 b base room N last' h (ws.map aG.pl):=⟨_,rfl⟩
 have R1:Hid (∀ w' lv,Keep w w'→aX last' lv→Calls prog 186 #[.agg lv,.int .i64 (N:Int),.agg hd] w' fun e w'' => ∃ A c ds,e = .returned (.tuple #[.slice A 128 c,.agg ds])∧aX (kK last' N h) ds∧w''.ownsRow w'.heap.size 5 1 (.slice A 128 c) 128 ((iT last' N h).map ah)∧Keep w' w''):=fun w' lv hkk hlv =>
  a5X last' lv N h hd w' hlv hll.out hk hhd (hS.keep hkk)
 have HA1:Hid (dB room≤N→dY=(12,N,last',ws.map aG.pl)):=fun h1=>by rw[JZ];unfold y7;exact if_pos h1
 have hrl:=LY last' N hk
 have L1:Hid (¬ dB room≤N → ∀ (RB iZ:List UInt8),iT last' N h=RB→kK last' N h=iZ → ∀ (D:Option Addr) (cd:Nat) (w':World) (Fr:World→Prop) (j:Int),j=wrap64 (base+(4*N:Nat))→(∀ W,Keep w' W→Fr W)→(∀ W,Fr W→dJ W A b c PA ws pc)→Rd w' D (RB.map ah) →
   Calls prog 152 #[dP A b.length c PA ws.length pc,.int .i64 j,.slice D 128 cd] w' fun e w'' => ∃ A' tl c' PA' pc' us er,e = .returned (.tuple #[dP A' tl c' PA' us.length pc',.int .i64 er]) ∧
    (er=0→tl=b.length∧dY=(0,N+1,iZ,us.map aG.pl)∧∀ W,lY Fr w' w'' W→dJ W A' b c' PA' us pc')∧(er≠0→dY=(er,N,last',ws.map aG.pl))∧Keep w' w''):=fun hn RB iZ e1 e2 D cd w' Fr j hj hFr hd hD=>by
  subst e1 e2;have hr:=LY last' N hk;have hc:=a4t A b c PA ws pc j D (iT last' N h) cd w' Fr hFr hd hD (by omega) (by rw[hj];unfold wrap64;omega);rw[hr]at hc;have hlr:=b6x b ws j _ hr;refine hc.mono fun e w'' ⟨A',c',PA',pc',us,h1,h2,h3,h4⟩=>⟨A',_,c',PA',pc',us,_,h1,fun hz=>?_,fun hz=>?_,h4⟩
  ·have ha:vW b base N (ws.map aG.pl)=true:=by
    cases hq:vW b base N (ws.map aG.pl)with
    | true=>rfl
    | false =>
      unfold vW at hq;rw[←hj]at hq
      have:=hlr.2 hq
      omega
   have ha2:=ha;unfold vW at ha2;rw[←hj]at ha2;obtain⟨_,q1,q2⟩:=hlr.1 ha2;rw[q1]at h3 ⊢;rw[q2]at h2;refine⟨rfl,?_,h3⟩;rw[JZ,h2,hj];unfold y7;rw[if_neg hn,if_pos ha]
  ·have ha:vW b base N (ws.map aG.pl)=false:=by
    cases hq:vW b base N (ws.map aG.pl)with
    | false=>rfl
    | true =>
      unfold vW at hq;rw[←hj]at hq;exact absurd (hlr.1 hq).1 hz
   have ha2:=ha;unfold vW at ha2;rw[←hj]at ha2;rw[hlr.2 ha2,JZ];unfold y7;rw[if_neg hn,if_neg (by rw[ha];decide)]
 have HR0:Hid ((iT last' N h).length=128):=hrl;obtain⟨RB,Dy⟩ : ∃ RB,iT last' N h=RB:=⟨_,rfl⟩
 obtain⟨iZ,Ba⟩ : ∃ iZ,kK last' N h=iZ:=⟨_,rfl⟩
 have L2:Hid (¬ dB room≤N → ∀ (D:Option Addr) (cd:Nat) (w':World) (Fr:World→Prop) (j:Int),j=wrap64 (base+(4*N:Nat))→(∀ W,Keep w' W→Fr W)→(∀ W,Fr W→dJ W A b c PA ws pc)→Rd w' D (RB.map ah) →
   Calls prog 152 #[dP A b.length c PA ws.length pc,.int .i64 j,.slice D 128 cd] w' fun e w'' => ∃ A' tl c' PA' pc' us er,e = .returned (.tuple #[dP A' tl c' PA' us.length pc',.int .i64 er]) ∧
    (er=0→tl=b.length∧dY=(0,N+1,iZ,us.map aG.pl)∧∀ W,lY Fr w' w'' W→dJ W A' b c' PA' us pc')∧(er≠0→dY=(er,N,last',ws.map aG.pl))∧Keep w' w''):=fun hn=>L1.out hn RB iZ Dy Ba
 rw[Dy,Ba]at R1;rw[Dy]at HR0;obtain⟨zs,hz1,hz2,hz3⟩:=Ey;obtain⟨sz,hSZ,a6K⟩:=XH;have xm:=hSZ.z;have a6I:=hSZ.n;have Xn:=hSZ.i
 have hdz:=hhd.z;have hdn:=hhd.n;have hdi:=hhd.i
 have hlz:=hls.z;have hln:=hls.n;have nX:=hls.i
 have nN:=hid hls;have HF:=hid hF;have Hh:=hid h0;have CU:=hid hhd;have Je:=hid hSZ
 have RI:=hid JZ;clear hls h0 hS hF hhd hSZ JZ L1 Dy Ba hrl;have hrm:dB room≤1024:=by unfold dB;omega
 generalize hbl:b.length=bl at *;generalize hwl:ws.length=wl at *;have yU:=hid hbl;have Hwl:=hid hwl
 clear hbl hwl;go_enter func233,ntmps233
 go_upto_region 1 with fail
 obtain⟨w1,hw1,ku,jZ,HR1,ai,Gf⟩:=FM w 45 29 45 ls hd zs;rw[←hw1];clear hw1;go_wp2_with ((with_reducible refine bY w.heap.size ls (Eq.trans ?_ rfl) ku.out _ underlying45 rfl nX ?_);rfl)
 refine(T1.out w1 ai.out).mono ?_;rintro e w2 ⟨cs,rfl,hcs,k2⟩;have hcz:=hcs.z;have hcn:=hcs.n;have hci:=hcs.i
 have dh:=hid hcs;have HR2:=hid (HR1.out.keep k2);have oL:=hid (jZ.out.keep k2)
 have ay:=hid (af ai.out k2);obtain⟨w3,hst,hb3,hg3⟩:=bn (P:=prog) cs.toList (ku.out.keep k2) (by simp[hlz,hcz]) dh.out.o;have J9:=hb3;rw[dh.out.l]at hb3;have HB3:=hid hb3;have Ih:=hid J9
 have HR3:=hid (HR2.out.grown hg3 (iw (by omega)));have jR:=hid (oL.out.grown hg3 (iw (by omega)));have aA:Hid (Keep w w3):=aK ay.out hg3 (by omega);have PL:w1.heap.size≤w3.heap.size:=Nat.le_trans k2.size hg3.size;clear hcs k2 hb3 J9 hg3;go_upto_region 2 with fail
 clear hst;obtain⟨c0,c1,c2,c3,c4⟩:=sS HB3.out;have a3:=aF c3;have a4:=aF c4
 refine lC (by kernel_rfl) (by kernel_rfl) w3 (Below.refl _ _) ?_;repeat(go_big_quiet_step ((go_at_call 105;exact Eh (Gy _ _))))
 refine wpQuiet_nil ?_;rintro _ ⟨z2,rfl⟩;have j2:=jg w3 z2;generalize dn w3 z2=w4 at j2 ⊢;have HB4:=hid (HB3.out.keep j2);have YR:=hid (Ih.out.keep j2);have HR4:=hid (HR3.out.keep j2);have qp:=hid (jR.out.keep j2)
 have aQ:=hid (af aA.out j2);have b5I:w1.heap.size≤w4.heap.size:=Nat.le_trans PL j2.size;clear a3 a4 c0 c1 c2 c3 c4 j2 HB3 Ih HR3 jR aA HR2 oL ay;by_cases hn:dB room≤N
 ·have hn':((dB room:Nat):Int)≤(N:Int):=by omega
  obtain⟨w8,fQ,hb8,aZ⟩:=bn (P:=prog) cs.toList HR4.out (by simp[hz1,hcz]) dh.out.o;have aY:=hid hb8;have bf:=hid aZ
  have HE:=hid (HA1.out hn);clear hb8 aZ hn L2;go_wp2_with ((with_reducible refine bY w.heap.size cs (Eq.trans ?_ rfl) YR.out _ underlying45 rfl hci ?_);rfl)
  refine bodyPost_ret (v:=.tuple #[.agg cs,.int .i64 12]) (lq results233 aY.out underlying45 hci rfl rfl) rfl ⟨A,c,PA,pc,ws,cs,dY,RI.out,?_,?_,?_,fun W hW=>Hh.out W hW.1,aK aQ.out bf.out (by omega)⟩
  ·rw[HE.out]
  ·rw[HE.out,Hwl.out];exact dh.out
  ·rw[HE.out]
 ·have hn' : ¬ ((dB room:Nat):Int)≤(N:Int):=by omega
  have L3:=hid (L2.out hn);clear HA1 L2 hn;go_upto_region 4 with fail
  obtain⟨lv,hlv⟩ : ∃ lv,aX last' lv:=⟨_,aX.of hll.out⟩
  have fF:=hlv.z;have hvn:=hlv.n;have jk:=hlv.i
  have Hlv:=hid hlv;obtain⟨c0,c1,c2,c3,c4⟩:=sS HB4.out;have uj:Hid (w4.rangeAt w.heap.size 5 lv.toList):=cu HB4.out 5 lv.toList (by rw[hlv.l,List.length_map,hll.out];exact b6H hll.out);clear hlv
  go_wp2_with (first
   | ((with_reducible refine PY w.heap.size 5 lv (Eq.trans ?_ rfl) uj.out (.array 32 5) kG (uq _ _) jk ?_);rfl)
   | ((with_reducible refine bY (w.heap.size+1) hd (Eq.trans ?_ rfl) qp.out _ underlying29 rfl hdi ?_);rfl))
  refine(R1.out w4 lv aQ.out Hlv.out).mono ?_;rintro e w5 ⟨D,cd,ds,rfl,hds,qQ,k5⟩;have UX:=hds.z;have c2H:=hds.n;have a1H:=hds.i
  have dZ:=hid hds;have Own5:=hid qQ
  have jE:=hid (HB4.out.keep k5);have YS:=hid (YR.out.keep k5);have kX:=hid (HR4.out.keep k5)
  have aJ:=hid (af aQ.out k5);have c4b:w4.heap.size≤w5.heap.size:=k5.size;have hst5:=fK w5 27 a1H (xm.trans UX.symm) dZ.out.o;clear hds qQ k5 c0 c1 c2 c3 c4;go_upto_region 5 with fail
  clear hst5;obtain⟨w6,hw6,Jc,k6,-⟩:=di w5 27 ds;replace k6:=k6.out;rw[←hw6];clear hw6;have jr:=hid (jE.out.keep k6);have YT:=hid (YS.out.keep k6);have I5:=hid (kX.out.keep k6);have bD:=hid (af aJ.out k6)
  have HD6:=hid ((wV Own5.out).keep k6);have c4d:w5.heap.size<w6.heap.size:=Jc.out.lt;generalize hsx:w5.heap.size=S at *;clear k6 jE YS kX aJ Own5 HR4 qp hsx;obtain⟨c0,c1,c2,c3,c4⟩:=sS jr.out
  have HQ:Hid (∀ j,j=wrap64 (base+(4*N:Nat))→Calls prog 152 #[dP A bl c PA wl pc,.int .i64 j,.slice D 128 cd] w6 fun e w'' => ∃ A' tl c' PA' pc' us er,e = .returned (.tuple #[dP A' tl c' PA' us.length pc',.int .i64 er]) ∧
    (er=0→tl=bl∧dY=(0,N+1,iZ,us.map aG.pl)∧∀ W,lY (nO (w.heap.size+3) F w6) w6 w'' W→dJ W A' b c' PA' us pc')∧(er≠0→dY=(er,N,last',ws.map aG.pl))∧Keep w6 w''):=fun j hj =>
   L3.out D cd w6 (nO (w.heap.size+3) F w6) j hj (fun W hW=>nO.keep HF.out bD.out hW) (fun W hW=>Hh.out W hW.1) HD6.out
  clear L3;go_wp2_with fail
  refine(HQ.out _ (by(congr 1) <;> omega)).mono ?_;rintro e w7 ⟨A5,tl,c5,qC,qU,us,er,rfl,hy,hn2,k7⟩;have TT:=hid hy;have TJ:=hid hn2;have K7:=hid k7
  have kL:=hid (jr.out.keep k7);have a8v:=hid (YT.out.keep k7);have yR:=hid (I5.out.keep k7);have SQ:=hid (Jc.out.keep k7)
  have c4e:w6.heap.size≤w7.heap.size:=k7.size;have f0:=kL.out.frozen 0;have f1:=kL.out.frozen 1
  generalize KP:us.length=ul;have TQ:=hid KP;clear hy hn2 k7 c0 c1 c2 c3 c4 KP HQ jr YT I5 Jc;obtain⟨c0,c1,c2',c3,c4⟩:=sS kL.out;by_cases he:er=0
  ·subst he
   obtain⟨rfl,hps,hdd⟩:=TT.out rfl;have vS:=hid hps;have TA:=hid hdd
   clear hps hdd;go_upto_region 8 with fail
   obtain⟨w8,hw8,-,K8,-⟩:=mW w7 43 [.slice A5 tl c5,.slice qC ul qU];have gq:Hid (ae w8 w.heap.size 45 (bW (.slice A tl c) (.slice PA wl pc) base room N last')):=by rw[hw8];exact kL.out.alloc _
   have d0:w8.cell? ⟨w7.heap.size,0,none⟩=some (.slice A5 tl c5):=by rw[hw8];exact Df _ _ _ 0
   have d1:w8.cell? ⟨w7.heap.size,1,none⟩=some (.slice qC ul qU):=by rw[hw8];exact Df _ _ _ 1
   rw[←hw8];clear hw8 c0 c1 c2' c3 c4 f0 f1;have I7:=hid (yR.out.keep K8.out);have Jd:=hid (SQ.out.keep K8.out)
   obtain⟨c0,c1,c2',c3,c4⟩:=sS gq.out;have f0:=gq.out.frozen 0;have f1:=gq.out.frozen 1;have f4:=gq.out.frozen 4
   go_upto_region 10 with fail
   obtain⟨w9,iD⟩ : ∃ w9,w9=((w8.setCell ⟨w.heap.size,0,none⟩ (.slice A5 tl c5)).setCell ⟨w.heap.size,1,none⟩ (.slice qC ul qU)).setCell ⟨w.heap.size,4,none⟩ (.int .i64 ((N:Int)+1)):=⟨_,rfl⟩
   have eY:Hid (ae w9 w.heap.size 45 (bW (.slice A5 tl c5) (.slice qC ul qU) base room ((N:Int)+1) last')):=by
    rw[iD,←b6J _ _ _ _ (N:Int),←We (.slice A tl c) (.slice PA wl pc)];exact((gq.out.az 0 _).az 1 _).az 4 _
   have iy:Hid (ae w9 (w.heap.size+1+1) 45 zs.toList):=by rw[iD];exact((I7.out.far (by simp;omega) _).far (by simp;omega) _).far (by simp;omega) _
   have Cm:Hid (ae w9 S 27 ds.toList):=by rw[iD];exact((Jd.out.far (by simp;omega) _).far (by simp;omega) _).far (by simp;omega) _
   have bP:Hid (Keep w w9):=by rw[iD];exact(((af (af bD.out K7.out) K8.out).setCell (by simp) _).setCell (by simp) _).setCell (by simp) _
   have oK:Hid (w8.grownBy w9 (some w.heap.size)):=by rw[iD];exact eH (eH (eH (iH _ _)))
   rw[←iD];clear iD c0 c1 c2' c3 c4 f0 f1 f4;obtain⟨wa,lN,hba,hga⟩:=Xf (P:=prog) 5 ds.toList eY.out (by rw[oq hll.out,Array.length_toList,UX];omega) dZ.out.o;have hrl:last'.length=32:=hll.out;have hRl:iZ.length=32:=by have h1:=congrArg List.length dZ.out.l;rw[Array.length_toList,UX,List.length_map]at h1;omega
   rw[dZ.out.l,b6I hrl hRl]at hba;have NC:=hid hba;have oM:=hid (iy.out.grown hga (iw (by omega)));have fV:Hid (Keep w wa):=aK bP.out hga (by omega);have Iy:Hid (w8.grownBy wa (some w.heap.size)):=a2m oK.out hga;clear hba hga hrl;go_upto_region 11 with((with_reducible refine bY S ds (Eq.trans ?_ rfl) Cm.out (.array 32 5) kG (uq _ _) a1H ?_);rfl)
   clear lN;obtain⟨fs,hfs⟩ : ∃ fs:Array Value,fs.toList=bW (.slice A5 tl c5) (.slice qC ul qU) base room ((N:Int)+1) iZ:=⟨_,rfl⟩
   have hfA:=gV.of hRl hfs;have hfz:=hfA.z;have hfn:=hfA.n;have hfi:=hfA.i
   have vO:=hid hfA;have tH:Hid (ae wa w.heap.size 45 fs.toList):=by rw[hfs];exact NC.out
   clear hfA hfs hRl;obtain⟨wc,c3Z,a9G,TF⟩:=jo fs.toList oM.out (by simp[hz1,hfz]) vO.out.o;go_wp2_with ((with_reducible refine bY w.heap.size fs (Eq.trans ?_ rfl) tH.out _ underlying45 rfl hfi ?_);rfl)
   refine bodyPost_ret (v:=.tuple #[.agg fs,.int .i64 0]) (lq results233 a9G.out underlying45 hfi rfl rfl) rfl ⟨A5,c5,qC,qU,us,fs,dY,RI.out,?_,?_,?_,fun W hW=>?_,aK fV.out TF.out (by omega)⟩
   ·rw[vS.out]
   ·rw[vS.out,TQ.out];exact vO.out
   ·rw[vS.out]
   ·have b5L:w7.heap.size≤w8.heap.size:=K8.out.size
    have hza:w8.heap.size≤wa.heap.size:=Iy.out.size;have hzc:wa.heap.size≤wc.heap.size:=TF.out.size;refine TA.out W (nO.call (w3:=wc) (by omega) K7.out (by omega) (fun q h1 h2=>?_) ⟨hW.1,fun k h1 h2=>hW.2 k (by omega) h2⟩);rw[TF.out.block q (by omega) (iw (by omega)),Iy.out.block q (by omega) (iw (by omega))];exact K8.out.block q h2
  ·have g1:(er==0)=false:=by simpa using he
   have Jl:=hid (TJ.out he);clear he c0 c1 c2' c3 c4 f0 f1;go_upto_region 7 with fail
   obtain⟨w8,hw8,-,K8,-⟩:=mW w7 43 [.slice A5 tl c5,.slice qC ul qU];rw[←hw8];clear hw8;have a8w:=hid (a8v.out.keep K8.out);obtain⟨w9,c3Y,Ko,wH⟩:=bn (P:=prog) cs.toList (yR.out.keep K8.out) (by simp[hz1,hcz]) dh.out.o;have a9F:=hid Ko;have c2n:=hid wH
   have bP:Hid (Keep w w9):=aK (af (af bD.out K7.out) K8.out) wH (by omega);clear Ko wH;go_wp2_with ((with_reducible refine bY w.heap.size cs (Eq.trans ?_ rfl) a8w.out _ underlying45 rfl hci ?_);rfl)
   refine bodyPost_ret (v:=.tuple #[.agg cs,.int .i64 er]) (lq results233 a9F.out underlying45 hci rfl rfl) rfl ⟨A,c,PA,pc,ws,cs,dY,RI.out,?_,?_,?_,fun W hW=>Hh.out W hW.1,bP.out⟩
   ·rw[Jl.out]
   ·rw[Jl.out,Hwl.out];exact dh.out
   ·rw[Jl.out]
end Go.Proofs.YtiagcenlnekdeaaGreatDoor
namespace Go.Proofs.YtiagcenlnekdeaaGreatDoor
open Go.RowKit
attribute [local go_sem ↓] Go.wp_at_zero Go.wp_at_succ
def dC (b:List UInt8) (ps:List WP):List UInt8:=if gp b.length ps then qG b ps else[]
theorem JK (b:List UInt8) (ws:List aG):bytesD b ws=dC b (ws.map aG.pl):=by
 rw[b1O];have ht:=Xt b ws;unfold dC;by_cases hs:gp b.length (ws.map aG.pl)=true
 ·rw[if_pos hs,if_pos hs]at ht
  rw[if_pos hs,ht.1,ht.2]
 ·rw[if_neg hs,if_neg hs]at ht
  rw[if_neg hs,ht.1,ht.2];rfl
def Qu (b:List UInt8) (ps:List WP) (base room:Int):List UInt8:=dC b (Di b base room (dF base room (dC b ps)).1 ps)
theorem b8P (A:Option Addr) (b:List UInt8) (c:Nat) (PA:Option Addr) (ws:List aG) (pc:Nat) (base room:Int) (w:World) (h:dJ w A b c PA ws pc) (hS:bV w) (hb1 : -9223372036854775808≤base∧base≤9223372036854775807) :
  Calls prog 44 #[dP A b.length c PA ws.length pc,.int .i64 base,.int .i64 room] w fun e w' => ∃ B,B=Qu b (ws.map aG.pl) base room∧∃ A' c' cs hv,e = .returned (.tuple #[.agg cs,hv]) ∧
   gV (bW (.slice A' B.length c') (.slice none 0 0) base room ((dF base room B).1:Nat) (dF base room B).2.1) cs ∧
   w'.ownsRow w.heap.size 5 1 (.slice A' B.length c') B.length (B.map ah) ∧
   w'.ownsRow w.heap.size 29 68 hv (dF base room (dC b (ws.map aG.pl))).2.2.length ((dF base room (dC b (ws.map aG.pl))).2.2.flatMap Hd.cells)∧Keep w w':=by
 obtain⟨B,hB⟩ : ∃ B,B=Qu b (ws.map aG.pl) base room:=⟨_,rfl⟩
 have HB:=hid hB
 have FB:Hid (∀ w',Keep w w'→Calls prog 72 #[dP A b.length c PA ws.length pc,.int .i64 base,.int .i64 room] w' fun e w'' => ∃ cs hv,e = .returned (.tuple #[.agg cs,hv]) ∧
   gV (bW (.slice A b.length c) (.slice PA ws.length pc) base room ((dF base room (dC b (ws.map aG.pl))).1:Nat) (dF base room (dC b (ws.map aG.pl))).2.1) cs ∧
   w''.ownsRow w'.heap.size 29 68 hv (dF base room (dC b (ws.map aG.pl))).2.2.length ((dF base room (dC b (ws.map aG.pl))).2.2.flatMap Hd.cells)∧Keep w' w''):=fun w' hk =>
  (open_any A b c PA ws pc base room w' (h.keep hk) (hS.keep hk) hb1).mono fun e w'' ⟨cs,hv,h1,h2,h3,h4⟩=>by
   rw[JK]at h2 h3;exact⟨cs,hv,h1,gV.of (LM _ _ _) h2,h3,h4⟩
 have C1:Hid (∀ w' ls,Keep w w'→gV (bW (.slice A b.length c) (.slice PA ws.length pc) base room ((dF base room (dC b (ws.map aG.pl))).1:Nat) (dF base room (dC b (ws.map aG.pl))).2.1) ls →
   Calls prog 74 #[.agg ls] w' fun e w'' => ∃ us,e = .returned (.agg us)∧Keep w' w''∧Calls prog 73 #[.agg us] w'' fun e w3 => ∃ A' c' cs,e = .returned (.agg cs) ∧
    gV (bW (.slice A' B.length c') (.slice none 0 0) base room ((dF base room B).1:Nat) (dF base room B).2.1) cs ∧
    w3.ownsRow w'.heap.size 5 1 (.slice A' B.length c') B.length (B.map ah)∧Keep w'' w3):=fun w' ls hk hls =>
  (b2C A b c PA ws pc base room _ _ ls w' (fun W=>Keep w W) (fun W hW=>af hk hW) (fun W hW=>h.keep hW) (hS.keep hk) hb1 hls).mono fun e w'' ⟨A',c',PA',pc',vs,cs,h1,h2,h3,h4,h5⟩=>by
   refine⟨cs,h1,h5,?_⟩;have hd:=h4 w'' ⟨af hk h5,fun k _ _=>rfl⟩;have e1:bytesD b vs=B:=by rw[JK,h3,hB,JK];rfl
   have hc:=b6f A' b c' PA' vs pc' base room _ _ cs w'' hd (hS.keep (af hk h5)) hb1 h2;rw[e1]at hc;exact hc.mono fun e w3 ⟨A2,c2,ds,q1,q2,q3,q4⟩=>⟨A2,c2,ds,q1,q2,wU q3 h5.size,q4⟩
 clear hB;generalize dF base room (dC b (ws.map aG.pl))=OP at *;obtain⟨N,last,hs⟩:=OP;obtain⟨zs,hz1,hz2,hz3⟩:=Ey;clear h hS;generalize a2w:dF base room B=b0C at *;obtain⟨N2,last2,hs2⟩:=b0C;have a81:=hid a2w;clear a2w;generalize hbl:b.length=bl at *;generalize hwl:ws.length=wl at *;clear hbl hwl;go_enter func44,ntmps44
 go_upto_region 1 with fail
 obtain⟨w1,hw1,HD1,HR1,ai,Gf⟩:=vX w 43 45 [.slice A bl c,.slice PA wl pc] zs;replace HD1:=HD1.out;rw[←hw1];clear hw1;have d0:=HD1.cell 0;have d1:=HD1.cell 1
 simp only[List.getElem?_cons_zero,List.getElem?_cons_succ]at d0 d1;clear HD1;go_wp2_with fail
 refine(FB.out w1 ai.out).mono ?_;rintro e w2 ⟨cs,hv,rfl,hcs,kJ,k2⟩;have hcz:=hcs.z;have hcn:=hcs.n;have hci:=hcs.i
 have dh:=hid hcs;have Own2:=hid kJ
 have HR2:=hid (HR1.out.keep k2);have ay:=hid (af ai.out k2)
 have hz2':w1.heap.size≤w2.heap.size:=k2.size;have hst:=fK w2 45 hci (hz1.trans hcz.symm) dh.out.o;clear hcs kJ k2 d0 d1;go_upto_region 2 with fail
 clear hst;obtain⟨w3,hw3,rq,k3,-⟩:=di w2 45 cs;replace k3:=k3.out;rw[←hw3];clear hw3;have HR3:=hid (HR2.out.keep k3);have aA:=hid (af ay.out k3);have Own3:=hid (jM Own2.out k3)
 have PL:w2.heap.size≤w3.heap.size:=k3.size;generalize w2.heap.size=C at *;clear k3;go_wp2_with ((with_reducible refine bY C cs (Eq.trans ?_ rfl) rq.out _ underlying45 rfl hci ?_);rfl)
 refine(C1.out w3 cs aA.out dh.out).mono ?_;rintro e w4 ⟨us,rfl,k4,a3M⟩;have a9m:=hid a3M;have HR4:=hid (HR3.out.keep k4);have aQ:=hid (af aA.out k4);have Own4:=hid (jM Own3.out k4)
 have b5I:w3.heap.size≤w4.heap.size:=k4.size;clear a3M k4;go_wp2_with fail
 refine a9m.out.mono ?_;rintro e w5 ⟨A5,c5,fs,rfl,hfA,qQ,k5⟩;have hfz:=hfA.z;have hfn:=hfA.n;have hfi:=hfA.i
 have vO:=hid hfA;have OwnB:=hid qQ
 have kX:=hid (HR4.out.keep k5);have aJ:=hid (af aQ.out k5);have Own5:=hid (jM Own4.out k5)
 clear hfA qQ k5;obtain⟨w8,fQ,aY,bf⟩:=jo fs.toList kX.out (by simp[hz1,hfz]) vO.out.o;go_wp2_with fail
 refine bodyPost_ret (v:=.tuple #[.agg fs,hv]) (lq results44 aY.out underlying45 hfi rfl rfl) rfl ⟨B,HB.out,A5,c5,fs,hv,rfl,?_,?_,?_,aK aJ.out bf.out (by omega)⟩
 ·rw[a81.out];exact vO.out
 ·exact wU (OwnB.out.kept bf.out (.inr (fun e=>by have h1:=(OwnB.out.lt _ e).1;omega))) (by omega)
 ·exact wU (Own5.out.kept bf.out (.inr (fun e=>by have h1:=(Own5.out.lt _ e).1;omega))) (by omega)
def xg (n:Int):Nat:=if n<4 then 0 else(min ((n - 4)/8) 1024).toNat
theorem b8U (n:Int) (w:World) (hn : -9223372036854775808≤n∧n≤9223372036854775807):Calls prog 42 #[.int .i64 n] w fun e w'=>e = .returned (.int .i64 (xg n))∧w=w':=by
 by_cases h:n<4
 ·have e:(xg n:Int)=0:=by unfold xg;rw[if_pos h];rfl
  rw[e];clear e;go_enter func42,ntmps42
  go_wp2
  go_ret
  exact⟨rfl,rfl⟩
 ·have e:(xg n:Int)=min ((n - 4)/8) 1024:=by unfold xg;rw[if_neg h];omega
  have CP:=hid e;clear e;obtain⟨h1,h2⟩:=hn;have hq:Int.tdiv (n - 4) 8=(n - 4)/8:=Int.tdiv_eq_ediv_of_nonneg (by omega);have h3:4≤n:=by omega
  clear h;go_enter func42,ntmps42
  go_wp2
  all_goals go_ret
  all_goals exact⟨Gz (by have h:=CP.out;omega),rfl⟩
theorem b1m (r m:Int) (w:World) (hr:0≤r∧r≤1) (hm:0≤m∧m≤1000000):Calls prog 45 #[.int .i64 r,.int .i64 m] w fun e w'=>e = .returned (.int .i64 (4+r*4*m))∧w=w':=by
 obtain⟨h1,h2⟩:=hr;obtain⟨h3,h4⟩:=hm
 have hb:0≤r*4*m∧r*4*m≤4000000:=by
  rcases(show r=0∨r=1 by omega)with rfl | rfl
  ·simp
  ·omega
 obtain⟨h5,h6⟩:=hb;go_enter func45,ntmps45
 go_wp2
 go_ret
 exact⟨rfl,rfl⟩
theorem b9G (A:Option Addr) (n c:Nat) (x:Value) (w:World) (hl:n≤9223372036854775807) :
  Calls prog 43 #[.agg #[.slice A n c,x]] w fun e w'=>e = .returned (.int .i64 (n/32:Nat))∧Keep w w':=by
 go_enter func43,ntmps43
 go_wp2
 go_ret
 exact⟨Gz rfl,(Below.refl _ _).alloc (Nat.le_refl _) _⟩
def O3 (e:Int):UInt32:=w32 (e%4294967296)
def zQ (e r:Int):List UInt8:=le4 (O3 e)++(w8 (r%2)::List.replicate 27 0)
def rV (e r:Int):List UInt8:=zQ e r++jH (zQ e r)
theorem a6H (e r:Int):(zQ e r).length=32:=by simp[zQ,le4]
theorem b93 (e r:Int):(rV e r).length=64:=by rw[rV,List.length_append,a6H,uw]
theorem b94 (x:UInt32) (y:UInt8):((((((List.replicate 64 (0:UInt8)).map ah).set 0 (ah (w8 (dN x 0)))).set 1 (ah (w8 (dN x 1)))).set 2 (ah (w8 (dN x 2)))).set 3 (ah (w8 (dN x 3)))).set 4 (ah y)=(le4 x++(y::(List.replicate 27 0++List.replicate 32 0))).map ah:=by rfl
theorem b5U (n:Int):bits BinOp.and IntKind.i64 n 1=n%2:=by
 have h127:(BitVec.ofInt 64 1).toNat=2^1 - 1:=by decide
 have key:(BitVec.ofInt 64 n &&& BitVec.ofInt 64 1).toNat=(n%((2^64:Nat):Int)).toNat%2^1:=by
  rw[BitVec.toNat_and,BitVec.toNat_ofInt,h127,Nat.and_two_pow_sub_one_eq_mod]
 show IntKind.i64.wrap ((BitVec.ofInt 64 n &&& BitVec.ofInt 64 1).toNat:Nat)=n%2
 rw[key,IntKind.wrap_i64];omega
theorem b1K (r:Int):Value.int .u8 (r%2)=ah (w8 (r%2)):=by
 unfold ah;rw[←rW (by omega) (by omega)]
theorem b95 (ep r:Int) (w:World) (hS:bV w) :
  Calls prog 150 #[.int .i64 ep,.int .i64 r] w fun e w' => ∃ A c,e = .returned (.slice A 64 c)∧w'.ownsRow w.heap.size 5 1 (.slice A 64 c) 64 ((rV ep r).map ah)∧Keep w w':=by
 have hHd:Hid (zQ ep r=le4 (O3 ep)++(w8 (r%2)::List.replicate 27 0)):=rfl;have hB:Hid (rV ep r=zQ ep r++jH (zQ ep r)):=rfl;have hl:(zQ ep r).length=32:=a6H ep r;have pO:=hid hl;have HS:=hid hS;clear hl hS;generalize rV ep r=xW at hB ⊢;generalize zQ ep r=sJ at *;obtain⟨zs,hz1,hz2,hz3,jb⟩:=BD;clear jb
 have hcv:IntKind.u32.wrap ep=((O3 ep).toNat:Int):=by
  have h:=BB (n:=ep%4294967296) (by omega) (by omega)
  show ep%4294967296=_
  exact h
 have b4i:bits BinOp.and IntKind.i64 r 1=r%2:=b5U r;go_enter func150,ntmps150
 go_upto_region 2 with fail
 generalize O3 ep=n at *;have hn32:=G6 n;obtain⟨wm,hmk,hbm,km,hsz⟩:=Ll 32 64 32 64 rfl rfl (by omega) (by omega) w;have c0:=hbm.cell 0;have c1:=hbm.cell 1;have c2:=hbm.cell 2;have c3:=hbm.cell 3;have c4:=hbm.cell 4
 simp only[List.getElem?_map,List.getElem?_replicate]at c0 c1 c2 c3 c4;have f0:=hbm.frozen 0;have f1:=hbm.frozen 1;have f2:=hbm.frozen 2;have f3:=hbm.frozen 3;have f4:=hbm.frozen 4
 have xP:=hid hbm;have a0a:=hid km
 clear hbm hsz;go_upto_region 5 with fail
 obtain⟨w2,hw2⟩ : ∃ w2,w2=((((wm.setCell ⟨w.heap.size,0,none⟩ (.int .u8 ((n.toNat:Int)%256))).setCell ⟨w.heap.size,1,none⟩ (.int .u8 ((n.toNat:Int)/256%256))).setCell ⟨w.heap.size,2,none⟩ (.int .u8 ((n.toNat:Int)/65536%256))).setCell ⟨w.heap.size,3,none⟩ (.int .u8 ((n.toNat:Int)/16777216))).setCell ⟨w.heap.size,4,none⟩ (.int .u8 (r%2)):=⟨_,rfl⟩
 have pJ:Hid (ae w2 w.heap.size 5 ((sJ++List.replicate 32 0).map ah)):=by
  have e:sJ++List.replicate 32 (0:UInt8)=le4 n++(w8 (r%2)::(List.replicate 27 0++List.replicate 32 0)):=by rw[hHd.out];simp[List.append_assoc]
  rw[e,hw2,a00,a01,a02,a03,b1K,←b94];exact((((xP.out.az 0 _).az 1 _).az 2 _).az 3 _).az 4 _
 have ay:Hid (Keep w w2):=by
  rw[hw2];iterate 5 (refine Below.setCell ?_ (by simp) _)
  exact km
 rw[←hw2];have hz2':=ay.out.size;have hlt2:w.heap.size<w2.heap.size:=pJ.out.lt;clear hw2 hmk c0 c1 c2 c3 c4 f0 f1 f2 f3 f4 km xP a0a hHd hcv b4i
 have a9j:Hid (Rd w2 (some ⟨w.heap.size,0,none⟩) (sJ.map ah)):=by
  have h:=pJ.out.rd.take 32;rw[←List.map_take,List.take_left' pO.out]at h;exact h
 obtain⟨ds,hds⟩ : ∃ ds,aX (jH sJ) ds:=⟨_,aX.of (uw _)⟩
 have D1:Calls prog 34 #[.slice (some ⟨w.heap.size,0,none⟩) 32 64] w2 fun e w'=>e = .returned (.agg ds)∧Keep w2 w':=by
  have h:=JQ (some ⟨w.heap.size,0,none⟩) sJ 64 w2 (HS.out.keep ay.out) a9j.out (by have:=pO.out;omega) (by unfold maxLen;omega) (by have:=pO.out;omega);rw[pO.out]at h;exact h.mono fun e w'' ⟨h1,h2⟩=>⟨by rw[h1,←hds.e],h2⟩
 have hsz:=hds.z;have hsn:=hds.n
 have dZ:=hid hds;have hst1 : ∀ ww:World,(storeCells ⟨ww.heap.size,0,none⟩ ds.toList 0).run prog (ww.alloc (.cells zs 27)) = .ok () (ww.alloc (.cells ds 27)):=fun ww=>fK ww 27 dZ.out.i (hz1.trans hsz.symm) dZ.out.o;clear hds;generalize hg:w.heap.size=g at *;go_wp2_with fail
 refine D1.mono ?_;clear D1;rintro e w3 ⟨rfl,k3⟩;have IQ:Hid (ae (w3.alloc (.cells ds 27)) g 5 ((sJ++List.replicate 32 0).map ah)):=(pJ.out.keep k3).alloc _;have HD3:Hid (ae (w3.alloc (.cells ds 27)) w3.heap.size 27 ds.toList):=ae.new w3 _ ds.toList;have hg3:g<w3.heap.size:=by have:=k3.size;omega
 have qi:(w3.alloc (.cells ds 27)).ownsRow g 5 1 (.slice (some ⟨g,0,none⟩) 32 64) 32 (sJ.map ah):=by
  have h:(w3.alloc (.cells ds 27)).heap[g]?=some (.cells (splice ((sJ++List.replicate 32 0).map ah) 0 (sJ.map ah)).toArray 5 (0,0)):=by
   have e:splice ((sJ++List.replicate 32 (0:UInt8)).map ah) 0 (sJ.map ah)=(sJ++List.replicate 32 0).map ah:=by
    rw[GK];congr 1;simp[splice]
   rw[e];exact IQ.out
  exact LQ (n:=32) (c:=64) h (Nat.le_refl _) (by rw[List.length_map];exact pO.out) (by have:sJ.length=32:=pO.out;simp[this]) (by omega) (by unfold maxLen;omega)
 have Own3:=hid qi;have aA:=hid (af ay.out k3);clear qi;have hge:w.heap.size≤(w3.alloc (.cells ds 27)).heap.size:=by simp;omega
 go_wp2_with (at_builtin;refine iF jU (by rfl) (.tmp 37) (.tmp 38) (by rfl) g _ 32 _ (by rfl) Own3.out _ 32 32 ds.toList (by rfl) (by rw[Array.length_toList,hsz]) HD3.out.rd dZ.out.o (by omega) (by unfold maxLen;omega) (by simp;omega) ?_;intro v4 w4 own4 hg4 zo)
 have qQ:=jm own4 (n':=64) (xs':=xW.map ah) (by omega) (by rw[hB.out,List.map_append,dZ.out.l]);have k4:Keep w w4:=(af aA.out (aB _ _)).grown hg4 (by simp;omega) (fun q hq=>by have:=(Own3.out.lt q hq).1;omega);obtain⟨A5,c5,rfl,_⟩:=dD qQ;have Own5:=hid qQ;have aQ:=hid k4
 clear own4 qQ hg4 zo k4;go_ret
 exact⟨A5,c5,rfl,by rw[hg];exact Own5.out,aQ.out⟩
theorem b7P (k:Nat) (hk:k≤24) (x y:Nat) (hx:x<2^k) (hy:y<256):bits .or .i64 (x:Int) ((y:Int)*((2^k:Nat):Int))=((x+y*2^k:Nat):Int):=by
 have hp:2^k≤2^24:=Nat.pow_le_pow_right (by omega) hk;have hy2:y*2^k≤255*2^24:=Nat.mul_le_mul (by omega) hp
 have of : ∀ x:Nat,x<9223372036854775808→(BitVec.ofInt 64 (x:Int)).toNat=x:=fun x hx=>by
  rw[BitVec.ofInt_natCast,BitVec.toNat_ofNat];exact Nat.mod_eq_of_lt (by omega)
 rw[←Int.natCast_mul]
 show IntKind.i64.wrap ((BitVec.ofInt 64 (x:Int) ||| BitVec.ofInt 64 ((y*2^k:Nat):Int)).toNat:Int)=_
 rw[BitVec.toNat_or,of _ (by omega),of _ (by omega)];have h:=Nat.two_pow_add_eq_or_of_lt (i:=k) (b:=x) hx y;have e2:x ||| y*2^k=x+y*2^k:=by rw[Nat.or_comm,Nat.mul_comm,←h,Nat.mul_comm];omega
 rw[e2,IntKind.wrap_i64];omega
theorem WI (k m:Nat) (M:Int) (hk:k≤24) (hm:m=2^k) (hM:M=m) (x y:Nat) (hx:x<m) (hy:y<256):bits .or .i64 (x:Int) ((y:Int)*M)=((x+y*m:Nat):Int):=by
 subst hM hm;exact b7P k hk x y hx hy
theorem b7S (x0 x1 x2 x3:UInt8):bits .or .i64 (x0.toNat:Int) ((x1.toNat:Int)*256)=((x0.toNat+x1.toNat*256:Nat):Int) ∧
  bits .or .i64 ((x0.toNat+x1.toNat*256:Nat):Int) ((x2.toNat:Int)*65536)=((x0.toNat+x1.toNat*256+x2.toNat*65536:Nat):Int) ∧
  bits .or .i64 ((x0.toNat+x1.toNat*256+x2.toNat*65536:Nat):Int) ((x3.toNat:Int)*16777216)=((x0.toNat+x1.toNat*256+x2.toNat*65536+x3.toNat*16777216:Nat):Int):=by
 have l0:=x0.toNat_lt;have l1:=x1.toNat_lt;have l2:=x2.toNat_lt;have l3:=x3.toNat_lt
 exact⟨WI 8 256 256 (by omega) (by decide) (by decide) _ _ (by omega) (by omega),WI 16 65536 65536 (by omega) (by decide) (by decide) _ _ (by omega) (by omega),WI 24 16777216 16777216 (by omega) (by decide) (by decide) _ _ (by omega) (by omega)⟩
def pY (b:List UInt8):Nat:=(b.getD 0 0).toNat+(b.getD 1 0).toNat*256+(b.getD 2 0).toNat*65536+(b.getD 3 0).toNat*16777216
def mF (b:List UInt8):Int × Int × Bool :=
 if b.length=64∧1≤pY b∧pY b≤2147483647∧rV (pY b) (b.getD 4 0).toNat=b then((pY b:Int),((b.getD 4 0).toNat:Int),true)else(0,0,false)
theorem c0h (A:Option Addr) (b:List UInt8) (c:Nat) (w:World) (hr:Rd w A (b.map ah)) (hS:bV w) (hbl:b.length≤1000000) :
  Calls prog 101 #[.slice A b.length c] w fun e w'=>e = .returned (.tuple #[.int .i64 (mF b).1,.int .i64 (mF b).2.1,.bool (mF b).2.2])∧Keep w w':=by
 have HT0:Hid (∀ e r,pY b=e→(b.getD 4 0).toNat=r→(b.length≠64∨e<1∨2147483647<e∨rV e r≠b→mF b=(0,0,false))∧(b.length=64→1≤e→e≤2147483647→rV e r=b→mF b=((e:Int),(r:Int),true))):=fun e r h1 h2=>by
  subst h1 h2;refine⟨fun h=>if_neg (fun h2=>?_),fun h1 h2 h3 h4=>if_pos ⟨h1,h2,h3,h4⟩⟩;obtain⟨a1,a2,a3,a4⟩:=h2;rcases h with h | h | h | h
  ·exact h a1
  ·omega
  ·omega
  ·exact h a4
 have eU:=hid hr;have HS:=hid hS
 clear hr hS;by_cases hb:b.length=64
 ·obtain⟨g,off,rfl,hg,hc⟩:=eU.out.at (k:=0) (by simp;omega)
  have hcell : ∀ k,k<64→w.cell? ⟨g,off+k,none⟩=some (ah (b.getD k 0)):=fun k hk=>by
   rw[hc k (by simp;omega)];simp[List.getD_eq_getElem?_getD,List.getElem?_eq_getElem (show k<b.length by omega)]
  have c0:=aF (show w.cell? ⟨g,off,none⟩=_ from hcell 0 (by omega));have c1:=aF (hcell 1 (by omega));have c2:=aF (hcell 2 (by omega));have c3:=aF (hcell 3 (by omega))
  have hc4:=hcell 4 (by omega);have hE:Hid (pY b=(b.getD 0 0).toNat+(b.getD 1 0).toNat*256+(b.getD 2 0).toNat*65536+(b.getD 3 0).toNat*16777216):=rfl;have hR:Hid ((b.getD 4 0).toNat=(b.getD 4 0).toNat):=rfl;have Hb:=hid hb;generalize mF b=T at *;have HT:Hid (∀ r,(b.getD 4 0).toNat=r→(b.length≠64∨pY b<1∨2147483647<pY b∨rV (pY b:Nat) r≠b→T=(0,0,false))∧(b.length=64→1≤pY b→pY b≤2147483647→rV (pY b:Nat) r=b→T=((pY b:Int),(r:Int),true))):=fun r h=>HT0.out _ r rfl h;clear HT0 hcell hc;generalize b.getD 0 0=x0 at *;generalize b.getD 1 0=x1 at *;generalize b.getD 2 0=x2 at *;generalize b.getD 3 0=x3 at *;generalize b.getD 4 0=x4 at *;have l0:=x0.toNat_lt;have l1:=x1.toNat_lt;have l2:=x2.toNat_lt;have l3:=x3.toNat_lt;have l4:=x4.toNat_lt
  obtain⟨o1,o2,o3⟩:=b7S x0 x1 x2 x3;have HT:=hid (HT.out _ rfl);generalize pY b=E at *;rw[←hE.out]at o3;generalize x0.toNat+x1.toNat*256+x2.toNat*65536=e2 at o2 o3;generalize x0.toNat+x1.toNat*256=e1 at o1 o2;rw[hb];clear hb hE;go_enter func101,ntmps101
  go_upto_region 3 with fail
  refine lC (by kernel_rfl) (by kernel_rfl) w (Below.refl _ _) ?_;repeat(go_big_quiet_step (fail))
  refine wpQuiet_nil ?_;rintro _ ⟨y,rfl⟩;have j:=jg w y;generalize dn w y=w1 at j ⊢;replace hc4:=aC j hc4;have K1:=hid j;clear c0 c1 c2 c3 o1 o2 o3 j;by_cases e1:E<1
  ·have HD:=hid (HT.out.1 (.inr (.inl e1)))
   have e1':(E:Int)<1:=by omega
   clear HT e1;go_wp2
   rw[HD.out];exact bodyPost_ret (v:=.tuple #[.int .i64 0,.int .i64 0,.bool false]) (by simp[results,results101]) rfl ⟨rfl,K1.out⟩
  ·by_cases e2:2147483647<E
   ·have HD:=hid (HT.out.1 (.inr (.inr (.inl e2))))
    have d1:decide ((E:Int)<1)=false:=decide_eq_false (by omega);have d2:decide ((2147483647:Int)<(E:Int))=true:=decide_eq_true (by omega);clear HT e1 e2;go_wp2
    rw[HD.out];exact bodyPost_ret (v:=.tuple #[.int .i64 0,.int .i64 0,.bool false]) (by simp[results,results101]) rfl ⟨rfl,K1.out⟩
   ·have d1:decide ((E:Int)<1)=false:=decide_eq_false (by omega)
    have d2:decide ((2147483647:Int)<(E:Int))=false:=decide_eq_false (by omega);have a8G:=hid e1;have HE2:=hid e2
    have S1 : ∀ W,Keep w W→Calls prog 150 #[.int .i64 (E:Nat),.int .i64 (x4.toNat:Nat)] W fun e w' => ∃ A c,e = .returned (.slice A 64 c)∧w'.ownsRow W.heap.size 5 1 (.slice A 64 c) 64 ((rV (E:Nat) (x4.toNat:Nat)).map ah)∧Keep W w':=fun W hW=>b95 _ _ W (HS.out.keep hW);have ZM:=HT.out;have hSl:Hid ((rV (E:Nat) (x4.toNat:Nat)).length=64):=b93 _ _;generalize rV (E:Nat) (x4.toNat:Nat)=xW at *;have rD:=hid S1;have HT2:=hid ZM
    clear S1 ZM HT e1 e2;go_wp2_with fail
    refine(rD.out w1 K1.out).mono ?_;rintro e w2 ⟨A2,c2,rfl,kJ,k2⟩;have Fj:=hid (wV kJ);have K2:=hid (af K1.out k2)
    clear kJ k2 hc4;go_wp2_with fail
    refine(a4g (some ⟨g,off,none⟩) b 64 c A2 xW 64 c2 w2 (eU.out.keep K2.out) Fj.out Hb.out.symm hSl.out.symm).mono ?_;rintro e w3 ⟨rfl,rfl⟩;by_cases heq:b=xW
    ·have HD:=hid (HT2.out.2 Hb.out (by have:=a8G.out;omega) (by have:=HE2.out;omega) heq.symm)
     have hdt:decide (b=xW)=true:=decide_eq_true heq;clear heq HT2;go_wp2
     rw[HD.out];exact bodyPost_ret (v:=.tuple #[.int .i64 (E:Nat),.int .i64 (x4.toNat:Nat),.bool true]) (by simp[results,results101]) rfl ⟨rfl,K2.out⟩
    ·have HD:=hid (HT2.out.1 (.inr (.inr (.inr (fun e=>heq e.symm)))))
     have hdt:decide (b=xW)=false:=decide_eq_false heq;clear heq HT2;go_wp2
     rw[HD.out];exact bodyPost_ret (v:=.tuple #[.int .i64 0,.int .i64 0,.bool false]) (by simp[results,results101]) rfl ⟨rfl,K2.out⟩
 ·have HD:Hid (mF b=(0,0,false)):=if_neg (fun h=>hb h.1)
  have t1:((b.length:Int)!=64)=true:=by simp;omega
  generalize mF b=T at *;clear hb HT0;go_enter func101,ntmps101
  go_wp2
  rw[HD.out];exact bodyPost_ret (v:=.tuple #[.int .i64 0,.int .i64 0,.bool false]) (by simp[results,results101]) rfl ⟨rfl,Below.refl _ _⟩
end Go.Proofs.YtiagcenlnekdeaaGreatDoor
