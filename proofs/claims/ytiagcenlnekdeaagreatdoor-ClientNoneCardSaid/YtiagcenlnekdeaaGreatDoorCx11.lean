/- Texts merged by pack.py: Dsk. -/
import Derived.Test.YtiagcenlnekdeaaGreatDoorRows
import Derived.Test.YtiagcenlnekdeaaGreatDoorCx2
import Derived.Deep.RegionHeld3
import Derived.Deep.DrawnRows
import Derived.Deep.DeepCutAuto
import Derived.Deep.RegionLaw
import Derived.Test.YtiagcenlnekdeaaGreatDoorCx7
set_option maxRecDepth 1000000
set_option maxHeartbeats 16000000
open Go.Proofs.Tryz
open Go.Lib (hid)
set_option linter.unusedSimpArgs false
set_option linter.unusedVariables false
namespace Go.Proofs.YtiagcenlnekdeaaGreatDoor
open Go.RowKit
attribute [local go_sem ↓] Go.wp_at_zero Go.wp_at_succ
structure aG where
 at_:Int
 A:Option Addr
 cap:Nat
 d:List UInt8
def aG.cells (s:aG):List Value:=[.int .i64 s.at_,.slice s.A s.d.length s.cap]
def aG.pl (s:aG):Int × List UInt8:=(s.at_,s.d)
def OkW (w:World) (s:aG):Prop:=Rd w s.A (s.d.map ah)∧s.d.length≤s.cap∧s.cap≤maxLen
theorem OkW.keep {w w':World} {s:aG} (h:OkW w s) (hk:Keep w w'):OkW w' s:=⟨h.1.keep hk,h.2⟩
theorem writeT:dL prog 41 248 (.agg #[.int .i64 0,.slice none 0 0]) 2 32:=dL.mk' underlying41 (by kernel_rfl) rfl (by omega)
theorem aG.at2 {w:World} {A:Option Addr} {vs:List aG} (hr:Rd w A (vs.flatMap aG.cells)) {k:Nat} (hlt:k<vs.length) :
  ∃ b off,A=some ⟨b,off,none⟩∧b<w.heap.size∧∀ w',Keep w w'→w'.cell? ⟨b,off+k*2,none⟩=some (.int .i64 vs[k].at_)∧w'.cell? ⟨b,off+k*2+1,none⟩=some (.slice vs[k].A vs[k].d.length vs[k].cap):=by
 obtain⟨b,off,rfl,hb,_,hc⟩:=hr.at2 (Below.refl _ _) (k:=k*2) (by rw[FV _ 2 (fun _=>rfl)];omega);refine⟨b,off,rfl,hb,fun w' hw=>?_⟩;have F:=Rd.field (size:=2) (fun _=>rfl) (hc w' hw) k;exact⟨F 0 hlt (by omega),F 1 hlt (by omega)⟩
theorem BA (A:Option Addr) (n c:Nat) (x:Value) (w:World) (hl:n≤9223372036854775807) :
  Calls prog 187 #[.agg #[.slice A n c,x]] w fun e w'=>e = .returned (.int .i64 (n/32:Nat))∧Keep w w':=by
 go_enter func187,ntmps187
 go_wp2
 go_ret
 exact⟨Gz rfl,(Below.refl _ _).alloc (Nat.le_refl _) _⟩
theorem a6o (b off n c at_:Nat) (w:World) (h1:32*at_+32≤n) (h2:n≤c) (h3:c≤9223372036854775807) (i:Int) (hi:i=at_) :
  Calls prog 131 #[.slice (some ⟨b,off,none⟩) n c,.int .i64 i] w fun e w'=>e = .returned (.slice (some ⟨b,off+32*at_,none⟩) 32 32)∧w=w':=by
 subst hi;go_enter func131,ntmps131
 go_wp2
 go_ret
 refine⟨?_,rfl⟩
 show Ending.returned (Value.slice (some ⟨b,off+at_*32,none⟩) (at_*32+32 - at_*32) (at_*32+32 - at_*32))=_
 rw[show at_*32+32 - at_*32=32 by omega,Nat.mul_comm at_ 32]
def zeros (n:Nat):Array Value:=madeCells #[.int .u8 0] (n*1)
theorem c1E (n:Nat):(zeros n).toList=(List.replicate n (0:UInt8)).map ah:=by
 apply List.ext_getElem
 ·simp[zeros,madeCells]
 ·intro i h1 h2
  simp[zeros,madeCells,Nat.mod_one]
theorem a1E (s:Int) (m:Nat) (w:World) (hm:(m:Int)=max 0 (min s 4096)) :
  Calls prog 25 #[.int .i64 s] w fun e w' => ∃ A c,e = .returned (.agg #[.slice A (32*m) c,.slice none 0 0])∧w'.ownsRow w.heap.size 5 1 (.slice A (32*m) c) (32*m) ((List.replicate (32*m) 0).map ah)∧Keep w w':=by
 have key : ∀ (v:Value) (k:Nat),k≤4096→(v = .int .i64 (k*32:Nat)) → ∀ W,(Instr.makeSlice 32 v v).run prog W = .ok (.slice (some ⟨W.heap.size,0,none⟩) (32*k) (32*k)) (W.alloc (.cells (zeros (32*k)) 5)):=fun v k hk hv W=>by
  subst hv;rw[jU.make (k*32) (k*32) (by omega) (by omega) (by omega) W,Nat.mul_comm k 32];rfl
 have fin : ∀ (k:Nat) (W:World) (H:Nat),W.heap.size=H→k≤4096→w.heap.size≤W.heap.size→((W.alloc (.cells (zeros (32*k)) 5)).ownsRow w.heap.size 5 1 (.slice (some ⟨H,0,none⟩) (32*k) (32*k)) (32*k) ((List.replicate (32*k) 0).map ah)):=fun k W H hH hk hW=>by
  subst hH;have h:=World.ownsRow_lit W (base:=w.heap.size) (e:=5) (size:=1) (zeros (32*k)) (32*k) hW (by unfold maxLen;omega) (by simp[zeros,madeCells])
  rwa[c1E]at h
 rcases(show s<0∨4096<s∨(0≤s∧s≤4096) by omega)with h | h | h
 ·obtain rfl:m=0:=by omega
  have hmk:=key (.int .i64 0) 0 (by omega) rfl;clear key hm;go_enter func25,ntmps25
  go_wp2
  exact bodyPost_ret (v:=.agg #[.slice (some ⟨w.heap.size+1,0,none⟩) 0 0,.slice none 0 0]) (by simp[results,results25,go_sem]) rfl ⟨_,_,rfl,(fin 0 _ (w.heap.size+1) (by simp) (by omega) (by simp)),((Below.refl _ _).alloc (Nat.le_refl _) _).alloc (by simp) _⟩
 ·obtain rfl:m=4096:=by omega
  have hmk:=key (.int .i64 131072) 4096 (by omega) rfl;clear key hm;go_enter func25,ntmps25
  go_wp2
  exact bodyPost_ret (v:=.agg #[.slice (some ⟨w.heap.size+1,0,none⟩) 131072 131072,.slice none 0 0]) (by simp[results,results25,go_sem]) rfl ⟨_,_,rfl,(fin 4096 _ (w.heap.size+1) (by simp) (by omega) (by simp)),((Below.refl _ _).alloc (Nat.le_refl _) _).alloc (by simp) _⟩
 ·obtain rfl:s=m:=by omega
  have hmk:=key (.int .i64 ((m:Int)*32)) m (by omega) (by rw[Int.natCast_mul];rfl);obtain⟨h1,h2⟩:=h;clear key hm;go_enter func25,ntmps25
  go_wp2
  exact bodyPost_ret (v:=.agg #[.slice (some ⟨w.heap.size+1,0,none⟩) (32*m) (32*m),.slice none 0 0]) (by simp[results,results25,go_sem]) rfl ⟨_,_,rfl,(fin m _ (w.heap.size+1) (by simp) (by omega) (by simp)),((Below.refl _ _).alloc (Nat.le_refl _) _).alloc (by simp) _⟩
end Go.Proofs.YtiagcenlnekdeaaGreatDoor
namespace Go.Proofs.YtiagcenlnekdeaaGreatDoor
open Go.RowKit
attribute [local go_sem ↓] Go.wp_at_zero Go.wp_at_succ
def aG.ok (nb:Nat) (x:aG):Bool:=decide (0≤x.at_∧x.at_<(nb/32:Nat)∧x.d.length=32)
def lu (nb:Nat) (ws:List aG):Bool:=decide (nb%32=0∧nb/32≤4096∧ws.length≤100000)&&ws.all (·.ok nb)
abbrev dP (A:Option Addr) (n c:Nat) (PA:Option Addr) (m pc:Nat):Value:=.agg #[.slice A n c,.slice PA m pc]
structure dJ (w:World) (A:Option Addr) (b:List UInt8) (c:Nat) (PA:Option Addr) (ws:List aG) (pc:Nat):Prop where
 rb:Rd w A (b.map ah)
 bc:b.length≤c
 cm:c≤maxLen
 rp:Rd w PA (ws.flatMap aG.cells)
 pl:ws.length≤pc
 pm:pc≤maxLen
 ok : ∀ x∈ws,OkW w x
theorem dJ.keep {w w':World} {A:Option Addr} {b:List UInt8} {c:Nat} {PA:Option Addr} {ws:List aG} {pc:Nat} (h:dJ w A b c PA ws pc) (hk:Keep w w'):dJ w' A b c PA ws pc :=
 ⟨h.rb.keep hk,h.bc,h.cm,h.rp.keep hk,h.pl,h.pm,fun x hx=>(h.ok x hx).keep hk⟩
theorem a1G (A:Option Addr) (b:List UInt8) (c:Nat) (PA:Option Addr) (ws:List aG) (pc:Nat) (w:World) (h:dJ w A b c PA ws pc) :
  Calls prog 171 #[dP A b.length c PA ws.length pc] w fun e w'=>e = .returned (.bool (lu b.length ws))∧Keep w w':=by
 obtain⟨rb,bc,cm,rp,pl,pm,ok⟩:=h;unfold maxLen at cm pm;by_cases h1:b.length%32=0
 ·by_cases h2:b.length/32≤4096
  ·by_cases h3:ws.length≤100000
   ·have t1:((b.length:Int)%32 != 0)=false:=by simp;omega
    have H1:=hid h1;have H2:=hid h2;clear h1
    have t2:((b.length/32:Nat):Int)≤4096:=by omega
    go_enter func171,ntmps171
    go_wp2_with (go_at_call 187;refine(BA _ _ _ _ _ (by omega)).mono ?_;rintro e w1 ⟨rfl,hk1⟩;have b0:=Gg hk1 0 _ rfl;have b1:=Gg hk1 1 _ rfl;have hz1:=hk1.size;simp at hz1)
    have k1:Keep w w1:=af ((Below.refl _ _).alloc (Nat.le_refl _) _) hk1;have Hb0:=hid b0;have Hb1:=hid b1
    clear b0 b1 hk1
    go_loopw [24] (fun i wr => ∃ k:Nat,k≤ws.length∧i = .int .i64 k∧Keep w1 wr∧(ws.take k).all (·.ok b.length)=true) (fun i _=>ws.length - (intOf i).toNat)
    case atStart=>exact⟨0,Nat.zero_le _,rfl,Below.refl _ _,by simp⟩
    case round =>
     obtain⟨k,hk,rfl,hkr,hall⟩:=hrel;have ZX:=hid hall;clear hall;have PN:=hkr.size;by_cases hlt:k<ws.length
     ·obtain⟨bp,off,rfl,hb,F⟩:=aG.at2 rp hlt
      have hx:=ok _ (List.getElem_mem hlt);have hmem:=List.getElem_mem hlt
      have hts:(ws.take (k+1)).all (·.ok b.length)=((ws.take k).all (·.ok b.length)&&ws[k].ok b.length):=by
       rw[List.take_succ_eq_append_getElem hlt,List.all_append];simp
      generalize ws[k]=x at F hx hts hmem;have Oo:=hid hts;have a96:=hid hmem
      obtain⟨c0,c1⟩:=F wr (af k1 hkr);have d0:=aC hkr Hb0.out;have d1:=aC hkr Hb1.out
      have hx2:=hx.2.1;have hx3:=hx.2.2
      unfold maxLen at hx3;have hgr:w.heap.size<wr.heap.size:=by omega
      clear F hts hx hmem
      have fin:x.ok b.length=false→lu b.length ws=false:=fun hf=>by
       unfold lu;rw[Bool.and_eq_false_iff];right;rw[List.all_eq_false];exact⟨x,a96.out,by simp[hf]⟩
      have Fin:=hid fin;clear fin;obtain⟨jP,hwz⟩ : ∃ jP,jP=wr.alloc (.cells #[.int .i64 x.at_,.slice x.A x.d.length x.cap] 248):=⟨_,rfl⟩
      have zF:Keep wr jP:=by rw[hwz];exact(Below.refl _ _).alloc (Nat.le_refl _) _
      have a0:=aF (aC zF d0);have a1:=aF (aC zF d1)
      have a2:=aF (show jP.cell? ⟨wr.heap.size,0,none⟩=some (.int .i64 x.at_) by rw[hwz];exact Df _ _ _ 0);have a3:=aF (show jP.cell? ⟨wr.heap.size,1,none⟩=some (.slice x.A x.d.length x.cap) by rw[hwz];exact Df _ _ _ 1);have Oq:=hid hwz;clear hwz;by_cases e1:x.at_<0
      ·have E:=hid (show x.ok b.length=false from decide_eq_false (by omega))
       go_wp2
       refine lC (by kernel_rfl) (by kernel_rfl) jP (by rw[Oq.out];exact Below.refl _ _) ?_;repeat(go_big_quiet_step ((go_at_call 187;exact Qq (BA _ _ _ _ _ (by omega)))))
       refine wpQuiet_nil ?_;rintro _ ⟨y,rfl⟩;have hk2:=jg jP y;generalize dn jP y=w2 at hk2 ⊢;clear a0 a1 a2 a3;go_wp2
       go_ret
       exact⟨xe (Fin.out E.out).symm,af k1 (af (af hkr zF) hk2)⟩
      ·have g1:decide (x.at_<0)=false:=decide_eq_false e1
       by_cases e2:((b.length/32:Nat):Int)≤x.at_
       ·have E:=hid (show x.ok b.length=false from decide_eq_false (by omega))
        have g2:decide ((b.length:Int)/32≤x.at_)=true:=decide_eq_true e2;go_wp2
        refine lC (by kernel_rfl) (by kernel_rfl) jP (by rw[Oq.out];exact Below.refl _ _) ?_;repeat(go_big_quiet_step ((go_at_call 187;exact Qq (BA _ _ _ _ _ (by omega)))))
        refine wpQuiet_nil ?_;rintro _ ⟨y,rfl⟩;have hk2:=jg jP y;generalize dn jP y=w2 at hk2 ⊢;clear a0 a1 a2 a3
        all_goals go_wp2
        all_goals go_ret
        all_goals exact⟨xe (Fin.out E.out).symm,af k1 (af (af hkr zF) hk2)⟩
       ·have g2:decide ((b.length:Int)/32≤x.at_)=false:=decide_eq_false e2
        by_cases e3:x.d.length=32
        ·have e3':((x.d.length:Int)!=32)=false:=by simp;omega
         have E:=hid (show x.ok b.length=true from decide_eq_true (by omega));clear e3;go_wp2
         refine lC (by kernel_rfl) (by kernel_rfl) jP (by rw[Oq.out];exact Below.refl _ _) ?_;repeat(go_big_quiet_step ((go_at_call 187;exact Qq (BA _ _ _ _ _ (by omega)))))
         refine wpQuiet_nil ?_;rintro _ ⟨y,rfl⟩;have hk2:=jg jP y;generalize dn jP y=w2 at hk2 ⊢;clear a0 a1 a2 a3
         all_goals go_wp2
         all_goals go_roundw
         all_goals first
          | exact⟨k+1,by omega,by go_num,(af (af hkr zF) hk2),by rw[Oo.out,ZX.out,E.out];rfl⟩
          | (simp[intOf];omega)
        ·have e3':((x.d.length:Int)!=32)=true:=by simp;omega
         have E:=hid (show x.ok b.length=false from decide_eq_false (by omega));clear e3;go_wp2
         refine lC (by kernel_rfl) (by kernel_rfl) jP (by rw[Oq.out];exact Below.refl _ _) ?_;repeat(go_big_quiet_step ((go_at_call 187;exact Qq (BA _ _ _ _ _ (by omega)))))
         refine wpQuiet_nil ?_;rintro _ ⟨y,rfl⟩;have hk2:=jg jP y;generalize dn jP y=w2 at hk2 ⊢;clear a0 a1 a2 a3
         all_goals go_wp2
         all_goals go_ret
         all_goals exact⟨xe (Fin.out E.out).symm,af k1 (af (af hkr zF) hk2)⟩
     ·obtain rfl:k=ws.length:=by omega
      have hs:lu b.length ws=true:=by
       unfold lu;rw[Bool.and_eq_true];refine⟨decide_eq_true ⟨H1.out,H2.out,h3⟩,?_⟩
       have:=ZX.out;rwa[List.take_length]at this
      have Hs:=hid hs;clear hs;go_wp2
      go_ret
      exact⟨xe Hs.out.symm,af k1 hkr⟩
   ·have hs:=hid (show lu b.length ws=false by unfold lu;rw[Bool.and_eq_false_iff];left;exact decide_eq_false (by omega))
    have t1:((b.length:Int)%32 != 0)=false:=by simp;omega
    have t2:((b.length/32:Nat):Int)≤4096:=by omega
    have t3:(100000:Int)<(ws.length:Int):=by omega
    clear h1 h2;go_enter func171,ntmps171
    go_wp2_with (go_at_call 187;refine(BA _ _ _ _ _ (by omega)).mono ?_;rintro e w1 ⟨rfl,hk1⟩;have b0:=Gg hk1 0 _ rfl;have b1:=Gg hk1 1 _ rfl;have hz1:=hk1.size;simp at hz1)
    go_ret
    exact⟨xe hs.out.symm,af ((Below.refl _ _).alloc (Nat.le_refl _) _) hk1⟩
  ·have hs:=hid (show lu b.length ws=false by unfold lu;rw[Bool.and_eq_false_iff];left;exact decide_eq_false (by omega))
   have t1:((b.length:Int)%32 != 0)=false:=by simp;omega
   have t2:(4096:Int)<((b.length/32:Nat):Int):=by omega
   clear h1 h2;go_enter func171,ntmps171
   go_wp2_with (go_at_call 187;refine(BA _ _ _ _ _ (by omega)).mono ?_;rintro e w1 ⟨rfl,hk1⟩;have b0:=Gg hk1 0 _ rfl;have b1:=Gg hk1 1 _ rfl;have hz1:=hk1.size;simp at hz1)
   go_ret
   exact⟨xe hs.out.symm,af ((Below.refl _ _).alloc (Nat.le_refl _) _) hk1⟩
 ·have hs:=hid (show lu b.length ws=false by unfold lu;rw[Bool.and_eq_false_iff];left;exact decide_eq_false (by omega))
  have t1:((b.length:Int)%32 != 0)=true:=by simp;omega
  clear h1;go_enter func171,ntmps171
  go_wp2
  go_ret
  exact⟨xe hs.out.symm,(Below.refl _ _).alloc (Nat.le_refl _) _⟩
end Go.Proofs.YtiagcenlnekdeaaGreatDoor
namespace Go.Proofs.YtiagcenlnekdeaaGreatDoor
open Go.RowKit
attribute [local go_sem ↓] Go.wp_at_zero Go.wp_at_succ
def gB (b:List UInt8) (ws:List aG):List UInt8:=if lu b.length ws then b else[]
def dX (b:List UInt8) (ws:List aG):List aG:=if lu b.length ws then ws else[]
theorem GR (A:Option Addr) (b:List UInt8) (c:Nat) (PA:Option Addr) (ws:List aG) (pc:Nat) (w:World) (F:World→Prop) (hF : ∀ W,Keep w W→F W) (h0 : ∀ W,F W→dJ W A b c PA ws pc) :
  Calls prog 130 #[dP A b.length c PA ws.length pc] w fun e w' => ∃ A' c' PA' pc',e = .returned (dP A' (gB b ws).length c' PA' (dX b ws).length pc')∧(∀ W,F W→dJ W A' (gB b ws) c' PA' (dX b ws) pc')∧Keep w w':=by
 have h:=h0 w (hF w (Below.refl _ _));by_cases hs:lu b.length ws=true
 ·have e1:gB b ws=b:=if_pos hs
  have e2:dX b ws=ws:=if_pos hs;rw[e1,e2];clear e1 e2;go_enter func130,ntmps130
  go_wp2_with (first
   | (go_at_call 171;refine(a1G _ _ _ _ _ _ _ (h.keep (((Below.refl _ _).alloc (Nat.le_refl _) _).alloc (by simp) _))).mono ?_;rintro e w2 ⟨rfl,hk2⟩
      have b0:w2.cell? ⟨w.heap.size,0,none⟩=some (.slice A b.length c):=aC hk2 (by go_simp);have b1:w2.cell? ⟨w.heap.size,1,none⟩=some (.slice PA ws.length pc):=aC hk2 (by go_simp);have r0:w2.cell? ⟨w.heap.size+1,0,none⟩=some (.slice none 0 0):=aC hk2 (by go_simp);have r1:w2.cell? ⟨w.heap.size+1,1,none⟩=some (.slice none 0 0):=aC hk2 (by go_simp);have f0:w2.frozen? ⟨w.heap.size+1,0,none⟩=false:=fU hk2 (by simp) (by go_simp);have f1:w2.frozen? ⟨w.heap.size+1,1,none⟩=false:=fU hk2 (by simp) (by go_simp)
      have k2:Keep w w2:=af (((Below.refl _ _).alloc (Nat.le_refl _) _).alloc (by simp) _) hk2))
  exact bodyPost_ret (v:=dP A b.length c PA ws.length pc) (by simp[results,results130,go_sem,r0,r1]) rfl ⟨A,c,PA,pc,rfl,fun W hW=>h0 W hW,(k2.setCell (by simp) _).setCell (by simp) _⟩
 ·have e1:gB b ws=[]:=if_neg hs
  have e2:dX b ws=[]:=if_neg hs;have hs':lu b.length ws=false:=by simpa using hs
  rw[e1,e2];clear e1 e2 hs;go_enter func130,ntmps130
  go_wp2_with (first
   | (go_at_call 171;refine(a1G _ _ _ _ _ _ _ (h.keep (((Below.refl _ _).alloc (Nat.le_refl _) _).alloc (by simp) _))).mono ?_;rintro e w2 ⟨rfl,hk2⟩
      have b0:w2.cell? ⟨w.heap.size,0,none⟩=some (.slice A b.length c):=aC hk2 (by go_simp);have b1:w2.cell? ⟨w.heap.size,1,none⟩=some (.slice PA ws.length pc):=aC hk2 (by go_simp);have r0:w2.cell? ⟨w.heap.size+1,0,none⟩=some (.slice none 0 0):=aC hk2 (by go_simp);have r1:w2.cell? ⟨w.heap.size+1,1,none⟩=some (.slice none 0 0):=aC hk2 (by go_simp);have f0:w2.frozen? ⟨w.heap.size+1,0,none⟩=false:=fU hk2 (by simp) (by go_simp);have f1:w2.frozen? ⟨w.heap.size+1,1,none⟩=false:=fU hk2 (by simp) (by go_simp)
      have k2:Keep w w2:=af (((Below.refl _ _).alloc (Nat.le_refl _) _).alloc (by simp) _) hk2)
   | (go_at_call 25;refine(a1E 0 0 _ (by omega)).mono ?_;rintro e w3 ⟨A3,c3,rfl,hown3,hk3⟩
      have r0':=aC hk3 r0;have r1':=aC hk3 r1
      have c2K:=fU hk3 (cell_lt r0) f0;have f1':=fU hk3 (cell_lt r1) f1
      have k3:=af k2 hk3))
  exact bodyPost_ret (v:=dP A3 0 c3 none 0 0) (by simp[results,results130,go_sem,r0',r1']) rfl ⟨A3,c3,none,0,rfl,fun W _=>⟨.inl rfl,Nat.zero_le _,by have h1:=dD hown3;obtain⟨_,_,h1,_,h2,_⟩:=h1;injection h1 with _ _ h1;rw[h1];exact h2,.inl rfl,Nat.zero_le _,Nat.zero_le _,by simp⟩,(k3.setCell (by simp) _).setCell (by simp) _⟩
theorem b29 (A:Option Addr) (b:List UInt8) (c:Nat) (PA:Option Addr) (ws:List aG) (pc:Nat) (w w0:World) (hk0:Keep w0 w) (h0:dJ w0 A b c PA ws pc) :
  Calls prog 130 #[dP A b.length c PA ws.length pc] w fun e w' => ∃ A' c' PA' pc',e = .returned (dP A' (gB b ws).length c' PA' (dX b ws).length pc')∧(∀ W,Keep w0 W→dJ W A' (gB b ws) c' PA' (dX b ws) pc')∧Keep w w' :=
 GR A b c PA ws pc w (fun W=>Keep w0 W) (fun W hW=>af hk0 hW) (fun W hW=>h0.keep hW)
end Go.Proofs.YtiagcenlnekdeaaGreatDoor
namespace Go.Proofs.YtiagcenlnekdeaaGreatDoor
open Go.RowKit
attribute [local go_sem ↓] Go.wp_at_zero Go.wp_at_succ
def yu (b:List UInt8) (x:aG):List UInt8:=splice b (32*x.at_.toNat) x.d
theorem a4A (b:List UInt8) (x:aG) (h:x.ok b.length=true):(yu b x).length=b.length:=by
 have:=of_decide_eq_true h
 unfold yu;rw[length_splice];omega
theorem b9E {α β:Type} (f:α→β) (b:List α) (off:Nat) (d:List α):splice (b.map f) off (d.map f)=(splice b off d).map f:=by
 simp[splice,List.map_append,List.map_take,List.map_drop]
theorem drop_cons {α:Type} (l:List α) (k:Nat) (h:k<l.length):l.drop k=l[k]::l.drop (k+1):=List.drop_eq_getElem_cons h
def bytesD (b:List UInt8) (ws:List aG):List UInt8:=(dX b ws).foldl yu (gB b ws)
theorem Me (b:List UInt8) (ws:List aG):lu (gB b ws).length (dX b ws)=true:=by
 unfold gB dX;split
 ·assumption
 ·rfl
theorem a5o {nb:Nat} {ws:List aG} (h:lu nb ws=true) : ∀ x∈ws,x.ok nb=true:=fun x hx=>by
 unfold lu at h;exact List.all_eq_true.1 (Bool.and_eq_true_iff.1 h).2 x hx
theorem Qv {nb:Nat} {ws:List aG} (h:lu nb ws=true):nb%32=0∧nb/32≤4096∧ws.length≤100000:=by
 unfold lu at h;exact of_decide_eq_true (Bool.and_eq_true_iff.1 h).1
theorem UF (A:Option Addr) (b:List UInt8) (c:Nat) (PA:Option Addr) (ws:List aG) (pc:Nat) (w:World) (h:dJ w A b c PA ws pc) :
  Calls prog 100 #[dP A b.length c PA ws.length pc] w fun e w' => ∃ v,e = .returned v∧w'.ownsRow w.heap.size 5 1 v (bytesD b ws).length ((bytesD b ws).map ah)∧Keep w w':=by
 have Bf:=Me b ws;go_enter func100,ntmps100
 go_wp2_with (first
  | (go_at_call 130;refine(b29 _ _ _ _ _ _ _ w ((Below.refl _ _).alloc (Nat.le_refl _) _) h).mono ?_;rintro e w2 ⟨A2,c2,dM,dI,rfl,hd,hk2⟩
     have b0:w2.cell? ⟨w.heap.size,0,none⟩=some (.slice A b.length c):=aC hk2 (by go_simp);have b1:w2.cell? ⟨w.heap.size,1,none⟩=some (.slice PA ws.length pc):=aC hk2 (by go_simp);have f0:w2.frozen? ⟨w.heap.size,0,none⟩=false:=fU hk2 (by simp) (by go_simp);have f1:w2.frozen? ⟨w.heap.size,1,none⟩=false:=fU hk2 (by simp) (by go_simp)
     have k2:Keep w w2:=af ((Below.refl _ _).alloc (Nat.le_refl _) _) hk2))
 have k3:=(k2.setCell (p:=⟨w.heap.size,0,none⟩) (by simp) (.slice A2 (gB b ws).length c2)).setCell (p:=⟨w.heap.size,1,none⟩) (by simp) (.slice dM (dX b ws).length dI);have hd3:=hd _ k3;have e1:((w2.setCell ⟨w.heap.size,0,none⟩ (.slice A2 (gB b ws).length c2)).setCell ⟨w.heap.size,1,none⟩ (.slice dM (dX b ws).length dI)).cell? ⟨w.heap.size,1,none⟩=some (.slice dM (dX b ws).length dI):=by go_simp
 have hbd:bytesD b ws=(dX b ws).foldl yu (gB b ws):=rfl;generalize gB b ws=bb at Bf k3 hd3 e1 hbd ⊢;generalize dX b ws=wv at Bf k3 hd3 e1 hbd ⊢;have a9H:=hid hbd;clear hbd;generalize ((w2.setCell ⟨w.heap.size,0,none⟩ (.slice A2 bb.length c2)).setCell ⟨w.heap.size,1,none⟩ (.slice dM wv.length dI))=w3 at k3 hd3 e1 ⊢;clear b0 b1 f0 f1 hk2 hd;have hsl:=Qv Bf;have hok:=a5o Bf;have xQ:=hid hok;clear hok;refine(clone_any _ bb _ _ (by omega) hd3.rb).mono ?_;rintro e w4 ⟨v4,rfl,hown4,hk4⟩;have e4:=aC hk4 e1;have Tz:=hid hd3;have hbc:=hd3.bc;have hcm:=hd3.cm;have hpl:=hd3.pl;have hpm:=hd3.pm
 unfold maxLen at hcm hpm;obtain⟨A4,c4,rfl,hc4,hm4,VP⟩:=dD hown4;unfold maxLen at hm4;clear VP hd3 e1 hsl;have k4:=af k3 hk4;have c4i:=k3.size;go_wp2_with fail
 go_loopw [14] (fun i wr => ∃ (k:Nat) (bk:List UInt8),k≤wv.length∧i = .int .i64 k∧bk.length=bb.length∧(wv.drop k).foldl yu bk=wv.foldl yu bb∧wr.ownsRow w3.heap.size 5 1 (.slice A4 bb.length c4) bb.length (bk.map ah)∧Below w3.heap.size w3 wr)
  (fun i _=>wv.length - (intOf i).toNat)
 case atStart=>exact⟨0,bb,Nat.zero_le _,rfl,rfl,rfl,hown4,hk4⟩
 case round =>
  obtain⟨k,bk,hk,rfl,hbl,hfold,hown,hkr⟩:=hrel;have yU:=hid hbl;have TD:=hid hfold;have gU:=hid hown
  clear hbl hfold hown;by_cases hlt:k<wv.length
  ·obtain⟨bp,off,rfl,hb,F⟩:=aG.at2 (Tz.out.rp) hlt
   have hx:=Tz.out.ok _ (List.getElem_mem hlt);have hxo:=of_decide_eq_true (xQ.out _ (List.getElem_mem hlt));have VT:=xQ.out _ (List.getElem_mem hlt);have hdc:=drop_cons wv k hlt;generalize wv[k]=x at F hx hxo hdc VT;have a9S:=hid hdc;have Hxo:=hid VT
   obtain⟨hx0,hx1,hx2⟩:=hxo;obtain⟨at_,hat⟩ : ∃ n:Nat,x.at_=n:=⟨x.at_.toNat,by omega⟩
   have h32:32*at_+32≤bb.length:=by omega
   have hxl:x.d.length≤32:=by omega
   have Ot:=hid hx2;obtain⟨c0,c1⟩:=F wr hkr;have a9B:=hid hat;rw[hat]at c0;have Hx:=hid hx;have c35:=hx.2.1;have hxm:=hx.2.2
   unfold maxLen at hxm;obtain⟨g,cap,hv,hgb,hgl⟩:=gU.out.form (by omega);injection hv with hv1 _ hv3;subst hv1 hv3;obtain⟨cur,lL,hcl,_⟩:=b71 gU.out;have Ji:=hid lL;clear F hdc VT hx hx0 hx1 hat lL hx2;go_wp2
   go_region_held3 (fun w'=>w'.cell? ⟨wr.heap.size,0,none⟩=some (.int .i64 at_)∧w'.cell? ⟨wr.heap.size,1,none⟩=some (.slice x.A x.d.length x.cap))
    (first
     | go_keep
     | exact⟨qK uy (by go_simp) (by simp;omega),qK uy (by go_simp) (by simp;omega)⟩)
    (first
     | (go_at_call 131;refine(a6o _ _ _ _ at_ _ (by omega) (by omega) (by omega) _ rfl).mono ?_;rintro e w5 ⟨rfl,rfl⟩)
     | (refine b9S jU g (32*at_) 32 32 (by rfl) x.A x.d.length x.cap (x.d.map ah) (by rfl) (by simp) (Rd.keep Hx.out.1 (by exact((hkr.alloc (by omega) _).drew))) (Qa _) cur 5 (by exact(ae.alloc Ji.out _)) (by omega) ?_
        intro w7 b4p uy))
   go_wp2
   go_roundw
   case rel =>
    have hat':x.at_.toNat=at_:=by rw[a9B.out];rfl
    have hso:x.ok bk.length=true:=by rw[yU.out];exact Hxo.out
    have hl:=a4A bk x hso;rw[yU.out]at hl;refine⟨k+1,yu bk x,by omega,by go_num,hl,by rw[←TD.out,a9S.out];rfl,?_,?_⟩
    ·have hh:=b75 gU.out (off:=32*at_) (ys:=(x.d.map ah).take 32) (by simp;have:=Ot.out;omega) Ji.out b4p.out
     rw[List.take_of_length_le (by simp;omega),b9E]at hh;unfold yu;rw[hat'];exact hh
    ·exact aK ((hkr.alloc (by omega) _).drew) uy (by omega)
   case measure=>simp[intOf];omega
  ·obtain rfl:k=wv.length:=by omega
   rw[List.drop_length]at TD;go_wp2
   go_ret
   have hbk:bk=bytesD b ws:=by rw[a9H.out,←TD.out];rfl
   refine⟨_,rfl,?_,af k3 hkr⟩;rw[←hbk,yU.out];have h1:=gU.out;exact⟨h1.1,h1.2.imp id fun⟨g,cap,cur,e1,e2,e3⟩=>⟨g,cap,cur,e1,by omega,e3⟩⟩
end Go.Proofs.YtiagcenlnekdeaaGreatDoor
namespace Go.Proofs.YtiagcenlnekdeaaGreatDoor
open Go.RowKit
attribute [local go_sem ↓] Go.wp_at_zero Go.wp_at_succ
end Go.Proofs.YtiagcenlnekdeaaGreatDoor
namespace Go.Proofs.YtiagcenlnekdeaaGreatDoor
open Go.RowKit
attribute [local go_sem ↓] Go.wp_at_zero Go.wp_at_succ
def oh (nb np:Nat) (at_:Int) (n:Nat):Bool:=decide (0≤at_∧at_≤(nb/32:Nat) - (n:Int)∧np+n≤100000)
def iM (at_:Int) (data:List UInt8) (n:Nat):List (Int × List UInt8):=(List.range n).map fun(k:Nat)=>(at_+k,(data.drop (32*k)).take 32)
def lS (b:List UInt8) (ws:List aG) (at_:Int) (data:List UInt8):List (Int × List UInt8) × Int :=
 if data.length%32≠0 then((dX b ws).map aG.pl,14)
 else if data.length/32=0 then((dX b ws).map aG.pl,0)
 else if oh (gB b ws).length (dX b ws).length at_ (data.length/32)then((dX b ws).map aG.pl++iM at_ data (data.length/32),0)
 else((dX b ws).map aG.pl,14)
theorem b7N (vs:List aG) : ∀ u∈vs.flatMap aG.cells,u.oneCell'=true:=by
 intro u hu;obtain⟨s,_,hs⟩:=List.mem_flatMap.1 hu;simp only[aG.cells,List.mem_cons,List.not_mem_nil,or_false]at hs;rcases hs with rfl | rfl <;> rfl
def MP (n:Nat):Array Value:=madeCells #[.int .i64 0,.slice none 0 0] (n*2)
theorem a7u (n:Nat):(MP n).toList.length=n*2:=by simp[MP,madeCells]
def uG (g:Nat) (at_:Int) (data:List UInt8) (k:Nat):List aG:=(List.range k).map fun(j:Nat)=>⟨at_+j,some ⟨g,32*j,none⟩,32,(data.drop (32*j)).take 32⟩
theorem b7u (g:Nat) (at_:Int) (data:List UInt8) (k:Nat):uG g at_ data (k+1)=uG g at_ data k++[⟨at_+k,some ⟨g,32*k,none⟩,32,(data.drop (32*k)).take 32⟩]:=by
 simp[uG,List.range_succ]
theorem b7t (g:Nat) (at_:Int) (data:List UInt8) (k:Nat):(uG g at_ data k).map aG.pl=iM at_ data k:=by simp[uG,iM,aG.pl]
theorem b7s (g:Nat) (at_:Int) (data:List UInt8) (k:Nat):(uG g at_ data k).length=k:=by simp[uG]
theorem a4t (A:Option Addr) (b:List UInt8) (c:Nat) (PA:Option Addr) (ws:List aG) (pc:Nat) (i:Int) (B:Option Addr) (data:List UInt8) (cd:Nat) (w:World) (F:World→Prop) (hF : ∀ W,Keep w W→F W) (h : ∀ W,F W→dJ W A b c PA ws pc)
  (hdr:Rd w B (data.map ah)) (hdl:data.length≤1000000) (hi : -9223372036854775808≤i∧i≤9223372036854775807) :
  Calls prog 152 #[dP A b.length c PA ws.length pc,.int .i64 i,.slice B data.length cd] w fun e w' =>
   ∃ A' c' PA' pc' vs,e = .returned (.tuple #[dP A' (gB b ws).length c' PA' vs.length pc',.int .i64 (lS b ws i data).2])∧vs.map aG.pl=(lS b ws i data).1 ∧
     (∀ W,lY F w w' W→dJ W A' (gB b ws) c' PA' vs pc')∧Keep w w':=by
 obtain⟨hi1,hi2⟩:=hi;have Bf:=Me b ws;by_cases h1:data.length%32=0
 ·by_cases h2:data.length/32=0
  ·have HL:=hid (show lS b ws i data=((dX b ws).map aG.pl,0) by unfold lS;rw[if_neg (by omega),if_pos h2])
   have t1:((data.length:Int)%32 != 0)=false:=by simp;omega
   have t2:((data.length:Int)/32==0)=true:=by simp;omega
   clear h1 h2;go_enter func152,ntmps152
   go_wp2_with fail
   refine(GR _ _ _ _ _ _ _ F (fun W hW=>hF W (af (((Below.refl _ _).alloc (Nat.le_refl _) _).alloc (by simp) _) hW)) h).mono ?_;rintro e w2 ⟨A2,c2,dM,dI,rfl,hd,hk2⟩;have b0:w2.cell? ⟨w.heap.size,0,none⟩=some (.slice A b.length c):=aC hk2 (by go_simp);have b1:w2.cell? ⟨w.heap.size,1,none⟩=some (.slice PA ws.length pc):=aC hk2 (by go_simp);have f0:w2.frozen? ⟨w.heap.size,0,none⟩=false:=fU hk2 (by simp;omega) (by go_simp);have f1:w2.frozen? ⟨w.heap.size,1,none⟩=false:=fU hk2 (by simp;omega) (by go_simp);have r0:w2.cell? ⟨w.heap.size+1,0,none⟩=some (.slice none 0 0):=aC hk2 (by go_simp);have r1:w2.cell? ⟨w.heap.size+1,1,none⟩=some (.slice none 0 0):=aC hk2 (by go_simp);have g0:w2.frozen? ⟨w.heap.size+1,0,none⟩=false:=fU hk2 (by simp) (by go_simp);have g1:w2.frozen? ⟨w.heap.size+1,1,none⟩=false:=fU hk2 (by simp) (by go_simp);have k2:Keep w w2:=af (((Below.refl _ _).alloc (Nat.le_refl _) _).alloc (by simp) _) hk2;go_wp2_with fail
   refine bodyPost_ret (v:=.tuple #[dP A2 (gB b ws).length c2 dM (dX b ws).length dI,.int .i64 0]) (by simp[results,results152,go_sem,b0,b1,r0,r1]) rfl ⟨A2,c2,dM,dI,dX b ws,by rw[HL.out],by rw[HL.out],fun W hW=>hd W hW.1,(((k2.setCell (by simp) _).setCell (by simp) _).setCell (by simp) _).setCell (by simp) _⟩
  ·have t1:((data.length:Int)%32 != 0)=false:=by simp;omega
   have t2:((data.length:Int)/32==0)=false:=by simp;omega
   have HL:=hid (show lS b ws i data=if oh (gB b ws).length (dX b ws).length i (data.length/32)then((dX b ws).map aG.pl++iM i data (data.length/32),0)else((dX b ws).map aG.pl,14) by
    unfold lS;rw[if_neg (by omega),if_neg h2])
   have hn0:0<data.length/32:=by omega
   have a0c:=hid (show 32*(data.length/32)=data.length by omega);clear h1 h2;by_cases hi0:i<0
   ·have HL2:=hid (show lS b ws i data=((dX b ws).map aG.pl,14) by rw[HL.out,if_neg];unfold oh;rw[decide_eq_true_eq];omega)
    go_enter func152,ntmps152
    go_wp2_with fail
    refine(GR _ _ _ _ _ _ _ F (fun W hW=>hF W (af (((Below.refl _ _).alloc (Nat.le_refl _) _).alloc (by simp) _) hW)) h).mono ?_;rintro e w2 ⟨A2,c2,dM,dI,rfl,hd,hk2⟩;have b0:w2.cell? ⟨w.heap.size,0,none⟩=some (.slice A b.length c):=aC hk2 (by go_simp);have b1:w2.cell? ⟨w.heap.size,1,none⟩=some (.slice PA ws.length pc):=aC hk2 (by go_simp);have f0:w2.frozen? ⟨w.heap.size,0,none⟩=false:=fU hk2 (by simp;omega) (by go_simp);have f1:w2.frozen? ⟨w.heap.size,1,none⟩=false:=fU hk2 (by simp;omega) (by go_simp);have r0:w2.cell? ⟨w.heap.size+1,0,none⟩=some (.slice none 0 0):=aC hk2 (by go_simp);have r1:w2.cell? ⟨w.heap.size+1,1,none⟩=some (.slice none 0 0):=aC hk2 (by go_simp);have g0:w2.frozen? ⟨w.heap.size+1,0,none⟩=false:=fU hk2 (by simp) (by go_simp);have g1:w2.frozen? ⟨w.heap.size+1,1,none⟩=false:=fU hk2 (by simp) (by go_simp);have k2:Keep w w2:=af (((Below.refl _ _).alloc (Nat.le_refl _) _).alloc (by simp) _) hk2;go_wp2_with fail
    refine bodyPost_ret (v:=.tuple #[dP A2 (gB b ws).length c2 dM (dX b ws).length dI,.int .i64 14]) (by simp[results,results152,go_sem,b0,b1,r0,r1]) rfl ⟨A2,c2,dM,dI,dX b ws,by rw[HL2.out],by rw[HL2.out],fun W hW=>hd W hW.1,(((k2.setCell (by simp) _).setCell (by simp) _).setCell (by simp) _).setCell (by simp) _⟩
   ·have c3w:0≤i:=by omega
    go_enter func152,ntmps152
    go_wp2_with fail
    refine(GR _ _ _ _ _ _ _ F (fun W hW=>hF W (af (((Below.refl _ _).alloc (Nat.le_refl _) _).alloc (by simp) _) hW)) h).mono ?_;rintro e w2 ⟨A2,c2,dM,dI,rfl,hd,hk2⟩;have b0:w2.cell? ⟨w.heap.size,0,none⟩=some (.slice A b.length c):=aC hk2 (by go_simp);have b1:w2.cell? ⟨w.heap.size,1,none⟩=some (.slice PA ws.length pc):=aC hk2 (by go_simp);have f0:w2.frozen? ⟨w.heap.size,0,none⟩=false:=fU hk2 (by simp;omega) (by go_simp);have f1:w2.frozen? ⟨w.heap.size,1,none⟩=false:=fU hk2 (by simp;omega) (by go_simp);have r0:w2.cell? ⟨w.heap.size+1,0,none⟩=some (.slice none 0 0):=aC hk2 (by go_simp);have r1:w2.cell? ⟨w.heap.size+1,1,none⟩=some (.slice none 0 0):=aC hk2 (by go_simp);have g0:w2.frozen? ⟨w.heap.size+1,0,none⟩=false:=fU hk2 (by simp) (by go_simp);have g1:w2.frozen? ⟨w.heap.size+1,1,none⟩=false:=fU hk2 (by simp) (by go_simp);have k2:Keep w w2:=af (((Below.refl _ _).alloc (Nat.le_refl _) _).alloc (by simp) _) hk2;go_wp2_with fail
    have k3:=(k2.setCell (p:=⟨w.heap.size,0,none⟩) (by simp) (.slice A2 (gB b ws).length c2)).setCell (p:=⟨w.heap.size,1,none⟩) (by simp) (.slice dM (dX b ws).length dI);have hd3:=hd _ (hF _ k3);generalize hbb:gB b ws=bb at Bf k3 hd3 hd HL ⊢;generalize hwv:dX b ws=wv at Bf k3 hd3 hd HL ⊢;have Tj:=hid hbb;have c2t:=hid hwv;have Hd:=hid hd
    clear hbb hwv;have e0:((w2.setCell ⟨w.heap.size,0,none⟩ (.slice A2 bb.length c2)).setCell ⟨w.heap.size,1,none⟩ (.slice dM wv.length dI)).cell? ⟨w.heap.size,0,none⟩=some (.slice A2 bb.length c2):=by go_simp
    have e1:((w2.setCell ⟨w.heap.size,0,none⟩ (.slice A2 bb.length c2)).setCell ⟨w.heap.size,1,none⟩ (.slice dM wv.length dI)).cell? ⟨w.heap.size,1,none⟩=some (.slice dM wv.length dI):=by go_simp
    have q0:((w2.setCell ⟨w.heap.size,0,none⟩ (.slice A2 bb.length c2)).setCell ⟨w.heap.size,1,none⟩ (.slice dM wv.length dI)).cell? ⟨w.heap.size+1,0,none⟩=some (.slice none 0 0):=by go_simp
    have q1:((w2.setCell ⟨w.heap.size,0,none⟩ (.slice A2 bb.length c2)).setCell ⟨w.heap.size,1,none⟩ (.slice dM wv.length dI)).cell? ⟨w.heap.size+1,1,none⟩=some (.slice none 0 0):=by go_simp
    have y0:((w2.setCell ⟨w.heap.size,0,none⟩ (.slice A2 bb.length c2)).setCell ⟨w.heap.size,1,none⟩ (.slice dM wv.length dI)).frozen? ⟨w.heap.size+1,0,none⟩=false:=by go_simp
    have y1:((w2.setCell ⟨w.heap.size,0,none⟩ (.slice A2 bb.length c2)).setCell ⟨w.heap.size,1,none⟩ (.slice dM wv.length dI)).frozen? ⟨w.heap.size+1,1,none⟩=false:=by go_simp
    generalize ((w2.setCell ⟨w.heap.size,0,none⟩ (.slice A2 bb.length c2)).setCell ⟨w.heap.size,1,none⟩ (.slice dM wv.length dI))=w3 at k3 hd3 e0 e1 q0 q1 y0 y1 ⊢;clear b0 b1 f0 f1 hk2 hd r0 r1 g0 g1;have hbc:=hd3.bc;have hcm:=hd3.cm;have hwl:=hd3.pl;have hpm:=hd3.pm
    unfold maxLen at hcm hpm;have hsl:=Qv Bf;obtain⟨hsl1,hsl2,c3T⟩:=hsl;refine(BA _ _ _ _ _ (by omega)).mono ?_;rintro e w4 ⟨rfl,hk4⟩;have Tz:=hid hd3;clear hd3;replace e0:=aC hk4 e0;replace e1:=aC hk4 e1;replace y0:=fU hk4 (cell_lt q0) y0;replace y1:=fU hk4 (cell_lt q1) y1;replace q0:=aC hk4 q0;replace q1:=aC hk4 q1;have k4:=af k3 hk4;have c2s:=hid hsl1;clear hsl1;by_cases e2:((bb.length/32:Nat):Int) - ((data.length/32:Nat):Int)<i
    ·have HL2:=hid (show lS b ws i data=(wv.map aG.pl,14) by rw[HL.out,if_neg];unfold oh;rw[decide_eq_true_eq];omega)
     go_wp2_with fail
     refine bodyPost_ret (v:=.tuple #[dP A2 bb.length c2 dM wv.length dI,.int .i64 14]) (by simp[results,results152,go_sem,e0,e1,q0,q1]) rfl ?_;rw[Tj.out];exact⟨A2,c2,dM,dI,wv,by rw[HL2.out],by rw[HL2.out],fun W hW=>Hd.out W hW.1,(k4.setCell (by simp) _).setCell (by simp) _⟩
    ·by_cases e3:wv.length+data.length/32≤100000
     ·have HL2:=hid (show lS b ws i data=(wv.map aG.pl++iM i data (data.length/32),0) by rw[HL.out,if_pos];unfold oh;rw[decide_eq_true_eq];omega)
      go_wp2_with fail
      refine(clone_any _ data _ _ (by omega) (hdr.keep k4)).mono ?_;rintro e w5 ⟨v5,rfl,hown5,hk5⟩;have hq4:w.heap.size+1<w4.heap.size:=cell_lt q0;obtain⟨g5,c5,rfl,c3r,c3s⟩:=hown5.form (by omega)
      have hb5:data.length≤c5∧c5≤9223372036854775807:=by
       obtain⟨_,_,h1,h2,h3,_⟩:=dD hown5;injection h1 with _ _ h1;unfold maxLen at h3;omega
      obtain⟨hc5,VK⟩:=hb5;have b0j:=hid (wV hown5);clear hown5;replace e0:=aC hk5 e0;replace e1:=aC hk5 e1;replace y0:=fU hk5 (cell_lt q0) y0;replace y1:=fU hk5 (cell_lt q1) y1;replace q0:=aC hk5 q0;replace q1:=aC hk5 q1;have k5:=af k4 hk5
      have hmk : ∀ W,(Instr.makeSlice 41 (.int .i64 (wv.length:Int)) (.int .i64 ((wv.length:Int)+(data.length:Int)/32))).run prog W = .ok (.slice (some ⟨W.heap.size,0,none⟩) wv.length (wv.length+data.length/32)) (W.alloc (.cells (MP (wv.length+data.length/32)) 248)):=fun W=>by
       have h1:=writeT.make wv.length (wv.length+data.length/32) (by omega) (by omega) (by omega) W;rw[show((wv.length+data.length/32:Nat):Int)=(wv.length:Int)+(data.length:Int)/32 by omega]at h1;exact h1
      have nZ:=k5.size;have hl0:w.heap.size<w5.heap.size:=cell_lt e0;have hl1:w.heap.size+1<w5.heap.size:=cell_lt q0;have Om:=hid (((Hd.out _ (hF _ k5)).rp).alloc (.cells (MP (wv.length+data.length/32)) 248));go_wp2_with (refine c05 writeT w5.heap.size 0 wv.length (wv.length+data.length/32) (by rfl) dM wv.length dI (wv.flatMap aG.cells) (by rfl) (FV _ 2 (fun _=>rfl) _) Om.out (b7N _) (MP (wv.length+data.length/32)).toList 248 (by rw[Array.toArray_toList];exact heap_alloc_new _ _) (by rw[a7u,Nat.min_self];omega) ?_;intro w6 a2U jh)
      have k6:Keep w5 w6:=((Below.refl _ _).alloc (Nat.le_refl _) _).grown jh (by simp) (fun k hk=>by injection hk with hk;omega);have lL:=a2U.out;rw[Nat.min_self,List.take_of_length_le (by rw[FV _ 2 (fun _=>rfl)];omega)]at lL;have b0d:=hid (LQ (base:=w5.heap.size) (n:=wv.length) (c:=wv.length+data.length/32) (size:=2) lL (Nat.le_refl _) (FV _ 2 (fun _=>rfl) _) (a7u _) (by omega) (by unfold maxLen;omega));have E0:=hid e0;have E1:=hid e1;have Q0:=hid q0;have Q1:=hid q1;have AL:=hid y0;have yZ:=hid y1
      clear lL a2U jh e0 e1 q0 q1 y0 y1 hmk
      go_loopw [9,59] (fun v j wr => ∃ k:Nat,k≤data.length/32∧j = .int .i64 k∧wr.ownsRow w5.heap.size 248 2 v (wv.length+k) ((wv++uG g5 i data k).flatMap aG.cells)∧Below w5.heap.size w5 wr)
       (fun _ j _=>data.length/32 - (intOf j).toNat)
      case atStart=>exact⟨0,Nat.zero_le _,rfl,by simpa[uG]using b0d.out,k6⟩
      case round =>
       obtain⟨k,hk,rfl,hown,hkr⟩:=hrel;have gU:=hid hown;clear hown;have PN:=hkr.size;by_cases hlt:k<data.length/32
       ·have hlt':(k:Int)<(data.length:Int)/32:=by omega
        have h32:32*k+32≤data.length:=by have:=a0c.out;omega
        go_wp2_with (first
         | (go_at_call 131;refine(a6o g5 0 data.length c5 k _ h32 hc5 VK _ rfl).mono ?_;rintro e w7 ⟨rfl,rfl⟩)
         | (at_builtin;refine iF writeT (by rfl) (.tmp 62) (.tmp 70) (by rfl) w5.heap.size _ (wv.length+k) _ (by rfl) (gU.out.alloc _) _ 1 1 [.int .i64 (i+k),.slice (some ⟨g5,32*k,none⟩) 32 32] (by rfl) (by rfl) (Rd.new _ _ _) (by simp[Value.oneCell']) (by omega) (by unfold maxLen;omega) (by simp;omega) ?_;intro v8 w8 PH aZ c3f))
        go_roundw
        case rel =>
         refine⟨k+1,by omega,by go_num,?_,lQ (hkr.alloc PN _) (by simp;omega) aZ (gU.out.alloc _)⟩;refine jm PH (by omega) ?_;have hl:((data.drop (32*k)).take 32).length=32:=by simp;omega
         rw[b7u,←List.append_assoc,List.flatMap_append (xs:=wv++uG g5 i data k)];simp only[List.flatMap_cons,List.flatMap_nil,aG.cells,hl,List.append_nil]
        case measure=>simp[intOf];omega
       ·obtain rfl:k=data.length/32:=by omega
        have e0:=aC hkr E0.out;have e1:=aC hkr E1.out;have q0:=aC hkr Q0.out;have q1:=aC hkr Q1.out
        have y0:=fU hkr hl1 AL.out;have y1:=fU hkr hl1 yZ.out
        obtain⟨A9,c9,rfl,a2S,a3u,-⟩:=dD gU.out;have hlen:(wv++uG g5 i data (data.length/32)).length=wv.length+data.length/32:=by simp[b7s]
        have Hlen:=hid hlen;clear hlen;go_wp2_with fail
        refine bodyPost_ret (v:=.tuple #[dP A2 bb.length c2 A9 (wv.length+data.length/32) c9,.int .i64 0]) (by simp[results,results152,go_sem,e0,e1,q0,q1]) rfl ?_;rw[Tj.out];have kf:Keep w ((wr.setCell ⟨w.heap.size+1,0,none⟩ (.slice A2 bb.length c2)).setCell ⟨w.heap.size+1,1,none⟩ (.slice A9 (wv.length+data.length/32) c9)):=((af k5 hkr).setCell (by simp) _).setCell (by simp) _;refine⟨A2,c2,A9,c9,wv++uG g5 i data (data.length/32),by rw[HL2.out,Hlen.out],by rw[HL2.out,List.map_append,b7t],fun W hW=>?_,kf⟩;have hd9:=Hd.out W hW.1;have VL:=ownsRow_setCell_below (ownsRow_setCell_below gU.out (a:=⟨w.heap.size+1,0,none⟩) hl1 (.slice A2 bb.length c2)) (a:=⟨w.heap.size+1,1,none⟩) hl1 (.slice A9 (wv.length+data.length/32) c9);refine⟨hd9.rb,hd9.bc,hd9.cm,WS VL nZ hW,by rw[Hlen.out];exact a2S,a3u,fun x hx=>?_⟩;rcases List.mem_append.1 hx with hx | hx
        ·exact hd9.ok x hx
        ·obtain⟨j,hj,rfl⟩:=List.mem_map.1 hx
         have hj:=List.mem_range.1 hj;have a3h:w.heap.size+1≠g5:=by omega
         have h1:=((((b0j.out.keep hkr).far (p:=⟨w.heap.size+1,0,none⟩) a3h (.slice A2 bb.length c2)).far (p:=⟨w.heap.size+1,1,none⟩) a3h (.slice A9 (wv.length+data.length/32) c9)).mid (by omega) hW).sub (32*j) 32 (by simp;have:=a0c.out;omega);rw[Nat.zero_add,←List.map_drop,←List.map_take]at h1;refine⟨h1,?_,by unfold maxLen;simp⟩;exact Nat.le_trans (List.length_take_le _ _) (Nat.le_refl _)
     ·have HL2:=hid (show lS b ws i data=(wv.map aG.pl,14) by rw[HL.out,if_neg];unfold oh;rw[decide_eq_true_eq];omega)
      go_wp2_with fail
      refine bodyPost_ret (v:=.tuple #[dP A2 bb.length c2 dM wv.length dI,.int .i64 14]) (by simp[results,results152,go_sem,e0,e1,q0,q1]) rfl ?_;rw[Tj.out];exact⟨A2,c2,dM,dI,wv,by rw[HL2.out],by rw[HL2.out],fun W hW=>Hd.out W hW.1,(k4.setCell (by simp) _).setCell (by simp) _⟩
 ·have HL:=hid (show lS b ws i data=((dX b ws).map aG.pl,14) by unfold lS;rw[if_pos h1])
  have t1:((data.length:Int)%32 != 0)=true:=by simp;omega
  clear h1;go_enter func152,ntmps152
  go_wp2_with fail
  refine(GR _ _ _ _ _ _ _ F (fun W hW=>hF W (af (((Below.refl _ _).alloc (Nat.le_refl _) _).alloc (by simp) _) hW)) h).mono ?_;rintro e w2 ⟨A2,c2,dM,dI,rfl,hd,hk2⟩;have b0:w2.cell? ⟨w.heap.size,0,none⟩=some (.slice A b.length c):=aC hk2 (by go_simp);have b1:w2.cell? ⟨w.heap.size,1,none⟩=some (.slice PA ws.length pc):=aC hk2 (by go_simp);have f0:w2.frozen? ⟨w.heap.size,0,none⟩=false:=fU hk2 (by simp;omega) (by go_simp);have f1:w2.frozen? ⟨w.heap.size,1,none⟩=false:=fU hk2 (by simp;omega) (by go_simp);have r0:w2.cell? ⟨w.heap.size+1,0,none⟩=some (.slice none 0 0):=aC hk2 (by go_simp);have r1:w2.cell? ⟨w.heap.size+1,1,none⟩=some (.slice none 0 0):=aC hk2 (by go_simp);have g0:w2.frozen? ⟨w.heap.size+1,0,none⟩=false:=fU hk2 (by simp) (by go_simp);have g1:w2.frozen? ⟨w.heap.size+1,1,none⟩=false:=fU hk2 (by simp) (by go_simp);have k2:Keep w w2:=af (((Below.refl _ _).alloc (Nat.le_refl _) _).alloc (by simp) _) hk2;go_wp2_with fail
  refine bodyPost_ret (v:=.tuple #[dP A2 (gB b ws).length c2 dM (dX b ws).length dI,.int .i64 14]) (by simp[results,results152,go_sem,b0,b1,r0,r1]) rfl ⟨A2,c2,dM,dI,dX b ws,by rw[HL.out],by rw[HL.out],fun W hW=>hd W hW.1,(((k2.setCell (by simp) _).setCell (by simp) _).setCell (by simp) _).setCell (by simp) _⟩
end Go.Proofs.YtiagcenlnekdeaaGreatDoor
namespace Go.Proofs.YtiagcenlnekdeaaGreatDoor
open Go.RowKit
attribute [local go_sem ↓] Go.wp_at_zero Go.wp_at_succ
theorem GH (w:World) (g o:Nat) (v:Value) (k:Nat) (h:k≠g):(w.setCell ⟨g,o,none⟩ v).heap[k]?=w.heap[k]?:=by
 exact Below.heap_setCell w _ v k h
def wZ (b:List UInt8) (ws:List aG) (at_:Int) (data:List UInt8):List (Int × List UInt8) × Int :=
 if data.length=32 then lS b ws at_ data else((dX b ws).map aG.pl,14)
theorem b8v (A:Option Addr) (b:List UInt8) (c:Nat) (PA:Option Addr) (ws:List aG) (pc:Nat) (i:Int) (B:Option Addr) (data:List UInt8) (cd:Nat) (w:World) (F:World→Prop) (hF : ∀ W,Keep w W→F W) (h : ∀ W,F W→dJ W A b c PA ws pc)
  (hdr:Rd w B (data.map ah)) (hdl:data.length≤1000000) (hi : -9223372036854775808≤i∧i≤9223372036854775807) :
  Calls prog 106 #[dP A b.length c PA ws.length pc,.int .i64 i,.slice B data.length cd] w fun e w' =>
   ∃ A' c' PA' pc' vs,e = .returned (.tuple #[dP A' (gB b ws).length c' PA' vs.length pc',.int .i64 (wZ b ws i data).2])∧vs.map aG.pl=(wZ b ws i data).1 ∧
     (∀ W,lY F w w' W→dJ W A' (gB b ws) c' PA' vs pc')∧Keep w w':=by
 by_cases h32:data.length=32
 ·have HP:=hid (show wZ b ws i data=lS b ws i data from if_pos h32)
  have t1:((data.length:Int)!=32)=false:=by simp;omega
  clear h32;go_enter func106,ntmps106
  go_wp2_with fail
  refine(a4t _ _ _ _ _ _ i _ data _ _ F (fun W hW=>hF W (af (((Below.refl _ _).alloc (Nat.le_refl _) _).alloc (by simp) _) hW)) h (hdr.keep (((Below.refl _ _).alloc (Nat.le_refl _) _).alloc (by simp) _)) hdl hi).mono ?_;rintro e w2 ⟨A2,c2,dM,dI,vs,rfl,hvs,hd,hk2⟩;have r0:w2.cell? ⟨w.heap.size+1,0,none⟩=some (.slice none 0 0):=aC hk2 (by go_simp);have r1:w2.cell? ⟨w.heap.size+1,1,none⟩=some (.slice none 0 0):=aC hk2 (by go_simp);have g0:w2.frozen? ⟨w.heap.size+1,0,none⟩=false:=fU hk2 (by simp) (by go_simp);have g1:w2.frozen? ⟨w.heap.size+1,1,none⟩=false:=fU hk2 (by simp) (by go_simp);have k2:Keep w w2:=af (((Below.refl _ _).alloc (Nat.le_refl _) _).alloc (by simp) _) hk2;go_wp2_with fail
  refine bodyPost_ret (v:=.tuple #[dP A2 (gB b ws).length c2 dM vs.length dI,.int .i64 (lS b ws i data).2]) (by simp[results,results106,go_sem,r0,r1,g0,g1]) rfl ⟨A2,c2,dM,dI,vs,by rw[HP.out],by rw[HP.out];exact hvs,fun W hW=>hd W ⟨hW.1,fun k hk1 hk2=>?_⟩,(k2.setCell (by simp) _).setCell (by simp) _⟩;have c3x:w.heap.size+2≤k:=by simpa using hk1
  rw[hW.2 k (by omega) (by simpa using hk2),GH _ _ _ _ _ (by omega),GH _ _ _ _ _ (by omega)]
 ·have HP:=hid (show wZ b ws i data=((dX b ws).map aG.pl,14) from if_neg h32)
  have t1:((data.length:Int)!=32)=true:=by simp;omega
  clear h32;go_enter func106,ntmps106
  go_wp2_with fail
  refine(GR _ _ _ _ _ _ _ F (fun W hW=>hF W (af (((Below.refl _ _).alloc (Nat.le_refl _) _).alloc (by simp) _) hW)) h).mono ?_;rintro e w2 ⟨A2,c2,dM,dI,rfl,hd,hk2⟩;have r0:w2.cell? ⟨w.heap.size+1,0,none⟩=some (.slice none 0 0):=aC hk2 (by go_simp);have r1:w2.cell? ⟨w.heap.size+1,1,none⟩=some (.slice none 0 0):=aC hk2 (by go_simp);have g0:w2.frozen? ⟨w.heap.size+1,0,none⟩=false:=fU hk2 (by simp) (by go_simp);have g1:w2.frozen? ⟨w.heap.size+1,1,none⟩=false:=fU hk2 (by simp) (by go_simp);have k2:Keep w w2:=af (((Below.refl _ _).alloc (Nat.le_refl _) _).alloc (by simp) _) hk2;go_wp2_with fail
  refine bodyPost_ret (v:=.tuple #[dP A2 (gB b ws).length c2 dM (dX b ws).length dI,.int .i64 14]) (by simp[results,results106,go_sem,r0,r1,g0,g1]) rfl ⟨A2,c2,dM,dI,dX b ws,by rw[HP.out],by rw[HP.out],fun W hW=>hd W hW.1,(k2.setCell (by simp) _).setCell (by simp) _⟩
end Go.Proofs.YtiagcenlnekdeaaGreatDoor
