/- Texts merged by pack.py: Rsn, Rfd, Pf, Pj, Pk, Pl, Rcm, Pg, Ph. -/
import Derived.Test.YtffpanlpbdnafaaDoorCx8
import Derived.Test.YtffpanlpbdnafaaDoorCx9
import Derived.Test.YtffpanlpbdnafaaDoorCx4
import Derived.Test.YtffpanlpbdnafaaDoorCx5
import Derived.Test.YtffpanlpbdnafaaDoorCx10
/- peer.Send of one that is not banned and of which nothing is left (printed by gen_rs.py) -/
set_option linter.unusedSimpArgs false
set_option linter.unusedVariables false
namespace Go.Proofs.YtffpanlpbdnafaaDoor
open Go.RowKit
attribute [local go_sem ↓] Go.wp_at_zero Go.wp_at_succ
theorem name_cmd : ∀ k : Fin 11,cmdB (nameL ((k.val : Nat) : Int)) = true:=by decide
theorem fits_kindS {m : MsgR} (h : fitsB m = true) : 0 ≤ m.kind∧m.kind < 11:=by
 unfold fitsB at h
 have q:=of_decide_eq_true h
 exact ⟨q.1,q.2.1⟩
theorem fits_cmd {m : MsgR} (h : fitsB m = true) : cmdB (nameL m.kind) = true:=by
 obtain ⟨h1,h2⟩:=fits_kindS h
 have q:=name_cmd ⟨m.kind.toNat,by omega⟩
 have e : ((m.kind.toNat : Nat) : Int) = m.kind:=by omega
 simp only [e] at q
 exact q
set_option maxRecDepth 100000 in
set_option maxHeartbeats 8000000 in
theorem send_ok (p : PeR) (cs : Array Value) (hA : PeA p cs) (hr : p.rs = []) (hst3 : (takenP p).stage ≠ 3) (m : MsgR) (ms : Array Value) (hM : MsA m ms) (w : World) (hm : m.at_ w) (hS : ShaOk w) (hpl : (putL m).length ≤ 4000000) (hf : fitsB m = true) :
  Calls Tryd.prog 14 #[.agg cs,.agg ms] w fun e w' => ∃ v,e = .returned (.tuple #[v,iv 0])∧w'.ownsRow w.heap.size 5 1 v (24 + (putL m).length) ((putF (takenP p).magic (nameL m.kind) (putL m)).map u8v)∧Keep w w':=by
 have TK : Hid (∀ y,Calls Tryd.prog 26 #[.agg cs] y fun e w' => ∃ ds,e = .returned (.agg ds)∧PeA (takenP p) ds∧Keep y w'):=Lib.hid fun y => ptaken_any p cs hA hr y
 have NM : Hid (∀ y,Calls Tryd.prog 21 #[.int .i64 m.kind] y fun e w' => e = .returned (.string (str (nameL m.kind)))∧Keep y w'):=Lib.hid fun y => name_any m.kind y
 have PU : Hid (∀ y,Keep w y → Calls Tryd.prog 31 #[.agg ms] y fun e w' => ∃ v,e = .returned (.tuple #[v,iv 0])∧w'.ownsRow y.heap.size 5 1 v (putL m).length ((putL m).map u8v)∧Keep y w'):=Lib.hid fun y hy => by
  have q:=put_any m ms hM y (hm.keep hy)
  rw [if_pos hf] at q
  exact q
 have FP : Hid (fitsB m = true → ∀ y A c,Keep w y → (putL m).length ≤ c → c ≤ maxLen → Rd y A ((putL m).map u8v) → Calls Tryd.prog 32 #[u32v (takenP p).magic,.agg #[.string (str (nameL m.kind)),.slice A (putL m).length c]] y fun e w' => ∃ v,e = .returned (.tuple #[v,iv 0])∧w'.ownsRow y.heap.size 5 1 v (24 + (putL m).length) ((putF (takenP p).magic (nameL m.kind) (putL m)).map u8v)∧Keep y w'):=Lib.hid fun hf y A c hy h1 h2 h3 =>
  fput_any (takenP p).magic (nameL m.kind) (putL m) A (putL m).length c y rfl ⟨h1,h2⟩ hpl (fits_cmd hf) h3 (hS.keep hy)
 have hcn:=hA.n;have hcz:=hA.z;have hci:=hA.i
 have hmn:=hM.n;have hmz:=hM.z;have hmi:=hM.i
 have HA:=Lib.hid hA;have HMS:=Lib.hid hM
 have HST:=Lib.hid hst3
 have HF:=Lib.hid hf
 clear hA hr hst3 hM hm hS hpl hf
 generalize takenP p = q at *
 generalize putF q.magic (nameL m.kind) (putL m) = FB at *
 go_enter Tryd.func14,Tryd.ntmps14
 go_upto_region 1 with fail
 obtain ⟨w1,hw1⟩ : ∃ w1,w1 = (w.alloc (.cells cs 31)).alloc (.cells ms 50):=⟨_,rfl⟩
 have HB1 : Hid (Blk w1 w.heap.size 31 cs.toList):=by rw [hw1];exact Lib.hid ((Blk.new w _ cs.toList).alloc _)
 have HM1 : Hid (Blk w1 (w.heap.size + 1) 50 ms.toList):=by
  rw [hw1]
  have h2:=Blk.new (w.alloc (.cells cs 31)) 50 ms.toList
  rw [World.size_alloc] at h2
  exact Lib.hid h2
 have HK1 : Hid (Keep w w1):=by rw [hw1];exact Lib.hid (keep_trans (keep_new _ _) (keep_new _ _))
 rw [← hw1]
 clear hw1
 go_wp2_with ((with_reducible refine load_arr w.heap.size cs (Eq.trans ?_ rfl) HB1.out _ Tryd.underlying31 rfl hci ?_);rfl)
 refine (TK.out _).mono ?_
 clear TK
 rintro e w2 ⟨qs,rfl,hqA,k2⟩
 have hqn:=hqA.n;have hqz:=hqA.z;have hqi:=hqA.i
 have HQ:=Lib.hid hqA
 have HK2:=Lib.hid (keep_trans HK1.out k2)
 obtain ⟨w3,hst3,hb3,hg3⟩:=run_store_blk (P:=Tryd.prog) qs.toList (HB1.out.keep k2) (by rw [Array.length_toList,Array.length_toList,hcz,hqz]) HQ.out.o
 have HB3 : Hid (Blk w3 w.heap.size 31 q.cells):=by rw [← HQ.out.l];exact Lib.hid hb3
 have HM3 : Hid (Blk w3 (w.heap.size + 1) 50 ms.toList):=Lib.hid ((HM1.out.keep k2).grown hg3 (fun e => by injection e with e;omega))
 have HK3 : Hid (Keep w w3):=Lib.hid (HK2.out.grown hg3 HK2.out.size (fun q hq => by injection hq with hq;omega))
 clear k2 HB1 HK1 HK2 hqA hb3 hg3 HM1
 go_upto_region 2 with fail
 clear hst3
 have r0 : w3.cell? ⟨w.heap.size,0,none⟩ = some (iv q.stage):=(HB3.out.cell 0).trans rfl
 have d0 : (q.stage == 3) = false:=by rw [beq_eq_false_iff_ne];exact HST.out
 go_upto_region 5 with (first | ((with_reducible refine load_arr (w.heap.size + 1) ms (Eq.trans ?_ rfl) HM3.out _ Tryd.underlying50 rfl hmi ?_);rfl) | (go_at_call 31;refine (PU.out _ HK3.out).mono ?_;rintro e w4 ⟨v4,rfl,ow4,k4⟩;have OW4:=Lib.hid ow4;have HK4:=Lib.hid (keep_trans HK3.out k4);have HB4:=Lib.hid (HB3.out.keep k4);have HM4:=Lib.hid (HM3.out.keep k4);clear ow4 k4))
 clear r0 d0 PU HB3 HM3 HK3
 obtain ⟨A4,c4,rfl,hc4,hm4,hr4⟩:=own_form OW4.out
 have HC4:=Lib.hid hc4;have HM4':=Lib.hid hm4;have HR4:=Lib.hid hr4
 clear hc4 hm4 hr4 OW4
 go_upto_region 7 with fail
 refine wp_region_tree (.take [0,1,2,3,4,6] (.force [5] (.take [7] (.force [8] (.take [9,10,11,12] .done))))) [] (by kernel_rfl) (by kernel_rfl) (fun y0 hk => ?_)
 have HK5:=Lib.hid (keep_trans HK4.out hk)
 have r6:=aft_cell (show y0.cell? ⟨w.heap.size,6,none⟩ = some (u32v q.magic) from ((HB4.out.keep hk).cell 6).trans rfl)
 have m0:=aft_cell (show y0.cell? ⟨w.heap.size + 1,0,none⟩ = some (iv m.kind) from ((HM4.out.keep hk).cell 0).trans (by rw [HMS.out.l];rfl))
 have HR5:=Lib.hid (HR4.out.keep hk)
 clear hk HB4 HM4 HK4 HR4
 refine mt_take y0 (Below.refl _ _) ?_
 simp only [pick_cons,pick_nil,nth_zero,nth_succ]
 repeat (go_big_quiet_step (fail))
 clear r6 m0
 refine wpQuiet_nil (mt_force ?_)
 simp only [pick_cons,pick_nil,nth_zero,nth_succ]
 refine fc_step rfl (fun K hK => ?_)
 go_simp
 (with_reducible refine (NM.out _).mono ?_)
 rintro e y1 ⟨rfl,hk⟩
 refine hK _ _ hk ?_
 clear hK K NM
 have HK6:=Lib.hid (keep_trans HK5.out hk);have HR6:=Lib.hid (HR5.out.keep hk)
 clear hk HK5 HR5
 refine fc_nil (mt_take y1 (Below.refl _ _) ?_)
 simp only [pick_cons,pick_nil,nth_zero,nth_succ]
 repeat (go_big_quiet_step (fail))
 refine wpQuiet_nil (mt_force ?_)
 simp only [pick_cons,pick_nil,nth_zero,nth_succ]
 refine fc_step rfl (fun K hK => ?_)
 go_simp
 (with_reducible refine (FP.out HF.out y1 A4 c4 HK6.out HC4.out HM4'.out HR6.out).mono ?_)
 rintro e y2 ⟨v2,rfl,ow2,hk⟩
 refine hK _ _ hk ?_
 clear hK K FP
 have OW2:=Lib.hid (own_base ow2 HK6.out.size)
 have HK7:=Lib.hid (keep_trans HK6.out hk)
 clear hk ow2 HK6 HR6
 refine fc_nil (mt_take y2 (Below.refl _ _) ?_)
 simp only [pick_cons,pick_nil,nth_zero,nth_succ]
 repeat (go_big_quiet_step (fail))
 refine wpQuiet_nil (mt_end ?_)
 go_wp2
 exact bodyPost_ret (v:=.tuple #[v2,iv 0]) (by simp [results,Tryd.results14]) rfl ⟨_,rfl,OW2.out,HK7.out⟩
end Go.Proofs.YtffpanlpbdnafaaDoor
/- peer.Feed of one that is not banned, of which nothing is left and that is not bad (printed by gen_rfd.py) -/
set_option linter.unusedSimpArgs false
set_option linter.unusedVariables false
namespace Go.Proofs.YtffpanlpbdnafaaDoor
open Go.RowKit
attribute [local go_sem ↓] Go.wp_at_zero Go.wp_at_succ
theorem mcells_at {w : World} {A : Option Addr} {X : List EvR} (hr : Rd w A (X.flatMap EvR.mcells)) {k : Nat} (h : k < X.length) : ∃ b off,A = some ⟨b,off,none⟩∧w.rangeAt b (off + k * 2) [.string (str X[k].c),.slice X[k].P X[k].p.length X[k].pc]:=by
 have hl : (X.flatMap EvR.mcells).length = X.length * 2:=flatMap_len EvR.mcells 2 (fun _ => rfl) X
 rcases hr with h0 | ⟨b,off,rfl,hc⟩
 ·rw [h0] at hl;simp at hl;omega
 ·refine ⟨b,off,rfl,fun j v hv => ?_⟩
  have hj : j < 2:=(List.getElem?_eq_some_iff.1 hv).1
  have q:=hc (k * 2 + j) (by omega)
  rw [← Nat.add_assoc] at q
  rw [q]
  have e:=flatMap_get EvR.mcells 2 (fun _ => rfl) X k j h hj
  have e2 : (X.flatMap EvR.mcells)[k * 2 + j]? = some ((X.flatMap EvR.mcells)[k * 2 + j]'(by omega)):=List.getElem?_eq_getElem _
  rw [← e2]
  exact (e.trans (show (EvR.mcells X[k])[j]? = some v from hv))
theorem run_store_partP {P : Program} {w : World} {g : Nat} {t : TypeId} {all : List Value} (off : Nat) (cs : List Value) (hb : Blk w g t all) (hl : off + cs.length ≤ all.length) (h1 : ∀ v ∈ cs,v.oneCell' = true) :
  ∃ w',(storeCells ⟨g,off,none⟩ cs 0).run P w = .ok () w'∧Blk w' g t (splice all off cs)∧w.grownBy w' (some g):=by
 have hrun:=run_storeCells_at P g off t cs 0 all.toArray w hb (by simpa using hl) h1
 simp only [Nat.add_zero,List.toList_toArray] at hrun
 refine ⟨_,hrun,?_,rfl,rfl,rfl,by simp [World.setRow],fun k _ hne => setRow_other w g k _ (fun e => hne (by rw [e]))⟩
 have h:=setRow_heap w g all.toArray (all.take off ++ cs ++ all.drop (off + cs.length)).toArray t (0,0) hb
 unfold Blk splice
 rw [← List.append_assoc]
 exact h
theorem pe_no8 (q : PeR) : ∀ v ∈ q.cells,∀ x : UInt8,v ≠ u8v x:=by
 intro v hv x e
 unfold PeR.cells at hv
 simp only [List.mem_cons,List.not_mem_nil,or_false] at hv
 rcases hv with rfl | rfl | rfl | rfl | rfl | rfl | rfl | rfl | rfl | rfl <;> cases e
theorem pe_nos (q : PeR) : ∀ v ∈ q.cells,∀ s,v ≠ Value.string s:=by
 intro v hv x e
 unfold PeR.cells at hv
 simp only [List.mem_cons,List.not_mem_nil,or_false] at hv
 rcases hv with rfl | rfl | rfl | rfl | rfl | rfl | rfl | rfl | rfl | rfl <;> cases e
theorem rd_far_of {w w' : World} {g : Nat} {t : TypeId} {l xs : List Value} {P : Option Addr} (h : Rd w P xs) (hb : Blk w g t l) (hx : ∀ v ∈ l,xs[0]? ≠ some v) (hg : w.grownBy w' (some g)) : Rd w' P xs:=by
 by_cases h0 : xs = []
 ·exact .inl h0
 rcases h with h1 | ⟨b,off,rfl,hc⟩
 ·exact .inl h1
 have hp:=List.length_pos_iff.2 h0
 refine .inr ⟨b,off,rfl,fun j hj => grown_cell hg (hc j hj) (fun e => ?_)⟩
 injection e with e
 subst e
 have q:=hc 0 hp
 rw [Nat.add_zero,hb.cell] at q
 exact hx _ (List.mem_of_getElem? q) (List.getElem?_eq_getElem hp)
theorem rd8_far {w w' : World} {g : Nat} {t : TypeId} {q : PeR} {l : List UInt8} {P : Option Addr} (h : Rd w P (l.map u8v)) (hb : Blk w g t q.cells) (hg : w.grownBy w' (some g)) : Rd w' P (l.map u8v) :=
 rd_far_of h hb (fun v hv e => by
  rw [List.getElem?_map] at e
  obtain ⟨x,hx,e2⟩:=Option.map_eq_some_iff.1 e
  exact pe_no8 q v hv x e2.symm) hg
theorem rdm_far {w w' : World} {g : Nat} {t : TypeId} {q : PeR} {X : List EvR} {P : Option Addr} (h : Rd w P (X.flatMap EvR.mcells)) (hb : Blk w g t q.cells) (hg : w.grownBy w' (some g)) : Rd w' P (X.flatMap EvR.mcells) :=
 rd_far_of h hb (fun v hv e => by
  cases X with
  | nil => simp at e
  | cons x X =>
    simp only [List.flatMap_cons,EvR.mcells,List.cons_append,List.getElem?_cons_zero,Option.some.injEq] at e
    exact pe_nos q v hv _ e.symm) hg
set_option maxRecDepth 100000 in
set_option maxHeartbeats 8000000 in
theorem pfeed_any (p : PeR) (cs : Array Value) (hA : PeA p cs) (hr : p.rs = []) (hst3 : (takenP p).stage ≠ 3) (hbd : (takenP p).bad = 0) (C : Option Addr) (cl : List UInt8) (M cc : Nat) (w : World) (hM : cl.length = M) (hb : M ≤ 1000000000) (hc : M ≤ cc∧cc ≤ maxLen) (hrd : Rd w C (cl.map u8v)) (hS : ShaOk w) :
  Calls Tryd.prog 17 #[.agg cs,.slice C M cc] w (FeedQ (feedP (takenP p) cl) w):=by
 obtain ⟨zs,hz0,hzA⟩:=zpeer_letter
 obtain ⟨zb,hy0,hyA⟩:=zbuf_letter
 obtain ⟨zm,hm0,hmz,hmn,hmo⟩:=zfmsg_letter
 obtain ⟨zg,hg0,hgA⟩:=zmsg_letter
 have hzn:=hzA.n;have hzz:=hzA.z;have hyn:=hyA.n;have hyz:=hyA.z;have hgn:=hgA.n;have hgz:=hgA.z
 have HGZ:=Lib.hid hgA
 have TK : Hid (∀ y,Calls Tryd.prog 26 #[.agg cs] y fun e w' => ∃ ds,e = .returned (.agg ds)∧PeA (takenP p) ds∧Keep y w'):=Lib.hid fun y => ptaken_any p cs hA hr y
 have hq0:=taken_nil hr
 have hq1:=taken_cap p
 have FF : Hid (∀ y,Keep w y → ∀ bs,BuA (bufL (takenP p).magic (takenP p).cap (takenP p).rA 0 (takenP p).rc 0) bs → Calls Tryd.prog 37 #[.agg bs,.slice C M cc] y fun e w' => ∃ (ds : Array Value) (L : Option Addr) (lc : Nat) (X : List EvR) (RA : Option Addr) (rc : Nat),e = .returned (.tuple #[.agg ds,.slice L X.length lc])∧BuA (bufL (takenP p).magic (takenP p).cap RA (outE cl (evs (takenP p).magic (takenP p).cap cl)).1.length rc (outE cl (evs (takenP p).magic (takenP p).cap cl)).2) ds∧((outE cl (evs (takenP p).magic (takenP p).cap cl)).1.length ≤ rc∧rc ≤ maxLen∧Rd w' RA ((outE cl (evs (takenP p).magic (takenP p).cap cl)).1.map u8v))∧Rd w' L (X.flatMap EvR.mcells)∧((∀ x ∈ X,x.at_ w'∧x.p.length ≤ 1000000000)∧X.length ≤ 1000000000)∧feedL (X.map fun x => (x.c,x.p)) = feedL ((okE (evs (takenP p).magic (takenP p).cap cl)).map Prod.fst)∧Keep y w'):=Lib.hid fun y hy bs hB => by
  refine (ffeed_nil _ _ _ _ bs hB hq1 C cl M cc y hM hb hc (hrd.keep hy) (hS.keep hy)).mono ?_
  rintro e w' ⟨ds,L,lc,xs,RA,rc,rfl,e2,h3,h4,h5,h6,h7⟩
  have hE : okE (evs (takenP p).magic (takenP p).cap cl) = (okR xs).map EvR.ev:=by rw [← e2,okE_map]
  have hcn:=evs_cns (takenP p).magic (takenP p).cap cl
  refine ⟨ds,L,lc,okR xs,RA,rc,rfl,h3,h4,h5,⟨fun x hx => ⟨h6 x hx,?_⟩,?_⟩,?_,h7⟩
  ·have q:=cns_mem (l:=okE (evs (takenP p).magic (takenP p).cap cl)) (y:=x.ev) (by rw [hE];exact List.mem_map_of_mem hx)
   have q2 : x.p.length ≤ cnsE (okE (evs (takenP p).magic (takenP p).cap cl)):=q
   omega
  ·have q:=cns_len (okE (evs (takenP p).magic (takenP p).cap cl))
   rw [hE,List.length_map,← hE] at q
   omega
  ·rw [hE,List.map_map]
   rfl
 have HOL : Hid ((outE cl (evs (takenP p).magic (takenP p).cap cl)).1.length ≤ 1000000000):=Lib.hid (by have:=outE_le cl (evs (takenP p).magic (takenP p).cap cl);omega)
 have HR0 : Hid (feedP (takenP p) cl = feedO (takenP p) (outE cl (evs (takenP p).magic (takenP p).cap cl)) (feedL ((okE (evs (takenP p).magic (takenP p).cap cl)).map Prod.fst))):=Lib.hid rfl
 have GT : Hid (∀ y (x : EvR),x.at_ y → x.p.length ≤ 1000000000 → Calls Tryd.prog 39 #[.string (str x.c),.slice x.P x.p.length x.pc] y fun e w' => ∃ (m : MsgR) (gs : Array Value),e = .returned (.tuple #[.agg gs,iv (wgetN x.c x.p).2])∧MsA m gs∧gs.toList = m.cells∧m.pl = (wgetN x.c x.p).1∧(∀ W,MidF (fun _ => True) y w' W → m.at_ W)∧Keep y w'):=Lib.hid fun y x hx hl => (get_anyF x.c x.P x.p x.pc y hl hx.1 hx.2.1 hx.2.2).mono fun e w' ⟨m,h1,h2,h3,h4⟩ => ⟨m,_,h1,MsA.of (h3 w' ⟨trivial,fun _ _ _ => rfl⟩).o,rfl,h2,h3,h4⟩
 have KD : Hid (∀ s y,Calls Tryd.prog 38 #[.string (str s)] y fun e w' => e = .returned (.tuple #[iv (kindN s).1,.bool (kindN s).2])∧Keep y w'):=Lib.hid fun s y => kind_any s y
 have BNN : Hid (∀ (z : PeR) (ks : Array Value),PeA z ks → ∀ y,Calls Tryd.prog 27 #[.agg ks] y fun e w' => ∃ ds,e = .returned (.agg ds)∧PeA z.ban ds∧Keep y w'):=Lib.hid fun z ks h y => banned_any z ks h y
 have hcn:=hA.n;have hcz:=hA.z;have hci:=hA.i
 have HST:=Lib.hid hst3;have HBD:=Lib.hid hbd;have HQ0:=Lib.hid hq0
 have HZ:=Lib.hid hzA;have HY:=Lib.hid hyA
 clear hA hr hst3 hbd hM hb hc hrd hS hq0 hq1 hzA hyA hgA
 generalize feedP (takenP p) cl = R at *
 generalize outE cl (evs (takenP p).magic (takenP p).cap cl) = O at *
 generalize feedL ((okE (evs (takenP p).magic (takenP p).cap cl)).map Prod.fst) = F at *
 generalize takenP p = q at *
 obtain ⟨o1,o2⟩:=O
 simp only at FF HOL
 unfold FeedQ
 go_enter Tryd.func17,Tryd.ntmps17
 go_upto_region 1 with fail
 obtain ⟨w1,hw1⟩ : ∃ w1,w1 = (w.alloc (.cells cs 31)).alloc (.cells zs 31):=⟨_,rfl⟩
 have HB1 : Hid (Blk w1 w.heap.size 31 cs.toList):=by rw [hw1];exact Lib.hid ((Blk.new w _ cs.toList).alloc _)
 have HR1 : Hid (Blk w1 (w.heap.size + 1) 31 zs.toList):=by
  rw [hw1]
  have h2:=Blk.new (w.alloc (.cells cs 31)) 31 zs.toList
  rw [World.size_alloc] at h2
  exact Lib.hid h2
 have HK1 : Hid (Keep w w1):=by rw [hw1];exact Lib.hid (keep_trans (keep_new _ _) (keep_new _ _))
 rw [← hw1]
 clear hw1
 go_wp2_with ((with_reducible refine load_arr w.heap.size cs (Eq.trans ?_ rfl) HB1.out _ Tryd.underlying31 rfl hci ?_);rfl)
 refine (TK.out _).mono ?_
 clear TK
 rintro e w2 ⟨qs,rfl,hqA,k2⟩
 have hqn:=hqA.n;have hqz:=hqA.z;have hqi:=hqA.i
 have HQ:=Lib.hid hqA
 have HK2:=Lib.hid (keep_trans HK1.out k2)
 obtain ⟨w3,hst3,hb3,hg3⟩:=run_store_blk (P:=Tryd.prog) qs.toList (HB1.out.keep k2) (by rw [Array.length_toList,Array.length_toList,hcz,hqz]) HQ.out.o
 have HB3 : Hid (Blk w3 w.heap.size 31 q.cells):=by rw [← HQ.out.l];exact Lib.hid hb3
 have HR3 : Hid (Blk w3 (w.heap.size + 1) 31 zs.toList):=Lib.hid ((HR1.out.keep k2).grown hg3 (fun e => by injection e with e;omega))
 have HK3 : Hid (Keep w w3):=Lib.hid (HK2.out.grown hg3 HK2.out.size (fun q hq => by injection hq with hq;omega))
 clear k2 HB1 HK1 HK2 hqA hb3 hg3 HR1
 go_upto_region 2 with fail
 clear hst3
 have r0 : w3.cell? ⟨w.heap.size,0,none⟩ = some (iv q.stage):=(HB3.out.cell 0).trans rfl
 have d0 : (q.stage == 3) = false:=by rw [beq_eq_false_iff_ne];exact HST.out
 obtain ⟨bs,hbA,hbl⟩ : ∃ bs,BuA (bufL q.magic q.cap q.rA 0 q.rc 0) bs∧bs.toList = bufL q.magic q.cap q.rA 0 q.rc 0:=⟨_,BuA.of ..,rfl⟩
 have RB : Hid (w3.rangeAt w.heap.size 6 bs.toList):=Lib.hid (range_of HB3.out 6 bs.toList (by rw [hbl];unfold PeR.cells;rw [HQ0.out,HBD.out];rfl))
 have hbi:=hbA.i;have hbn:=hbA.n
 have FF1:=Lib.hid (FF.out w3 HK3.out bs hbA)
 clear hbA hbl FF
 go_upto_region 5 with (first | ((with_reducible refine load_partg w.heap.size 6 bs (Eq.trans ?_ rfl) RB.out _ Tryd.underlying29 rfl hbi rfl ?_);rfl) | (go_at_call 37;refine FF1.out.mono ?_;rintro e w4 ⟨ds,L,lc,X,RA,rc,rfl,hdA,hrest,hrow,hX,hFX,k4⟩;have hdz:=hdA.z;have hdn:=hdA.n;have hdi:=hdA.i;have HD:=Lib.hid hdA;have HRS:=Lib.hid hrest;have HRW:=Lib.hid hrow;have HX:=Lib.hid hX;have HFX:=Lib.hid hFX;have HB4:=Lib.hid (HB3.out.keep k4);have HR4:=Lib.hid (HR3.out.keep k4);have HK4:=Lib.hid (keep_trans HK3.out k4);have hst:=run_storeCells_new (P:=Tryd.prog) w4 29 zb ds hdi (hyz.trans hdz.symm) (by have:=all_oneCell_toArray HD.out.o;simpa using this);clear hdA hrest hrow hX hFX k4))
 clear r0 d0 RB FF1 HB3 HR3 HK3 hbi hbn
 obtain ⟨w5,hw5⟩ : ∃ y,y = w4.alloc (.cells ds 29):=⟨_,rfl⟩
 have HD5 : Hid (Blk w5 w4.heap.size 29 ds.toList):=by rw [hw5];exact Lib.hid (Blk.new w4 _ ds.toList)
 have HB5 : Hid (Blk w5 w.heap.size 31 q.cells):=by rw [hw5];exact Lib.hid (HB4.out.alloc _)
 have HR5 : Hid (Blk w5 (w.heap.size + 1) 31 zs.toList):=by rw [hw5];exact Lib.hid (HR4.out.alloc _)
 have HK45 : Hid (Keep w4 w5):=by rw [hw5];exact Lib.hid (keep_new _ _)
 rw [← hw5]
 have hle4:=HR4.out.lt
 clear hst hw5 HB4 HR4
 obtain ⟨z,hz⟩ : ∃ z : PeR,z = { q with rA:=RA,rs:=o1,rc:=rc,bad:=o2 }:=⟨_,rfl⟩
 have HZE:=Lib.hid hz
 have hsp : splice q.cells 6 ds.toList = z.cells:=by rw [HD.out.l,hz];rfl
 obtain ⟨w6,hst6,hb6,hg6⟩:=run_store_partP (P:=Tryd.prog) 6 ds.toList HB5.out (by rw [Array.length_toList,hdz];exact Nat.le_refl _) HD.out.o
 have HR6 : Hid (Blk w6 (w.heap.size + 1) 31 zs.toList):=Lib.hid (HR5.out.grown hg6 (fun e => by injection e with e;omega))
 have HD6 : Hid (Blk w6 w4.heap.size 29 ds.toList):=Lib.hid (HD5.out.grown hg6 (fun e => by injection e with e;omega))
 have HK6 : Hid (Keep w w6):=Lib.hid ((keep_trans HK4.out HK45.out).grown hg6 (keep_trans HK4.out HK45.out).size (fun q hq => by injection hq with hq;omega))
 have HRE6 : Hid (Rd w6 RA (o1.map u8v)):=Lib.hid (rd8_far (HRS.out.2.2.keep HK45.out) HB5.out hg6)
 have HRW6 : Hid (Rd w6 L (X.flatMap EvR.mcells)):=Lib.hid (rdm_far (HRW.out.keep HK45.out) HB5.out hg6)
 have HX6 : Hid (∀ x ∈ X,x.at_ w6∧x.p.length ≤ 1000000000):=Lib.hid fun x hx => ⟨⟨(HX.out.1 x hx).1.1,(HX.out.1 x hx).1.2.1,rd8_far ((HX.out.1 x hx).1.2.2.keep HK45.out) HB5.out hg6⟩,(HX.out.1 x hx).2⟩
 have HZAT : Hid (o1.length ≤ rc∧rc ≤ maxLen):=Lib.hid ⟨HRS.out.1,HRS.out.2.1⟩
 obtain ⟨za,hza,hzl⟩ : ∃ za,PeA z za∧za.toList = z.cells:=⟨_,PeA.of z,rfl⟩
 have HZA:=Lib.hid hza
 have hzan:=hza.n;have hzaz:=hza.z;have hzai:=hza.i
 have HB6 : Hid (Blk w6 w.heap.size 31 za.toList):=by rw [hzl,← hsp];exact Lib.hid hb6
 obtain ⟨n,hn⟩ : ∃ n,X.length = n:=⟨_,rfl⟩
 have hnb : n ≤ 1000000000:=by rw [← hn];exact HX.out.2
 have HN:=Lib.hid hn
 have HF0 : Hid (FI X F [] 0):=Lib.hid (FI.start HFX.out)
 clear hsp hb6 HB5 HR5 HRS HRW HX hza hzl HK4 HK45 hg6 HFX
 go_upto_region 6 with ((with_reducible refine load_arr w4.heap.size ds (Eq.trans ?_ rfl) HD5.out _ Tryd.underlying29 rfl hdi ?_);rfl)
 clear hst6 HD5
 try simp only [hn]
 clear hn
 have Own0 : Hid (w6.ownsRow w6.heap.size 50 114 (.slice none 0 0) 0 []):=Lib.hid (World.ownsRow_nil _ _ _ _)
 have A0 : Hid (AtM w6.heap.size w6 (.slice none 0 0) []):=Lib.hid (fun W _ q hq => by cases hq)
 have K0 : Hid (Keep w6 w6):=Lib.hid (Below.refl _ _)
 go_wp2_with fail
 go_loopw [9,33] (fun lv i wr => ∃ (k : Nat) (ms : List MsgR),k ≤ n∧i = .int .i64 k∧Hid (ms.length ≤ k)∧Hid (wr.ownsRow w6.heap.size 50 114 lv ms.length (ms.flatMap MsgR.cells))∧Hid (AtM w6.heap.size wr lv ms)∧Hid (Keep w6 wr)∧Hid (FI X F ms k)) (fun _ i _ => n - (intOf i).toNat)
 case atStart => exact ⟨0,[],Nat.zero_le _,rfl,Lib.hid (Nat.zero_le _),Own0,A0,K0,HF0⟩
 case round =>
  obtain ⟨k,ms,hk,rfl,HML,Own1,AT1,KR,FI1⟩:=hrel
  clear Own0 K0 A0 HF0
  by_cases hlt : k < n
  ·have d1 : (k : Int) < n:=by omega
   have hkl : k < X.length:=by rw [HN.out];exact hlt
   obtain ⟨b,off,hL,hrg⟩:=mcells_at (HRW6.out.keep KR.out) hkl
   have hx:=HX6.out X[k] (List.getElem_mem hkl)
   have GX : Hid (∀ y,Keep wr y → Calls Tryd.prog 39 #[.string (str X[k].c),.slice X[k].P X[k].p.length X[k].pc] y fun e w' => ∃ (m : MsgR) (gs : Array Value),e = .returned (.tuple #[.agg gs,iv (wgetN X[k].c X[k].p).2])∧MsA m gs∧gs.toList = m.cells∧m.pl = (wgetN X[k].c X[k].p).1∧(∀ W,MidF (fun _ => True) y w' W → m.at_ W)∧Keep y w'):=Lib.hid fun y hy => GT.out y X[k] ⟨hx.1.1,hx.1.2.1,hx.1.2.2.keep (keep_trans KR.out hy)⟩ hx.2
   have KX:=Lib.hid (KD.out X[k].c)
   have S0:=Lib.hid (FI1.out.skip hkl)
   have S1:=Lib.hid (FI1.out.next hkl)
   have S2:=Lib.hid (FI1.out.stop hkl)
   subst hL
   obtain ⟨xv,hxv⟩ : ∃ xv : Array Value,xv = #[.string (str X[k].c),.slice X[k].P X[k].p.length X[k].pc]:=⟨_,rfl⟩
   have RX : Hid (wr.rangeAt b (off + k * 2) xv.toList):=Lib.hid (by rw [hxv];exact hrg)
   have HXL : Hid (xv.toList = [.string (str X[k].c),.slice X[k].P X[k].p.length X[k].pc]):=Lib.hid (by rw [hxv])
   have hxz : xv.size = 2:=by rw [hxv];rfl
   have hxn : ¬ xv = #[]:=by rw [hxv];intro e;cases e
   have hxi : (Tryd.prog.info? 71).map (·.size) = some xv.size:=by rw [hxz];exact fmsg_info
   have hst:=run_storeCells_new (P:=Tryd.prog) wr 71 zm xv hxi (hmz.trans hxz.symm) (by rw [hxv];have q0 : (Value.string (str X[k].c)).oneCell' = true:=rfl;have q1 : (Value.slice X[k].P X[k].p.length X[k].pc).oneCell' = true:=rfl;simp [q0,q1])
   clear hxv hrg hx FI1 KD GT
   generalize X[k] = x at *
   generalize wgetN x.c x.p = G at *
   generalize kindN x.c = kn at *
   generalize x.p.length = xl at *
   obtain ⟨kk,ok⟩:=kn
   obtain ⟨gm,er⟩:=G
   simp only at GX KX S0 S1 S2
   go_upto_region 10 with ((with_reducible refine load_partg b (off + k * 2) xv (Eq.trans ?_ rfl) RX.out _ Tryd.underlying71 rfl hxi rfl ?_);rfl)
   obtain ⟨wa,hwa⟩ : ∃ y,y = wr.alloc (.cells xv 71):=⟨_,rfl⟩
   have HXA : Hid (Blk wa wr.heap.size 71 [.string (str x.c),.slice x.P xl x.pc]):=by rw [hwa,← HXL.out];exact Lib.hid (Blk.new wr _ xv.toList)
   have HKa : Hid (Keep wr wa):=by rw [hwa];exact Lib.hid (keep_new _ _)
   rw [← hwa]
   clear hst hwa RX HXL
   have c0 : wa.cell? ⟨wr.heap.size,0,none⟩ = some (.string (str x.c)):=(HXA.out.cell 0).trans rfl
   go_upto_region 11 with (go_at_call 38;refine (KX.out _).mono ?_;rintro e wb ⟨rfl,kb⟩;have HXB:=Lib.hid (HXA.out.keep kb);have HKb:=Lib.hid (keep_trans HKa.out kb);clear kb)
   clear c0 KX HXA HKa
   cases ok with
   | false =>
     have FI2:=Lib.hid (S0.out rfl)
     have Own2:=Lib.hid (own_keep Own1.out HKb.out)
     have AT2:=Lib.hid (AT1.out.keep HKb.out)
     have KR2:=Lib.hid (keep_trans KR.out HKb.out)
     have HML2 : Hid (ms.length ≤ k + 1):=Lib.hid (Nat.le_trans HML.out (Nat.le_succ _))
     clear S0 S1 S2 GX HXB HKb Own1 AT1 KR HML
     go_wp2
     go_roundw
     case rel => exact ⟨k + 1,ms,by omega,by go_num,HML2,Own2,AT2,KR2,FI2⟩
     case measure => simp [intOf];omega
   | true =>
     have c0 : wb.cell? ⟨wr.heap.size,0,none⟩ = some (.string (str x.c)):=(HXB.out.cell 0).trans rfl
     have c1 : wb.cell? ⟨wr.heap.size,1,none⟩ = some (.slice x.P xl x.pc):=(HXB.out.cell 1).trans rfl
     go_upto_region 13 with (go_at_call 39;refine (GX.out wb HKb.out).mono ?_;rintro e wc ⟨m,gs,rfl,hmA,hml,hmp,hma,kc⟩;have hgsz:=hmA.z;have hgsn:=hmA.n;have hgsi:=hmA.i;have HMA:=Lib.hid hmA;have HMLI:=Lib.hid hml;have HMP:=Lib.hid hmp;have HMAT:=Lib.hid hma;have HKC:=Lib.hid kc;have hst:=run_storeCells_new (P:=Tryd.prog) wc 50 zg gs hgsi (hgz.trans hgsz.symm) (by have:=all_oneCell_toArray HMA.out.o;simpa using this);clear hmA hml hmp hma kc)
     clear c0 c1 GX HXB
     obtain ⟨wd,hwd⟩ : ∃ y,y = wc.alloc (.cells gs 50):=⟨_,rfl⟩
     have HGD : Hid (Blk wd wc.heap.size 50 gs.toList):=by rw [hwd];exact Lib.hid (Blk.new wc _ gs.toList)
     have HKcd : Hid (Keep wc wd):=by rw [hwd];exact Lib.hid (keep_new _ _)
     rw [← hwd]
     clear hst hwd
     have HKd : Hid (Keep wr wd):=Lib.hid (keep_trans (keep_trans HKb.out HKC.out) HKcd.out)
     have HMD : Hid (∀ W,MidF (fun _ => True) wr wd W → m.at_ W):=Lib.hid fun W hW => HMAT.out W ⟨trivial,fun j h1 h2 => (hW.2 j (Nat.le_trans HKb.out.size h1) (Nat.lt_of_lt_of_le h2 HKcd.out.size)).trans (HKcd.out.block j h2)⟩
     by_cases h0 : er = 0
     ·subst h0
      have FI2:=Lib.hid (S1.out (by simp) (by simp) m HMP.out)
      clear S0 S1 S2 HKb HKC HKcd HMAT HMP
      have hmlk:=HML.out
      have OwnD:=Lib.hid (own_keep Own1.out HKd.out)
      have hwsz:=KR.out.size;have hwsd:=HKd.out.size
      go_wp2_with (first | ((with_reducible refine load_arr wc.heap.size gs (Eq.trans ?_ rfl) HGD.out _ Tryd.underlying50 rfl hgsi ?_);rfl) | ((with_reducible refine list_build1h msgsT gs hgsz (by omega) (Eq.trans ?_ rfl) ?_);rfl) | (at_builtin;refine wpList_app msgsT (by rfl) _ _ (by rfl) w6.heap.size _ _ _ (by rfl) (OwnD.out.alloc _) _ 1 1 gs.toList (by rfl) (by rw [Array.length_toList,hgsz]) (Rd.new _ _ _) HMA.out.o (by omega) (by unfold maxLen;omega) (by simp;omega) ?_;intro v6 w9 own6 hg9 hat6;have Own6:=Lib.hid own6;have HG9:=Lib.hid hg9;have HAT6:=Lib.hid hat6;clear own6 hg9 hat6))
      have KE : Keep wr (wd.alloc (.cells gs 50)):=keep_trans HKd.out (keep_new _ _)
      have AT6 : Hid (AtM w6.heap.size w9 v6 (ms ++ [m])):=Lib.hid (AT1.out.more Own1.out KR.out.size KE HG9.out HAT6.out (fun W hW => HMD.out W ⟨trivial,fun j h1 h2 => (hW.2 j h1 (Nat.lt_of_lt_of_le h2 (keep_new wd _).size)).trans ((keep_new wd _).block j h2)⟩))
      have KR6 : Hid (Keep w6 w9):=Lib.hid (by
       have k5 : Keep w6 (wd.alloc (.cells gs 50)):=keep_trans KR.out KE
       exact keep_grown k5 k5.size HG9.out (OwnD.out.alloc _))
      have Own9 : Hid (w9.ownsRow w6.heap.size 50 114 v6 (ms ++ [m]).length ((ms ++ [m]).flatMap MsgR.cells)):=Lib.hid (own_eq Own6.out (by simp) (by rw [HMLI.out];simp))
      have HML9 : Hid ((ms ++ [m]).length ≤ k + 1):=Lib.hid (by simp;omega)
      clear KE
      go_roundw
      case rel => exact ⟨k + 1,ms ++ [m],by omega,by go_num,HML9,Own9,AT6,KR6,FI2⟩
      case measure => simp [intOf];omega
     ·have d2 : (er != 0) = true:=by rw [bne_iff_ne];exact h0
      have hS:=S2.out (by simp) h0
      have HS2:=Lib.hid hS
      have HKW:=Lib.hid (keep_trans KR.out HKd.out)
      have HBd:=Lib.hid (HB6.out.keep HKW.out)
      have HRd:=Lib.hid (HR6.out.keep HKW.out)
      have ATd:=Lib.hid (AT1.out.keep HKd.out)
      have Ownd:=Lib.hid (own_keep Own1.out HKd.out)
      have HER:=Lib.hid h0
      clear hS S0 S1 S2 h0 HKb HKC HKcd HMAT HMP HMD HMA HMLI AT1 Own1
      obtain ⟨A2,c2,rfl,hf1,hf2,hf3⟩:=own_form Ownd.out
      have HFC:=Lib.hid (show ms.length ≤ c2∧c2 ≤ maxLen from ⟨hf1,hf2⟩)
      clear hf1 hf2 hf3
      go_wp2_with ((with_reducible refine load_arr w.heap.size za (Eq.trans ?_ rfl) HBd.out _ Tryd.underlying31 rfl hzai ?_);rfl)
      refine (BNN.out z za HZA.out _).mono ?_
      rintro e w7 ⟨ks,rfl,hkA,k7⟩
      have hkn:=hkA.n;have hkz:=hkA.z;have hki:=hkA.i
      have HKS:=Lib.hid hkA
      have HK7:=Lib.hid (keep_trans HKW.out k7)
      obtain ⟨w8,hst8,hb8,hg8⟩:=run_store_blk (P:=Tryd.prog) ks.toList (HRd.out.keep k7) (by rw [Array.length_toList,Array.length_toList,hzz,hkz]) hkA.o
      have Hb8:=Lib.hid hb8;have Hg8:=Lib.hid hg8
      have Ow8:=Lib.hid (own_grownq (own_keep Ownd.out k7) hg8 HR6.out.lt)
      have AT8 : Hid (∀ m ∈ ms,m.at_ w8):=Lib.hid (ATd.out w8 fun j h1 h2 h3 => (hg8.block j (Nat.lt_of_lt_of_le h2 k7.size) (fun e => by have:=HR6.out.lt;injection e with e;omega)).trans (k7.block j h2))
      clear hb8 hg8 hkA k7
      go_wp2
      exact bodyPost_ret (v:=.tuple #[.agg ks,.slice A2 ms.length c2,iv er]) (results_cell_tmp_tmp Tryd.results17 _ _ (w.heap.size + 1) _ _ _ _ rfl Hb8.out Tryd.underlying31 rfl (by rw [List.size_toArray,Array.length_toList];exact hki)) rfl (by
       rw [HR0.out]
       unfold feedO
       rw [if_neg (by rw [HS2.out.2];exact HER.out)]
       refine ⟨ks,z.ban,A2,c2,ms,by rw [HS2.out.2],HKS.out,⟨Rd.nil _ _,⟨Nat.le_refl _,Nat.zero_le _⟩,Nat.zero_le _⟩,by rw [HZE.out];rfl,HS2.out.1,HFC.out,own_rd Ow8.out,AT8.out,?_⟩
       have h6:=keep_trans HK6.out HK7.out
       exact h6.grown Hg8.out h6.size (fun q hq => by injection hq with hq;omega))
  ·obtain rfl : k = n:=by omega
   have d1 : ¬ (k : Int) < k:=by omega
   have hFI:=FI1.out
   rw [← HN.out] at hFI
   have HFE:=Lib.hid hFI.fin
   obtain ⟨A2,c2,rfl,hf1,hf2,hf3⟩:=own_form Own1.out
   have HFC:=Lib.hid (show ms.length ≤ c2∧c2 ≤ maxLen from ⟨hf1,hf2⟩)
   clear hFI FI1 hf1 hf2 hf3 GT KD HRW6 HX6
   have HBr:=Lib.hid (HB6.out.keep KR.out)
   have HRr:=Lib.hid (HR6.out.keep KR.out)
   have HDr:=Lib.hid (HD6.out.keep KR.out)
   have rb : wr.cell? ⟨w4.heap.size,3,none⟩ = some (iv o2):=(HDr.out.cell 3).trans (by rw [HD.out.l];rfl)
   have hlt6:=HR6.out.lt
   have hkw:=KR.out.size
   by_cases ho : o2 = 0
   ·have HOE:=Lib.hid ho
    have d2 : (o2 != 0) = false:=by rw [ho];rfl
    clear ho
    obtain ⟨w8,hst8,hb8,hg8⟩:=run_store_blk (P:=Tryd.prog) za.toList HRr.out (by rw [Array.length_toList,Array.length_toList,hzz,hzaz]) HZA.out.o
    have Hb8:=Lib.hid hb8;have Hg8:=Lib.hid hg8
    have Ow8:=Lib.hid (own_grownq Own1.out hg8 hlt6)
    have AT8 : Hid (∀ m ∈ ms,m.at_ w8):=Lib.hid (AT1.out w8 fun j h1 h2 h3 => hg8.block j h2 (fun e => by injection e with e;omega))
    have HRE8 : Hid (Rd w8 RA (o1.map u8v)):=Lib.hid (rd8_far (HRE6.out.keep KR.out) (show Blk wr (w.heap.size + 1) 31 peZ.cells from by have:=HRr.out;rwa [HZ.out.l] at this) hg8)
    clear hb8 hg8
    go_wp2_with ((with_reducible refine load_arr w.heap.size za (Eq.trans ?_ rfl) HBr.out _ Tryd.underlying31 rfl hzai ?_);rfl)
    exact bodyPost_ret (v:=.tuple #[.agg za,.slice A2 ms.length c2,iv 0]) (results_cell_tmp_tmp Tryd.results17 _ _ (w.heap.size + 1) _ _ _ _ rfl Hb8.out Tryd.underlying31 rfl (by rw [List.size_toArray,Array.length_toList];exact hzai)) rfl (by
     rw [HR0.out]
     unfold feedO
     rw [if_pos HFE.out.2,if_pos HOE.out]
     refine ⟨za,z,A2,c2,ms,rfl,HZA.out,⟨by rw [HZE.out];exact HRE8.out,by rw [HZE.out];exact HZAT.out,by rw [HZE.out];exact HOL.out⟩,by rw [HZE.out];rfl,HFE.out.1,HFC.out,own_rd Ow8.out,AT8.out,?_⟩
     have h6:=keep_trans HK6.out KR.out
     exact h6.grown Hg8.out h6.size (fun q hq => by injection hq with hq;omega))
   ·have d2 : (o2 != 0) = true:=by rw [bne_iff_ne];exact ho
    have HOE:=Lib.hid ho
    clear ho
    go_upto_region 18 with fail
    letI iM : G.Mk:=⟨some (w.heap.size + 1)⟩
    refine G.wp_region_tree (.take [0,2,3,4] (.force [1,5] (.take [6,7] .done))) [] (by kernel_rfl) (by kernel_rfl) (fun wa ka => ?_)
    have hne2 : G.Mk.m ≠ some w.heap.size:=fun q => by have e : w.heap.size + 1 = w.heap.size:=Option.some.inj q;omega
    have hne7 : G.Mk.m ≠ some w4.heap.size:=fun q => by have e : w.heap.size + 1 = w4.heap.size:=Option.some.inj q;omega
    have BA:=Lib.hid (HBr.out.keep ka)
    have RA':=Lib.hid (HRr.out.keep ka)
    have B7:=G.aftG_cell (keep_cell ka rb) hne7
    have KA:=Lib.hid ka
    clear ka
    refine G.mt_take wa (G.Gr.refl _) ?_
    simp only [pick_cons,pick_nil,nth_zero,nth_succ]
    repeat (first | ((with_reducible refine G.wpQuiet_load_arrG w.heap.size za (Eq.trans ?_ rfl) BA.out hne2 _ Tryd.underlying31 rfl hzai ?_);rfl;simp only [Act.put,Array.set!_eq_setIfInBounds,List.setIfInBounds_toArray,List.set_cons_succ,List.set_cons_zero]) | go_big_quiet_step (fail))
    clear B7 hne2 hne7 rb
    refine wpQuiet_nil (G.mt_force ?_)
    simp only [pick_cons,pick_nil,nth_zero,nth_succ]
    refine G.fc_step rfl (fun K hK => ?_)
    go_simp
    refine (BNN.out z za HZA.out _).mono ?_
    rintro e w7 ⟨ks,rfl,hkA,k7⟩
    have hkn:=hkA.n;have hkz:=hkA.z;have hki:=hkA.i
    have HKS:=Lib.hid hkA
    have K7:=Lib.hid (keep_trans KA.out k7)
    refine hK _ _ (G.Gr.of_keep k7) ?_
    clear hK K
    obtain ⟨w8,hst8,hb8,hg8⟩:=run_store_blk (P:=Tryd.prog) ks.toList (RA'.out.keep k7) (by rw [Array.length_toList,Array.length_toList,hzz,hkz]) HKS.out.o
    have Hb8:=Lib.hid hb8;have Hg8:=Lib.hid hg8
    have Ow8:=Lib.hid (own_grownq (own_keep Own1.out K7.out) hg8 hlt6)
    have AT8 : Hid (∀ m ∈ ms,m.at_ w8):=Lib.hid (AT1.out w8 fun j h1 h2 h3 => (hg8.block j (Nat.lt_of_lt_of_le h2 K7.out.size) (fun e => by injection e with e;omega)).trans (K7.out.block j h2))
    clear k7 hkA hb8
    refine G.fc_step rfl (fun K hK => ?_)
    go_simp
    refine hK _ _ (show G.Gr w7 w8 from hg8) ?_
    clear hK K hst8 hg8
    refine G.fc_nil (G.mt_take _ (G.Gr.refl _) ?_)
    simp only [pick_cons,pick_nil,nth_zero,nth_succ]
    repeat (go_big_quiet_step (fail))
    refine wpQuiet_nil (G.mt_end ?_)
    clear iM
    go_wp2
    exact bodyPost_ret (v:=.tuple #[.agg ks,.slice A2 ms.length c2,iv o2]) (results_cell_tmp_tmp Tryd.results17 _ _ (w.heap.size + 1) _ _ _ _ rfl Hb8.out Tryd.underlying31 rfl (by rw [List.size_toArray,Array.length_toList];exact hki)) rfl (by
     rw [HR0.out]
     unfold feedO
     rw [if_pos HFE.out.2,if_neg HOE.out]
     refine ⟨ks,z.ban,A2,c2,ms,rfl,HKS.out,⟨Rd.nil _ _,⟨Nat.le_refl _,Nat.zero_le _⟩,Nat.zero_le _⟩,by rw [HZE.out];rfl,HFE.out.1,HFC.out,own_rd Ow8.out,AT8.out,?_⟩
     have h6:=keep_trans HK6.out (keep_trans KR.out K7.out)
     exact h6.grown Hg8.out h6.size (fun q hq => by injection hq with hq;omega))
end Go.Proofs.YtffpanlpbdnafaaDoor
/- Few: has a transaction, a message, few parts? (printed by gen_pf.py) -/
set_option linter.unusedSimpArgs false
set_option linter.unusedVariables false
namespace Go.Proofs.YtffpanlpbdnafaaDoor
open Go.RowKit
attribute [local go_sem ↓] Go.wp_at_zero Go.wp_at_succ
def fewT (t : TxR) : Bool:=decide ((∀ x ∈ t.ins,x.sc.length ≤ 300)∧(∀ x ∈ t.outs,x.sc.length ≤ 300)∧t.ins.length ≤ 20∧t.outs.length ≤ 20)
def fewM (m : MsgR) : Bool:=decide (m.hs.length ≤ 40∧m.ls.length ≤ 150∧m.is.length ≤ 100∧m.shs.length ≤ 100∧m.fs.length ≤ 1100) && fewT m.t
set_option maxRecDepth 100000 in
set_option maxHeartbeats 4000000 in
theorem few08_any (t : TxR) (w : World) (h : t.at w) :
  Calls Tryd.prog 30 #[.agg #[u32v t.ver,.slice t.iA t.ins.length t.ic,.slice t.oA t.outs.length t.oc,u32v t.lock]] w fun e w' => e = .returned (.bool (fewT t))∧Keep w w':=by
 have HI : Hid (∀ k (h : k < t.ins.length),∃ (b off : Nat) (x : InR),t.iA = some ⟨b,off,none⟩∧w.cell? ⟨b,off + k * 35 + 33,none⟩ = some (.slice x.A x.sc.length x.cap)∧t.ins[k]? = some x):=Lib.hid fun k hk => by
  have hp:=(h.is _ (List.getElem_mem hk)).p
  obtain ⟨b,off,h1,-,h2⟩:=in_at h.i (fun x hx => (h.is x hx).p) hk
  exact ⟨b,off,_,h1,h2 33 _ (by unfold InR.cells;rw [List.getElem?_append_right (by simp [hp])];simp [hp]),List.getElem?_eq_getElem hk⟩
 have HO : Hid (∀ k (h : k < t.outs.length),∃ (b off : Nat) (x : OutR),t.oA = some ⟨b,off,none⟩∧w.cell? ⟨b,off + k * 2 + 1,none⟩ = some (.slice x.A x.sc.length x.cap)∧t.outs[k]? = some x):=Lib.hid fun k hk => by
  obtain ⟨b,off,h1,-,h2,h3⟩:=out_at h.o hk
  exact ⟨b,off,_,h1,h3,List.getElem?_eq_getElem hk⟩
 have hi9:=h.ic;have ho9:=h.oc
 unfold maxLen at hi9 ho9
 obtain ⟨R,hR⟩ : ∃ R,fewT t = R:=⟨_,rfl⟩
 have HD : Hid (R = true ↔ ((∀ x ∈ t.ins,x.sc.length ≤ 300)∧(∀ x ∈ t.outs,x.sc.length ≤ 300)∧t.ins.length ≤ 20∧t.outs.length ≤ 20)):=Lib.hid (by rw [← hR];unfold fewT;rw [decide_eq_true_eq])
 rw [hR]
 obtain ⟨ver,iA,ins,ic,oA,outs,oc,lock⟩:=t
 simp only at *
 clear h hR
 obtain ⟨n,hn⟩ : ∃ n,ins.length = n:=⟨_,rfl⟩
 obtain ⟨m,hm⟩ : ∃ m,outs.length = m:=⟨_,rfl⟩
 rw [hn] at HI hi9 HD ⊢
 rw [hm] at HO ho9 HD ⊢
 have HNN:=Lib.hid hn;have HMM:=Lib.hid hm
 clear hn hm
 have bad : Hid (∀ P : Prop,¬ P → (R = true → P) → R = false):=Lib.hid fun P h1 h2 => by
  cases R with
  | false => rfl
  | true => exact absurd (h2 rfl) h1
 go_enter Tryd.func30,Tryd.ntmps30
 go_upto_region 1 with fail
 obtain ⟨w1,hw1⟩ : ∃ w1,w1 = w.alloc (.cells #[u32v ver,.slice iA n ic,.slice oA m oc,u32v lock] 61):=⟨_,rfl⟩
 have HT1 : Hid (Blk w1 w.heap.size 61 [u32v ver,.slice iA n ic,.slice oA m oc,u32v lock]):=by rw [hw1];exact Lib.hid (Blk.new w 61 [u32v ver,.slice iA n ic,.slice oA m oc,u32v lock])
 have HK1 : Hid (Keep w w1):=by rw [hw1];exact Lib.hid (keep_new _ _)
 rw [← hw1]
 clear hw1
 have t1:=HT1.out.cell 1;have t2:=HT1.out.cell 2
 simp only [List.getElem?_cons_succ,List.getElem?_cons_zero] at t1 t2
 generalize w.heap.size = gt at *
 have HI1 : Hid (∀ k (h : k < n),∃ (b off : Nat) (x : InR),iA = some ⟨b,off,none⟩∧w1.cell? ⟨b,off + k * 35 + 33,none⟩ = some (.slice x.A x.sc.length x.cap)∧ins[k]? = some x):=Lib.hid fun k h => by
  obtain ⟨b,off,x,h1,h2,h3⟩:=HI.out k h
  exact ⟨b,off,x,h1,keep_cell HK1.out h2,h3⟩
 have HO1 : Hid (∀ k (h : k < m),∃ (b off : Nat) (x : OutR),oA = some ⟨b,off,none⟩∧w1.cell? ⟨b,off + k * 2 + 1,none⟩ = some (.slice x.A x.sc.length x.cap)∧outs[k]? = some x):=Lib.hid fun k h => by
  obtain ⟨b,off,x,h1,h2,h3⟩:=HO.out k h
  exact ⟨b,off,x,h1,keep_cell HK1.out h2,h3⟩
 clear HI HO HT1
 go_wp2_with fail
 go_loopw [3] (fun x wr => ∃ k : Nat,k ≤ n∧x = .int .i64 k∧Hid (∀ y ∈ ins.take k,y.sc.length ≤ 300)∧Hid (Keep w wr)∧wr.cell? ⟨gt,1,none⟩ = some (.slice iA n ic)∧wr.cell? ⟨gt,2,none⟩ = some (.slice oA m oc)∧Hid (∀ k (h : k < n),∃ (b off : Nat) (x : InR),iA = some ⟨b,off,none⟩∧wr.cell? ⟨b,off + k * 35 + 33,none⟩ = some (.slice x.A x.sc.length x.cap)∧ins[k]? = some x)∧Hid (∀ k (h : k < m),∃ (b off : Nat) (x : OutR),oA = some ⟨b,off,none⟩∧wr.cell? ⟨b,off + k * 2 + 1,none⟩ = some (.slice x.A x.sc.length x.cap)∧outs[k]? = some x)) (fun x _ => n - (intOf x).toNat)
 case atStart => exact ⟨0,Nat.zero_le _,rfl,Lib.hid (by simp),HK1,t1,t2,HI1,HO1⟩
 case round =>
  clear t1 t2 HI1 HO1 HK1
  obtain ⟨k,hk,rfl,HS,HK1,t1,t2,HI1,HO1⟩:=hrel
  by_cases hlt : k < n
  ·obtain ⟨b,off,x,rfl,c33,hget⟩:=HI1.out k hlt
   have d4 : (k : Int) < n:=by omega
   have HGE:=Lib.hid hget
   clear hget
   by_cases hs : 300 < x.sc.length
   ·have hv:=bad.out (∀ y ∈ ins,y.sc.length ≤ 300) (fun q => by have:=q x (List.mem_of_getElem? HGE.out);omega) fun q => (HD.out.1 q).1
    subst hv
    have d5 : (300 : Int) < x.sc.length:=by omega
    clear HD bad
    go_wp2
    exact bodyPost_ret (v:=.bool false) (by simp [results,Tryd.results30]) rfl ⟨rfl,HK1.out⟩
   ·have d5 : ¬ (300 : Int) < x.sc.length:=by omega
    have HS2 : Hid (∀ y ∈ ins.take (k + 1),y.sc.length ≤ 300):=Lib.hid fun y hy => by
     rw [List.take_add_one,HGE.out] at hy
     rcases List.mem_append.1 hy with q | q
     ·exact HS.out y q
     ·simp at q;subst q;omega
    clear HS bad
    go_wp2
    go_roundw
    case rel => exact ⟨k + 1,by omega,by go_num,HS2,HK1,t1,t2,HI1,HO1⟩
    case measure => simp [intOf];omega
  ·obtain rfl : k = n:=by omega
   have d4 : ¬ (k : Int) < k:=by omega
   have HSA : Hid (∀ y ∈ ins,y.sc.length ≤ 300):=Lib.hid (by have:=HS.out;rwa [List.take_of_length_le (by rw [HNN.out];omega)] at this)
   clear HS HI1
   go_wp2_with fail
   clear d4
   go_loopw [4] (fun x wr => ∃ j : Nat,j ≤ m∧x = .int .i64 j∧Hid (∀ y ∈ outs.take j,y.sc.length ≤ 300)∧Hid (Keep w wr)∧wr.cell? ⟨gt,1,none⟩ = some (.slice iA k ic)∧wr.cell? ⟨gt,2,none⟩ = some (.slice oA m oc) ∧Hid (∀ k (h : k < m),∃ (b off : Nat) (x : OutR),oA = some ⟨b,off,none⟩∧wr.cell? ⟨b,off + k * 2 + 1,none⟩ = some (.slice x.A x.sc.length x.cap)∧outs[k]? = some x)) (fun x _ => m - (intOf x).toNat)
   case atStart => exact ⟨0,Nat.zero_le _,rfl,Lib.hid (by simp),HK1,t1,t2,HO1⟩
   case round =>
    clear t1 t2
    obtain ⟨j,hj,rfl,HS,HKr,t1,t2,HO2⟩:=hrel
    clear HO1
    by_cases hlt2 : j < m
    ·obtain ⟨b,off,x,rfl,c1,hget⟩:=HO2.out j hlt2
     have d4 : (j : Int) < m:=by omega
     have HGE:=Lib.hid hget
     clear hget
     by_cases hs : 300 < x.sc.length
     ·have hv:=bad.out (∀ y ∈ outs,y.sc.length ≤ 300) (fun q => by have:=q x (List.mem_of_getElem? HGE.out);omega) fun q => (HD.out.1 q).2.1
      subst hv
      have d5 : (300 : Int) < x.sc.length:=by omega
      clear HD bad
      go_wp2
      exact bodyPost_ret (v:=.bool false) (by simp [results,Tryd.results30]) rfl ⟨rfl,HKr.out⟩
     ·have d5 : ¬ (300 : Int) < x.sc.length:=by omega
      have HS2 : Hid (∀ y ∈ outs.take (j + 1),y.sc.length ≤ 300):=Lib.hid fun y hy => by
       rw [List.take_add_one,HGE.out] at hy
       rcases List.mem_append.1 hy with q | q
       ·exact HS.out y q
       ·simp at q;subst q;omega
      clear HS bad
      go_wp2
      go_roundw
      case rel => exact ⟨j + 1,by omega,by go_num,HS2,HKr,t1,t2,HO2⟩
      case measure => simp [intOf];omega
    ·obtain rfl : j = m:=by omega
     have d4 : ¬ (j : Int) < j:=by omega
     have HSB : Hid (∀ y ∈ outs,y.sc.length ≤ 300):=Lib.hid (by have:=HS.out;rwa [List.take_of_length_le (by rw [HMM.out];omega)] at this)
     clear HS HO2
     by_cases hn : k ≤ 20
     ·have e1 : (k : Int) ≤ 20:=by omega
      by_cases hm : j ≤ 20
      ·have e2 : (j : Int) ≤ 20:=by omega
       have hv : R = true:=HD.out.2 ⟨HSA.out,HSB.out,hn,hm⟩
       subst hv
       clear HD bad hn hm
       go_wp2
       exact bodyPost_ret (v:=.bool true) (by simp [results,Tryd.results30]) rfl ⟨rfl,HKr.out⟩
      ·have e2 : ¬ (j : Int) ≤ 20:=by omega
       have hv:=bad.out (j ≤ 20) hm fun q => (HD.out.1 q).2.2.2
       subst hv
       clear HD bad hn hm
       go_wp2
       exact bodyPost_ret (v:=.bool false) (by simp [results,Tryd.results30]) rfl ⟨rfl,HKr.out⟩
     ·have e1 : ¬ (k : Int) ≤ 20:=by omega
      have hv:=bad.out (k ≤ 20) hn fun q => (HD.out.1 q).2.2.1
      subst hv
      clear HD bad hn
      go_wp2
      exact bodyPost_ret (v:=.bool false) (by simp [results,Tryd.results30]) rfl ⟨rfl,HKr.out⟩
set_option maxRecDepth 100000 in
set_option maxHeartbeats 4000000 in
theorem few09_any (m : MsgR) (cs : Array Value) (hA : MsB m cs) (w : World) (h : m.at_ w) :
  Calls Tryd.prog 13 #[.agg cs] w fun e w' => e = .returned (.bool (fewM m))∧Keep w w':=by
 have hcn:=hA.n;have hcz:=hA.z;have hci:=hA.i
 have HA:=Lib.hid hA;have HO:=Lib.hid h.o
 have FT : Hid (∀ y,Keep w y → Calls Tryd.prog 30 #[.agg #[u32v m.t.ver,.slice m.t.iA m.t.ins.length m.t.ic,.slice m.t.oA m.t.outs.length m.t.oc,u32v m.t.lock]] y fun e w' => e = .returned (.bool (fewT m.t))∧Keep y w'):=Lib.hid fun y hy => few08_any m.t y (h.t.keep hy)
 have HD : Hid (fewM m = (decide (m.hs.length ≤ 40∧m.ls.length ≤ 150∧m.is.length ≤ 100∧m.shs.length ≤ 100∧m.fs.length ≤ 1100) && fewT m.t)):=Lib.hid rfl
 clear hA h
 generalize fewM m = R at *
 generalize fewT m.t = B at *
 go_enter Tryd.func13,Tryd.ntmps13
 go_upto_region 1 with fail
 obtain ⟨w1,hw1⟩ : ∃ w1,w1 = w.alloc (.cells cs 63):=⟨_,rfl⟩
 have HB1 : Hid (Blk w1 w.heap.size 63 m.cells):=by rw [hw1,← HA.out.l];exact Lib.hid (Blk.new w _ cs.toList)
 have HK1 : Hid (Keep w w1):=by rw [hw1];exact Lib.hid (keep_new _ _)
 rw [← hw1]
 clear hw1
 have c4 : w1.cell? ⟨w.heap.size,4,none⟩ = some (.slice m.hA m.hs.length m.hc):=(HB1.out.cell 4).trans rfl
 have c5 : w1.cell? ⟨w.heap.size,5,none⟩ = some (.slice m.lA m.ls.length m.lc):=(HB1.out.cell 5).trans rfl
 have c38 : w1.cell? ⟨w.heap.size,38,none⟩ = some (.slice m.iA m.is.length m.ic):=(HB1.out.cell 38).trans ((MsgR.tail_get HO.out 0).trans rfl)
 have r108 : w1.cell? ⟨w.heap.size,108,none⟩ = some (.slice m.sA m.shs.length m.sc):=(HB1.out.cell 108).trans ((MsgR.blk_tail HO.out 1 (by omega)).trans rfl)
 have r109 : w1.cell? ⟨w.heap.size,109,none⟩ = some (.slice m.fA m.fs.length m.fc):=(HB1.out.cell 109).trans ((MsgR.blk_tail HO.out 2 (by omega)).trans rfl)
 have t0 : w1.cell? ⟨w.heap.size,110,none⟩ = some (u32v m.t.ver):=(HB1.out.cell 110).trans ((MsgR.tx_get HO.out 0).trans rfl)
 have t1 : w1.cell? ⟨w.heap.size,111,none⟩ = some (.slice m.t.iA m.t.ins.length m.t.ic):=(HB1.out.cell 111).trans ((MsgR.tx_get HO.out 1).trans rfl)
 have t2 : w1.cell? ⟨w.heap.size,112,none⟩ = some (.slice m.t.oA m.t.outs.length m.t.oc):=(HB1.out.cell 112).trans ((MsgR.tx_get HO.out 2).trans rfl)
 have t3 : w1.cell? ⟨w.heap.size,113,none⟩ = some (u32v m.t.lock):=(HB1.out.cell 113).trans ((MsgR.tx_get HO.out 3).trans rfl)
 have bad : Hid (¬ (m.hs.length ≤ 40∧m.ls.length ≤ 150∧m.is.length ≤ 100∧m.shs.length ≤ 100∧m.fs.length ≤ 1100) → R = false):=Lib.hid fun h => by rw [HD.out,decide_eq_false h];rfl
 by_cases gh : m.hs.length ≤ 40
 case neg =>
  have hv:=bad.out (by omega)
  subst hv
  have eh : ¬ ((m.hs.length : Nat) : Int) ≤ 40:=by omega
  clear HD bad gh
  try simp only [List.append_eq,List.cons_append,List.nil_append]
  go_wp2
  exact bodyPost_ret (v:=.bool false) (by simp [results,Tryd.results13]) rfl ⟨rfl,HK1.out⟩
 have eh : ((m.hs.length : Nat) : Int) ≤ 40:=by omega
 by_cases gl : m.ls.length ≤ 150
 case neg =>
  have hv:=bad.out (by omega)
  subst hv
  have el : ¬ ((m.ls.length : Nat) : Int) ≤ 150:=by omega
  clear HD bad gl
  try simp only [List.append_eq,List.cons_append,List.nil_append]
  go_wp2
  exact bodyPost_ret (v:=.bool false) (by simp [results,Tryd.results13]) rfl ⟨rfl,HK1.out⟩
 have el : ((m.ls.length : Nat) : Int) ≤ 150:=by omega
 by_cases gi : m.is.length ≤ 100
 case neg =>
  have hv:=bad.out (by omega)
  subst hv
  have ei : ¬ ((m.is.length : Nat) : Int) ≤ 100:=by omega
  clear HD bad gi
  try simp only [List.append_eq,List.cons_append,List.nil_append]
  go_wp2
  exact bodyPost_ret (v:=.bool false) (by simp [results,Tryd.results13]) rfl ⟨rfl,HK1.out⟩
 have ei : ((m.is.length : Nat) : Int) ≤ 100:=by omega
 by_cases gs : m.shs.length ≤ 100
 case neg =>
  have hv:=bad.out (by omega)
  subst hv
  have es : ¬ ((m.shs.length : Nat) : Int) ≤ 100:=by omega
  clear HD bad gs
  try simp only [List.append_eq,List.cons_append,List.nil_append]
  go_wp2
  exact bodyPost_ret (v:=.bool false) (by simp [results,Tryd.results13]) rfl ⟨rfl,HK1.out⟩
 have es : ((m.shs.length : Nat) : Int) ≤ 100:=by omega
 by_cases gf : m.fs.length ≤ 1100
 case neg =>
  have hv:=bad.out (by omega)
  subst hv
  have ef : ¬ ((m.fs.length : Nat) : Int) ≤ 1100:=by omega
  clear HD bad gf
  try simp only [List.append_eq,List.cons_append,List.nil_append]
  go_wp2
  exact bodyPost_ret (v:=.bool false) (by simp [results,Tryd.results13]) rfl ⟨rfl,HK1.out⟩
 have ef : ((m.fs.length : Nat) : Int) ≤ 1100:=by omega
 have hv : R = B:=by rw [HD.out,decide_eq_true ⟨gh,gl,gi,gs,gf⟩];rfl
 subst hv
 clear HD bad gh gl gi gs gf
 try simp only [List.append_eq,List.cons_append,List.nil_append]
 go_wp2_with (go_at_call 30;refine (FT.out _ HK1.out).mono ?_;rintro e w2 ⟨rfl,k2⟩;have HK2:=Lib.hid (keep_trans HK1.out k2);clear k2)
 exact bodyPost_ret (v:=.bool R) (by simp [results,Tryd.results13]) rfl ⟨rfl,HK2.out⟩
end Go.Proofs.YtffpanlpbdnafaaDoor
/- What is put is got again, and not from less: plain laws of reading a transaction. -/
set_option linter.unusedSimpArgs false
set_option linter.unusedVariables false
namespace Go.Proofs.YtffpanlpbdnafaaDoor
open Go.RowKit
def RD {α : Type} (f : List UInt8 → SP → α × SP) (b : List UInt8) (k : Nat) (v : α) (e : Nat) : Prop :=
 k ≤ e∧∀ j,k ≤ j → j ≤ b.length → (e ≤ j → f (b.take j) (k,0) = (v,(e,0)))∧(j < e → (f (b.take j) (k,0)).2.2 = 1)
theorem take_drop_in {b x r : List UInt8} {k j : Nat} (h : b.drop k = x ++ r) (hk : k ≤ j) (hj : j ≤ b.length) : (k + x.length ≤ j → (b.take j).drop k = x ++ r.take (j - k - x.length))∧(j < k + x.length → (b.take j).drop k = x.take (j - k))∧(b.take j).length = j:=by
 have e : (b.take j).drop k = (x ++ r).take (j - k):=by rw [List.drop_take,h]
 refine ⟨fun q => ?_,fun q => ?_,by rw [List.length_take];omega⟩
 ·rw [e,List.take_append,List.take_of_length_le (by omega)]
 ·rw [e,List.take_append_of_le_length (by omega)]
theorem drop_more {b x r : List UInt8} {k : Nat} (h : b.drop k = x ++ r) : b.drop (k + x.length) = r:=by
 rw [← List.drop_drop,h,List.drop_left' rfl]
theorem tk_rd {b x r : List UInt8} {k m : Nat} (h : b.drop k = x ++ r) (hx : x.length = m) : RD (fun c p => (tkB c m p,tkP c m p)) b k x (k + m):=by
 subst hx
 refine ⟨by omega,fun j hk hj => ?_⟩
 obtain ⟨h1,h2,h3⟩:=take_drop_in h hk hj
 refine ⟨fun q => ?_,fun q => ?_⟩
 ·have e1 : tkP (b.take j) x.length (k,0) = (k + x.length,0):=by
   unfold tkP;rw [if_pos rfl,if_pos (by rw [h3];exact q)]
  have e2 : tkB (b.take j) x.length (k,0) = x:=by
   unfold tkB;rw [if_pos ⟨rfl,by rw [h3];exact q⟩]
   simp only
   rw [h1 q,List.take_left' rfl]
  simp only [e1,e2]
 ·show (tkP (b.take j) x.length (k,0)).2 = 1
  unfold tkP;rw [if_pos rfl,if_neg (by rw [h3];show ¬ k + x.length ≤ j;omega)]
theorem nm_rd {b r : List UInt8} {n k m : Nat} (h : b.drop k = loN n m ++ r) (hn : n < 2 ^ (8 * m)) : RD (fun c p => (nmV c m p,tkP c m p)) b k n (k + m):=by
 have q:=tk_rd h (lo_len n m)
 refine ⟨q.1,fun j hk hj => ⟨fun hq => ?_,fun hq => ?_⟩⟩
 ·have e:=(q.2 j hk hj).1 hq
  have e1 : tkB (b.take j) m (k,0) = loN n m:=congrArg Prod.fst e
  have e2 : tkP (b.take j) m (k,0) = (k + m,0):=congrArg Prod.snd e
  have e3 : nmV (b.take j) m (k,0) = n:=by
   unfold nmV
   rw [e1,lo_len]
   have:=numN_lo n [] m m (Nat.le_refl _)
   rw [List.append_nil] at this
   rw [this,Nat.mod_eq_of_lt hn]
  simp only [e2,e3]
 ·exact (q.2 j hk hj).2 hq
theorem nm32_rd {b r : List UInt8} {x : UInt32} {k : Nat} (h : b.drop k = loN x.toNat 4 ++ r) : RD (fun c p => (UInt32.ofNat (nmV c 4 p),tkP c 4 p)) b k x (k + 4):=by
 have q:=nm_rd h (by have:=x.toNat_lt;omega)
 refine ⟨q.1,fun j hk hj => ⟨fun hq => ?_,fun hq => ?_⟩⟩
 ·have e:=(q.2 j hk hj).1 hq
  have e1 : nmV (b.take j) 4 (k,0) = x.toNat:=congrArg Prod.fst e
  have e2 : tkP (b.take j) 4 (k,0) = (k + 4,0):=congrArg Prod.snd e
  simp only [e1,e2]
  congr 1
  exact UInt32.toNat_inj.1 (by rw [UInt32.toNat_ofNat',Nat.mod_eq_of_lt (by have:=x.toNat_lt;omega)])
 ·exact (q.2 j hk hj).2 hq
theorem bnd_put {n most : Nat} (h1 : n ≤ most) (h2 : n ≤ 2147483647) (r : List UInt8) : bndN (cptL n ++ r) most = (n,sizN n,0):=by
 unfold bndN
 rw [cget_put n (by omega) r,if_pos rfl,if_neg (by simp only;omega)]
theorem bnd_short {n most j : Nat} (h : j < sizN n) : bndN ((cptL n).take j) most = (0,0,1):=by
 unfold bndN
 rw [cget_short n j (by rw [cpt_len];exact h),if_neg (by simp)]
theorem byt_put {s : List UInt8} {most : Nat} (h1 : s.length ≤ most) (h2 : s.length ≤ 2147483647) (r : List UInt8) : bytN (scL s ++ r) most = (s,(scL s).length,0):=by
 have e : scL s ++ r = cptL s.length ++ (s ++ r):=by unfold scL;rw [List.append_assoc]
 have hl : (scL s).length = sizN s.length + s.length:=by unfold scL;rw [List.length_append,cpt_len]
 unfold bytN
 rw [e,bnd_put h1 h2,if_pos rfl]
 simp only
 rw [if_neg (by rw [List.length_append,List.length_append,cpt_len];omega),List.drop_left' (cpt_len _),List.take_left' rfl,hl]
theorem byt_short {s : List UInt8} {most j : Nat} (h1 : s.length ≤ most) (h2 : s.length ≤ 2147483647) (h : j < (scL s).length) : (bytN ((scL s).take j) most).2.2 = 1:=by
 have hl : (scL s).length = sizN s.length + s.length:=by unfold scL;rw [List.length_append,cpt_len]
 unfold bytN
 by_cases q : j < sizN s.length
 ·have e : (scL s).take j = (cptL s.length).take j:=by unfold scL;rw [List.take_append_of_le_length (by rw [cpt_len];omega)]
  rw [e,bnd_short q,if_neg (by simp)]
 ·have e : (scL s).take j = cptL s.length ++ s.take (j - sizN s.length):=by
   unfold scL;rw [List.take_append,List.take_of_length_le (by rw [cpt_len];omega),cpt_len]
  rw [e,bnd_put h1 h2,if_pos rfl]
  simp only
  rw [if_pos (by rw [List.length_append,cpt_len,List.length_take];omega)]
theorem ct_rd {b r : List UInt8} {n k most : Nat} (h : b.drop k = cptL n ++ r) (h1 : n ≤ most) (h2 : n ≤ 2147483647) : RD (fun c p => (ctV c most p,ctP c most p)) b k n (k + sizN n):=by
 refine ⟨by omega,fun j hk hj => ?_⟩
 obtain ⟨a1,a2,a3⟩:=take_drop_in h hk hj
 rw [cpt_len] at a1 a2
 refine ⟨fun q => ?_,fun q => ?_⟩
 ·have e:=a1 q
  unfold ctV ctP
  simp only [if_true]
  rw [e,bnd_put h1 h2]
 ·have e:=a2 q
  show (ctP (b.take j) most (k,0)).2 = 1
  unfold ctP
  rw [if_pos rfl]
  simp only
  rw [e,bnd_short (by omega)]
theorem sc_rd {b r s : List UInt8} {k : Nat} (h : b.drop k = scL s ++ r) (h1 : s.length ≤ 10000) : RD (fun c p => (scV c p,scP c p)) b k s (k + (scL s).length):=by
 refine ⟨by omega,fun j hk hj => ?_⟩
 obtain ⟨a1,a2,a3⟩:=take_drop_in h hk hj
 refine ⟨fun q => ?_,fun q => ?_⟩
 ·have e:=a1 q
  unfold scV scP
  simp only [if_true]
  rw [e,byt_put h1 (by omega)]
 ·have e:=a2 q
  show (scP (b.take j) (k,0)).2 = 1
  unfold scP
  rw [if_pos rfl]
  simp only
  rw [e,byt_short h1 (by omega) (by omega)]
theorem RD.then {α β γ : Type} {f : List UInt8 → SP → α × SP} {g : α → List UInt8 → SP → β × SP} {h : List UInt8 → SP → γ × SP} {b : List UInt8} {k e1 e2 : Nat} {u : α} {v : β} {z : γ} (F : RD f b k u e1) (G : RD (g u) b e1 v e2)
  (hs : ∀ c p a,p.2 = 1 → (g a c p).2 = p) (hh : ∀ c p,(h c p).2 = (g (f c p).1 c (f c p).2).2) (hv : ∀ c p,(f c p) = (u,(e1,0)) → (g u c (e1,0)) = (v,(e2,0)) → (h c p).1 = z) : RD h b k z e2:=by
 refine ⟨Nat.le_trans F.1 G.1,fun j hk hj => ?_⟩
 obtain ⟨f1,f2⟩:=F.2 j hk hj
 by_cases q : e1 ≤ j
 ·obtain ⟨g1,g2⟩:=G.2 j q hj
  have ef:=f1 q
  have e0:=hh (b.take j) (k,0)
  rw [ef] at e0
  simp only at e0
  refine ⟨fun q2 => ?_,fun q2 => by rw [e0];exact g2 q2⟩
  have eg:=g1 q2
  rw [eg] at e0
  exact Prod.ext (hv _ _ ef eg) e0
 ·refine ⟨fun q2 => absurd (Nat.le_trans G.1 q2) q,fun _ => ?_⟩
  have ef:=f2 (by omega)
  rw [hh,hs _ _ _ ef];exact ef
theorem tkP_err {b : List UInt8} {m : Nat} {p : SP} (h : p.2 = 1) : tkP b m p = p:=by unfold tkP;rw [if_neg (by omega)]
theorem ctP_err {b : List UInt8} {m : Nat} {p : SP} (h : p.2 = 1) : ctP b m p = p:=by unfold ctP;rw [if_neg (by omega)]
theorem scP_err {b : List UInt8} {p : SP} (h : p.2 = 1) : scP b p = p:=by unfold scP;rw [if_neg (by omega)]
theorem in_rd {b r : List UInt8} {x : InR} {k : Nat} (h : b.drop k = inL x ++ r) (hp : x.prev.length = 32) (hs : x.sc.length ≤ 10000) : RD inS b k x.pl (k + (inL x).length):=by
 have e0 : inL x = x.prev ++ (loN x.ix.toNat 4 ++ (scL x.sc ++ loN x.seq.toNat 4)):=rfl
 rw [e0,List.append_assoc,List.append_assoc,List.append_assoc] at h
 have h2:=drop_more h
 have h3:=drop_more h2
 have h4:=drop_more h3
 have r1:=tk_rd h hp
 rw [hp] at h2 h3 h4
 have r2:=nm32_rd h2
 rw [lo_len] at h3 h4
 have r3:=sc_rd h3 hs
 have r4:=nm32_rd h4
 have c3:=RD.then (h:=fun c p => ((scV c p,UInt32.ofNat (nmV c 4 (scP c p))),tkP c 4 (scP c p))) (z:=(x.sc,x.seq)) (g:=fun _ c p => (UInt32.ofNat (nmV c 4 p),tkP c 4 p)) r3 r4 (fun c p a h => tkP_err h) (fun c p => rfl) (fun c p a1 a2 => by
  have b1 : scV c p = x.sc:=congrArg Prod.fst a1
  have b2 : scP c p = _:=congrArg Prod.snd a1
  have b3:=congrArg Prod.fst a2
  simp only at b3 ⊢
  rw [b1,b2,b3])
 have c2:=RD.then (h:=fun c p => ((UInt32.ofNat (nmV c 4 p),scV c (tkP c 4 p),UInt32.ofNat (nmV c 4 (scP c (tkP c 4 p)))),tkP c 4 (scP c (tkP c 4 p)))) (z:=(x.ix,x.sc,x.seq)) (g:=fun _ c p => ((scV c p,UInt32.ofNat (nmV c 4 (scP c p))),tkP c 4 (scP c p))) r2 c3 (fun c p a h => by simp only;rw [scP_err h,tkP_err h]) (fun c p => rfl) (fun c p a1 a2 => by
  have b1 : UInt32.ofNat (nmV c 4 p) = x.ix:=congrArg Prod.fst a1
  have b2 : tkP c 4 p = _:=congrArg Prod.snd a1
  have b3:=congrArg Prod.fst a2
  simp only at b3 ⊢
  rw [b1,b2,b3])
 have c1:=RD.then (h:=inS) (z:=x.pl) (g:=fun _ c p => ((UInt32.ofNat (nmV c 4 p),scV c (tkP c 4 p),UInt32.ofNat (nmV c 4 (scP c (tkP c 4 p)))),tkP c 4 (scP c (tkP c 4 p)))) r1 c2 (fun c p a h => by simp only;rw [tkP_err h,scP_err h,tkP_err h]) (fun c p => rfl) (fun c p a1 a2 => by
  have b1 : tkB c 32 p = x.prev:=congrArg Prod.fst a1
  have b2 : tkP c 32 p = _:=congrArg Prod.snd a1
  have b3:=congrArg Prod.fst a2
  simp only at b3
  injection b3 with b3 b4
  injection b4 with b4 b5
  unfold inS InR.pl padH
  simp only
  rw [b1,b2,b3,b4,b5,hp]
  congr 1
  rw [show z32.drop 32 = [] from rfl,List.append_nil])
 have el : (inL x).length = 32 + 4 + (scL x.sc).length + 4:=by rw [e0];simp only [List.length_append,lo_len,hp];omega
 rw [el,show k + (32 + 4 + (scL x.sc).length + 4) = k + 32 + 4 + (scL x.sc).length + 4 by omega]
 exact c1
theorem out_rd {b r : List UInt8} {x : OutR} {k : Nat} (h : b.drop k = outL x ++ r) (hv : x.val < 2 ^ 64) (hs : x.sc.length ≤ 10000) : RD outS b k x.pl (k + (outL x).length):=by
 have e0 : outL x = loN x.val 8 ++ scL x.sc:=rfl
 rw [e0,List.append_assoc] at h
 have h2:=drop_more h
 have r1:=nm_rd h (by omega)
 rw [lo_len] at h2
 have r2:=sc_rd h2 hs
 have c1:=RD.then (h:=outS) (z:=x.pl) (g:=fun _ c p => (scV c p,scP c p)) r1 r2 (fun c p a h => scP_err h) (fun c p => rfl) (fun c p a1 a2 => by
  have b1 : nmV c 8 p = x.val:=congrArg Prod.fst a1
  have b2 : tkP c 8 p = _:=congrArg Prod.snd a1
  have b3:=congrArg Prod.fst a2
  simp only at b3
  unfold outS OutR.pl
  simp only
  rw [b1,b2,b3])
 have el : (outL x).length = 8 + (scL x.sc).length:=by rw [e0];simp only [List.length_append,lo_len]
 rw [el,← Nat.add_assoc]
 exact c1
theorem ins_rd {b : List UInt8} : ∀ (l : List InR) {r : List UInt8} {k : Nat},b.drop k = l.flatMap inL ++ r → (∀ x ∈ l,x.prev.length = 32∧x.sc.length ≤ 10000) → RD (fun c p => insS c l.length p) b k (l.map InR.pl) (k + (l.flatMap inL).length)
 | [],r,k,h,_ => by
   refine ⟨by simp,fun j hk hj => ⟨fun _ => rfl,fun q => by simp at q;omega⟩⟩
 | x :: l,r,k,h,hl => by
   rw [List.flatMap_cons,List.append_assoc] at h
   have r1:=in_rd h (hl x (by simp)).1 (hl x (by simp)).2
   have r2:=ins_rd l (drop_more h) fun y hy => hl y (by simp [hy])
   refine ⟨by omega,fun j hk hj => ?_⟩
   have e0 : insS (b.take j) (x :: l).length (k,0) = ((inS (b.take j) (k,0)).1 :: (insS (b.take j) l.length (inS (b.take j) (k,0)).2).1,(insS (b.take j) l.length (inS (b.take j) (k,0)).2).2):=by
    rw [List.length_cons,insS,if_pos rfl]
   have el : k + ((x :: l).flatMap inL).length = k + (inL x).length + (l.flatMap inL).length:=by rw [List.flatMap_cons,List.length_append];omega
   rw [el]
   obtain ⟨f1,f2⟩:=r1.2 j hk hj
   by_cases q : k + (inL x).length ≤ j
   ·obtain ⟨g1,g2⟩:=r2.2 j q hj
    have ef:=f1 q
    rw [ef] at e0
    simp only at e0
    refine ⟨fun q2 => ?_,fun q2 => ?_⟩
    ·have eg:=g1 q2
     simp only at eg ⊢
     rw [e0,eg];rfl
    ·have eg:=g2 q2
     simp only at eg ⊢
     rw [e0];exact eg
   ·refine ⟨fun q2 => by omega,fun _ => ?_⟩
    have ef:=f2 (by omega)
    simp only
    rw [e0]
    simp only
    rw [insS_err _ _ (by rw [ef];omega)];exact ef
theorem outs_rd {b : List UInt8} : ∀ (l : List OutR) {r : List UInt8} {k : Nat},b.drop k = l.flatMap outL ++ r → (∀ x ∈ l,x.val < 2 ^ 64∧x.sc.length ≤ 10000) → RD (fun c p => outsS c l.length p) b k (l.map OutR.pl) (k + (l.flatMap outL).length)
 | [],r,k,h,_ => by
   refine ⟨by simp,fun j hk hj => ⟨fun _ => rfl,fun q => by simp at q;omega⟩⟩
 | x :: l,r,k,h,hl => by
   rw [List.flatMap_cons,List.append_assoc] at h
   have r1:=out_rd h (hl x (by simp)).1 (hl x (by simp)).2
   have r2:=outs_rd l (drop_more h) fun y hy => hl y (by simp [hy])
   refine ⟨by omega,fun j hk hj => ?_⟩
   have e0 : outsS (b.take j) (x :: l).length (k,0) = ((outS (b.take j) (k,0)).1 :: (outsS (b.take j) l.length (outS (b.take j) (k,0)).2).1,(outsS (b.take j) l.length (outS (b.take j) (k,0)).2).2):=by
    rw [List.length_cons,outsS,if_pos rfl]
   have el : k + ((x :: l).flatMap outL).length = k + (outL x).length + (l.flatMap outL).length:=by rw [List.flatMap_cons,List.length_append];omega
   rw [el]
   obtain ⟨f1,f2⟩:=r1.2 j hk hj
   by_cases q : k + (outL x).length ≤ j
   ·obtain ⟨g1,g2⟩:=r2.2 j q hj
    have ef:=f1 q
    rw [ef] at e0
    simp only at e0
    refine ⟨fun q2 => ?_,fun q2 => ?_⟩
    ·have eg:=g1 q2
     simp only at eg ⊢
     rw [e0,eg];rfl
    ·have eg:=g2 q2
     simp only at eg ⊢
     rw [e0];exact eg
   ·refine ⟨fun q2 => by omega,fun _ => ?_⟩
    have ef:=f2 (by omega)
    simp only
    rw [e0]
    simp only
    rw [outsS_err _ _ (by rw [ef];omega)];exact ef
theorem cntE_ok {n : Nat} (h : n ≠ 0) (p : SP) : cntE n p = p:=by unfold cntE;rw [if_neg (fun q => h q.2)]
theorem cntE_err {n : Nat} {p : SP} (h : p.2 = 1) : cntE n p = p:=by unfold cntE;rw [if_neg (fun q => by omega)]
theorem insS_err1 {b : List UInt8} {n : Nat} {p : SP} (h : p.2 = 1) : insS b n p = ([],p):=insS_err b n (by omega)
theorem outsS_err1 {b : List UInt8} {n : Nat} {p : SP} (h : p.2 = 1) : outsS b n p = ([],p):=outsS_err b n (by omega)
theorem tget_rd {t : TxR} (hs : saneT t = true) (hi : ∀ x ∈ t.ins,x.prev.length = 32) (ho : ∀ x ∈ t.outs,x.val < 2 ^ 64) (r : List UInt8) : RD (fun c _ => tgetS c) (txL t ++ r) 0 t.pl (txL t).length:=by
 unfold saneT at hs
 rw [decide_eq_true_eq] at hs
 obtain ⟨s1,s2,s3,s4,s5⟩:=hs
 generalize hb : txL t ++ r = b
 have e0 : txL t = loN t.ver.toNat 4 ++ (cptL t.ins.length ++ (t.ins.flatMap inL ++ (cptL t.outs.length ++ (t.outs.flatMap outL ++ loN t.lock.toNat 4)))):=rfl
 have h0 : b.drop 0 = loN t.ver.toNat 4 ++ (cptL t.ins.length ++ (t.ins.flatMap inL ++ (cptL t.outs.length ++ (t.outs.flatMap outL ++ (loN t.lock.toNat 4 ++ r))))):=by
  rw [List.drop_zero,← hb,e0];simp only [List.append_assoc]
 have h1:=drop_more h0
 have h2:=drop_more h1
 have h3:=drop_more h2
 have h4:=drop_more h3
 have h5:=drop_more h4
 rw [lo_len] at h1 h2 h3 h4 h5
 rw [cpt_len] at h2 h3 h4 h5
 rw [cpt_len] at h4 h5
 have r0:=nm32_rd h0
 have r1:=ct_rd h1 (most:=1000) s2 (by omega)
 have r2:=ins_rd t.ins h2 fun x hx => ⟨hi x hx,s4 x hx⟩
 have r3:=ct_rd h3 (most:=1000) s3 (by omega)
 have r4:=outs_rd t.outs h4 fun x hx => ⟨ho x hx,s5 x hx⟩
 have r5:=nm32_rd h5
 have c5:=RD.then (h:=fun c p => (((outsS c t.outs.length p).1,UInt32.ofNat (nmV c 4 (outsS c t.outs.length p).2)),tkP c 4 (outsS c t.outs.length p).2)) (z:=(t.outs.map OutR.pl,t.lock)) (g:=fun _ c p => (UInt32.ofNat (nmV c 4 p),tkP c 4 p)) r4 r5 (fun c p a h => tkP_err h) (fun c p => rfl) (fun c p a1 a2 => by
  have b1 : (outsS c t.outs.length p).1 = _:=congrArg Prod.fst a1
  have b2 : (outsS c t.outs.length p).2 = _:=congrArg Prod.snd a1
  have b3:=congrArg Prod.fst a2
  simp only at b3 ⊢
  rw [b1,b2,b3])
 have c4:=RD.then (h:=fun c p => (((outsS c (ctV c 1000 p) (ctP c 1000 p)).1,UInt32.ofNat (nmV c 4 (outsS c (ctV c 1000 p) (ctP c 1000 p)).2)),tkP c 4 (outsS c (ctV c 1000 p) (ctP c 1000 p)).2)) (z:=(t.outs.map OutR.pl,t.lock)) (g:=fun n c p => (((outsS c n p).1,UInt32.ofNat (nmV c 4 (outsS c n p).2)),tkP c 4 (outsS c n p).2)) r3 c5 (fun c p a h => by simp only;rw [outsS_err1 h,tkP_err h]) (fun c p => rfl) (fun c p a1 a2 => by
  have b1 : ctV c 1000 p = _:=congrArg Prod.fst a1
  have b2 : ctP c 1000 p = _:=congrArg Prod.snd a1
  have b3:=congrArg Prod.fst a2
  simp only at b3 ⊢
  rw [b1,b2];exact b3)
 have c3:=RD.then (h:=fun c p => (((insS c t.ins.length p).1,(outsS c (ctV c 1000 (insS c t.ins.length p).2) (ctP c 1000 (insS c t.ins.length p).2)).1,UInt32.ofNat (nmV c 4 (outsS c (ctV c 1000 (insS c t.ins.length p).2) (ctP c 1000 (insS c t.ins.length p).2)).2)),tkP c 4 (outsS c (ctV c 1000 (insS c t.ins.length p).2) (ctP c 1000 (insS c t.ins.length p).2)).2)) (z:=(t.ins.map InR.pl,t.outs.map OutR.pl,t.lock))
  (g:=fun _ c p => (((outsS c (ctV c 1000 p) (ctP c 1000 p)).1,UInt32.ofNat (nmV c 4 (outsS c (ctV c 1000 p) (ctP c 1000 p)).2)),tkP c 4 (outsS c (ctV c 1000 p) (ctP c 1000 p)).2)) r2 c4 (fun c p a h => by simp only;rw [ctP_err h,outsS_err1 h,tkP_err h]) (fun c p => rfl) (fun c p a1 a2 => by
  have b1 : (insS c t.ins.length p).1 = _:=congrArg Prod.fst a1
  have b2 : (insS c t.ins.length p).2 = _:=congrArg Prod.snd a1
  have b3:=congrArg Prod.fst a2
  simp only at b3 ⊢
  rw [b1,b2,b3])
 have hn0 : t.ins.length ≠ 0:=by omega
 have c2:=RD.then (h:=fun c p => (((insS c (ctV c 1000 p) (cntE (ctV c 1000 p) (ctP c 1000 p))).1,(outsS c (ctV c 1000 (insS c (ctV c 1000 p) (cntE (ctV c 1000 p) (ctP c 1000 p))).2) (ctP c 1000 (insS c (ctV c 1000 p) (cntE (ctV c 1000 p) (ctP c 1000 p))).2)).1,UInt32.ofNat (nmV c 4 (outsS c (ctV c 1000 (insS c (ctV c 1000 p) (cntE (ctV c 1000 p) (ctP c 1000 p))).2) (ctP c 1000 (insS c (ctV c 1000 p) (cntE (ctV c 1000 p) (ctP c 1000 p))).2)).2)),tkP c 4 (outsS c (ctV c 1000 (insS c (ctV c 1000 p) (cntE (ctV c 1000 p) (ctP c 1000 p))).2) (ctP c 1000 (insS c (ctV c 1000 p) (cntE (ctV c 1000 p) (ctP c 1000 p))).2)).2))
  (z:=(t.ins.map InR.pl,t.outs.map OutR.pl,t.lock))
  (g:=fun n c p => (((insS c n (cntE n p)).1,(outsS c (ctV c 1000 (insS c n (cntE n p)).2) (ctP c 1000 (insS c n (cntE n p)).2)).1,UInt32.ofNat (nmV c 4 (outsS c (ctV c 1000 (insS c n (cntE n p)).2) (ctP c 1000 (insS c n (cntE n p)).2)).2)),tkP c 4 (outsS c (ctV c 1000 (insS c n (cntE n p)).2) (ctP c 1000 (insS c n (cntE n p)).2)).2)) r1 (by simp only [cntE_ok hn0];exact c3) (fun c p a h => by simp only;rw [cntE_err h,insS_err1 h,ctP_err h,outsS_err1 h,tkP_err h]) (fun c p => rfl) (fun c p a1 a2 => by
  have b1 : ctV c 1000 p = _:=congrArg Prod.fst a1
  have b2 : ctP c 1000 p = _:=congrArg Prod.snd a1
  have b3:=congrArg Prod.fst a2
  simp only at b3 ⊢
  rw [b1,b2];exact b3)
 have c1:=RD.then (h:=fun c p => ((⟨UInt32.ofNat (nmV c 4 p),none,(insS c (ctV c 1000 (tkP c 4 p)) (cntE (ctV c 1000 (tkP c 4 p)) (ctP c 1000 (tkP c 4 p)))).1,0,none,(outsS c (ctV c 1000 (insS c (ctV c 1000 (tkP c 4 p)) (cntE (ctV c 1000 (tkP c 4 p)) (ctP c 1000 (tkP c 4 p)))).2) (ctP c 1000 (insS c (ctV c 1000 (tkP c 4 p)) (cntE (ctV c 1000 (tkP c 4 p)) (ctP c 1000 (tkP c 4 p)))).2)).1,0,UInt32.ofNat (nmV c 4 (outsS c (ctV c 1000 (insS c (ctV c 1000 (tkP c 4 p)) (cntE (ctV c 1000 (tkP c 4 p)) (ctP c 1000 (tkP c 4 p)))).2) (ctP c 1000 (insS c (ctV c 1000 (tkP c 4 p)) (cntE (ctV c 1000 (tkP c 4 p)) (ctP c 1000 (tkP c 4 p)))).2)).2)⟩ : TxR),tkP c 4 (outsS c (ctV c 1000 (insS c (ctV c 1000 (tkP c 4 p)) (cntE (ctV c 1000 (tkP c 4 p)) (ctP c 1000 (tkP c 4 p)))).2) (ctP c 1000 (insS c (ctV c 1000 (tkP c 4 p)) (cntE (ctV c 1000 (tkP c 4 p)) (ctP c 1000 (tkP c 4 p)))).2)).2)) (z:=t.pl) (g:=fun _ c p => (((insS c (ctV c 1000 p) (cntE (ctV c 1000 p) (ctP c 1000 p))).1,(outsS c (ctV c 1000 (insS c (ctV c 1000 p) (cntE (ctV c 1000 p) (ctP c 1000 p))).2) (ctP c 1000 (insS c (ctV c 1000 p) (cntE (ctV c 1000 p) (ctP c 1000 p))).2)).1,UInt32.ofNat (nmV c 4 (outsS c (ctV c 1000 (insS c (ctV c 1000 p) (cntE (ctV c 1000 p) (ctP c 1000 p))).2) (ctP c 1000 (insS c (ctV c 1000 p) (cntE (ctV c 1000 p) (ctP c 1000 p))).2)).2)),tkP c 4 (outsS c (ctV c 1000 (insS c (ctV c 1000 p) (cntE (ctV c 1000 p) (ctP c 1000 p))).2) (ctP c 1000 (insS c (ctV c 1000 p) (cntE (ctV c 1000 p) (ctP c 1000 p))).2)).2)) r0 c2 (fun c p a h => by simp only;rw [ctP_err h,cntE_err h,insS_err1 h,ctP_err h,outsS_err1 h,tkP_err h]) (fun c p => rfl) (fun c p a1 a2 => by
  have b1 : UInt32.ofNat (nmV c 4 p) = _:=congrArg Prod.fst a1
  have b2 : tkP c 4 p = _:=congrArg Prod.snd a1
  have b3:=congrArg Prod.fst a2
  simp only at b3 ⊢
  injection b3 with b3 b4
  injection b4 with b4 b5
  rw [b1,b2,b3,b4,b5];rfl)
 have el : (txL t).length = 0 + 4 + sizN t.ins.length + (t.ins.flatMap inL).length + sizN t.outs.length + (t.outs.flatMap outL).length + 4:=by
  rw [e0];simp only [List.length_append,lo_len,cpt_len];omega
 rw [el]
 exact ⟨c1.1,fun j hk hj => c1.2 j hk hj⟩
end Go.Proofs.YtffpanlpbdnafaaDoor
/- What is put is got again, and not from less: parts and messages. -/
set_option linter.unusedSimpArgs false
set_option linter.unusedVariables false
namespace Go.Proofs.YtffpanlpbdnafaaDoor
open Go.RowKit
theorem hshs_cons (b : List UInt8) (a n : Nat) : hshs b a (n + 1) = (b.drop a).take 32 :: hshs b (a + 32) n:=by
 unfold hshs
 rw [List.range_succ_eq_map,List.map_cons,List.map_map]
 congr 1
 simp
 intro i _
 rw [show a + (i + 1) * 32 = a + 32 + i * 32 by omega]
theorem hshs_put {b : List UInt8} : ∀ (l : List (List UInt8)) {a : Nat} {r : List UInt8},b.drop a = l.flatten ++ r → (∀ s ∈ l,s.length = 32) → hshs b a l.length = l
 | [],a,r,_,_ => rfl
 | s :: l,a,r,h,hl => by
   rw [List.flatten_cons,List.append_assoc] at h
   have hs:=hl s (by simp)
   have h2:=drop_more h
   rw [hs] at h2
   rw [List.length_cons,hshs_cons,hshs_put l h2 fun x hx => hl x (by simp [hx]),h,List.take_left' hs]
theorem itms_cons (b : List UInt8) (a n : Nat) : itms b a (n + 1) = itmOf b a :: itms b (a + 36) n:=by
 unfold itms
 rw [List.range_succ_eq_map,List.map_cons,List.map_map]
 congr 1
 simp
 intro i _
 rw [show a + (i + 1) * 36 = a + 36 + i * 36 by omega]
theorem itm_put {b r : List UInt8} {x : Itm} {a : Nat} (h : b.drop a = itL x ++ r) (hx : x.ok) : itmOf b a = x:=by
 unfold itL at h
 rw [List.append_assoc] at h
 have h2:=drop_more h
 rw [lo_len] at h2
 unfold itmOf
 rw [h,h2,numN_lo _ _ 4 4 (Nat.le_refl _),List.take_left' hx,Nat.mod_eq_of_lt (by have:=x.ty.toNat_lt;omega)]
 congr 1
 exact UInt32.toNat_inj.1 (by rw [UInt32.toNat_ofNat',Nat.mod_eq_of_lt (by have:=x.ty.toNat_lt;omega)])
theorem itms_put {b : List UInt8} : ∀ (l : List Itm) {a : Nat} {r : List UInt8},b.drop a = l.flatMap itL ++ r → (∀ s ∈ l,s.ok) → itms b a l.length = l
 | [],a,r,_,_ => rfl
 | x :: l,a,r,h,hl => by
   rw [List.flatMap_cons,List.append_assoc] at h
   have hx:=hl x (by simp)
   have h2:=drop_more h
   rw [show (itL x).length = 36 by unfold itL;rw [List.length_append,lo_len];rw [show x.h.length = 32 from hx]] at h2
   rw [List.length_cons,itms_cons,itms_put l h2 fun y hy => hl y (by simp [hy]),itm_put h hx]
theorem hpa_cons (h : Hd) (l : List Hd) : hpa (h :: l) = hputL h ++ (0 :: hpa l):=by unfold hpa;rw [List.flatMap_cons,List.append_assoc];rfl
theorem hpa_nil : hpa [] = []:=rfl
theorem hgal_put {b : List UInt8} : ∀ (l : List Hd) {a : Nat} {r : List UInt8},a ≤ b.length → b.drop a = hpa l ++ r → (∀ s ∈ l,s.ok) → hgal b l.length a = if r = [] then (l,0) else ([],2)
 | [],a,r,ha,h,_ => by
   rw [hpa_nil,List.nil_append] at h
   have hl : b.length - a = r.length:=by rw [← h,List.length_drop]
   rw [List.length_nil]
   unfold hgal
   by_cases q : r = []
   ·rw [if_pos q,if_pos (by rw [q] at hl;simp at hl;omega)]
   ·rw [if_neg q,if_neg (by have:=List.length_pos_iff.2 q;omega)]
 | x :: l,a,r,ha,h,hl => by
   rw [hpa_cons,List.append_assoc,List.cons_append] at h
   have hx:=hl x (by simp)
   have h2:=drop_more h
   rw [hputL_len hx] at h2
   have hl2 : b.length - a = 80 + (1 + (hpa l ++ r).length):=by
    have:=congrArg List.length h
    rw [List.length_drop,List.length_append,hputL_len hx,List.length_cons] at this;omega
   have h3 : b.drop (a + 81) = hpa l ++ r:=by
    rw [show a + 81 = (a + 80) + 1 by omega,← List.drop_drop,h2];rfl
   have ih:=hgal_put l (a:=a + 81) (by omega) h3 fun y hy => hl y (by simp [hy])
   have g0 : b.getD (a + 80) 0 = 0:=by
    have : (b.drop (a + 80))[0]? = some 0:=by rw [h2];rfl
    rw [List.getElem?_drop,Nat.add_zero] at this
    rw [List.getD_eq_getElem?_getD,this];rfl
   rw [List.length_cons,hgal,if_neg (by omega),if_pos g0,ih,h,List.take_left' (hputL_len hx),hget_put hx]
   by_cases q : r = []
   ·rw [if_pos q,if_pos rfl,if_pos q]
   ·rw [if_neg q,if_neg (by decide),if_neg q]
theorem hgall_put {l : List Hd} (hl : l.length ≤ 2000) (ho : ∀ s ∈ l,s.ok) (r : List UInt8) : hgall (hpall l ++ r) = if r = [] then (l,0) else ([],2):=by
 have e : hpall l ++ r = cptL l.length ++ (hpa l ++ r):=by unfold hpall;rw [List.append_assoc]
 unfold hgall
 rw [e,bnd_put hl (by omega),if_pos rfl]
 exact hgal_put l (by simp only [List.length_append,cpt_len];omega) (List.drop_left' (cpt_len _)) ho
def PV.good : PV → Prop
 | .u32 _ => True
 | .u64 n => n < 2 ^ 64
 | .hsh _ l _ most => l.length ≤ most∧most ≤ 4096∧∀ s ∈ l,s.length = 32
 | .h32 s => s.length = 32
 | .heads _ l _ => l.length ≤ 2000∧∀ h ∈ l,h.ok
 | .items _ l _ => l.length ≤ 50000∧∀ x ∈ l,x.ok
 | .head h => h.ok
 | .bytes _ l _ => l.length ≤ 1024
 | .tx t => saneT t = true∧(∀ x ∈ t.ins,x.prev.length = 32)∧∀ x ∈ t.outs,x.val < 2 ^ 64
theorem tgetN_of {b : List UInt8} {t : TxR} {n : Nat} (h : tgetS b = (t,(n,0))) : tgetN b = (t,n,0):=by
 unfold tgetN;rw [h];rfl
theorem tak_put (p : PV) (hg : p.good) (r : List UInt8) (hr : p.tag = 4 → r = []) : p.tak (layL p ++ r) = (p.pl,(layL p).length,0):=by
 cases p with
 | u32 x =>
   show (PV.u32 (UInt32.ofNat (if (loN x.toNat 4 ++ r).length < 4 then 0 else numN (loN x.toNat 4 ++ r) 4)),4,if (loN x.toNat 4 ++ r).length < 4 then (1 : Int) else 0) = (PV.u32 x,(loN x.toNat 4).length,0)
   have hl : ¬ (loN x.toNat 4 ++ r).length < 4:=by rw [List.length_append,lo_len];omega
   rw [if_neg hl,if_neg hl,numN_lo _ _ 4 4 (Nat.le_refl _),Nat.mod_eq_of_lt (by have:=x.toNat_lt;omega),lo_len]
   congr 2
   exact UInt32.toNat_inj.1 (by rw [UInt32.toNat_ofNat',Nat.mod_eq_of_lt (by have:=x.toNat_lt;omega)])
 | u64 n =>
   show (PV.u64 (if (loN n 8 ++ r).length < 8 then 0 else numN (loN n 8 ++ r) 8),8,if (loN n 8 ++ r).length < 8 then (1 : Int) else 0) = (PV.u64 n,(loN n 8).length,0)
   have hl : ¬ (loN n 8 ++ r).length < 8:=by rw [List.length_append,lo_len];omega
   rw [if_neg hl,if_neg hl,numN_lo _ _ 8 8 (Nat.le_refl _),Nat.mod_eq_of_lt hg,lo_len]
 | hsh A l c most =>
   obtain ⟨h1,h2,h3⟩:=hg
   have e : layL (.hsh A l c most) ++ r = cptL l.length ++ (l.flatten ++ r):=by show (cptL l.length ++ l.flatten) ++ r = _;rw [List.append_assoc]
   have el : (layL (.hsh A l c most)).length = sizN l.length + l.length * 32:=by
    show (cptL l.length ++ l.flatten).length = _
    rw [List.length_append,cpt_len,flat32_len h3];omega
   have et : thsN (cptL l.length ++ (l.flatten ++ r)) most = (l,sizN l.length + l.length * 32,0):=by
    unfold thsN
    rw [bnd_put h1 (by omega),if_pos rfl]
    simp only
    rw [if_neg (by simp only [List.length_append,cpt_len,flat32_len h3];omega),hshs_put l (List.drop_left' (cpt_len _)) h3]
   rw [el,e]
   show (PV.hsh none (thsN _ most).1 0 most,(thsN _ most).2.1,(thsN _ most).2.2) = (PV.hsh none l 0 most,_,_)
   rw [et]
 | h32 s =>
   have hs : s.length = 32:=hg
   have hl : ¬ (s ++ r).length < 32:=by rw [List.length_append];omega
   show (PV.h32 ((s ++ r).take 32),(if (s ++ r).length < 32 then 0 else 32),if (s ++ r).length < 32 then (1 : Int) else 0) = (PV.h32 s,s.length,0)
   rw [if_neg hl,if_neg hl,List.take_left' hs,hs]
 | heads A l c =>
   obtain rfl:=hr rfl
   rw [List.append_nil]
   have et:=hgall_put hg.1 hg.2 []
   rw [List.append_nil,if_pos rfl] at et
   show (PV.heads none (hgall (hpall l)).1 0,(hpall l).length,(hgall (hpall l)).2) = (PV.heads none l 0,(hpall l).length,0)
   rw [et]
 | items A l c =>
   obtain ⟨h1,h3⟩:=hg
   have e : layL (.items A l c) ++ r = cptL l.length ++ (l.flatMap itL ++ r):=by show (cptL l.length ++ l.flatMap itL) ++ r = _;rw [List.append_assoc]
   have el : (layL (.items A l c)).length = sizN l.length + l.length * 36:=by
    show (cptL l.length ++ l.flatMap itL).length = _
    rw [List.length_append,cpt_len,itL_len h3];omega
   have et : titN (cptL l.length ++ (l.flatMap itL ++ r)) = (l,sizN l.length + l.length * 36,0):=by
    unfold titN
    rw [bnd_put h1 (by omega),if_pos rfl]
    simp only
    rw [if_neg (by simp only [List.length_append,cpt_len,itL_len h3];omega),itms_put l (List.drop_left' (cpt_len _)) h3]
   rw [el,e]
   show (PV.items none (titN _).1 0,(titN _).2.1,(titN _).2.2) = (PV.items none l 0,_,_)
   rw [et]
 | head h =>
   have hp:=hputL_len hg
   have hl : ¬ (hputL h ++ r).length < 80:=by rw [List.length_append];omega
   show (PV.head (hgetL ((hputL h ++ r).take 80)),80,if (hputL h ++ r).length < 80 then (1 : Int) else 0) = (PV.head h,(hputL h).length,0)
   rw [if_neg hl,List.take_left' hp,hget_put hg,hp]
 | bytes A l c =>
   have hl : l.length ≤ 1024:=hg
   have et:=byt_put (most:=1024) hl (by omega) r
   show (PV.bytes none (bytN (scL l ++ r) 1024).1 0,(bytN (scL l ++ r) 1024).2.1,(bytN (scL l ++ r) 1024).2.2) = (PV.bytes none l 0,(scL l).length,0)
   rw [et]
 | tx t =>
   obtain ⟨h1,h2,h3⟩:=hg
   have e : layL (.tx t) = txL t:=if_pos h1
   have q:=(tget_rd h1 h2 h3 r).2 (txL t ++ r).length (Nat.zero_le _) (Nat.le_refl _)
   have q1:=q.1 (by rw [List.length_append];omega)
   rw [List.take_length] at q1
   rw [e]
   show (PV.tx (tgetN (txL t ++ r)).1,(tgetN (txL t ++ r)).2.1,(tgetN (txL t ++ r)).2.2) = (PV.tx t.pl,(txL t).length,0)
   rw [tgetN_of q1]
theorem tak_sim (q p : PV) (b : List UInt8) (h1 : q.tag = p.tag) (h2 : q.mst = p.mst) : q.tak b = p.tak b:=by
 cases q <;> cases p <;> first | (exfalso;simp [PV.tag] at h1;done) | rfl | (obtain rfl:=h2;rfl)
theorem gets_put : ∀ (ps qs : List PV) (r : List UInt8),qs.map PV.tag = ps.map PV.tag → qs.map PV.mst = ps.map PV.mst → (∀ p ∈ ps,p.good) → (∀ p ∈ ps,p.tag ≠ 4) → getsN qs (ps.flatMap layL ++ r) = (ps.map PV.pl,r,0)
 | [],[],r,_,_,_,_ => rfl
 | [],_ :: _,_,h,_,_,_ => by cases h
 | _ :: _,[],_,h,_,_,_ => by cases h
 | p :: ps,q :: qs,r,h1,h2,hg,hn => by
   rw [List.map_cons,List.map_cons] at h1 h2
   injection h1 with h1 h1'
   injection h2 with h2 h2'
   have e : (p :: ps).flatMap layL ++ r = layL p ++ (ps.flatMap layL ++ r):=by rw [List.flatMap_cons,List.append_assoc]
   have t:=tak_put p (hg p (by simp)) (ps.flatMap layL ++ r) (fun e => absurd e (hn p (by simp)))
   have s:=tak_sim q p (layL p ++ (ps.flatMap layL ++ r)) h1 h2
   rw [t] at s
   rw [e,gets_ok q qs _ (by rw [s]),s]
   simp only
   rw [List.drop_left' rfl,gets_put ps qs r h1' h2' (fun x hx => hg x (by simp [hx])) (fun x hx => hn x (by simp [hx]))]
   rfl
end Go.Proofs.YtffpanlpbdnafaaDoor
/- What is put is got again, and not from less: messages. -/
set_option linter.unusedSimpArgs false
set_option linter.unusedVariables false
namespace Go.Proofs.YtffpanlpbdnafaaDoor
open Go.RowKit
theorem parts_sim (m : MsgR) : (partsM (msgZ m.kind)).map PV.tag = (partsM m).map PV.tag∧(partsM (msgZ m.kind)).map PV.mst = (partsM m).map PV.mst:=by
 unfold partsM
 rw [show (msgZ m.kind).kind = m.kind from rfl]
 by_cases h : m.kind = 0
 ·rw [if_pos h,if_pos h];exact ⟨rfl,rfl⟩
 rw [if_neg h,if_neg h];clear h
 by_cases h : m.kind = 2 ∨ m.kind = 3
 ·rw [if_pos h,if_pos h];exact ⟨rfl,rfl⟩
 rw [if_neg h,if_neg h];clear h
 by_cases h : m.kind = 4
 ·rw [if_pos h,if_pos h];exact ⟨rfl,rfl⟩
 rw [if_neg h,if_neg h];clear h
 by_cases h : m.kind = 5
 ·rw [if_pos h,if_pos h];exact ⟨rfl,rfl⟩
 rw [if_neg h,if_neg h];clear h
 by_cases h : m.kind = 6 ∨ m.kind = 7 ∨ m.kind = 8
 ·rw [if_pos h,if_pos h];exact ⟨rfl,rfl⟩
 rw [if_neg h,if_neg h];clear h
 by_cases h : m.kind = 9
 ·rw [if_pos h,if_pos h];exact ⟨rfl,rfl⟩
 rw [if_neg h,if_neg h];clear h
 by_cases h : m.kind = 10
 ·rw [if_pos h,if_pos h];exact ⟨rfl,rfl⟩
 rw [if_neg h,if_neg h];clear h
 exact ⟨rfl,rfl⟩
theorem parts_heads (m : MsgR) : (∀ p ∈ partsM m,p.tag = 4 → (partsM m).length = 1)∧(m.kind ≠ 5 → ∀ p ∈ partsM m,p.tag ≠ 4):=by
 unfold partsM
 by_cases h : m.kind = 0
 ·rw [if_pos h];refine ⟨fun p hp e => ?_,fun _ p hp e => ?_⟩ <;> (simp only [List.mem_cons,List.not_mem_nil,or_false] at hp;rcases hp with rfl | rfl | rfl <;> simp [PV.tag] at e)
 rw [if_neg h];clear h
 by_cases h : m.kind = 2 ∨ m.kind = 3
 ·rw [if_pos h];refine ⟨fun p hp e => ?_,fun _ p hp e => ?_⟩ <;> (simp only [List.mem_cons,List.not_mem_nil,or_false] at hp;rcases hp with rfl <;> simp [PV.tag] at e)
 rw [if_neg h];clear h
 by_cases h : m.kind = 4
 ·rw [if_pos h];refine ⟨fun p hp e => ?_,fun _ p hp e => ?_⟩ <;> (simp only [List.mem_cons,List.not_mem_nil,or_false] at hp;rcases hp with rfl | rfl | rfl <;> simp [PV.tag] at e)
 rw [if_neg h];clear h
 by_cases h : m.kind = 5
 ·rw [if_pos h];exact ⟨fun p hp _ => rfl,fun q => absurd h q⟩
 rw [if_neg h];clear h
 by_cases h : m.kind = 6 ∨ m.kind = 7 ∨ m.kind = 8
 ·rw [if_pos h];refine ⟨fun p hp e => ?_,fun _ p hp e => ?_⟩ <;> (simp only [List.mem_cons,List.not_mem_nil,or_false] at hp;rcases hp with rfl <;> simp [PV.tag] at e)
 rw [if_neg h];clear h
 by_cases h : m.kind = 9
 ·rw [if_pos h];refine ⟨fun p hp e => ?_,fun _ p hp e => ?_⟩ <;> (simp only [List.mem_cons,List.not_mem_nil,or_false] at hp;rcases hp with rfl | rfl | rfl | rfl <;> simp [PV.tag] at e)
 rw [if_neg h];clear h
 by_cases h : m.kind = 10
 ·rw [if_pos h];refine ⟨fun p hp e => ?_,fun _ p hp e => ?_⟩ <;> (simp only [List.mem_cons,List.not_mem_nil,or_false] at hp;rcases hp with rfl <;> simp [PV.tag] at e)
 rw [if_neg h];clear h
 exact ⟨(fun p hp _ => by cases hp),fun _ p hp _ => by cases hp⟩
theorem parts_good {m : MsgR} {w : World} (h : m.at_ w) (hf : fitsB m = true) : ∀ p ∈ partsM m,p.good:=by
 unfold fitsB at hf
 rw [decide_eq_true_eq] at hf
 obtain ⟨k0,k1,hl,hh,hi,hs,hb,ht,-⟩:=hf
 intro p hp
 unfold partsM at hp
 have o:=h.o
 have f1 : (PV.hsh m.lA m.ls m.lc 101).good:=⟨hl,by omega,o.l⟩
 have f2 : (PV.heads m.hA m.hs m.hc).good:=⟨hh,o.h⟩
 have f3 : (PV.items m.iA m.is m.ic).good:=⟨hi,o.i⟩
 have f4 : (PV.hsh m.sA m.shs m.sc 4096).good:=⟨hs,by omega,o.z⟩
 have f5 : (PV.bytes m.fA m.fs m.fc).good:=hb
 have f6 : (PV.u64 m.nonce).good:=o.n
 have f7 : (PV.h32 m.stop).good:=o.s
 have f8 : (PV.head m.bh).good:=o.b
 split at hp
 ·simp only [List.mem_cons,List.not_mem_nil,or_false] at hp
  rcases hp with rfl | rfl | rfl <;> first | trivial | assumption
 split at hp
 ·simp only [List.mem_cons,List.not_mem_nil,or_false] at hp
  subst hp;exact f6
 split at hp
 ·simp only [List.mem_cons,List.not_mem_nil,or_false] at hp
  rcases hp with rfl | rfl | rfl <;> first | trivial | assumption
 split at hp
 ·simp only [List.mem_cons,List.not_mem_nil,or_false] at hp
  subst hp;exact f2
 split at hp
 ·simp only [List.mem_cons,List.not_mem_nil,or_false] at hp
  subst hp;exact f3
 split at hp
 ·simp only [List.mem_cons,List.not_mem_nil,or_false] at hp
  rcases hp with rfl | rfl | rfl | rfl <;> first | trivial | assumption
 split at hp
 ·rename_i hk
  simp only [List.mem_cons,List.not_mem_nil,or_false] at hp
  subst hp
  exact ⟨ht hk,fun x hx => (h.t.is x hx).p,fun x hx => (h.t.os x hx).v⟩
 ·cases hp
theorem u32_zero {x : UInt32} (h : x.toNat = 0) : x = 0:=UInt32.toNat_inj.1 (by rw [h];rfl)
theorem nothing_spec {m : MsgR} (h : nothingB m = true) : (m.proto = 0∧m.nonce = 0∧m.height = 0∧m.stop = z32)∧(m.hs = []∧m.ls = []∧m.is = [])∧(m.bh = zHdr∧m.total = 0∧m.shs = []∧m.fs = [])∧(m.t.ver = 0∧m.t.ins = []∧m.t.outs = []∧m.t.lock = 0):=by
 unfold nothingB at h
 simp only [Bool.and_eq_true,beq_iff_eq,hdEq_iff] at h
 obtain ⟨⟨⟨⟨⟨⟨a1,a2⟩,a3⟩,a4⟩,⟨⟨b1,b2⟩,b3⟩⟩,⟨⟨⟨c1,c2⟩,c3⟩,c4⟩⟩,⟨⟨⟨d1,d2⟩,d3⟩,d4⟩⟩:=h
 refine ⟨⟨u32_zero (by omega),by omega,u32_zero (by omega),a4⟩,⟨List.eq_nil_of_length_eq_zero (by omega),List.eq_nil_of_length_eq_zero (by omega),List.eq_nil_of_length_eq_zero (by omega)⟩,⟨c1,u32_zero (by omega),List.eq_nil_of_length_eq_zero (by omega),List.eq_nil_of_length_eq_zero (by omega)⟩,⟨u32_zero (by omega),List.eq_nil_of_length_eq_zero (by omega),List.eq_nil_of_length_eq_zero (by omega),u32_zero (by omega)⟩⟩
theorem msgOf_parts {m : MsgR} (hf : fitsB m = true) : msgOf m.kind ((partsM m).map PV.pl) = m.pl:=by
 unfold fitsB at hf
 rw [decide_eq_true_eq] at hf
 obtain ⟨k0,k1,-,-,-,-,-,-,hn⟩:=hf
 have hs:=nothing_spec hn
 clear hn
 obtain ⟨k,p,n,h,hA,hh,hc,lA,ls,lc,stop,iA,is,ic,bh,total,sA,shs,sc,fA,fs,fc,⟨tv,tA,ti,tc,oA,tO,oc,tl⟩⟩:=m
 simp only at k0 k1
 obtain rfl | rfl | rfl | rfl | rfl | rfl | rfl | rfl | rfl | rfl | rfl : k = 0 ∨ k = 1 ∨ k = 2 ∨ k = 3 ∨ k = 4 ∨ k = 5 ∨ k = 6 ∨ k = 7 ∨ k = 8 ∨ k = 9 ∨ k = 10:=by omega
 all_goals
  simp only [othersM,if_true,if_false,reduceCtorEq,Int.reduceEq,Int.zero_ne_one,or_false,or_true,false_or,true_or,txZ] at hs
  obtain ⟨⟨a1,a2,a3,a4⟩,⟨b1,b2,b3⟩,⟨c1,c2,c3,c4⟩,⟨d1,d2,d3,d4⟩⟩:=hs
  (try subst a1);(try subst a2);(try subst a3);(try subst a4);(try subst b1);(try subst b2);(try subst b3);(try subst c1);(try subst c2);(try subst c3);(try subst c4);(try subst d1);(try subst d2);(try subst d3);(try subst d4)
  rfl
theorem fits_kind {m : MsgR} (hf : fitsB m = true) : 0 ≤ m.kind∧m.kind < 11:=by
 unfold fitsB at hf
 rw [decide_eq_true_eq] at hf
 exact ⟨hf.1,hf.2.1⟩
theorem wget_kind {m : MsgR} (hf : fitsB m = true) (b : List UInt8) : wgetN (nameL m.kind) b =
  if (getsN (partsM (msgZ m.kind)) b).2.2 = 0 then
   if (getsN (partsM (msgZ m.kind)) b).2.1 = [] then (msgOf m.kind (getsN (partsM (msgZ m.kind)) b).1,0) else (msgZ 0,2)
  else (msgZ 0,(getsN (partsM (msgZ m.kind)) b).2.2):=by
 have hk:=fits_kind hf
 unfold wgetN
 rw [kindN_name,if_pos hk]
 simp only
 rw [show ((m.kind.toNat : Nat) : Int) = m.kind by omega,if_true]
theorem parts5 {m : MsgR} (h : m.kind = 5) : partsM m = [.heads m.hA m.hs m.hc]:=by
 unfold partsM;rw [h];rfl
theorem gets5 {m : MsgR} {w : World} (h : m.at_ w) (hf : fitsB m = true) (h5 : m.kind = 5) (r : List UInt8) : getsN (partsM (msgZ m.kind)) ((partsM m).flatMap layL ++ r) = if r = [] then ((partsM m).map PV.pl,[],0) else ([],(partsM m).flatMap layL ++ r,2):=by
 have hg:=parts_good h hf (.heads m.hA m.hs m.hc) (by rw [parts5 h5];simp)
 rw [parts5 h5,parts5 (m:=msgZ m.kind) h5]
 have e : ([PV.heads m.hA m.hs m.hc] : List PV).flatMap layL = hpall m.hs:=by simp [layL]
 rw [e]
 have t : (PV.heads (msgZ m.kind).hA (msgZ m.kind).hs (msgZ m.kind).hc).tak (hpall m.hs ++ r) = (PV.heads none (hgall (hpall m.hs ++ r)).1 0,(hpall m.hs ++ r).length,(hgall (hpall m.hs ++ r)).2):=rfl
 have q:=hgall_put hg.1 hg.2 r
 by_cases hr : r = []
 ·subst hr
  rw [if_pos rfl] at q ⊢
  rw [q] at t
  rw [gets_ok _ _ _ (by rw [t]),t]
  simp only
  rw [List.drop_length,gets_nil]
  rfl
 ·rw [if_neg hr] at q ⊢
  rw [q] at t
  rw [gets_bad _ _ _ (by rw [t];exact (show ¬ ((2 : Int) = 0) by decide)),t]
theorem wget_put {m : MsgR} {w : World} (h : m.at_ w) (hf : fitsB m = true) : wgetN (nameL m.kind) (putL m) = (m.pl,0):=by
 rw [wget_kind hf,put_mk hf rfl]
 have e : getsN (partsM (msgZ m.kind)) ((partsM m).flatMap layL) = ((partsM m).map PV.pl,[],0):=by
  by_cases h5 : m.kind = 5
  ·have q:=gets5 h hf h5 []
   rwa [List.append_nil,if_pos rfl] at q
  ·have q:=gets_put (partsM m) (partsM (msgZ m.kind)) [] (parts_sim m).1 (parts_sim m).2 (parts_good h hf) ((parts_heads m).2 h5)
   rwa [List.append_nil] at q
 rw [e,if_pos rfl,if_pos rfl,msgOf_parts hf]
end Go.Proofs.YtffpanlpbdnafaaDoor
/- The reference's Command, of a name that may be; how long what a few message puts is. -/
set_option linter.unusedSimpArgs false
set_option linter.unusedVariables false
namespace Go.Proofs.YtffpanlpbdnafaaDoor
open Go.RowKit
attribute [local go_sem ↓] Go.wp_at_zero Go.wp_at_succ
theorem few_inL {x : InR} (hp : x.prev.length = 32) (hs : x.sc.length ≤ 300) : (inL x).length ≤ 10100:=inL_le hp (by omega)
theorem layL_few {m : MsgR} {w : World} (h : m.at_ w) (hf : fitsB m = true) (hw : fewM m = true) : ∀ p ∈ partsM m,(layL p).length ≤ 900000:=by
 unfold fewM fewT at hw
 rw [Bool.and_eq_true,decide_eq_true_eq,decide_eq_true_eq] at hw
 obtain ⟨⟨h1,h2,h3,h4,h5⟩,h6,h7,h8,h9⟩:=hw
 intro p hp
 have hpf:=parts_fit h hf p hp
 unfold partsM at hp
 have o:=h.o
 have f0 : ∀ x : UInt32,(layL (.u32 x)).length ≤ 900000:=fun x => by show (loN x.toNat 4).length ≤ _;rw [lo_len];omega
 have f1 : (layL (PV.hsh m.lA m.ls m.lc 101)).length ≤ 900000:=by show (cptL m.ls.length ++ m.ls.flatten).length ≤ _;rw [List.length_append,flat32_len o.l,cpt_len];have:=siz_le m.ls.length;omega
 have f2 : (layL (PV.heads m.hA m.hs m.hc)).length ≤ 900000:=by show (hpall m.hs).length ≤ _;unfold hpall;rw [List.length_append,cpt_len,hpa_len m.hs o.h];have:=siz_le m.hs.length;omega
 have f3 : (layL (PV.items m.iA m.is m.ic)).length ≤ 900000:=by show (cptL m.is.length ++ m.is.flatMap itL).length ≤ _;rw [List.length_append,itL_len o.i,cpt_len];have:=siz_le m.is.length;omega
 have f4 : (layL (PV.hsh m.sA m.shs m.sc 4096)).length ≤ 900000:=by show (cptL m.shs.length ++ m.shs.flatten).length ≤ _;rw [List.length_append,flat32_len o.z,cpt_len];have:=siz_le m.shs.length;omega
 have f5 : (layL (PV.bytes m.fA m.fs m.fc)).length ≤ 900000:=by show (cptL m.fs.length ++ m.fs).length ≤ _;rw [List.length_append,cpt_len];have:=siz_le m.fs.length;omega
 have f6 : ∀ n,(layL (PV.u64 n)).length ≤ 900000:=fun n => by show (loN n 8).length ≤ _;rw [lo_len];omega
 have f7 : (layL (PV.h32 m.stop)).length ≤ 900000:=by show m.stop.length ≤ _;rw [o.s];omega
 have f8 : (layL (PV.head m.bh)).length ≤ 900000:=by show (hputL m.bh).length ≤ _;rw [hputL_len o.b];omega
 have f9 : (txL m.t).length ≤ 900000:=by
  have g1:=fm_le inL 10100 m.t.ins fun x hx => few_inL (h.t.is x hx).p (h6 x hx)
  have g2:=fm_le outL 10100 m.t.outs fun x hx => outL_le (by have:=h7 x hx;omega)
  have g3:=siz_le m.t.ins.length;have g4:=siz_le m.t.outs.length
  have g5 : m.t.ins.length * 10100 ≤ 20 * 10100:=Nat.mul_le_mul_right _ h8
  have g6 : m.t.outs.length * 10100 ≤ 20 * 10100:=Nat.mul_le_mul_right _ h9
  unfold txL
  simp only [List.length_append,lo_len,cpt_len]
  omega
 split at hp
 ·simp only [List.mem_cons,List.not_mem_nil,or_false] at hp
  rcases hp with rfl | rfl | rfl <;> first | exact f0 _ | exact f6 _
 split at hp
 ·simp only [List.mem_cons,List.not_mem_nil,or_false] at hp
  subst hp;exact f6 _
 split at hp
 ·simp only [List.mem_cons,List.not_mem_nil,or_false] at hp
  rcases hp with rfl | rfl | rfl <;> first | exact f0 _ | assumption
 split at hp
 ·simp only [List.mem_cons,List.not_mem_nil,or_false] at hp
  subst hp;exact f2
 split at hp
 ·simp only [List.mem_cons,List.not_mem_nil,or_false] at hp
  subst hp;exact f3
 split at hp
 ·simp only [List.mem_cons,List.not_mem_nil,or_false] at hp
  rcases hp with rfl | rfl | rfl | rfl <;> first | exact f0 _ | assumption
 split at hp
 ·simp only [List.mem_cons,List.not_mem_nil,or_false] at hp
  subst hp
  show (if saneT m.t = true then txL m.t else []).length ≤ _
  by_cases hs : saneT m.t = true
  ·rw [if_pos hs];exact f9
  ·rw [if_neg hs];exact Nat.zero_le _
 ·cases hp
theorem put_few {m : MsgR} {w : World} (h : m.at_ w) (hw : fewM m = true) : (putL m).length ≤ 4000000:=by
 by_cases hf : fitsB m = true
 ·rw [put_mk hf rfl]
  have h1:=fm_le layL 900000 (partsM m) (layL_few h hf hw)
  have h2:=parts_len m
  have h3 : (partsM m).length * 900000 ≤ 4 * 900000:=Nat.mul_le_mul_right _ h2
  omega
 ·unfold putL;rw [if_neg hf];exact Nat.zero_le _
end Go.Proofs.YtffpanlpbdnafaaDoor
/- Same: of what is the same. (printed by gen_pg.py) -/
set_option linter.unusedSimpArgs false
set_option linter.unusedVariables false
namespace Go.Proofs.YtffpanlpbdnafaaDoor
open Go.RowKit
attribute [local go_sem ↓] Go.wp_at_zero Go.wp_at_succ
theorem hash_neqS {l : List UInt8} {cs ds : Array Value} (h : HashA l cs) (g : HashA l ds) (hl : l.length = 32) (w : World) :
  (Go.binOp .neq 39 (.agg cs) (.agg ds)).run Tryd.prog w = .ok (.bool false) w:=by
 rw [run_neq_struct,show (10000 : Nat) = 9998 + 2 from rfl,hash_eqIn 9998 h g hl hl,beq_self_eq_true]
 rfl
theorem hash_inS {l : List UInt8} {cs ds : Array Value} (h : HashA l cs) (g : HashA l ds) (hl : l.length = 32) (w : World) :
  (Op.equalIn 10000 39 (.agg cs) (.agg ds)).run Tryd.prog w = .ok true w:=by
 rw [show (10000 : Nat) = 9998 + 2 from rfl,hash_eqIn 9998 h g hl hl,beq_self_eq_true]
theorem hdEq_self (x : Hd) : hdEq x x = true:=(hdEq_iff x x).2 rfl
theorem hd_neqS {x : Hd} {cs ds : Array Value} (h : HdA x cs) (g : HdA x ds) (hl : x.ok) (w : World) :
  (Go.binOp .neq 42 (.agg cs) (.agg ds)).run Tryd.prog w = .ok (.bool false) w:=by
 rw [hd_neq h g hl hl,hdEq_self];rfl
theorem hd_inS {x : Hd} {cs ds : Array Value} (h : HdA x cs) (g : HdA x ds) (hl : x.ok) (w : World) :
  (Op.equalIn 10000 42 (.agg cs) (.agg ds)).run Tryd.prog w = .ok true w:=by
 rw [show (10000 : Nat) = 9997 + 3 from rfl,hd_eqIn 9997 h g hl hl,hdEq_self]
theorem hd_eqlS {x : Hd} {cs ds : Array Value} (h : HdA x cs) (g : HdA x ds) (hl : x.ok) (w : World) :
  (Go.binOp .eql 42 (.agg cs) (.agg ds)).run Tryd.prog w = .ok (.bool true) w:=by
 rw [hd_eql h g hl hl,hdEq_self]
theorem ritem_fields : ((Tryd.prog.fieldsOf 97).toList.map fun f => (f.name != "_", f.type, f.offset)) = [(true, 22, 0), (true, 39, 1)] := by kernel_rfl
theorem ritem_struct : Tryd.prog.underlying 97 = some (.struct (Tryd.prog.fieldsOf 97)):=by kernel_rfl
theorem ritem_stood : Tryd.prog.stoodInHeld 97 = false:=by kernel_rfl
theorem ritem_guard : Tryd.prog.eqGuardType Tryd.prog.depth 97 = false:=by kernel_rfl
theorem ritem_info : (Tryd.prog.info? 97).map (·.size) = some 33:=by kernel_rfl
structure ItB (x : Itm) (cs : Array Value) : Prop where
 l : cs.toList = x.cells
 z : cs.size = 33
 i : (Tryd.prog.info? 97).map (·.size) = some cs.size
 n : ¬ cs = #[]
 o : ∀ v ∈ cs.toList,v.oneCell' = true
theorem ItB.of {x : Itm} (h : x.ok) : ItB x x.cells.toArray:=by
 have hz : x.cells.toArray.size = 33:=by simpa using Itm.len h
 exact ⟨rfl,hz,by rw [hz];exact ritem_info,fun e => by rw [e] at hz;simp at hz,by simpa using x.one⟩
theorem ritem_inS {x : Itm} {cs ds : Array Value} (hc : ItB x cs) (hd : ItB x ds) (hk : x.ok) (w : World) :
  (Op.equalIn 10000 97 (.agg cs) (.agg ds)).run Tryd.prog w = .ok true w:=by
 have gc : ∀ k,cs[k]? = x.cells[k]?:=fun k => by rw [← hc.l,Array.getElem?_toList]
 have gd : ∀ k,ds[k]? = x.cells[k]?:=fun k => by rw [← hd.l,Array.getElem?_toList]
 have p1 : HashA x.h (cs.extract 1 33):=part_of hc.l 1 hk (by unfold Itm.cells;rw [List.drop_succ_cons,List.drop_zero,List.take_of_length_le (by rw [List.length_map];rw [show x.h.length = 32 from hk];omega)])
 have p2 : HashA x.h (ds.extract 1 33):=part_of hd.l 1 hk (by unfold Itm.cells;rw [List.drop_succ_cons,List.drop_zero,List.take_of_length_le (by rw [List.length_map];rw [show x.h.length = 32 from hk];omega)])
 rw [show (10000 : Nat) = 9999 + 1 from rfl,run_equalIn_agg w 9999 _ _ _ ritem_struct ritem_stood,eqF_of Tryd.prog,ritem_fields]
 have q:=eqF_step (P:=Tryd.prog) (d:=9999) (fs:=[(true,39,1)]) (part_u32 ((gc 0).trans rfl) w) (part_u32 ((gd 0).trans rfl) w) (eq_u32 9998 x.ty x.ty w) (eqF_step (fs:=[]) (s:=true) (part_hash _ _ w) (part_hash _ _ w) (hash_eqIn 9997 p1 p2 hk hk w) rfl)
 rw [beq_self_eq_true,beq_self_eq_true] at q
 exact q
theorem ritem_neqS {x : Itm} {cs ds : Array Value} (hc : ItB x cs) (hd : ItB x ds) (hk : x.ok) (w : World) :
  (Go.binOp .neq 97 (.agg cs) (.agg ds)).run Tryd.prog w = .ok (.bool false) w:=by
 rw [run_neq_struct,ritem_inS hc hd hk]
 rfl
set_option maxRecDepth 100000 in
set_option maxHeartbeats 2000000 in
theorem same03 (A : Option Addr) (l : List (List UInt8)) (c : Nat) (B : Option Addr) (d : Nat) (w : World) (ha : Rd w A (hsL l)) (hb : Rd w B (hsL l)) (ho : ∀ x ∈ l,x.length = 32) (hl : l.length ≤ 1000000) :
  Calls Tryd.prog 47 #[.slice A l.length c,.slice B l.length d] w fun e w' => e = .returned (.bool true)∧Keep w w':=by
 have hn1 : ((l.length : Int) != (l.length : Int)) = false:=by simp
 go_enter Tryd.func47,Tryd.ntmps47
 go_wp2_with fail
 go_loopw [5] (fun i wr => ∃ k : Nat,k ≤ l.length∧i = .int .i64 k∧Keep w wr) (fun i _ => l.length - (intOf i).toNat)
 case atStart => exact ⟨0,Nat.zero_le _,rfl,Below.refl _ _⟩
 case round =>
  obtain ⟨k,hk,rfl,hkr⟩:=hrel
  by_cases hlt : k < l.length
  ·obtain ⟨b,off,rfl,hbb,G1⟩:=hash_at ha ho hlt
   obtain ⟨b',off',rfl,hbb',G2⟩:=hash_at hb ho hlt
   have hx:=ho _ (List.getElem_mem hlt)
   generalize l[k] = x at G1 G2 hx
   obtain ⟨xv,hxv⟩ : ∃ xv,HashA x xv:=⟨_,HashA.of hx⟩
   have xz:=hxv.z;have xn:=hxv.n;have xi:=hxv.i
   have Hx0 : Hid (wr.rangeAt b (off + k * 32) xv.toList):=by rw [hxv.l];exact Lib.hid fun j v hv => keep_cell hkr (G1 j v hv)
   have Hy0 : Hid (wr.rangeAt b' (off' + k * 32) xv.toList):=by rw [hxv.l];exact Lib.hid fun j v hv => keep_cell hkr (G2 j v hv)
   have he : ∀ w,(Go.binOp .neq 39 (.agg xv) (.agg xv)).run Tryd.prog w = .ok (.bool false) w:=fun w => hash_neqS hxv hxv hx w
   have hi : ∀ w,(Op.equalIn 10000 39 (.agg xv) (.agg xv)).run Tryd.prog w = .ok true w:=fun w => hash_inS hxv hxv hx w
   have hgd:=hash_guard
   clear G1 G2 hxv hx
   go_upto_region 6 with fail
   refine wp_region_tree (.take [0,1,2,3,4,5,6,7,8] .done) [] (by kernel_rfl) (by kernel_rfl) (fun w3 k3 => ?_)
   have HK3:=Lib.hid (keep_trans hkr k3)
   have Hx : Hid (w3.rangeAt b (off + k * 32) xv.toList):=Lib.hid fun j v hv => keep_cell k3 (Hx0.out j v hv)
   have Hy : Hid (w3.rangeAt b' (off' + k * 32) xv.toList):=Lib.hid fun j v hv => keep_cell k3 (Hy0.out j v hv)
   clear k3 Hx0 Hy0 hkr
   refine mt_take w3 (Below.refl _ _) ?_
   simp only [pick_cons,pick_nil,nth_zero,nth_succ]
   repeat (first
    | ((with_reducible refine wpQuiet_load_partg b (off + k * 32) xv (Eq.trans ?_ rfl) Hx.out _ hash_under rfl xi (Eq.trans ?_ rfl) ?_);rfl;rfl;simp only [Act.put,Array.set!_eq_setIfInBounds,List.setIfInBounds_toArray,List.set_cons_succ,List.set_cons_zero])
    | ((with_reducible refine wpQuiet_load_partg b' (off' + k * 32) xv (Eq.trans ?_ rfl) Hy.out _ hash_under rfl xi (Eq.trans ?_ rfl) ?_);rfl;rfl;simp only [Act.put,Array.set!_eq_setIfInBounds,List.setIfInBounds_toArray,List.set_cons_succ,List.set_cons_zero])
    | go_big_quiet_step (fail))
   refine wpQuiet_nil (mt_end ?_)
   clear he hi
   go_wp2
   go_roundw
   case rel => exact ⟨k + 1,by omega,by go_num,HK3.out⟩
   case measure => simp [intOf];omega
  ·obtain rfl : k = l.length:=by omega
   have d4 : ¬ (l.length : Int) < l.length:=by omega
   go_wp2
   exact bodyPost_ret (v:=.bool true) (by simp [results,Tryd.results47]) rfl ⟨rfl,hkr⟩
set_option maxRecDepth 100000 in
set_option maxHeartbeats 2000000 in
theorem same07 (A : Option Addr) (l : List (Hd)) (c : Nat) (B : Option Addr) (d : Nat) (w : World) (ha : Rd w A (l.flatMap Hd.cells)) (hb : Rd w B (l.flatMap Hd.cells)) (ho : ∀ x ∈ l,x.ok) (hl : l.length ≤ 1000000) :
  Calls Tryd.prog 46 #[.slice A l.length c,.slice B l.length d] w fun e w' => e = .returned (.bool true)∧Keep w w':=by
 have hn1 : ((l.length : Int) != (l.length : Int)) = false:=by simp
 go_enter Tryd.func46,Tryd.ntmps46
 go_wp2_with fail
 go_loopw [5] (fun i wr => ∃ k : Nat,k ≤ l.length∧i = .int .i64 k∧Keep w wr) (fun i _ => l.length - (intOf i).toNat)
 case atStart => exact ⟨0,Nat.zero_le _,rfl,Below.refl _ _⟩
 case round =>
  obtain ⟨k,hk,rfl,hkr⟩:=hrel
  by_cases hlt : k < l.length
  ·obtain ⟨b,off,rfl,hbb,G1⟩:=heads_at ha ho hlt
   obtain ⟨b',off',rfl,hbb',G2⟩:=heads_at hb ho hlt
   have hx:=ho _ (List.getElem_mem hlt)
   generalize l[k] = x at G1 G2 hx
   obtain ⟨xv,hxv⟩ : ∃ xv,HdA x xv:=⟨_,HdA.of hx⟩
   have xz:=hxv.z;have xn:=hxv.n;have xi:=hxv.i
   have Hx0 : Hid (wr.rangeAt b (off + k * 68) xv.toList):=by rw [hxv.l];exact Lib.hid fun j v hv => keep_cell hkr (G1 j v hv)
   have Hy0 : Hid (wr.rangeAt b' (off' + k * 68) xv.toList):=by rw [hxv.l];exact Lib.hid fun j v hv => keep_cell hkr (G2 j v hv)
   have he : ∀ w,(Go.binOp .neq 42 (.agg xv) (.agg xv)).run Tryd.prog w = .ok (.bool false) w:=fun w => hd_neqS hxv hxv hx w
   have hi : ∀ w,(Op.equalIn 10000 42 (.agg xv) (.agg xv)).run Tryd.prog w = .ok true w:=fun w => hd_inS hxv hxv hx w
   have hgd:=hd_guard
   clear G1 G2 hxv hx
   go_upto_region 6 with fail
   refine wp_region_tree (.take [0,1,2,3,4,5,6,7,8] .done) [] (by kernel_rfl) (by kernel_rfl) (fun w3 k3 => ?_)
   have HK3:=Lib.hid (keep_trans hkr k3)
   have Hx : Hid (w3.rangeAt b (off + k * 68) xv.toList):=Lib.hid fun j v hv => keep_cell k3 (Hx0.out j v hv)
   have Hy : Hid (w3.rangeAt b' (off' + k * 68) xv.toList):=Lib.hid fun j v hv => keep_cell k3 (Hy0.out j v hv)
   clear k3 Hx0 Hy0 hkr
   refine mt_take w3 (Below.refl _ _) ?_
   simp only [pick_cons,pick_nil,nth_zero,nth_succ]
   repeat (first
    | ((with_reducible refine wpQuiet_load_partg b (off + k * 68) xv (Eq.trans ?_ rfl) Hx.out _ Tryd.underlying42 rfl xi (Eq.trans ?_ rfl) ?_);rfl;rfl;simp only [Act.put,Array.set!_eq_setIfInBounds,List.setIfInBounds_toArray,List.set_cons_succ,List.set_cons_zero])
    | ((with_reducible refine wpQuiet_load_partg b' (off' + k * 68) xv (Eq.trans ?_ rfl) Hy.out _ Tryd.underlying42 rfl xi (Eq.trans ?_ rfl) ?_);rfl;rfl;simp only [Act.put,Array.set!_eq_setIfInBounds,List.setIfInBounds_toArray,List.set_cons_succ,List.set_cons_zero])
    | go_big_quiet_step (fail))
   refine wpQuiet_nil (mt_end ?_)
   clear he hi
   go_wp2
   go_roundw
   case rel => exact ⟨k + 1,by omega,by go_num,HK3.out⟩
   case measure => simp [intOf];omega
  ·obtain rfl : k = l.length:=by omega
   have d4 : ¬ (l.length : Int) < l.length:=by omega
   go_wp2
   exact bodyPost_ret (v:=.bool true) (by simp [results,Tryd.results46]) rfl ⟨rfl,hkr⟩
end Go.Proofs.YtffpanlpbdnafaaDoor
/- Same: of transactions and messages that are the same. (printed by gen_ph.py) -/
set_option linter.unusedSimpArgs false
set_option linter.unusedVariables false
namespace Go.Proofs.YtffpanlpbdnafaaDoor
open Go.RowKit
attribute [local go_sem ↓] Go.wp_at_zero Go.wp_at_succ
theorem map_get {α β : Type} {f : α → β} {l r : List α} (h : l.map f = r.map f) {k : Nat} {x y : α} (hx : l[k]? = some x) (hy : r[k]? = some y) : f x = f y:=by
 have q:=congrArg (fun z : List β => z[k]?) h
 simp only [List.getElem?_map,hx,hy,Option.map_some] at q
 exact Option.some.inj q
set_option maxRecDepth 100000 in
set_option maxHeartbeats 8000000 in
theorem same08 (t s : TxR) (w : World) (ht : t.at w) (hs : s.at w) (hp : t.pl = s.pl) (hi : t.ins.length ≤ 1000000) (ho : t.outs.length ≤ 1000000) :
  Calls Tryd.prog 48 #[.agg #[u32v t.ver,.slice t.iA t.ins.length t.ic,.slice t.oA t.outs.length t.oc,u32v t.lock],.agg #[u32v s.ver,.slice s.iA s.ins.length s.ic,.slice s.oA s.outs.length s.oc,u32v s.lock]] w fun e w' => e = .returned (.bool true)∧Keep w w':=by
 have e1 : t.ver = s.ver:=(congrArg TxR.ver hp : t.pl.ver = s.pl.ver)
 have e2 : t.lock = s.lock:=(congrArg TxR.lock hp : t.pl.lock = s.pl.lock)
 have e3 : t.ins.map InR.pl = s.ins.map InR.pl:=congrArg TxR.ins hp
 have e4 : t.outs.map OutR.pl = s.outs.map OutR.pl:=congrArg TxR.outs hp
 have l3 : s.ins.length = t.ins.length:=by have:=congrArg List.length e3;simpa using this.symm
 have l4 : s.outs.length = t.outs.length:=by have:=congrArg List.length e4;simpa using this.symm
 have HI : Hid (∀ k,k < t.ins.length → ∃ (b off b' off' : Nat) (x y : InR) (xs ys : Array Value),t.iA = some ⟨b,off,none⟩∧s.iA = some ⟨b',off',none⟩∧InB x xs∧InB y ys∧w.rangeAt b (off + k * 35) xs.toList∧w.rangeAt b' (off' + k * 35) ys.toList∧x.at w∧y.at w∧x.prev = y.prev∧x.ix = y.ix∧x.sc = y.sc∧x.seq = y.seq):=Lib.hid fun k hk => by
  have hk2 : k < s.ins.length:=by omega
  obtain ⟨b,off,h1,-,h2⟩:=in_at ht.i (fun x hx => (ht.is x hx).p) hk
  obtain ⟨b',off',h1',-,h2'⟩:=in_at hs.i (fun x hx => (hs.is x hx).p) hk2
  have a1:=ht.is _ (List.getElem_mem hk);have a2:=hs.is _ (List.getElem_mem hk2)
  have q:=map_get e3 (List.getElem?_eq_getElem hk) (List.getElem?_eq_getElem hk2)
  exact ⟨b,off,b',off',_,_,_,_,h1,h1',InB.of a1.p,InB.of a2.p,by rw [(InB.of a1.p).l];exact h2,by rw [(InB.of a2.p).l];exact h2',a1,a2,(congrArg InR.prev q : (t.ins[k]).pl.prev = (s.ins[k]).pl.prev),(congrArg InR.ix q : (t.ins[k]).pl.ix = (s.ins[k]).pl.ix),(congrArg InR.sc q : (t.ins[k]).pl.sc = (s.ins[k]).pl.sc),(congrArg InR.seq q : (t.ins[k]).pl.seq = (s.ins[k]).pl.seq)⟩
 have HO : Hid (∀ k,k < t.outs.length → ∃ (b off b' off' : Nat) (x y : OutR),t.oA = some ⟨b,off,none⟩∧s.oA = some ⟨b',off',none⟩∧w.cell? ⟨b,off + k * 2,none⟩ = some (u64v x.val)∧w.cell? ⟨b,off + k * 2 + 1,none⟩ = some (.slice x.A x.sc.length x.cap)∧w.cell? ⟨b',off' + k * 2,none⟩ = some (u64v x.val)∧w.cell? ⟨b',off' + k * 2 + 1,none⟩ = some (.slice y.A x.sc.length y.cap)∧Rd w x.A (x.sc.map u8v)∧Rd w y.A (x.sc.map u8v)):=Lib.hid fun k hk => by
  have hk2 : k < s.outs.length:=by omega
  obtain ⟨b,off,h1,-,h2,h3⟩:=out_at ht.o hk
  obtain ⟨b',off',h1',-,h2',h3'⟩:=out_at hs.o hk2
  have a1:=ht.os _ (List.getElem_mem hk);have a2:=hs.os _ (List.getElem_mem hk2)
  have q:=map_get e4 (List.getElem?_eq_getElem hk) (List.getElem?_eq_getElem hk2)
  have q1 : t.outs[k].val = s.outs[k].val:=(congrArg OutR.val q : (t.outs[k]).pl.val = (s.outs[k]).pl.val)
  have q2 : t.outs[k].sc = s.outs[k].sc:=(congrArg OutR.sc q : (t.outs[k]).pl.sc = (s.outs[k]).pl.sc)
  refine ⟨b,off,b',off',_,s.outs[k],h1,h1',h2,h3,by rw [q1];exact h2',by rw [q2];exact h3',a1.r,by rw [q2];exact a2.r⟩
 rw [l3,l4,← e1,← e2]
 clear e3 e4 e1 e2 l3 l4 hp ht hs
 obtain ⟨ver,iA,ins,ic,oA,outs,oc,lock⟩:=t
 obtain ⟨ver',jA,ins',jc,pA,outs',pc,lock'⟩:=s
 simp only at *
 obtain ⟨n,hn⟩ : ∃ n,ins.length = n:=⟨_,rfl⟩
 obtain ⟨m,hm⟩ : ∃ m,outs.length = m:=⟨_,rfl⟩
 rw [hn] at HI hi ⊢
 rw [hm] at HO ho ⊢
 clear hn hm
 obtain ⟨zs,hz1,hz2,hz3⟩:=zrin_letter
 go_enter Tryd.func48,Tryd.ntmps48
 go_upto_region 1 with fail
 obtain ⟨w1,hw1⟩ : ∃ w1,w1 = (w.alloc (.cells #[u32v ver,.slice iA n ic,.slice oA m oc,u32v lock] 61)).alloc (.cells #[u32v ver,.slice jA n jc,.slice pA m pc,u32v lock] 61):=⟨_,rfl⟩
 have HX1 : Hid (Blk w1 w.heap.size 61 [u32v ver,.slice iA n ic,.slice oA m oc,u32v lock]):=by rw [hw1];exact Lib.hid ((Blk.new w 61 [u32v ver,.slice iA n ic,.slice oA m oc,u32v lock]).alloc _)
 have HY1 : Hid (Blk w1 (w.heap.size + 1) 61 [u32v ver,.slice jA n jc,.slice pA m pc,u32v lock]):=by
  rw [hw1]
  have q:=Blk.new (w.alloc (.cells #[u32v ver,.slice iA n ic,.slice oA m oc,u32v lock] 61)) 61 [u32v ver,.slice jA n jc,.slice pA m pc,u32v lock]
  rw [World.size_alloc] at q
  exact Lib.hid q
 have HK1 : Hid (Keep w w1):=by rw [hw1];exact Lib.hid (keep_trans (keep_new _ _) (keep_new _ _))
 rw [← hw1]
 clear hw1
 have x0:=HX1.out.cell 0;have x1:=HX1.out.cell 1;have x2:=HX1.out.cell 2;have x3:=HX1.out.cell 3
 have y0:=HY1.out.cell 0;have y1:=HY1.out.cell 1;have y2:=HY1.out.cell 2;have y3:=HY1.out.cell 3
 simp only [List.getElem?_cons_succ,List.getElem?_cons_zero] at x0 x1 x2 x3 y0 y1 y2 y3
 have X1:=Lib.hid x1;have Y1:=Lib.hid y1;have X2:=Lib.hid x2;have Y2:=Lib.hid y2
 try simp only [List.append_eq,List.cons_append,List.nil_append]
 go_upto_region 3 with fail
 clear x0 x1 x2 x3 y0 y1 y2 y3 HX1 HY1
 go_upto_block 0 with fail
 go_cut [] (fun wx => Hid (Keep w1 wx))
 case first =>
  go_wp2_with fail
  go_loopw [5] (fun i wr => ∃ k : Nat,k ≤ n∧i = .int .i64 k∧Hid (Keep w1 wr)) (fun i _ => n - (intOf i).toNat)
  case atStart => exact ⟨0,Nat.zero_le _,rfl,Lib.hid (Below.refl _ _)⟩
  case round =>
   obtain ⟨k,hk,rfl,HKr⟩:=hrel
   have x1:=keep_cell HKr.out X1.out;have y1:=keep_cell HKr.out Y1.out
   by_cases hlt : k < n
   ·obtain ⟨b,off,b',off',x,y,xs,ys,rfl,rfl,hxs,hys,hr1,hr2,a1,a2,q1,q2,q3,q4⟩:=HI.out k hlt
    have hxz:=hxs.z;have hxn:=hxs.n;have hxi:=hxs.i
    have hyz:=hys.z;have hyn:=hys.n;have hyi:=hys.i
    have kw:=keep_trans HK1.out HKr.out
    have RX:=Lib.hid (range_keep kw hr1);have RY:=Lib.hid (range_keep kw hr2)
    have hst : ∀ yy : World,(storeCells ⟨yy.heap.size,0,none⟩ xs.toList 0).run Tryd.prog (yy.alloc (.cells zs 119)) = .ok () (yy.alloc (.cells xs 119)):=fun yy => run_storeCells_new (P:=Tryd.prog) yy 119 zs xs hxi (hz1.trans hxz.symm) (by have:=all_oneCell_toArray hxs.o;rwa [Array.toArray_toList] at this)
    have hst2 : ∀ yy : World,(storeCells ⟨yy.heap.size,0,none⟩ ys.toList 0).run Tryd.prog (yy.alloc (.cells zs 119)) = .ok () (yy.alloc (.cells ys 119)):=fun yy => run_storeCells_new (P:=Tryd.prog) yy 119 zs ys hyi (hz1.trans hyz.symm) (by have:=all_oneCell_toArray hys.o;rwa [Array.toArray_toList] at this)
    have d4 : (k : Int) < n:=by omega
    have HXS:=Lib.hid hxs;have HYS:=Lib.hid hys
    have A1:=Lib.hid (a1.keep kw);have A2:=Lib.hid (a2.keep kw)
    have Q1:=Lib.hid q1;have Q2:=Lib.hid q2;have Q3:=Lib.hid q3;have Q4:=Lib.hid q4
    clear hxs hys hr1 hr2 a1 a2 q1 q2 q3 q4 kw HI
    go_upto_region 7 with ((with_reducible refine load_partg b (off + k * 35) xs (Eq.trans ?_ rfl) RX.out _ Tryd.underlying119 rfl hxi rfl ?_);rfl)
    obtain ⟨w2,hw2⟩ : ∃ w2,w2 = wr.alloc (.cells xs 119):=⟨_,rfl⟩
    have k2 : Keep wr w2:=by rw [hw2];exact keep_new _ _
    have HG2 : Hid (Blk w2 wr.heap.size 119 xs.toList):=by rw [hw2];exact Lib.hid (Blk.new wr _ xs.toList)
    rw [← hw2]
    have x1:=keep_cell k2 x1;have y1:=keep_cell k2 y1
    have RY2:=Lib.hid (range_keep k2 RY.out)
    have K2:=Lib.hid k2
    clear hw2 hst k2 RX RY
    go_upto_region 8 with ((with_reducible refine load_partg b' (off' + k * 35) ys (Eq.trans ?_ rfl) RY2.out _ Tryd.underlying119 rfl hyi rfl ?_);rfl)
    obtain ⟨w3,hw3⟩ : ∃ w3,w3 = w2.alloc (.cells ys 119):=⟨_,rfl⟩
    have k3 : Keep w2 w3:=by rw [hw3];exact keep_new _ _
    have HG3 : Hid (Blk w3 w2.heap.size 119 ys.toList):=by rw [hw3];exact Lib.hid (Blk.new w2 _ ys.toList)
    have HF3:=Lib.hid (HG2.out.keep k3)
    have K3:=Lib.hid (keep_trans K2.out k3)
    rw [← hw3]
    clear hw3 hst2 RY2 HG2 K2 k3 x1 y1
    generalize wr.heap.size = gx at *
    generalize w2.heap.size = gy at *
    obtain ⟨ss,hss⟩ : ∃ ss,HashA x.prev ss:=⟨_,HashA.of A1.out.p⟩
    have hsn:=hss.n;have hsz:=hss.z;have hsi:=hss.i
    have ne1 : ∀ w,(Go.binOp .neq 39 (.agg ss) (.agg ss)).run Tryd.prog w = .ok (.bool false) w:=fun w => hash_neqS hss hss A1.out.p w
    have ne2 : ∀ w,(Op.equalIn 10000 39 (.agg ss) (.agg ss)).run Tryd.prog w = .ok true w:=fun w => hash_inS hss hss A1.out.p w
    have hgd:=hash_guard
    have hsl : xs.toList = ss.toList ++ [u32v x.ix,.slice x.A x.sc.length x.cap,u32v x.seq]:=by rw [HXS.out.l,hss.l];rfl
    have hsl2 : ys.toList = ss.toList ++ [u32v x.ix,.slice y.A x.sc.length y.cap,u32v x.seq]:=by rw [HYS.out.l,hss.l,Q1.out,Q2.out,Q3.out,Q4.out];rfl
    have hsll : ss.toList.length = 32:=by rw [Array.length_toList];exact hsz
    have RS1 : Hid (w3.rangeAt gx 0 ss.toList):=Lib.hid (range_of HF3.out 0 ss.toList (by rw [hsl,List.drop_zero,List.take_left' rfl]))
    have RS2 : Hid (w3.rangeAt gy 0 ss.toList):=Lib.hid (range_of HG3.out 0 ss.toList (by rw [hsl2,List.drop_zero,List.take_left' rfl]))
    have x32 : w3.cell? ⟨gx,32,none⟩ = some (u32v x.ix):=by rw [HF3.out.cell,hsl,List.getElem?_append_right (by omega),hsll];rfl
    have x33 : w3.cell? ⟨gx,33,none⟩ = some (.slice x.A x.sc.length x.cap):=by rw [HF3.out.cell,hsl,List.getElem?_append_right (by omega),hsll];rfl
    have x34 : w3.cell? ⟨gx,34,none⟩ = some (u32v x.seq):=by rw [HF3.out.cell,hsl,List.getElem?_append_right (by omega),hsll];rfl
    have y32 : w3.cell? ⟨gy,32,none⟩ = some (u32v x.ix):=by rw [HG3.out.cell,hsl2,List.getElem?_append_right (by omega),hsll];rfl
    have y33 : w3.cell? ⟨gy,33,none⟩ = some (.slice y.A x.sc.length y.cap):=by rw [HG3.out.cell,hsl2,List.getElem?_append_right (by omega),hsll];rfl
    have y34 : w3.cell? ⟨gy,34,none⟩ = some (u32v x.seq):=by rw [HG3.out.cell,hsl2,List.getElem?_append_right (by omega),hsll];rfl
    have cv1 : (convert 26 9 (.slice x.A x.sc.length x.cap)).run Tryd.prog w3 = .ok (.string (str x.sc)) w3:=run_bytes_str Tryd.underlying26 Tryd.underlying5 Tryd.underlying9 x.cap (A1.out.r.keep K3.out)
    have cv2 : (convert 26 9 (.slice y.A x.sc.length y.cap)).run Tryd.prog w3 = .ok (.string (str x.sc)) w3:=run_bytes_str Tryd.underlying26 Tryd.underlying5 Tryd.underlying9 y.cap (by have q:=A2.out.r.keep K3.out;rwa [← Q3.out] at q)
    have s1 : (str x.sc == str x.sc) = true:=by rw [str_beq];exact decide_eq_true rfl
    have s2 : (x.sc == x.sc) = true:=beq_self_eq_true _
    have s3 : (str x.sc != str x.sc) = false:=by rw [str_bne,decide_eq_true rfl];rfl
    have s4 : (x.sc != x.sc) = false:=by rw [bne,s2];rfl
    have HKn:=Lib.hid (keep_trans HKr.out K3.out)
    clear hss hsl hsl2 hsll HXS HYS HG3 HF3 A1 A2 Q1 Q2 Q3 Q4 K3 HKr
    try simp only [List.append_eq,List.cons_append,List.nil_append]
    go_wp2_with (first | ((with_reducible refine load_partg gx 0 ss (Eq.trans ?_ rfl) RS1.out _ hash_under rfl hsi rfl ?_);rfl) | ((with_reducible refine load_partg gy 0 ss (Eq.trans ?_ rfl) RS2.out _ hash_under rfl hsi rfl ?_);rfl))
    clear cv1 cv2 x32 x33 x34 y32 y33 y34 ne1 ne2 s1 s2 s3 s4 RS1 RS2
    go_roundw
    case rel => exact ⟨k + 1,by omega,by go_num,HKn⟩
    case measure => simp [intOf];omega
   ·obtain rfl : k = n:=by omega
    have d4 : ¬ (k : Int) < k:=by omega
    clear HI
    go_wp2
    go_meet
    exact HKr
 case rest =>
  have HKC:=Lib.hid hcut.out
  clear hcut HI X1 Y1
  go_wp2_with fail
  go_loopw [8] (fun i wr => ∃ k : Nat,k ≤ m∧i = .int .i64 k∧Hid (Keep w1 wr)) (fun i _ => m - (intOf i).toNat)
  case atStart => exact ⟨0,Nat.zero_le _,rfl,HKC⟩
  case round =>
   obtain ⟨k,hk,rfl,HKr⟩:=hrel
   have x2:=keep_cell HKr.out X2.out;have y2:=keep_cell HKr.out Y2.out
   by_cases hlt : k < m
   ·obtain ⟨b,off,b',off',x,y,rfl,rfl,c0,c1,e0,e1,r1,r2⟩:=HO.out k hlt
    have d4 : (k : Int) < m:=by omega
    have kw:=keep_trans HK1.out HKr.out
    have c0:=keep_cell kw c0;have c1:=keep_cell kw c1;have e0:=keep_cell kw e0;have e1:=keep_cell kw e1
    have R1:=Lib.hid (r1.keep kw);have R2:=Lib.hid (r2.keep kw)
    clear r1 r2 kw HO
    go_upto_region 13 with fail
    refine wp_region_tree (.take [0,1,2,3,4,5,6,7,8,9,10,11,12,13,14,15,16,17,18,19,20,21,22,23,24,25,26,27,28,29] .done) [] (by kernel_rfl) (by kernel_rfl) (fun w3 k3 => ?_)
    have HK3:=Lib.hid (keep_trans HKr.out k3)
    have b0:=aft_cell (keep_cell k3 c0);have b1:=aft_cell (keep_cell k3 c1);have b2:=aft_cell (keep_cell k3 e0);have b3:=aft_cell (keep_cell k3 e1)
    have b4:=aft_cell (keep_cell k3 x2);have b5:=aft_cell (keep_cell k3 y2)
    have cv1 : ∀ z,(convert 26 9 (.slice x.A x.sc.length x.cap)).run Tryd.prog (aft w3 z) = .ok (.string (str x.sc)) (aft w3 z):=fun z => run_bytes_str Tryd.underlying26 Tryd.underlying5 Tryd.underlying9 x.cap ((R1.out.keep k3).keep (aft_keep w3 z))
    have cv2 : ∀ z,(convert 26 9 (.slice y.A x.sc.length y.cap)).run Tryd.prog (aft w3 z) = .ok (.string (str x.sc)) (aft w3 z):=fun z => run_bytes_str Tryd.underlying26 Tryd.underlying5 Tryd.underlying9 y.cap ((R2.out.keep k3).keep (aft_keep w3 z))
    have s1 : (str x.sc == str x.sc) = true:=by rw [str_beq];exact decide_eq_true rfl
    have s2 : (x.sc == x.sc) = true:=beq_self_eq_true _
    have s3 : (str x.sc != str x.sc) = false:=by rw [str_bne,decide_eq_true rfl];rfl
    have s4 : (x.sc != x.sc) = false:=by rw [bne,s2];rfl
    clear k3 c0 c1 e0 e1 x2 y2 R1 R2
    refine mt_take w3 (Below.refl _ _) ?_
    simp only [pick_cons,pick_nil,nth_zero,nth_succ]
    repeat (go_big_quiet_step (fail))
    refine wpQuiet_nil (mt_end ?_)
    clear b0 b1 b2 b3 b4 b5 cv1 cv2 s1 s2 s3 s4 HKr
    go_wp2
    go_roundw
    case rel => exact ⟨k + 1,by omega,by go_num,HK3⟩
    case measure => simp [intOf];omega
   ·obtain rfl : k = m:=by omega
    have d4 : ¬ (k : Int) < k:=by omega
    clear HO
    go_wp2
    exact bodyPost_ret (v:=.bool true) (by simp [results,Tryd.results48]) rfl ⟨rfl,keep_trans HK1.out HKr.out⟩
end Go.Proofs.YtffpanlpbdnafaaDoor
