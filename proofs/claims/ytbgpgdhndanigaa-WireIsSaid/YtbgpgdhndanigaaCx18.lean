/- Texts merged by pack.py: MgO. -/
import Derived.Test.YtbgpgdhndanigaaCx17
import Derived.Test.YtbgpgdhndanigaaCx9
/- Messages and transactions that came in, opened. (printed by gen_mgo.py) -/
set_option linter.unusedSimpArgs false
set_option linter.unusedVariables false
namespace Go.Proofs.Ytbgpgdhndanigaa
open Go.RowKit Go.ChangeShapes Go.WideShapes Go.ChangeAt Go.Deep
theorem u64_openJ {H : Type} {enc : TypeId × Value → H} {w : World} {spare : Nat → Bool} {held : Bool} {fuel : Nat} {cs : List Value} {x : DataW H × List MemPlace}
  (h : DataW.trod enc Try.prog w 0 spare held fuel 23 cs = some x) : ∃ n : Nat,cs = [u64v n]∧n < 2 ^ 64:=by
 obtain ⟨k,ek,_,wk⟩:=DataW.trod_int Try.underlying23 h
 have hb : 0 ≤ k∧k ≤ 18446744073709551615:=by simpa [Lit.wf,IntKind.min,IntKind.max,IntKind.signed,IntKind.bits] using wk
 refine ⟨k.toNat,?_,by omega⟩
 rw [ek];congr 1
 show Value.int .u64 k = Value.int .u64 ((k.toNat : Nat) : Int)
 rw [show ((k.toNat : Nat) : Int) = k by omega]
theorem int_openJ {H : Type} {enc : TypeId × Value → H} {w : World} {spare : Nat → Bool} {held : Bool} {fuel : Nat} {cs : List Value} {x : DataW H × List MemPlace}
  (h : DataW.trod enc Try.prog w 0 spare held fuel 3 cs = some x) : ∃ n : Int,cs = [.int .i64 n]∧-9223372036854775808 ≤ n∧n ≤ 9223372036854775807:=by
 obtain ⟨k,ek,_,wk⟩:=DataW.trod_int Try.underlying3 h
 exact ⟨k,ek,by simpa [Lit.wf,IntKind.min,IntKind.max,IntKind.signed,IntKind.bits] using wk⟩
theorem byteS_openJ {H : Type} {enc : TypeId × Value → H} {w : World} {spare : Nat → Bool} {held : Bool} {fuel : Nat} {cs : List Value} {x : DataW H × List MemPlace}
  (h : DataW.trod enc Try.prog w 0 spare held fuel 31 cs = some x) : ∃ (A : Option Addr) (l : List UInt8) (c : Nat),cs = [.slice A l.length c]∧l.length ≤ c∧c ≤ maxLen∧Rd w A (l.map u8v) :=
 bytes_open Try.underlying31 Try.underlying5 cellsByte h
theorem hashs_openJ {H : Type} {enc : TypeId × Value → H} {w : World} {spare : Nat → Bool} {held : Bool} {fuel : Nat} {cs : List Value} {x : DataW H × List MemPlace}
  (h : DataW.trod enc Try.prog w 0 spare held fuel 25 cs = some x) : ∃ (A : Option Addr) (l : List (List UInt8)) (c : Nat),cs = [.slice A l.length c]∧l.length ≤ c∧c ≤ maxLen∧Rd w A (hsL l)∧∀ y ∈ l,y.length = 32:=by
 obtain ⟨A,n,c,Cs,rfl,h1,h2,rfl,h3,h4⟩:=slice_open Try.underlying25 cellsHashJ (by omega) h
 obtain ⟨l,rfl,hok⟩:=list_choose (f:=fun z : List UInt8 => z.map u8v) (p:=fun z => z.length = 32) Cs fun y hy => by
  obtain ⟨_,m,z,hz⟩:=h4 y hy
  exact hash_openJ hz
 refine ⟨A,l,c,by simp,by simpa using h1,h2,?_,hok⟩
 rwa [← List.flatMap_def] at h3
theorem key_openJ (l : List Value) (i k : Nat) : l.drop i = (l.drop i).take k ++ l.drop (i + k):=by
 have h1:=(List.take_append_drop k (l.drop i)).symm
 rwa [List.drop_drop] at h1
theorem cells_ritem : Try.prog.cellsOf 69 = 33:=by kernel_rfl
theorem cells_ritem_0 : Try.prog.cellsOf 22 = 1:=by kernel_rfl
theorem cells_ritem_1 : Try.prog.cellsOf 27 = 32:=by kernel_rfl
theorem ritem_openJ {H : Type} {enc : TypeId × Value → H} {w : World} {spare : Nat → Bool} {held : Bool} {fuel : Nat} {cs : List Value} {x : DataW H × List MemPlace}
  (h : DataW.trod enc Try.prog w 0 spare held fuel 69 cs = some x) : ∃ r : Itm,cs = r.cells∧r.ok:=by
 obtain ⟨xs,n,_,_,hl,hx,F⟩:=DataW.trod_struct Try.underlying69 h
 rw [cells_ritem] at hl
 have hx' : xs.length = 2:=hx
 have g : ∀ (i : Nat) (hi : i < 2),xs[i]? = some (xs[i]'(by omega)):=fun i hi => List.getElem?_eq_getElem (by omega)
 have f0 : DataW.trod enc Try.prog w 0 spare held n 22 ((cs.drop 0).take (Try.prog.cellsOf 22)) = some _:=(F 0 _ rfl).trans (g 0 (by omega))
 have f1 : DataW.trod enc Try.prog w 0 spare held n 27 ((cs.drop 1).take (Try.prog.cellsOf 27)) = some _:=(F 1 _ rfl).trans (g 1 (by omega))
 rw [cells_ritem_0] at f0
 rw [cells_ritem_1] at f1
 obtain ⟨t,e0⟩:=word_openJ f0
 obtain ⟨l,e1,hl⟩:=hash_openJ f1
 have e : cs = cs.drop 0:=rfl
 have hcs : cs = u32v t :: l.map u8v:=by
  rw [e,key_openJ cs 0 1,e0,key_openJ cs (0 + 1) 32,e1,List.drop_eq_nil_of_le (by omega)]
  simp
 exact ⟨⟨t,l⟩,hcs,hl⟩
theorem cells_rin : Try.prog.cellsOf 97 = 35:=by kernel_rfl
theorem cells_rin_0 : Try.prog.cellsOf 27 = 32:=by kernel_rfl
theorem cells_rin_1 : Try.prog.cellsOf 22 = 1:=by kernel_rfl
theorem cells_rin_2 : Try.prog.cellsOf 31 = 1:=by kernel_rfl
theorem cells_rin_3 : Try.prog.cellsOf 22 = 1:=by kernel_rfl
theorem rin_openJ {H : Type} {enc : TypeId × Value → H} {w : World} {spare : Nat → Bool} {held : Bool} {fuel : Nat} {cs : List Value} {x : DataW H × List MemPlace}
  (h : DataW.trod enc Try.prog w 0 spare held fuel 97 cs = some x) : ∃ r : InR,cs = r.cells∧r.at w:=by
 obtain ⟨xs,n,_,_,hl,hx,F⟩:=DataW.trod_struct Try.underlying97 h
 rw [cells_rin] at hl
 have hx' : xs.length = 4:=hx
 have g : ∀ (i : Nat) (hi : i < 4),xs[i]? = some (xs[i]'(by omega)):=fun i hi => List.getElem?_eq_getElem (by omega)
 have f0 : DataW.trod enc Try.prog w 0 spare held n 27 ((cs.drop 0).take (Try.prog.cellsOf 27)) = some _:=(F 0 _ rfl).trans (g 0 (by omega))
 have f1 : DataW.trod enc Try.prog w 0 spare held n 22 ((cs.drop 32).take (Try.prog.cellsOf 22)) = some _:=(F 1 _ rfl).trans (g 1 (by omega))
 have f2 : DataW.trod enc Try.prog w 0 spare held n 31 ((cs.drop 33).take (Try.prog.cellsOf 31)) = some _:=(F 2 _ rfl).trans (g 2 (by omega))
 have f3 : DataW.trod enc Try.prog w 0 spare held n 22 ((cs.drop 34).take (Try.prog.cellsOf 22)) = some _:=(F 3 _ rfl).trans (g 3 (by omega))
 rw [cells_rin_0] at f0
 rw [cells_rin_1] at f1
 rw [cells_rin_2] at f2
 rw [cells_rin_3] at f3
 obtain ⟨p,e0,hp⟩:=hash_openJ f0
 obtain ⟨t,e1⟩:=word_openJ f1
 obtain ⟨A,l,c,e2,h1,h2,h3⟩:=byteS_openJ f2
 obtain ⟨s,e3⟩:=word_openJ f3
 have e : cs = cs.drop 0:=rfl
 have hcs : cs = p.map u8v ++ [u32v t,.slice A l.length c,u32v s]:=by
  rw [e,key_openJ cs 0 32,e0,key_openJ cs (0 + 32) 1,e1,key_openJ cs (0 + 32 + 1) 1,e2,key_openJ cs (0 + 32 + 1 + 1) 1,e3,List.drop_eq_nil_of_le (by omega)]
  simp
 exact ⟨⟨p,t,A,l,c,s⟩,hcs,hp,⟨h1,h2⟩,h3⟩
theorem cells_rout : Try.prog.cellsOf 99 = 2:=by kernel_rfl
theorem cells_rout_0 : Try.prog.cellsOf 23 = 1:=by kernel_rfl
theorem cells_rout_1 : Try.prog.cellsOf 31 = 1:=by kernel_rfl
theorem rout_openJ {H : Type} {enc : TypeId × Value → H} {w : World} {spare : Nat → Bool} {held : Bool} {fuel : Nat} {cs : List Value} {x : DataW H × List MemPlace}
  (h : DataW.trod enc Try.prog w 0 spare held fuel 99 cs = some x) : ∃ r : OutR,cs = r.cells∧r.at w:=by
 obtain ⟨xs,n,_,_,hl,hx,F⟩:=DataW.trod_struct Try.underlying99 h
 rw [cells_rout] at hl
 have hx' : xs.length = 2:=hx
 have g : ∀ (i : Nat) (hi : i < 2),xs[i]? = some (xs[i]'(by omega)):=fun i hi => List.getElem?_eq_getElem (by omega)
 have f0 : DataW.trod enc Try.prog w 0 spare held n 23 ((cs.drop 0).take (Try.prog.cellsOf 23)) = some _:=(F 0 _ rfl).trans (g 0 (by omega))
 have f1 : DataW.trod enc Try.prog w 0 spare held n 31 ((cs.drop 1).take (Try.prog.cellsOf 31)) = some _:=(F 1 _ rfl).trans (g 1 (by omega))
 rw [cells_rout_0] at f0
 rw [cells_rout_1] at f1
 obtain ⟨n1,e0,hn⟩:=u64_openJ f0
 obtain ⟨A,l,c,e1,h1,h2,h3⟩:=byteS_openJ f1
 have e : cs = cs.drop 0:=rfl
 have hcs : cs = [u64v n1,.slice A l.length c]:=by
  rw [e,key_openJ cs 0 1,e0,key_openJ cs (0 + 1) 1,e1,List.drop_eq_nil_of_le (by omega)]
  simp
 exact ⟨⟨n1,A,l,c⟩,hcs,hn,⟨h1,h2⟩,h3⟩
theorem ritems_openJ {H : Type} {enc : TypeId × Value → H} {w : World} {spare : Nat → Bool} {held : Bool} {fuel : Nat} {cs : List Value} {x : DataW H × List MemPlace}
  (h : DataW.trod enc Try.prog w 0 spare held fuel 28 cs = some x) : ∃ (A : Option Addr) (l : List Itm) (c : Nat),cs = [.slice A l.length c]∧l.length ≤ c∧c ≤ maxLen∧Rd w A (l.flatMap Itm.cells)∧∀ y ∈ l,y.ok:=by
 obtain ⟨A,n,c,Cs,rfl,h1,h2,rfl,h3,h4⟩:=slice_open Try.underlying28 cells_ritem (by omega) h
 obtain ⟨l,rfl,hok⟩:=list_choose (f:=Itm.cells) (p:=fun y => y.ok) Cs fun y hy => by
  obtain ⟨_,m,z,hz⟩:=h4 y hy
  exact ritem_openJ hz
 refine ⟨A,l,c,by simp,by simpa using h1,h2,?_,hok⟩
 rwa [← List.flatMap_def] at h3
theorem rins_openJ {H : Type} {enc : TypeId × Value → H} {w : World} {spare : Nat → Bool} {held : Bool} {fuel : Nat} {cs : List Value} {x : DataW H × List MemPlace}
  (h : DataW.trod enc Try.prog w 0 spare held fuel 34 cs = some x) : ∃ (A : Option Addr) (l : List InR) (c : Nat),cs = [.slice A l.length c]∧l.length ≤ c∧c ≤ maxLen∧Rd w A (l.flatMap InR.cells)∧∀ y ∈ l,y.at w:=by
 obtain ⟨A,n,c,Cs,rfl,h1,h2,rfl,h3,h4⟩:=slice_open Try.underlying34 cells_rin (by omega) h
 obtain ⟨l,rfl,hok⟩:=list_choose (f:=InR.cells) (p:=fun y => y.at w) Cs fun y hy => by
  obtain ⟨_,m,z,hz⟩:=h4 y hy
  exact rin_openJ hz
 refine ⟨A,l,c,by simp,by simpa using h1,h2,?_,hok⟩
 rwa [← List.flatMap_def] at h3
theorem routs_openJ {H : Type} {enc : TypeId × Value → H} {w : World} {spare : Nat → Bool} {held : Bool} {fuel : Nat} {cs : List Value} {x : DataW H × List MemPlace}
  (h : DataW.trod enc Try.prog w 0 spare held fuel 35 cs = some x) : ∃ (A : Option Addr) (l : List OutR) (c : Nat),cs = [.slice A l.length c]∧l.length ≤ c∧c ≤ maxLen∧Rd w A (l.flatMap OutR.cells)∧∀ y ∈ l,y.at w:=by
 obtain ⟨A,n,c,Cs,rfl,h1,h2,rfl,h3,h4⟩:=slice_open Try.underlying35 cells_rout (by omega) h
 obtain ⟨l,rfl,hok⟩:=list_choose (f:=OutR.cells) (p:=fun y => y.at w) Cs fun y hy => by
  obtain ⟨_,m,z,hz⟩:=h4 y hy
  exact rout_openJ hz
 refine ⟨A,l,c,by simp,by simpa using h1,h2,?_,hok⟩
 rwa [← List.flatMap_def] at h3
theorem cells_rtx : Try.prog.cellsOf 37 = 4:=by kernel_rfl
theorem cells_rtx_0 : Try.prog.cellsOf 22 = 1:=by kernel_rfl
theorem cells_rtx_1 : Try.prog.cellsOf 34 = 1:=by kernel_rfl
theorem cells_rtx_2 : Try.prog.cellsOf 35 = 1:=by kernel_rfl
theorem cells_rtx_3 : Try.prog.cellsOf 22 = 1:=by kernel_rfl
theorem rtx_openJ {H : Type} {enc : TypeId × Value → H} {w : World} {spare : Nat → Bool} {held : Bool} {fuel : Nat} {cs : List Value} {x : DataW H × List MemPlace}
  (h : DataW.trod enc Try.prog w 0 spare held fuel 37 cs = some x) : ∃ t : TxR,cs = t.cells∧t.at w:=by
 obtain ⟨xs,n,_,_,hl,hx,F⟩:=DataW.trod_struct Try.underlying37 h
 rw [cells_rtx] at hl
 have hx' : xs.length = 4:=hx
 have g : ∀ (i : Nat) (hi : i < 4),xs[i]? = some (xs[i]'(by omega)):=fun i hi => List.getElem?_eq_getElem (by omega)
 have f0 : DataW.trod enc Try.prog w 0 spare held n 22 ((cs.drop 0).take (Try.prog.cellsOf 22)) = some _:=(F 0 _ rfl).trans (g 0 (by omega))
 have f1 : DataW.trod enc Try.prog w 0 spare held n 34 ((cs.drop 1).take (Try.prog.cellsOf 34)) = some _:=(F 1 _ rfl).trans (g 1 (by omega))
 have f2 : DataW.trod enc Try.prog w 0 spare held n 35 ((cs.drop 2).take (Try.prog.cellsOf 35)) = some _:=(F 2 _ rfl).trans (g 2 (by omega))
 have f3 : DataW.trod enc Try.prog w 0 spare held n 22 ((cs.drop 3).take (Try.prog.cellsOf 22)) = some _:=(F 3 _ rfl).trans (g 3 (by omega))
 rw [cells_rtx_0] at f0
 rw [cells_rtx_1] at f1
 rw [cells_rtx_2] at f2
 rw [cells_rtx_3] at f3
 obtain ⟨v,e0⟩:=word_openJ f0
 obtain ⟨A,l,c,e1,h1,h2,h3,h4⟩:=rins_openJ f1
 obtain ⟨B,r,d,e2,g1,g2,g3,g4⟩:=routs_openJ f2
 obtain ⟨k,e3⟩:=word_openJ f3
 have e : cs = cs.drop 0:=rfl
 have hcs : cs = [u32v v,.slice A l.length c,.slice B r.length d,u32v k]:=by
  rw [e,key_openJ cs 0 1,e0,key_openJ cs (0 + 1) 1,e1,key_openJ cs (0 + 1 + 1) 1,e2,key_openJ cs (0 + 1 + 1 + 1) 1,e3,List.drop_eq_nil_of_le (by omega)]
  simp
 exact ⟨⟨v,A,l,c,B,r,d,k⟩,hcs,⟨h3,g3,⟨h1,h2⟩,⟨g1,g2⟩,h4,g4⟩⟩
theorem cells_rblock : Try.prog.cellsOf 33 = 71:=by kernel_rfl
theorem cells_rblock_0 : Try.prog.cellsOf 30 = 68:=by kernel_rfl
theorem cells_rblock_1 : Try.prog.cellsOf 22 = 1:=by kernel_rfl
theorem cells_rblock_2 : Try.prog.cellsOf 25 = 1:=by kernel_rfl
theorem cells_rblock_3 : Try.prog.cellsOf 31 = 1:=by kernel_rfl
theorem rblock_openJ {H : Type} {enc : TypeId × Value → H} {w : World} {spare : Nat → Bool} {held : Bool} {fuel : Nat} {cs : List Value} {x : DataW H × List MemPlace}
  (h : DataW.trod enc Try.prog w 0 spare held fuel 33 cs = some x) : ∃ (r : Hd) (t : UInt32) (A : Option Addr) (l : List (List UInt8)) (c : Nat) (B : Option Addr) (f : List UInt8) (d : Nat),cs = r.cells ++ [u32v t,.slice A l.length c,.slice B f.length d]∧r.ok∧(l.length ≤ c∧c ≤ maxLen)∧Rd w A (hsL l)∧(∀ y ∈ l,y.length = 32)∧(f.length ≤ d∧d ≤ maxLen)∧Rd w B (f.map u8v):=by
 obtain ⟨xs,n,_,_,hl,hx,F⟩:=DataW.trod_struct Try.underlying33 h
 rw [cells_rblock] at hl
 have hx' : xs.length = 4:=hx
 have g : ∀ (i : Nat) (hi : i < 4),xs[i]? = some (xs[i]'(by omega)):=fun i hi => List.getElem?_eq_getElem (by omega)
 have f0 : DataW.trod enc Try.prog w 0 spare held n 30 ((cs.drop 0).take (Try.prog.cellsOf 30)) = some _:=(F 0 _ rfl).trans (g 0 (by omega))
 have f1 : DataW.trod enc Try.prog w 0 spare held n 22 ((cs.drop 68).take (Try.prog.cellsOf 22)) = some _:=(F 1 _ rfl).trans (g 1 (by omega))
 have f2 : DataW.trod enc Try.prog w 0 spare held n 25 ((cs.drop 69).take (Try.prog.cellsOf 25)) = some _:=(F 2 _ rfl).trans (g 2 (by omega))
 have f3 : DataW.trod enc Try.prog w 0 spare held n 31 ((cs.drop 70).take (Try.prog.cellsOf 31)) = some _:=(F 3 _ rfl).trans (g 3 (by omega))
 rw [cells_rblock_0] at f0
 rw [cells_rblock_1] at f1
 rw [cells_rblock_2] at f2
 rw [cells_rblock_3] at f3
 obtain ⟨r,e0,hr⟩:=header_openJ f0
 obtain ⟨t,e1⟩:=word_openJ f1
 obtain ⟨A,l,c,e2,h1,h2,h3,h4⟩:=hashs_openJ f2
 obtain ⟨B,f,d,e3,g1,g2,g3⟩:=byteS_openJ f3
 have e : cs = cs.drop 0:=rfl
 have hcs : cs = r.cells ++ [u32v t,.slice A l.length c,.slice B f.length d]:=by
  rw [e,key_openJ cs 0 68,e0,key_openJ cs (0 + 68) 1,e1,key_openJ cs (0 + 68 + 1) 1,e2,key_openJ cs (0 + 68 + 1 + 1) 1,e3,List.drop_eq_nil_of_le (by omega)]
  simp
 exact ⟨r,t,A,l,c,B,f,d,hcs,hr,⟨h1,h2⟩,h3,h4,⟨g1,g2⟩,g3⟩
theorem cells_rmsg : Try.prog.cellsOf 39 = 114:=by kernel_rfl
theorem cells_rmsg_0 : Try.prog.cellsOf 3 = 1:=by kernel_rfl
theorem cells_rmsg_1 : Try.prog.cellsOf 22 = 1:=by kernel_rfl
theorem cells_rmsg_2 : Try.prog.cellsOf 23 = 1:=by kernel_rfl
theorem cells_rmsg_3 : Try.prog.cellsOf 22 = 1:=by kernel_rfl
theorem cells_rmsg_4 : Try.prog.cellsOf 24 = 1:=by kernel_rfl
theorem cells_rmsg_5 : Try.prog.cellsOf 25 = 1:=by kernel_rfl
theorem cells_rmsg_6 : Try.prog.cellsOf 27 = 32:=by kernel_rfl
theorem cells_rmsg_7 : Try.prog.cellsOf 28 = 1:=by kernel_rfl
theorem cells_rmsg_8 : Try.prog.cellsOf 33 = 71:=by kernel_rfl
theorem cells_rmsg_9 : Try.prog.cellsOf 37 = 4:=by kernel_rfl
theorem rmsg_openJ {H : Type} {enc : TypeId × Value → H} {w : World} {spare : Nat → Bool} {held : Bool} {fuel : Nat} {cs : List Value} {x : DataW H × List MemPlace}
  (h : DataW.trod enc Try.prog w 0 spare held fuel 39 cs = some x) : ∃ m : MsgR,cs = m.cells∧m.at_ w:=by
 obtain ⟨xs,n,_,_,hl,hx,F⟩:=DataW.trod_struct Try.underlying39 h
 rw [cells_rmsg] at hl
 have hx' : xs.length = 10:=hx
 have g : ∀ (i : Nat) (hi : i < 10),xs[i]? = some (xs[i]'(by omega)):=fun i hi => List.getElem?_eq_getElem (by omega)
 have f0 : DataW.trod enc Try.prog w 0 spare held n 3 ((cs.drop 0).take (Try.prog.cellsOf 3)) = some _:=(F 0 _ rfl).trans (g 0 (by omega))
 have f1 : DataW.trod enc Try.prog w 0 spare held n 22 ((cs.drop 1).take (Try.prog.cellsOf 22)) = some _:=(F 1 _ rfl).trans (g 1 (by omega))
 have f2 : DataW.trod enc Try.prog w 0 spare held n 23 ((cs.drop 2).take (Try.prog.cellsOf 23)) = some _:=(F 2 _ rfl).trans (g 2 (by omega))
 have f3 : DataW.trod enc Try.prog w 0 spare held n 22 ((cs.drop 3).take (Try.prog.cellsOf 22)) = some _:=(F 3 _ rfl).trans (g 3 (by omega))
 have f4 : DataW.trod enc Try.prog w 0 spare held n 24 ((cs.drop 4).take (Try.prog.cellsOf 24)) = some _:=(F 4 _ rfl).trans (g 4 (by omega))
 have f5 : DataW.trod enc Try.prog w 0 spare held n 25 ((cs.drop 5).take (Try.prog.cellsOf 25)) = some _:=(F 5 _ rfl).trans (g 5 (by omega))
 have f6 : DataW.trod enc Try.prog w 0 spare held n 27 ((cs.drop 6).take (Try.prog.cellsOf 27)) = some _:=(F 6 _ rfl).trans (g 6 (by omega))
 have f7 : DataW.trod enc Try.prog w 0 spare held n 28 ((cs.drop 38).take (Try.prog.cellsOf 28)) = some _:=(F 7 _ rfl).trans (g 7 (by omega))
 have f8 : DataW.trod enc Try.prog w 0 spare held n 33 ((cs.drop 39).take (Try.prog.cellsOf 33)) = some _:=(F 8 _ rfl).trans (g 8 (by omega))
 have f9 : DataW.trod enc Try.prog w 0 spare held n 37 ((cs.drop 110).take (Try.prog.cellsOf 37)) = some _:=(F 9 _ rfl).trans (g 9 (by omega))
 rw [cells_rmsg_0] at f0
 rw [cells_rmsg_1] at f1
 rw [cells_rmsg_2] at f2
 rw [cells_rmsg_3] at f3
 rw [cells_rmsg_4] at f4
 rw [cells_rmsg_5] at f5
 rw [cells_rmsg_6] at f6
 rw [cells_rmsg_7] at f7
 rw [cells_rmsg_8] at f8
 rw [cells_rmsg_9] at f9
 obtain ⟨k,e0,k0,k1⟩:=int_openJ f0
 obtain ⟨p,e1⟩:=word_openJ f1
 obtain ⟨nn,e2,hn⟩:=u64_openJ f2
 obtain ⟨hh,e3⟩:=word_openJ f3
 obtain ⟨hA,hs,hc,e4,a1,a2,a3,a4⟩:=heads_openJ f4
 obtain ⟨lA,ls,lc,e5,b1,b2,b3,b4⟩:=hashs_openJ f5
 obtain ⟨stop,e6,hst⟩:=hash_openJ f6
 obtain ⟨iA,is,ic,e7,c1,c2,c3,c4⟩:=ritems_openJ f7
 obtain ⟨bh,total,sA,shs,sc,fA,fs,fc,e8,d1,d2,d3,d4,d5,d6⟩:=rblock_openJ f8
 obtain ⟨t,e9,ht⟩:=rtx_openJ f9
 have e : cs = cs.drop 0:=rfl
 have hcs : cs = MsgR.cells ⟨k,p,nn,hh,hA,hs,hc,lA,ls,lc,stop,iA,is,ic,bh,total,sA,shs,sc,fA,fs,fc,t⟩:=by
  unfold MsgR.cells MsgR.blk TxR.cells
  rw [e,key_openJ cs 0 1,e0,key_openJ cs (0 + 1) 1,e1,key_openJ cs (0 + 1 + 1) 1,e2,key_openJ cs (0 + 1 + 1 + 1) 1,e3,key_openJ cs (0 + 1 + 1 + 1 + 1) 1,e4,key_openJ cs (0 + 1 + 1 + 1 + 1 + 1) 1,e5,key_openJ cs (0 + 1 + 1 + 1 + 1 + 1 + 1) 32,e6,key_openJ cs (0 + 1 + 1 + 1 + 1 + 1 + 1 + 32) 1,e7,key_openJ cs (0 + 1 + 1 + 1 + 1 + 1 + 1 + 32 + 1) 71,e8,key_openJ cs (0 + 1 + 1 + 1 + 1 + 1 + 1 + 32 + 1 + 71) 4,e9,List.drop_eq_nil_of_le (by omega)]
  simp [TxR.cells]
 exact ⟨⟨k,p,nn,hh,hA,hs,hc,lA,ls,lc,stop,iA,is,ic,bh,total,sA,shs,sc,fA,fs,fc,t⟩,hcs,⟨⟨⟨k0,k1⟩,hn,hst,d1,a4,b4,c4,d4⟩,a3,⟨a1,a2⟩,b3,⟨b1,b2⟩,c3,⟨c1,c2⟩,d3,d2,d6,d5,ht⟩⟩
end Go.Proofs.Ytbgpgdhndanigaa
