/- Texts merged by pack.py: Ln. -/
import Derived.Test.YtiagcenlnekdeaaGreatDoorProg
import Derived.Lib.Strings
import Derived.Lib.Slices
import Derived.Lib.Small
import Derived.Lib.Walk
import Derived.Lib.BitFns
set_option maxRecDepth 1000000
set_option maxHeartbeats 16000000
set_option linter.unusedSimpArgs false
set_option linter.unusedVariables false
open Go.Proofs.Tryz
namespace Go.Proofs.YtiagcenlnekdeaaGreatDoor
theorem bits_Len64 (x:Int) (w:World) (h0:0≤x) (h1:x≤18446744073709551615) :
  Calls prog 148 #[.int .u64 x] w fun e w'=>e = .returned (.int .i64 (Lib.bitLen x.toNat))∧w'=w:=by
 go_enter func148,ntmps148
 go_wp2
 all_goals (go_ret;refine⟨congrArg Ending.returned (congrArg (Value.int IntKind.i64) ?_),rfl⟩)
 all_goals first
  | (rw[Lib.len8_of (x/4294967296/65536/256%256) (by omega) (by omega)]
     have e:(x/4294967296/65536/256%256).toNat=x.toNat/72057594037927936:=by omega
     have l:=Lib.bitLen_le8' (x/4294967296/65536/256%256) (by omega) (by omega);have s:=Lib.bitLen_shift56 x.toNat (by omega) (by omega);rw[e]at l ⊢
     omega)
  | (rw[Lib.len8_of (x/4294967296/65536%256) (by omega) (by omega)]
     have e:(x/4294967296/65536%256).toNat=x.toNat/281474976710656:=by omega
     have l:=Lib.bitLen_le8' (x/4294967296/65536%256) (by omega) (by omega);have s:=Lib.bitLen_shift48 x.toNat (by omega) (by omega);rw[e]at l ⊢
     omega)
  | (rw[Lib.len8_of (x/4294967296/256%256) (by omega) (by omega)]
     have e:(x/4294967296/256%256).toNat=x.toNat/1099511627776:=by omega
     have l:=Lib.bitLen_le8' (x/4294967296/256%256) (by omega) (by omega);have s:=Lib.bitLen_shift40 x.toNat (by omega) (by omega);rw[e]at l ⊢
     omega)
  | (rw[Lib.len8_of (x/4294967296%256) (by omega) (by omega)]
     have e:(x/4294967296%256).toNat=x.toNat/4294967296:=by omega
     have l:=Lib.bitLen_le8' (x/4294967296%256) (by omega) (by omega);have s:=Lib.bitLen_shift32 x.toNat (by omega) (by omega);rw[e]at l ⊢
     omega)
  | (rw[Lib.len8_of (x/65536/256%256) (by omega) (by omega)]
     have e:(x/65536/256%256).toNat=x.toNat/16777216:=by omega
     have l:=Lib.bitLen_le8' (x/65536/256%256) (by omega) (by omega);have s:=Lib.bitLen_shift24 x.toNat (by omega) (by omega);rw[e]at l ⊢
     omega)
  | (rw[Lib.len8_of (x/65536%256) (by omega) (by omega)]
     have e:(x/65536%256).toNat=x.toNat/65536:=by omega
     have l:=Lib.bitLen_le8' (x/65536%256) (by omega) (by omega);have s:=Lib.bitLen_shift16 x.toNat (by omega) (by omega);rw[e]at l ⊢
     omega)
  | (rw[Lib.len8_of (x/256%256) (by omega) (by omega)]
     have e:(x/256%256).toNat=x.toNat/256:=by omega
     have l:=Lib.bitLen_le8' (x/256%256) (by omega) (by omega);have s:=Lib.bitLen_shift8 x.toNat (by omega) (by omega);rw[e]at l ⊢
     omega)
  | (rw[Lib.len8_of (x%256) (by omega) (by omega)]
     have e:(x%256).toNat=x.toNat:=by omega
     have l:=Lib.bitLen_le8' (x%256) (by omega) (by omega);rw[e]at l ⊢
     omega)
end Go.Proofs.YtiagcenlnekdeaaGreatDoor
