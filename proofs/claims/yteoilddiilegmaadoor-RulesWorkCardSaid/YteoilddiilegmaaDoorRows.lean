/-
  NARROWER THAN 'FOR EVERY INPUT', by the rows' own cells (each row's printed sentence says how): RulesMay: laid · RulesSpoilt: laid · RulesWork: laid · RulesParts: laid · RulesLater: laid.
  DERIVED. THE GIVEN ROWS OF THIS SEAT. 5 by the template 'for every input the law returns true; each argument reads behind the call as it read before'; 0 by the template 'total and deterministic' (their statements: YteoilddiilegmaaDoorTotals.lean).
  GIVEN WITH THE SEED: the statements are not yours to turn. If you find one false, say at which input.
  Laid BY PROGRAM, IN A SANDBOX (cutbox-rows.mjs): the forced cells as the released guide's own fill.sh prints them over the translation 6995d224b4508ed9… (all of the seat's roots in one cut). By AI agents, Wed Nov 11 2026. No macro, syntax, notation, axiom, sorry.
-/
import Derived.Test.YteoilddiilegmaaDoorChecked
import GoSem.Claim
import GoSem.ClaimJoined
import GoSem.ClaimMapViews
import Derived.JoinedTies
import Derived.KernelRfl
namespace Go.Proofs.YteoilddiilegmaaDoor
/- THE CELL 'sum', in the pinned program and in every row, IS THE sha256 OF THE DUMP (.gsa) THAT YteoilddiilegmaaDoorProg.lean LOADS. Nothing in Lean hashes anything: it is a label: what it is worth is what the hold of that sum in a sandbox is worth. -/
noncomputable def Tryd.pinned : Pinned := { name := "yteoilddiilegmaadoor", sum := "6995d224b4508ed9de5b3d0657817697bb0fffea9bbc61af05989029cd0ab3e4", checked := Tryd.checked }
namespace Rows
def none {H : Type} : Left H := { results := [], args := [] }

/- WHAT THE LISTED PACKAGE-LEVEL VARIABLES READ AS WHEN THE CALL BEGINS. Each datum BY PROGRAM (the guide's laid-datum.mjs) off the statement by which the dump's own 'gosem.cut.vars' lays the variable. In a bare row this is a premise. The card (YteoilddiilegmaaDoorCards.lean) ties it to the program's text. -/
def laid_florin_sha2_constants {H : Type} : DataW H := .agg [.lit (.int .u32 1116352408), .lit (.int .u32 1899447441), .lit (.int .u32 3049323471), .lit (.int .u32 3921009573), .lit (.int .u32 961987163), .lit (.int .u32 1508970993), .lit (.int .u32 2453635748), .lit (.int .u32 2870763221), .lit (.int .u32 3624381080), .lit (.int .u32 310598401), .lit (.int .u32 607225278), .lit (.int .u32 1426881987), .lit (.int .u32 1925078388), .lit (.int .u32 2162078206), .lit (.int .u32 2614888103), .lit (.int .u32 3248222580), .lit (.int .u32 3835390401), .lit (.int .u32 4022224774), .lit (.int .u32 264347078), .lit (.int .u32 604807628), .lit (.int .u32 770255983), .lit (.int .u32 1249150122), .lit (.int .u32 1555081692), .lit (.int .u32 1996064986), .lit (.int .u32 2554220882), .lit (.int .u32 2821834349), .lit (.int .u32 2952996808), .lit (.int .u32 3210313671), .lit (.int .u32 3336571891), .lit (.int .u32 3584528711), .lit (.int .u32 113926993), .lit (.int .u32 338241895), .lit (.int .u32 666307205), .lit (.int .u32 773529912), .lit (.int .u32 1294757372), .lit (.int .u32 1396182291), .lit (.int .u32 1695183700), .lit (.int .u32 1986661051), .lit (.int .u32 2177026350), .lit (.int .u32 2456956037), .lit (.int .u32 2730485921), .lit (.int .u32 2820302411), .lit (.int .u32 3259730800), .lit (.int .u32 3345764771), .lit (.int .u32 3516065817), .lit (.int .u32 3600352804), .lit (.int .u32 4094571909), .lit (.int .u32 275423344), .lit (.int .u32 430227734), .lit (.int .u32 506948616), .lit (.int .u32 659060556), .lit (.int .u32 883997877), .lit (.int .u32 958139571), .lit (.int .u32 1322822218), .lit (.int .u32 1537002063), .lit (.int .u32 1747873779), .lit (.int .u32 1955562222), .lit (.int .u32 2024104815), .lit (.int .u32 2227730452), .lit (.int .u32 2361852424), .lit (.int .u32 2428436474), .lit (.int .u32 2756734187), .lit (.int .u32 3204031479), .lit (.int .u32 3329325298)]
def laid_florin_sha2_initials {H : Type} : DataW H := .agg [.lit (.int .u32 1779033703), .lit (.int .u32 3144134277), .lit (.int .u32 1013904242), .lit (.int .u32 2773480762), .lit (.int .u32 1359893119), .lit (.int .u32 2600822924), .lit (.int .u32 528734635), .lit (.int .u32 1541459225)]

/-- 'florinlaw16.RulesMay': WHATEVER THE INPUT: true; the input reads as it did. -/
def rulesMaySpec : ChangeSpec := { name := "rulesMay", fn := fun _ => fun
  | [d1, d2, d3, d4] => { results := [.lit (.bool true)], args := [d1, d2, d3, d4] }
  | _ => none }
def rulesMayRow : OpenClaim := { program := "yteoilddiilegmaadoor", sum := "6995d224b4508ed9de5b3d0657817697bb0fffea9bbc61af05989029cd0ab3e4", func := "florin/florinlaw16.RulesMay", spec := "rulesMay", inPlace := ["math/bits.Add64", "internal/reflectlite.TypeOf", "slices.overlaps[uint32]"], unfollowed := true, recurses := true, named := ["florin/sha2.initials", "florin/sha2.constants", "math/bits.divideError", "math/bits.overflowError"], apart := false, laid := [("florin/sha2.constants", laid_florin_sha2_constants), ("florin/sha2.initials", laid_florin_sha2_initials)] }
def RulesMaySaid : Prop := rulesMayRow.holds Tryd.pinned (OpenSpec.ofChange rulesMaySpec)

/-- ITS FALSE NEIGHBOUR: 'it returns false'. Refute it at one input. -/
def rulesMayWrong : ChangeSpec := { name := "rulesMay", fn := fun _ => fun
  | [d1, d2, d3, d4] => { results := [.lit (.bool false)], args := [d1, d2, d3, d4] }
  | _ => none }
def RulesMayWrongFalsely : Prop := rulesMayRow.holds Tryd.pinned (OpenSpec.ofChange rulesMayWrong)

/-- 'florinlaw16.RulesSpoilt': WHATEVER THE INPUT: true; the input reads as it did. -/
def rulesSpoiltSpec : ChangeSpec := { name := "rulesSpoilt", fn := fun _ => fun
  | [d1, d2, d3, d4] => { results := [.lit (.bool true)], args := [d1, d2, d3, d4] }
  | _ => none }
def rulesSpoiltRow : OpenClaim := { program := "yteoilddiilegmaadoor", sum := "6995d224b4508ed9de5b3d0657817697bb0fffea9bbc61af05989029cd0ab3e4", func := "florin/florinlaw16.RulesSpoilt", spec := "rulesSpoilt", inPlace := ["math/bits.Add64", "internal/reflectlite.TypeOf", "slices.overlaps[uint32]"], unfollowed := true, recurses := true, named := ["florin/sha2.initials", "florin/sha2.constants", "math/bits.divideError", "math/bits.overflowError"], apart := false, laid := [("florin/sha2.constants", laid_florin_sha2_constants), ("florin/sha2.initials", laid_florin_sha2_initials)] }
def RulesSpoiltSaid : Prop := rulesSpoiltRow.holds Tryd.pinned (OpenSpec.ofChange rulesSpoiltSpec)

/-- ITS FALSE NEIGHBOUR: 'it returns false'. Refute it at one input. -/
def rulesSpoiltWrong : ChangeSpec := { name := "rulesSpoilt", fn := fun _ => fun
  | [d1, d2, d3, d4] => { results := [.lit (.bool false)], args := [d1, d2, d3, d4] }
  | _ => none }
def RulesSpoiltWrongFalsely : Prop := rulesSpoiltRow.holds Tryd.pinned (OpenSpec.ofChange rulesSpoiltWrong)

/-- 'florinlaw16.RulesWork': WHATEVER THE INPUT: true; the input reads as it did. -/
def rulesWorkSpec : ChangeSpec := { name := "rulesWork", fn := fun _ => fun
  | [d1, d2, d3] => { results := [.lit (.bool true)], args := [d1, d2, d3] }
  | _ => none }
def rulesWorkRow : OpenClaim := { program := "yteoilddiilegmaadoor", sum := "6995d224b4508ed9de5b3d0657817697bb0fffea9bbc61af05989029cd0ab3e4", func := "florin/florinlaw16.RulesWork", spec := "rulesWork", inPlace := ["math/bits.Add64", "internal/reflectlite.TypeOf", "slices.overlaps[uint32]"], unfollowed := true, recurses := true, named := ["florin/sha2.initials", "florin/sha2.constants", "math/bits.divideError", "math/bits.overflowError"], apart := false, laid := [("florin/sha2.constants", laid_florin_sha2_constants), ("florin/sha2.initials", laid_florin_sha2_initials)] }
def RulesWorkSaid : Prop := rulesWorkRow.holds Tryd.pinned (OpenSpec.ofChange rulesWorkSpec)

/-- ITS FALSE NEIGHBOUR: 'it returns false'. Refute it at one input. -/
def rulesWorkWrong : ChangeSpec := { name := "rulesWork", fn := fun _ => fun
  | [d1, d2, d3] => { results := [.lit (.bool false)], args := [d1, d2, d3] }
  | _ => none }
def RulesWorkWrongFalsely : Prop := rulesWorkRow.holds Tryd.pinned (OpenSpec.ofChange rulesWorkWrong)

/-- 'florinlaw16.RulesParts': WHATEVER THE INPUT: true; the input reads as it did. -/
def rulesPartsSpec : ChangeSpec := { name := "rulesParts", fn := fun _ => fun
  | [d1, d2, d3, d4, d5] => { results := [.lit (.bool true)], args := [d1, d2, d3, d4, d5] }
  | _ => none }
def rulesPartsRow : OpenClaim := { program := "yteoilddiilegmaadoor", sum := "6995d224b4508ed9de5b3d0657817697bb0fffea9bbc61af05989029cd0ab3e4", func := "florin/florinlaw16.RulesParts", spec := "rulesParts", inPlace := ["math/bits.Add64", "internal/reflectlite.TypeOf", "slices.overlaps[uint32]"], unfollowed := true, recurses := true, named := ["florin/sha2.initials", "florin/sha2.constants", "math/bits.divideError", "math/bits.overflowError"], apart := false, laid := [("florin/sha2.constants", laid_florin_sha2_constants), ("florin/sha2.initials", laid_florin_sha2_initials)] }
def RulesPartsSaid : Prop := rulesPartsRow.holds Tryd.pinned (OpenSpec.ofChange rulesPartsSpec)

/-- ITS FALSE NEIGHBOUR: 'it returns false'. Refute it at one input. -/
def rulesPartsWrong : ChangeSpec := { name := "rulesParts", fn := fun _ => fun
  | [d1, d2, d3, d4, d5] => { results := [.lit (.bool false)], args := [d1, d2, d3, d4, d5] }
  | _ => none }
def RulesPartsWrongFalsely : Prop := rulesPartsRow.holds Tryd.pinned (OpenSpec.ofChange rulesPartsWrong)

/-- 'florinlaw16.RulesLater': WHATEVER THE INPUT: true; the input reads as it did. -/
def rulesLaterSpec : ChangeSpec := { name := "rulesLater", fn := fun _ => fun
  | [d1, d2, d3, d4] => { results := [.lit (.bool true)], args := [d1, d2, d3, d4] }
  | _ => none }
def rulesLaterRow : OpenClaim := { program := "yteoilddiilegmaadoor", sum := "6995d224b4508ed9de5b3d0657817697bb0fffea9bbc61af05989029cd0ab3e4", func := "florin/florinlaw16.RulesLater", spec := "rulesLater", inPlace := ["math/bits.Add64", "internal/reflectlite.TypeOf", "slices.overlaps[uint32]"], unfollowed := true, recurses := true, named := ["florin/sha2.initials", "florin/sha2.constants", "math/bits.divideError", "math/bits.overflowError"], apart := false, laid := [("florin/sha2.constants", laid_florin_sha2_constants), ("florin/sha2.initials", laid_florin_sha2_initials)] }
def RulesLaterSaid : Prop := rulesLaterRow.holds Tryd.pinned (OpenSpec.ofChange rulesLaterSpec)

/-- ITS FALSE NEIGHBOUR: 'it returns false'. Refute it at one input. -/
def rulesLaterWrong : ChangeSpec := { name := "rulesLater", fn := fun _ => fun
  | [d1, d2, d3, d4] => { results := [.lit (.bool false)], args := [d1, d2, d3, d4] }
  | _ => none }
def RulesLaterWrongFalsely : Prop := rulesLaterRow.holds Tryd.pinned (OpenSpec.ofChange rulesLaterWrong)

/- THE SECOND FORM. 'bulk': how many values and letters a reading holds, each counted each time it is reached (what is shared counts as often as it is met; a slice's spare places count too). A statement '..UptoSaid' is the law's where the arguments, and the package variables that the reading takes, are together of bulk at most 1048576: NARROWER than '..Said'. Prove '..Said' where nothing that the law and all that it calls make is longer than what came in: it says more and counts as full. Else prove '..UptoSaid'. A law counts once. -/
mutual
def uptoBulk {H : Type} : DataW H → Nat
  | .lit (.string bytes) => bytes.length + 1
  | .lit _ => 1
  | .nil => 1
  | .ptr d => uptoBulk d + 1
  | .slice elems spare => uptoBulkAll elems + uptoBulkAll spare + 1
  | .agg parts => uptoBulkAll parts + 1
  | .iface _ d => uptoBulk d + 1
  | .map entries => uptoBulkEntries entries + 1
  | .held _ => 1
def uptoBulkAll {H : Type} : List (DataW H) → Nat
  | [] => 0
  | d :: r => uptoBulk d + uptoBulkAll r
def uptoBulkEntries {H : Type} : List (Lit × DataW H) → Nat
  | [] => 0
  | x :: r => uptoBulkEntry x + uptoBulkEntries r
def uptoBulkEntry {H : Type} : Lit × DataW H → Nat
  | (.string bytes, d) => bytes.length + uptoBulk d + 1
  | (_, d) => uptoBulk d + 1
 end
def uptoSmall : (H : Type) → List (DataW H) → Bool := fun _ ds => decide (uptoBulkAll ds ≤ 1048576)
def OpenSpec.upto (s : _root_.Go.ChangeSpec) : _root_.Go.OpenSpec := { _root_.Go.OpenSpec.ofChange s with cond := some uptoSmall }

/-- 'florinlaw16.RulesMay', WHERE WHAT IT READS IS OF BULK AT MOST 1048576: true; the input reads as it did. -/
def rulesMayUptoRow : OpenClaim := { program := "yteoilddiilegmaadoor", sum := "6995d224b4508ed9de5b3d0657817697bb0fffea9bbc61af05989029cd0ab3e4", func := "florin/florinlaw16.RulesMay", spec := "rulesMay", inPlace := ["math/bits.Add64", "internal/reflectlite.TypeOf", "slices.overlaps[uint32]"], unfollowed := true, recurses := true, named := ["florin/sha2.initials", "florin/sha2.constants", "math/bits.divideError", "math/bits.overflowError"], apart := false, laid := [("florin/sha2.constants", laid_florin_sha2_constants), ("florin/sha2.initials", laid_florin_sha2_initials)], narrowed := true }
def RulesMayUptoSaid : Prop := rulesMayUptoRow.holds Tryd.pinned (OpenSpec.upto rulesMaySpec)

/-- 'florinlaw16.RulesSpoilt', WHERE WHAT IT READS IS OF BULK AT MOST 1048576: true; the input reads as it did. -/
def rulesSpoiltUptoRow : OpenClaim := { program := "yteoilddiilegmaadoor", sum := "6995d224b4508ed9de5b3d0657817697bb0fffea9bbc61af05989029cd0ab3e4", func := "florin/florinlaw16.RulesSpoilt", spec := "rulesSpoilt", inPlace := ["math/bits.Add64", "internal/reflectlite.TypeOf", "slices.overlaps[uint32]"], unfollowed := true, recurses := true, named := ["florin/sha2.initials", "florin/sha2.constants", "math/bits.divideError", "math/bits.overflowError"], apart := false, laid := [("florin/sha2.constants", laid_florin_sha2_constants), ("florin/sha2.initials", laid_florin_sha2_initials)], narrowed := true }
def RulesSpoiltUptoSaid : Prop := rulesSpoiltUptoRow.holds Tryd.pinned (OpenSpec.upto rulesSpoiltSpec)

/-- 'florinlaw16.RulesWork', WHERE WHAT IT READS IS OF BULK AT MOST 1048576: true; the input reads as it did. -/
def rulesWorkUptoRow : OpenClaim := { program := "yteoilddiilegmaadoor", sum := "6995d224b4508ed9de5b3d0657817697bb0fffea9bbc61af05989029cd0ab3e4", func := "florin/florinlaw16.RulesWork", spec := "rulesWork", inPlace := ["math/bits.Add64", "internal/reflectlite.TypeOf", "slices.overlaps[uint32]"], unfollowed := true, recurses := true, named := ["florin/sha2.initials", "florin/sha2.constants", "math/bits.divideError", "math/bits.overflowError"], apart := false, laid := [("florin/sha2.constants", laid_florin_sha2_constants), ("florin/sha2.initials", laid_florin_sha2_initials)], narrowed := true }
def RulesWorkUptoSaid : Prop := rulesWorkUptoRow.holds Tryd.pinned (OpenSpec.upto rulesWorkSpec)

/-- 'florinlaw16.RulesParts', WHERE WHAT IT READS IS OF BULK AT MOST 1048576: true; the input reads as it did. -/
def rulesPartsUptoRow : OpenClaim := { program := "yteoilddiilegmaadoor", sum := "6995d224b4508ed9de5b3d0657817697bb0fffea9bbc61af05989029cd0ab3e4", func := "florin/florinlaw16.RulesParts", spec := "rulesParts", inPlace := ["math/bits.Add64", "internal/reflectlite.TypeOf", "slices.overlaps[uint32]"], unfollowed := true, recurses := true, named := ["florin/sha2.initials", "florin/sha2.constants", "math/bits.divideError", "math/bits.overflowError"], apart := false, laid := [("florin/sha2.constants", laid_florin_sha2_constants), ("florin/sha2.initials", laid_florin_sha2_initials)], narrowed := true }
def RulesPartsUptoSaid : Prop := rulesPartsUptoRow.holds Tryd.pinned (OpenSpec.upto rulesPartsSpec)

/-- 'florinlaw16.RulesLater', WHERE WHAT IT READS IS OF BULK AT MOST 1048576: true; the input reads as it did. -/
def rulesLaterUptoRow : OpenClaim := { program := "yteoilddiilegmaadoor", sum := "6995d224b4508ed9de5b3d0657817697bb0fffea9bbc61af05989029cd0ab3e4", func := "florin/florinlaw16.RulesLater", spec := "rulesLater", inPlace := ["math/bits.Add64", "internal/reflectlite.TypeOf", "slices.overlaps[uint32]"], unfollowed := true, recurses := true, named := ["florin/sha2.initials", "florin/sha2.constants", "math/bits.divideError", "math/bits.overflowError"], apart := false, laid := [("florin/sha2.constants", laid_florin_sha2_constants), ("florin/sha2.initials", laid_florin_sha2_initials)], narrowed := true }
def RulesLaterUptoSaid : Prop := rulesLaterUptoRow.holds Tryd.pinned (OpenSpec.upto rulesLaterSpec)

end Rows
end Go.Proofs.YteoilddiilegmaaDoor
