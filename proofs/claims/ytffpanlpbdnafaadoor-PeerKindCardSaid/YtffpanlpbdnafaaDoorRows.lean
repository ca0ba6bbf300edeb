/-
  NARROWER THAN 'FOR EVERY INPUT', by the rows' own cells (each row's printed sentence says how): PeerMisses: laid · PeerTells: laid · PeerKind: laid · PeerBanned: laid.
  DERIVED. THE GIVEN ROWS OF THIS SEAT. 4 by the template 'for every input the law returns true; each argument reads behind the call as it read before'; 0 by the template 'total and deterministic' (their statements: YtffpanlpbdnafaaDoorTotals.lean).
  GIVEN WITH THE SEED: the statements are not yours to turn. If you find one false, say at which input.
  Laid BY PROGRAM, IN A SANDBOX (cutbox-rows.mjs): the forced cells as the released guide's own fill.sh prints them over the translation 2e4755433447b642… (all of the seat's roots in one cut). By AI agents, Wed Nov 11 2026. No macro, syntax, notation, axiom, sorry.
-/
import Derived.Test.YtffpanlpbdnafaaDoorChecked
import GoSem.PinnedTables
import GoSem.Claim
import GoSem.ClaimJoined
import GoSem.ClaimMapViews
import Derived.JoinedTies
import Derived.KernelRfl
namespace Go.Proofs.YtffpanlpbdnafaaDoor
/- THE CELL 'sum', in the pinned program and in every row, IS THE sha256 OF THE DUMP (.gsa) THAT YtffpanlpbdnafaaDoorProg.lean LOADS. Nothing in Lean hashes anything: it is a label: what it is worth is what the hold of that sum in a sandbox is worth. -/
noncomputable def Tryd.pinned : Pinned := { name := "ytffpanlpbdnafaadoor", sum := "2e4755433447b64253a42d0f8bd55a9dedab01c758f189ba395774fa849860ea", checked := Tryd.checked }
namespace Rows
def none {H : Type} : Left H := { results := [], args := [] }

/- WHAT THE LISTED PACKAGE-LEVEL VARIABLES READ AS WHEN THE CALL BEGINS. Each datum BY PROGRAM (the guide's laid-datum.mjs) off the statement by which the dump's own 'gosem.cut.vars' lays the variable. In a bare row this is a premise. The card (YtffpanlpbdnafaaDoorCards.lean) ties it to the program's text. -/
def laid_unicode_utf8_acceptRanges {H : Type} : DataW H := .agg [.agg [.lit (.int .u8 128), .lit (.int .u8 191)], .agg [.lit (.int .u8 160), .lit (.int .u8 191)], .agg [.lit (.int .u8 128), .lit (.int .u8 159)], .agg [.lit (.int .u8 144), .lit (.int .u8 191)], .agg [.lit (.int .u8 128), .lit (.int .u8 143)], .agg [.lit (.int .u8 0), .lit (.int .u8 0)], .agg [.lit (.int .u8 0), .lit (.int .u8 0)], .agg [.lit (.int .u8 0), .lit (.int .u8 0)], .agg [.lit (.int .u8 0), .lit (.int .u8 0)], .agg [.lit (.int .u8 0), .lit (.int .u8 0)], .agg [.lit (.int .u8 0), .lit (.int .u8 0)], .agg [.lit (.int .u8 0), .lit (.int .u8 0)], .agg [.lit (.int .u8 0), .lit (.int .u8 0)], .agg [.lit (.int .u8 0), .lit (.int .u8 0)], .agg [.lit (.int .u8 0), .lit (.int .u8 0)], .agg [.lit (.int .u8 0), .lit (.int .u8 0)]]
def laid_florin_sha2_constants {H : Type} : DataW H := .agg [.lit (.int .u32 1116352408), .lit (.int .u32 1899447441), .lit (.int .u32 3049323471), .lit (.int .u32 3921009573), .lit (.int .u32 961987163), .lit (.int .u32 1508970993), .lit (.int .u32 2453635748), .lit (.int .u32 2870763221), .lit (.int .u32 3624381080), .lit (.int .u32 310598401), .lit (.int .u32 607225278), .lit (.int .u32 1426881987), .lit (.int .u32 1925078388), .lit (.int .u32 2162078206), .lit (.int .u32 2614888103), .lit (.int .u32 3248222580), .lit (.int .u32 3835390401), .lit (.int .u32 4022224774), .lit (.int .u32 264347078), .lit (.int .u32 604807628), .lit (.int .u32 770255983), .lit (.int .u32 1249150122), .lit (.int .u32 1555081692), .lit (.int .u32 1996064986), .lit (.int .u32 2554220882), .lit (.int .u32 2821834349), .lit (.int .u32 2952996808), .lit (.int .u32 3210313671), .lit (.int .u32 3336571891), .lit (.int .u32 3584528711), .lit (.int .u32 113926993), .lit (.int .u32 338241895), .lit (.int .u32 666307205), .lit (.int .u32 773529912), .lit (.int .u32 1294757372), .lit (.int .u32 1396182291), .lit (.int .u32 1695183700), .lit (.int .u32 1986661051), .lit (.int .u32 2177026350), .lit (.int .u32 2456956037), .lit (.int .u32 2730485921), .lit (.int .u32 2820302411), .lit (.int .u32 3259730800), .lit (.int .u32 3345764771), .lit (.int .u32 3516065817), .lit (.int .u32 3600352804), .lit (.int .u32 4094571909), .lit (.int .u32 275423344), .lit (.int .u32 430227734), .lit (.int .u32 506948616), .lit (.int .u32 659060556), .lit (.int .u32 883997877), .lit (.int .u32 958139571), .lit (.int .u32 1322822218), .lit (.int .u32 1537002063), .lit (.int .u32 1747873779), .lit (.int .u32 1955562222), .lit (.int .u32 2024104815), .lit (.int .u32 2227730452), .lit (.int .u32 2361852424), .lit (.int .u32 2428436474), .lit (.int .u32 2756734187), .lit (.int .u32 3204031479), .lit (.int .u32 3329325298)]
def laid_florin_sha2_initials {H : Type} : DataW H := .agg [.lit (.int .u32 1779033703), .lit (.int .u32 3144134277), .lit (.int .u32 1013904242), .lit (.int .u32 2773480762), .lit (.int .u32 1359893119), .lit (.int .u32 2600822924), .lit (.int .u32 528734635), .lit (.int .u32 1541459225)]
/-- One of Go's own tables, pinned by name: the form's constant. -/
def laid_unicode_utf8_first : DataW Unit := Go.Pinned.utf8First

/-- 'florinlaw22.PeerMisses': WHATEVER THE INPUT: true; the input reads as it did. -/
def peerMissesSpec : ChangeSpec := { name := "peerMisses", fn := fun _ => fun
  | [d1, d2, d3] => { results := [.lit (.bool true)], args := [d1, d2, d3] }
  | _ => none }
def peerMissesRow : OpenClaim := { program := "ytffpanlpbdnafaadoor", sum := "2e4755433447b64253a42d0f8bd55a9dedab01c758f189ba395774fa849860ea", func := "florin/florinlaw22.PeerMisses", spec := "peerMisses", named := ["unicode/utf8.first", "unicode/utf8.acceptRanges", "florin/sha2.initials", "florin/sha2.constants"], apart := false, laid := [("unicode/utf8.acceptRanges", laid_unicode_utf8_acceptRanges), ("florin/sha2.constants", laid_florin_sha2_constants), ("florin/sha2.initials", laid_florin_sha2_initials), ("unicode/utf8.first", laid_unicode_utf8_first)] }
def PeerMissesSaid : Prop := peerMissesRow.holds Tryd.pinned (OpenSpec.ofChange peerMissesSpec)

/-- ITS FALSE NEIGHBOUR: 'it returns false'. Refute it at one input. -/
def peerMissesWrong : ChangeSpec := { name := "peerMisses", fn := fun _ => fun
  | [d1, d2, d3] => { results := [.lit (.bool false)], args := [d1, d2, d3] }
  | _ => none }
def PeerMissesWrongFalsely : Prop := peerMissesRow.holds Tryd.pinned (OpenSpec.ofChange peerMissesWrong)

/-- 'florinlaw22.PeerTells': WHATEVER THE INPUT: true; the input reads as it did. -/
def peerTellsSpec : ChangeSpec := { name := "peerTells", fn := fun _ => fun
  | [d1, d2, d3] => { results := [.lit (.bool true)], args := [d1, d2, d3] }
  | _ => none }
def peerTellsRow : OpenClaim := { program := "ytffpanlpbdnafaadoor", sum := "2e4755433447b64253a42d0f8bd55a9dedab01c758f189ba395774fa849860ea", func := "florin/florinlaw22.PeerTells", spec := "peerTells", unfollowed := true, recurses := true, named := ["unicode/utf8.first", "unicode/utf8.acceptRanges", "florin/sha2.initials", "florin/sha2.constants"], apart := false, laid := [("unicode/utf8.acceptRanges", laid_unicode_utf8_acceptRanges), ("florin/sha2.constants", laid_florin_sha2_constants), ("florin/sha2.initials", laid_florin_sha2_initials), ("unicode/utf8.first", laid_unicode_utf8_first)] }
def PeerTellsSaid : Prop := peerTellsRow.holds Tryd.pinned (OpenSpec.ofChange peerTellsSpec)

/-- ITS FALSE NEIGHBOUR: 'it returns false'. Refute it at one input. -/
def peerTellsWrong : ChangeSpec := { name := "peerTells", fn := fun _ => fun
  | [d1, d2, d3] => { results := [.lit (.bool false)], args := [d1, d2, d3] }
  | _ => none }
def PeerTellsWrongFalsely : Prop := peerTellsRow.holds Tryd.pinned (OpenSpec.ofChange peerTellsWrong)

/-- 'florinlaw22.PeerKind': WHATEVER THE INPUT: true; the input reads as it did. -/
def peerKindSpec : ChangeSpec := { name := "peerKind", fn := fun _ => fun
  | [d1, d2, d3] => { results := [.lit (.bool true)], args := [d1, d2, d3] }
  | _ => none }
def peerKindRow : OpenClaim := { program := "ytffpanlpbdnafaadoor", sum := "2e4755433447b64253a42d0f8bd55a9dedab01c758f189ba395774fa849860ea", func := "florin/florinlaw22.PeerKind", spec := "peerKind", unfollowed := true, recurses := true, named := ["unicode/utf8.first", "unicode/utf8.acceptRanges", "florin/sha2.initials", "florin/sha2.constants"], apart := false, laid := [("unicode/utf8.acceptRanges", laid_unicode_utf8_acceptRanges), ("florin/sha2.constants", laid_florin_sha2_constants), ("florin/sha2.initials", laid_florin_sha2_initials), ("unicode/utf8.first", laid_unicode_utf8_first)] }
def PeerKindSaid : Prop := peerKindRow.holds Tryd.pinned (OpenSpec.ofChange peerKindSpec)

/-- ITS FALSE NEIGHBOUR: 'it returns false'. Refute it at one input. -/
def peerKindWrong : ChangeSpec := { name := "peerKind", fn := fun _ => fun
  | [d1, d2, d3] => { results := [.lit (.bool false)], args := [d1, d2, d3] }
  | _ => none }
def PeerKindWrongFalsely : Prop := peerKindRow.holds Tryd.pinned (OpenSpec.ofChange peerKindWrong)

/-- 'florinlaw22.PeerBanned': WHATEVER THE INPUT: true; the input reads as it did. -/
def peerBannedSpec : ChangeSpec := { name := "peerBanned", fn := fun _ => fun
  | [d1, d2, d3, d4, d5] => { results := [.lit (.bool true)], args := [d1, d2, d3, d4, d5] }
  | _ => none }
def peerBannedRow : OpenClaim := { program := "ytffpanlpbdnafaadoor", sum := "2e4755433447b64253a42d0f8bd55a9dedab01c758f189ba395774fa849860ea", func := "florin/florinlaw22.PeerBanned", spec := "peerBanned", unfollowed := true, recurses := true, named := ["unicode/utf8.first", "unicode/utf8.acceptRanges", "florin/sha2.initials", "florin/sha2.constants"], apart := false, laid := [("unicode/utf8.acceptRanges", laid_unicode_utf8_acceptRanges), ("florin/sha2.constants", laid_florin_sha2_constants), ("florin/sha2.initials", laid_florin_sha2_initials), ("unicode/utf8.first", laid_unicode_utf8_first)] }
def PeerBannedSaid : Prop := peerBannedRow.holds Tryd.pinned (OpenSpec.ofChange peerBannedSpec)

/-- ITS FALSE NEIGHBOUR: 'it returns false'. Refute it at one input. -/
def peerBannedWrong : ChangeSpec := { name := "peerBanned", fn := fun _ => fun
  | [d1, d2, d3, d4, d5] => { results := [.lit (.bool false)], args := [d1, d2, d3, d4, d5] }
  | _ => none }
def PeerBannedWrongFalsely : Prop := peerBannedRow.holds Tryd.pinned (OpenSpec.ofChange peerBannedWrong)

/- THE SECOND FORM. 'bulk': how many values and letters a reading holds, each counted each time it is reached (what is shared counts as often as it is met; a slice's spare places count too). A statement '..UptoSaid' is the law's where the arguments, and the package variables that the reading takes, are together of bulk at most 1048576: NARROWER than '..Said'. Prove '..Said' where nothing that the law and all that it calls make is longer than what came in: it says more and counts as full. Else prove '..UptoSaid'. A law counts once. -/
mutual
def uptoBulk {H : Type} : DataW H → Nat
  | .lit (.string bytes) => bytes.length + 1
  | .lit _ => 1
  | .nil => 1
  | .ptr d => uptoBulk d + 1
  | .slice elems spare => uptoBulkAll elems + uptoBulkAll spare + 1
  | .agg parts => uptoBulkAll parts + 1
  | .iface _ d => uptoBulk d + 1
  | .map entries => uptoBulkEntries entries + 1
  | .held _ => 1
def uptoBulkAll {H : Type} : List (DataW H) → Nat
  | [] => 0
  | d :: r => uptoBulk d + uptoBulkAll r
def uptoBulkEntries {H : Type} : List (Lit × DataW H) → Nat
  | [] => 0
  | x :: r => uptoBulkEntry x + uptoBulkEntries r
def uptoBulkEntry {H : Type} : Lit × DataW H → Nat
  | (.string bytes, d) => bytes.length + uptoBulk d + 1
  | (_, d) => uptoBulk d + 1
 end
def uptoSmall : (H : Type) → List (DataW H) → Bool := fun _ ds => decide (uptoBulkAll ds ≤ 1048576)
def OpenSpec.upto (s : _root_.Go.ChangeSpec) : _root_.Go.OpenSpec := { _root_.Go.OpenSpec.ofChange s with cond := some uptoSmall }

/-- 'florinlaw22.PeerMisses', WHERE WHAT IT READS IS OF BULK AT MOST 1048576: true; the input reads as it did. -/
def peerMissesUptoRow : OpenClaim := { program := "ytffpanlpbdnafaadoor", sum := "2e4755433447b64253a42d0f8bd55a9dedab01c758f189ba395774fa849860ea", func := "florin/florinlaw22.PeerMisses", spec := "peerMisses", named := ["unicode/utf8.first", "unicode/utf8.acceptRanges", "florin/sha2.initials", "florin/sha2.constants"], apart := false, laid := [("unicode/utf8.acceptRanges", laid_unicode_utf8_acceptRanges), ("florin/sha2.constants", laid_florin_sha2_constants), ("florin/sha2.initials", laid_florin_sha2_initials), ("unicode/utf8.first", laid_unicode_utf8_first)], narrowed := true }
def PeerMissesUptoSaid : Prop := peerMissesUptoRow.holds Tryd.pinned (OpenSpec.upto peerMissesSpec)

/-- 'florinlaw22.PeerTells', WHERE WHAT IT READS IS OF BULK AT MOST 1048576: true; the input reads as it did. -/
def peerTellsUptoRow : OpenClaim := { program := "ytffpanlpbdnafaadoor", sum := "2e4755433447b64253a42d0f8bd55a9dedab01c758f189ba395774fa849860ea", func := "florin/florinlaw22.PeerTells", spec := "peerTells", unfollowed := true, recurses := true, named := ["unicode/utf8.first", "unicode/utf8.acceptRanges", "florin/sha2.initials", "florin/sha2.constants"], apart := false, laid := [("unicode/utf8.acceptRanges", laid_unicode_utf8_acceptRanges), ("florin/sha2.constants", laid_florin_sha2_constants), ("florin/sha2.initials", laid_florin_sha2_initials), ("unicode/utf8.first", laid_unicode_utf8_first)], narrowed := true }
def PeerTellsUptoSaid : Prop := peerTellsUptoRow.holds Tryd.pinned (OpenSpec.upto peerTellsSpec)

/-- 'florinlaw22.PeerKind', WHERE WHAT IT READS IS OF BULK AT MOST 1048576: true; the input reads as it did. -/
def peerKindUptoRow : OpenClaim := { program := "ytffpanlpbdnafaadoor", sum := "2e4755433447b64253a42d0f8bd55a9dedab01c758f189ba395774fa849860ea", func := "florin/florinlaw22.PeerKind", spec := "peerKind", unfollowed := true, recurses := true, named := ["unicode/utf8.first", "unicode/utf8.acceptRanges", "florin/sha2.initials", "florin/sha2.constants"], apart := false, laid := [("unicode/utf8.acceptRanges", laid_unicode_utf8_acceptRanges), ("florin/sha2.constants", laid_florin_sha2_constants), ("florin/sha2.initials", laid_florin_sha2_initials), ("unicode/utf8.first", laid_unicode_utf8_first)], narrowed := true }
def PeerKindUptoSaid : Prop := peerKindUptoRow.holds Tryd.pinned (OpenSpec.upto peerKindSpec)

/-- 'florinlaw22.PeerBanned', WHERE WHAT IT READS IS OF BULK AT MOST 1048576: true; the input reads as it did. -/
def peerBannedUptoRow : OpenClaim := { program := "ytffpanlpbdnafaadoor", sum := "2e4755433447b64253a42d0f8bd55a9dedab01c758f189ba395774fa849860ea", func := "florin/florinlaw22.PeerBanned", spec := "peerBanned", unfollowed := true, recurses := true, named := ["unicode/utf8.first", "unicode/utf8.acceptRanges", "florin/sha2.initials", "florin/sha2.constants"], apart := false, laid := [("unicode/utf8.acceptRanges", laid_unicode_utf8_acceptRanges), ("florin/sha2.constants", laid_florin_sha2_constants), ("florin/sha2.initials", laid_florin_sha2_initials), ("unicode/utf8.first", laid_unicode_utf8_first)], narrowed := true }
def PeerBannedUptoSaid : Prop := peerBannedUptoRow.holds Tryd.pinned (OpenSpec.upto peerBannedSpec)

end Rows
end Go.Proofs.YtffpanlpbdnafaaDoor
