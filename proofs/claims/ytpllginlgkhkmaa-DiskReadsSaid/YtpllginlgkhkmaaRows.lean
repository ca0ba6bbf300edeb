/-
  No cell of these rows narrows 'for every input' (looked for: loops, veiled, ifaces, maps, wideKeys, modest, calm, conditions, laid).
  DERIVED. THE GIVEN ROWS OF THIS SEAT. 6 by the template 'for every input the law returns true; each argument reads behind the call as it read before'; 0 by the template 'total and deterministic' (their statements: YtpllginlgkhkmaaTotals.lean).
  GIVEN WITH THE SEED: the statements are not yours to turn. If you find one false, say at which input.
  Laid BY PROGRAM, IN A SANDBOX (cutbox-rows.mjs): the forced cells as the released guide's own fill.sh prints them over the translation ff70e409d83c4611… (all of the seat's roots in one cut). By AI agents, Wed Nov 11 2026. No macro, syntax, notation, axiom, sorry.
-/
import Derived.Test.YtpllginlgkhkmaaChecked
import GoSem.Claim
import GoSem.ClaimJoined
import GoSem.ClaimMapViews
import Derived.JoinedTies
import Derived.KernelRfl
namespace Go.Proofs.Ytpllginlgkhkmaa
/- THE CELL 'sum', in the pinned program and in every row, IS THE sha256 OF THE DUMP (.gsa) THAT YtpllginlgkhkmaaProg.lean LOADS. Nothing in Lean hashes anything: it is a label: what it is worth is what the hold of that sum in a sandbox is worth. -/
noncomputable def Try.pinned : Pinned := { name := "ytpllginlgkhkmaa", sum := "ff70e409d83c461178bedf7c437a909e1edffdba5bca1fc433ad1a752d9a310e", checked := Try.checked }
namespace Rows
def none {H : Type} : Left H := { results := [], args := [] }

/-- 'florinlaw18.DiskTorn': WHATEVER THE INPUT: true; the input reads as it did. -/
def diskTornSpec : ChangeSpec := { name := "diskTorn", fn := fun _ => fun
  | [d1, d2] => { results := [.lit (.bool true)], args := [d1, d2] }
  | _ => none }
def diskTornRow : OpenClaim := { program := "ytpllginlgkhkmaa", sum := "ff70e409d83c461178bedf7c437a909e1edffdba5bca1fc433ad1a752d9a310e", func := "florin/florinlaw18.DiskTorn", spec := "diskTorn", apart := false }
def DiskTornSaid : Prop := diskTornRow.holds Try.pinned (OpenSpec.ofChange diskTornSpec)

/-- ITS FALSE NEIGHBOUR: 'it returns false'. Refute it at one input. -/
def diskTornWrong : ChangeSpec := { name := "diskTorn", fn := fun _ => fun
  | [d1, d2] => { results := [.lit (.bool false)], args := [d1, d2] }
  | _ => none }
def DiskTornWrongFalsely : Prop := diskTornRow.holds Try.pinned (OpenSpec.ofChange diskTornWrong)

/-- 'florinlaw18.DiskMore': WHATEVER THE INPUT: true; the input reads as it did. -/
def diskMoreSpec : ChangeSpec := { name := "diskMore", fn := fun _ => fun
  | [d1, d2, d3, d4] => { results := [.lit (.bool true)], args := [d1, d2, d3, d4] }
  | _ => none }
def diskMoreRow : OpenClaim := { program := "ytpllginlgkhkmaa", sum := "ff70e409d83c461178bedf7c437a909e1edffdba5bca1fc433ad1a752d9a310e", func := "florin/florinlaw18.DiskMore", spec := "diskMore", apart := false }
def DiskMoreSaid : Prop := diskMoreRow.holds Try.pinned (OpenSpec.ofChange diskMoreSpec)

/-- ITS FALSE NEIGHBOUR: 'it returns false'. Refute it at one input. -/
def diskMoreWrong : ChangeSpec := { name := "diskMore", fn := fun _ => fun
  | [d1, d2, d3, d4] => { results := [.lit (.bool false)], args := [d1, d2, d3, d4] }
  | _ => none }
def DiskMoreWrongFalsely : Prop := diskMoreRow.holds Try.pinned (OpenSpec.ofChange diskMoreWrong)

/-- 'florinlaw18.DiskSynced': WHATEVER THE INPUT: true; the input reads as it did. -/
def diskSyncedSpec : ChangeSpec := { name := "diskSynced", fn := fun _ => fun
  | [d1, d2] => { results := [.lit (.bool true)], args := [d1, d2] }
  | _ => none }
def diskSyncedRow : OpenClaim := { program := "ytpllginlgkhkmaa", sum := "ff70e409d83c461178bedf7c437a909e1edffdba5bca1fc433ad1a752d9a310e", func := "florin/florinlaw18.DiskSynced", spec := "diskSynced", apart := false }
def DiskSyncedSaid : Prop := diskSyncedRow.holds Try.pinned (OpenSpec.ofChange diskSyncedSpec)

/-- ITS FALSE NEIGHBOUR: 'it returns false'. Refute it at one input. -/
def diskSyncedWrong : ChangeSpec := { name := "diskSynced", fn := fun _ => fun
  | [d1, d2] => { results := [.lit (.bool false)], args := [d1, d2] }
  | _ => none }
def DiskSyncedWrongFalsely : Prop := diskSyncedRow.holds Try.pinned (OpenSpec.ofChange diskSyncedWrong)

/-- 'florinlaw18.DiskRow': WHATEVER THE INPUT: true; the input reads as it did. -/
def diskRowSpec : ChangeSpec := { name := "diskRow", fn := fun _ => fun
  | [d1, d2, d3, d4] => { results := [.lit (.bool true)], args := [d1, d2, d3, d4] }
  | _ => none }
def diskRowRow : OpenClaim := { program := "ytpllginlgkhkmaa", sum := "ff70e409d83c461178bedf7c437a909e1edffdba5bca1fc433ad1a752d9a310e", func := "florin/florinlaw18.DiskRow", spec := "diskRow", apart := false }
def DiskRowSaid : Prop := diskRowRow.holds Try.pinned (OpenSpec.ofChange diskRowSpec)

/-- ITS FALSE NEIGHBOUR: 'it returns false'. Refute it at one input. -/
def diskRowWrong : ChangeSpec := { name := "diskRow", fn := fun _ => fun
  | [d1, d2, d3, d4] => { results := [.lit (.bool false)], args := [d1, d2, d3, d4] }
  | _ => none }
def DiskRowWrongFalsely : Prop := diskRowRow.holds Try.pinned (OpenSpec.ofChange diskRowWrong)

/-- 'florinlaw18.DiskReads': WHATEVER THE INPUT: true; the input reads as it did. -/
def diskReadsSpec : ChangeSpec := { name := "diskReads", fn := fun _ => fun
  | [d1, d2, d3, d4] => { results := [.lit (.bool true)], args := [d1, d2, d3, d4] }
  | _ => none }
def diskReadsRow : OpenClaim := { program := "ytpllginlgkhkmaa", sum := "ff70e409d83c461178bedf7c437a909e1edffdba5bca1fc433ad1a752d9a310e", func := "florin/florinlaw18.DiskReads", spec := "diskReads", apart := false }
def DiskReadsSaid : Prop := diskReadsRow.holds Try.pinned (OpenSpec.ofChange diskReadsSpec)

/-- ITS FALSE NEIGHBOUR: 'it returns false'. Refute it at one input. -/
def diskReadsWrong : ChangeSpec := { name := "diskReads", fn := fun _ => fun
  | [d1, d2, d3, d4] => { results := [.lit (.bool false)], args := [d1, d2, d3, d4] }
  | _ => none }
def DiskReadsWrongFalsely : Prop := diskReadsRow.holds Try.pinned (OpenSpec.ofChange diskReadsWrong)

/-- 'florinlaw18.DiskIs': WHATEVER THE INPUT: true; the input reads as it did. -/
def diskIsSpec : ChangeSpec := { name := "diskIs", fn := fun _ => fun
  | [d1, d2, d3, d4, d5] => { results := [.lit (.bool true)], args := [d1, d2, d3, d4, d5] }
  | _ => none }
def diskIsRow : OpenClaim := { program := "ytpllginlgkhkmaa", sum := "ff70e409d83c461178bedf7c437a909e1edffdba5bca1fc433ad1a752d9a310e", func := "florin/florinlaw18.DiskIs", spec := "diskIs", apart := false }
def DiskIsSaid : Prop := diskIsRow.holds Try.pinned (OpenSpec.ofChange diskIsSpec)

/-- ITS FALSE NEIGHBOUR: 'it returns false'. Refute it at one input. -/
def diskIsWrong : ChangeSpec := { name := "diskIs", fn := fun _ => fun
  | [d1, d2, d3, d4, d5] => { results := [.lit (.bool false)], args := [d1, d2, d3, d4, d5] }
  | _ => none }
def DiskIsWrongFalsely : Prop := diskIsRow.holds Try.pinned (OpenSpec.ofChange diskIsWrong)

/- THE SECOND FORM. 'bulk': how many values and letters a reading holds, each counted each time it is reached (what is shared counts as often as it is met; a slice's spare places count too). A statement '..UptoSaid' is the law's where the arguments, and the package variables that the reading takes, are together of bulk at most 1048576: NARROWER than '..Said'. Prove '..Said' where nothing that the law and all that it calls make is longer than what came in: it says more and counts as full. Else prove '..UptoSaid'. A law counts once. -/
mutual
def uptoBulk {H : Type} : DataW H → Nat
  | .lit (.string bytes) => bytes.length + 1
  | .lit _ => 1
  | .nil => 1
  | .ptr d => uptoBulk d + 1
  | .slice elems spare => uptoBulkAll elems + uptoBulkAll spare + 1
  | .agg parts => uptoBulkAll parts + 1
  | .iface _ d => uptoBulk d + 1
  | .map entries => uptoBulkEntries entries + 1
  | .held _ => 1
def uptoBulkAll {H : Type} : List (DataW H) → Nat
  | [] => 0
  | d :: r => uptoBulk d + uptoBulkAll r
def uptoBulkEntries {H : Type} : List (Lit × DataW H) → Nat
  | [] => 0
  | x :: r => uptoBulkEntry x + uptoBulkEntries r
def uptoBulkEntry {H : Type} : Lit × DataW H → Nat
  | (.string bytes, d) => bytes.length + uptoBulk d + 1
  | (_, d) => uptoBulk d + 1
 end
def uptoSmall : (H : Type) → List (DataW H) → Bool := fun _ ds => decide (uptoBulkAll ds ≤ 1048576)
def OpenSpec.upto (s : _root_.Go.ChangeSpec) : _root_.Go.OpenSpec := { _root_.Go.OpenSpec.ofChange s with cond := some uptoSmall }

/-- 'florinlaw18.DiskTorn', WHERE WHAT IT READS IS OF BULK AT MOST 1048576: true; the input reads as it did. -/
def diskTornUptoRow : OpenClaim := { program := "ytpllginlgkhkmaa", sum := "ff70e409d83c461178bedf7c437a909e1edffdba5bca1fc433ad1a752d9a310e", func := "florin/florinlaw18.DiskTorn", spec := "diskTorn", apart := false, narrowed := true }
def DiskTornUptoSaid : Prop := diskTornUptoRow.holds Try.pinned (OpenSpec.upto diskTornSpec)

/-- 'florinlaw18.DiskMore', WHERE WHAT IT READS IS OF BULK AT MOST 1048576: true; the input reads as it did. -/
def diskMoreUptoRow : OpenClaim := { program := "ytpllginlgkhkmaa", sum := "ff70e409d83c461178bedf7c437a909e1edffdba5bca1fc433ad1a752d9a310e", func := "florin/florinlaw18.DiskMore", spec := "diskMore", apart := false, narrowed := true }
def DiskMoreUptoSaid : Prop := diskMoreUptoRow.holds Try.pinned (OpenSpec.upto diskMoreSpec)

/-- 'florinlaw18.DiskSynced', WHERE WHAT IT READS IS OF BULK AT MOST 1048576: true; the input reads as it did. -/
def diskSyncedUptoRow : OpenClaim := { program := "ytpllginlgkhkmaa", sum := "ff70e409d83c461178bedf7c437a909e1edffdba5bca1fc433ad1a752d9a310e", func := "florin/florinlaw18.DiskSynced", spec := "diskSynced", apart := false, narrowed := true }
def DiskSyncedUptoSaid : Prop := diskSyncedUptoRow.holds Try.pinned (OpenSpec.upto diskSyncedSpec)

/-- 'florinlaw18.DiskRow', WHERE WHAT IT READS IS OF BULK AT MOST 1048576: true; the input reads as it did. -/
def diskRowUptoRow : OpenClaim := { program := "ytpllginlgkhkmaa", sum := "ff70e409d83c461178bedf7c437a909e1edffdba5bca1fc433ad1a752d9a310e", func := "florin/florinlaw18.DiskRow", spec := "diskRow", apart := false, narrowed := true }
def DiskRowUptoSaid : Prop := diskRowUptoRow.holds Try.pinned (OpenSpec.upto diskRowSpec)

/-- 'florinlaw18.DiskReads', WHERE WHAT IT READS IS OF BULK AT MOST 1048576: true; the input reads as it did. -/
def diskReadsUptoRow : OpenClaim := { program := "ytpllginlgkhkmaa", sum := "ff70e409d83c461178bedf7c437a909e1edffdba5bca1fc433ad1a752d9a310e", func := "florin/florinlaw18.DiskReads", spec := "diskReads", apart := false, narrowed := true }
def DiskReadsUptoSaid : Prop := diskReadsUptoRow.holds Try.pinned (OpenSpec.upto diskReadsSpec)

/-- 'florinlaw18.DiskIs', WHERE WHAT IT READS IS OF BULK AT MOST 1048576: true; the input reads as it did. -/
def diskIsUptoRow : OpenClaim := { program := "ytpllginlgkhkmaa", sum := "ff70e409d83c461178bedf7c437a909e1edffdba5bca1fc433ad1a752d9a310e", func := "florin/florinlaw18.DiskIs", spec := "diskIs", apart := false, narrowed := true }
def DiskIsUptoSaid : Prop := diskIsUptoRow.holds Try.pinned (OpenSpec.upto diskIsSpec)

end Rows
end Go.Proofs.Ytpllginlgkhkmaa
