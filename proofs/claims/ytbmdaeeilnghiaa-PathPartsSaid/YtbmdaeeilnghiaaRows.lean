/-
  No cell of these rows narrows 'for every input' (looked for: loops, veiled, ifaces, maps, wideKeys, modest, calm, conditions, laid).
  DERIVED. THE GIVEN ROWS OF THIS SEAT. 4 by the template 'for every input the law returns true; each argument reads behind the call as it read before'; 0 by the template 'total and deterministic' (their statements: YtbmdaeeilnghiaaTotals.lean).
  GIVEN WITH THE SEED: the statements are not yours to turn. If you find one false, say at which input.
  Laid BY PROGRAM, IN A SANDBOX (cutbox-rows.mjs): the forced cells as the released guide's own fill.sh prints them over the translation 50e6c3d3bc9134a6… (all of the seat's roots in one cut). By AI agents, Wed Nov 11 2026. No macro, syntax, notation, axiom, sorry.
-/
import Derived.Test.YtbmdaeeilnghiaaChecked
import GoSem.Claim
import GoSem.ClaimJoined
import GoSem.ClaimMapViews
import Derived.JoinedTies
import Derived.KernelRfl
namespace Go.Proofs.Ytbmdaeeilnghiaa
/- THE CELL 'sum', in the pinned program and in every row, IS THE sha256 OF THE DUMP (.gsa) THAT YtbmdaeeilnghiaaProg.lean LOADS. Nothing in Lean hashes anything: it is a label: what it is worth is what the hold of that sum in a sandbox is worth. -/
noncomputable def Try.pinned : Pinned := { name := "ytbmdaeeilnghiaa", sum := "50e6c3d3bc9134a6ffdb041bbbe9c5243a4382db69d81f812fc56ecb406520d5", checked := Try.checked }
namespace Rows
def none {H : Type} : Left H := { results := [], args := [] }

/-- 'lockgatelaw8.PathBounds': WHATEVER THE INPUT: true; the input reads as it did. -/
def pathBoundsSpec : ChangeSpec := { name := "pathBounds", fn := fun _ => fun
  | [d1, d2] => { results := [.lit (.bool true)], args := [d1, d2] }
  | _ => none }
def pathBoundsRow : OpenClaim := { program := "ytbmdaeeilnghiaa", sum := "50e6c3d3bc9134a6ffdb041bbbe9c5243a4382db69d81f812fc56ecb406520d5", func := "lockgate/lockgatelaw8.PathBounds", spec := "pathBounds", inPlace := ["internal/bytealg.IndexByteString", "internal/bytealg.IndexString"], unfollowed := true, recurses := true, named := ["internal/bytealg.MaxLen"], apart := false }
def PathBoundsSaid : Prop := pathBoundsRow.holds Try.pinned (OpenSpec.ofChange pathBoundsSpec)

/-- ITS FALSE NEIGHBOUR: 'it returns false'. Refute it at one input. -/
def pathBoundsWrong : ChangeSpec := { name := "pathBounds", fn := fun _ => fun
  | [d1, d2] => { results := [.lit (.bool false)], args := [d1, d2] }
  | _ => none }
def PathBoundsWrongFalsely : Prop := pathBoundsRow.holds Try.pinned (OpenSpec.ofChange pathBoundsWrong)

/-- 'lockgatelaw8.PathSplits': WHATEVER THE INPUT: true; the input reads as it did. -/
def pathSplitsSpec : ChangeSpec := { name := "pathSplits", fn := fun _ => fun
  | [d1, d2] => { results := [.lit (.bool true)], args := [d1, d2] }
  | _ => none }
def pathSplitsRow : OpenClaim := { program := "ytbmdaeeilnghiaa", sum := "50e6c3d3bc9134a6ffdb041bbbe9c5243a4382db69d81f812fc56ecb406520d5", func := "lockgate/lockgatelaw8.PathSplits", spec := "pathSplits", inPlace := ["internal/bytealg.IndexByteString", "internal/bytealg.IndexString", "internal/abi.NoEscape", "internal/bytealg.MakeNoZero"], unfollowed := true, recurses := true, named := ["internal/bytealg.MaxLen"], apart := false }
def PathSplitsSaid : Prop := pathSplitsRow.holds Try.pinned (OpenSpec.ofChange pathSplitsSpec)

/-- ITS FALSE NEIGHBOUR: 'it returns false'. Refute it at one input. -/
def pathSplitsWrong : ChangeSpec := { name := "pathSplits", fn := fun _ => fun
  | [d1, d2] => { results := [.lit (.bool false)], args := [d1, d2] }
  | _ => none }
def PathSplitsWrongFalsely : Prop := pathSplitsRow.holds Try.pinned (OpenSpec.ofChange pathSplitsWrong)

/-- 'lockgatelaw8.PathJoins': WHATEVER THE INPUT: true; the input reads as it did. -/
def pathJoinsSpec : ChangeSpec := { name := "pathJoins", fn := fun _ => fun
  | [d] => { results := [.lit (.bool true)], args := [d] }
  | _ => none }
def pathJoinsRow : OpenClaim := { program := "ytbmdaeeilnghiaa", sum := "50e6c3d3bc9134a6ffdb041bbbe9c5243a4382db69d81f812fc56ecb406520d5", func := "lockgate/lockgatelaw8.PathJoins", spec := "pathJoins", inPlace := ["internal/bytealg.IndexByteString", "internal/bytealg.IndexString", "internal/abi.NoEscape", "internal/bytealg.MakeNoZero"], unfollowed := true, recurses := true, named := ["internal/bytealg.MaxLen"], apart := false }
def PathJoinsSaid : Prop := pathJoinsRow.holds Try.pinned (OpenSpec.ofChange pathJoinsSpec)

/-- ITS FALSE NEIGHBOUR: 'it returns false'. Refute it at one input. -/
def pathJoinsWrong : ChangeSpec := { name := "pathJoins", fn := fun _ => fun
  | [d] => { results := [.lit (.bool false)], args := [d] }
  | _ => none }
def PathJoinsWrongFalsely : Prop := pathJoinsRow.holds Try.pinned (OpenSpec.ofChange pathJoinsWrong)

/-- 'lockgatelaw8.PathParts': WHATEVER THE INPUT: true; the input reads as it did. -/
def pathPartsSpec : ChangeSpec := { name := "pathParts", fn := fun _ => fun
  | [d1, d2] => { results := [.lit (.bool true)], args := [d1, d2] }
  | _ => none }
def pathPartsRow : OpenClaim := { program := "ytbmdaeeilnghiaa", sum := "50e6c3d3bc9134a6ffdb041bbbe9c5243a4382db69d81f812fc56ecb406520d5", func := "lockgate/lockgatelaw8.PathParts", spec := "pathParts", inPlace := ["internal/bytealg.IndexByteString", "internal/bytealg.IndexString", "internal/abi.NoEscape", "internal/bytealg.MakeNoZero"], unfollowed := true, recurses := true, named := ["internal/bytealg.MaxLen"], apart := false }
def PathPartsSaid : Prop := pathPartsRow.holds Try.pinned (OpenSpec.ofChange pathPartsSpec)

/-- ITS FALSE NEIGHBOUR: 'it returns false'. Refute it at one input. -/
def pathPartsWrong : ChangeSpec := { name := "pathParts", fn := fun _ => fun
  | [d1, d2] => { results := [.lit (.bool false)], args := [d1, d2] }
  | _ => none }
def PathPartsWrongFalsely : Prop := pathPartsRow.holds Try.pinned (OpenSpec.ofChange pathPartsWrong)

/- THE SECOND FORM. 'bulk': how many values and letters a reading holds, each counted each time it is reached (what is shared counts as often as it is met; a slice's spare places count too). A statement '..UptoSaid' is the law's where the arguments, and the package variables that the reading takes, are together of bulk at most 1048576: NARROWER than '..Said'. Prove '..Said' where nothing that the law and all that it calls make is longer than what came in: it says more and counts as full. Else prove '..UptoSaid'. A law counts once. -/
mutual
def uptoBulk {H : Type} : DataW H → Nat
  | .lit (.string bytes) => bytes.length + 1
  | .lit _ => 1
  | .nil => 1
  | .ptr d => uptoBulk d + 1
  | .slice elems spare => uptoBulkAll elems + uptoBulkAll spare + 1
  | .agg parts => uptoBulkAll parts + 1
  | .iface _ d => uptoBulk d + 1
  | .map entries => uptoBulkEntries entries + 1
  | .held _ => 1
def uptoBulkAll {H : Type} : List (DataW H) → Nat
  | [] => 0
  | d :: r => uptoBulk d + uptoBulkAll r
def uptoBulkEntries {H : Type} : List (Lit × DataW H) → Nat
  | [] => 0
  | x :: r => uptoBulkEntry x + uptoBulkEntries r
def uptoBulkEntry {H : Type} : Lit × DataW H → Nat
  | (.string bytes, d) => bytes.length + uptoBulk d + 1
  | (_, d) => uptoBulk d + 1
 end
def uptoSmall : (H : Type) → List (DataW H) → Bool := fun _ ds => decide (uptoBulkAll ds ≤ 1048576)
def OpenSpec.upto (s : _root_.Go.ChangeSpec) : _root_.Go.OpenSpec := { _root_.Go.OpenSpec.ofChange s with cond := some uptoSmall }

/-- 'lockgatelaw8.PathBounds', WHERE WHAT IT READS IS OF BULK AT MOST 1048576: true; the input reads as it did. -/
def pathBoundsUptoRow : OpenClaim := { program := "ytbmdaeeilnghiaa", sum := "50e6c3d3bc9134a6ffdb041bbbe9c5243a4382db69d81f812fc56ecb406520d5", func := "lockgate/lockgatelaw8.PathBounds", spec := "pathBounds", inPlace := ["internal/bytealg.IndexByteString", "internal/bytealg.IndexString"], unfollowed := true, recurses := true, named := ["internal/bytealg.MaxLen"], apart := false, narrowed := true }
def PathBoundsUptoSaid : Prop := pathBoundsUptoRow.holds Try.pinned (OpenSpec.upto pathBoundsSpec)

/-- 'lockgatelaw8.PathSplits', WHERE WHAT IT READS IS OF BULK AT MOST 1048576: true; the input reads as it did. -/
def pathSplitsUptoRow : OpenClaim := { program := "ytbmdaeeilnghiaa", sum := "50e6c3d3bc9134a6ffdb041bbbe9c5243a4382db69d81f812fc56ecb406520d5", func := "lockgate/lockgatelaw8.PathSplits", spec := "pathSplits", inPlace := ["internal/bytealg.IndexByteString", "internal/bytealg.IndexString", "internal/abi.NoEscape", "internal/bytealg.MakeNoZero"], unfollowed := true, recurses := true, named := ["internal/bytealg.MaxLen"], apart := false, narrowed := true }
def PathSplitsUptoSaid : Prop := pathSplitsUptoRow.holds Try.pinned (OpenSpec.upto pathSplitsSpec)

/-- 'lockgatelaw8.PathJoins', WHERE WHAT IT READS IS OF BULK AT MOST 1048576: true; the input reads as it did. -/
def pathJoinsUptoRow : OpenClaim := { program := "ytbmdaeeilnghiaa", sum := "50e6c3d3bc9134a6ffdb041bbbe9c5243a4382db69d81f812fc56ecb406520d5", func := "lockgate/lockgatelaw8.PathJoins", spec := "pathJoins", inPlace := ["internal/bytealg.IndexByteString", "internal/bytealg.IndexString", "internal/abi.NoEscape", "internal/bytealg.MakeNoZero"], unfollowed := true, recurses := true, named := ["internal/bytealg.MaxLen"], apart := false, narrowed := true }
def PathJoinsUptoSaid : Prop := pathJoinsUptoRow.holds Try.pinned (OpenSpec.upto pathJoinsSpec)

/-- 'lockgatelaw8.PathParts', WHERE WHAT IT READS IS OF BULK AT MOST 1048576: true; the input reads as it did. -/
def pathPartsUptoRow : OpenClaim := { program := "ytbmdaeeilnghiaa", sum := "50e6c3d3bc9134a6ffdb041bbbe9c5243a4382db69d81f812fc56ecb406520d5", func := "lockgate/lockgatelaw8.PathParts", spec := "pathParts", inPlace := ["internal/bytealg.IndexByteString", "internal/bytealg.IndexString", "internal/abi.NoEscape", "internal/bytealg.MakeNoZero"], unfollowed := true, recurses := true, named := ["internal/bytealg.MaxLen"], apart := false, narrowed := true }
def PathPartsUptoSaid : Prop := pathPartsUptoRow.holds Try.pinned (OpenSpec.upto pathPartsSpec)

end Rows
end Go.Proofs.Ytbmdaeeilnghiaa
