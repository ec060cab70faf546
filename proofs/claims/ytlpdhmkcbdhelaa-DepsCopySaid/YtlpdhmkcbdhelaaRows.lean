/-
  No cell of these rows narrows 'for every input' (looked for: loops, veiled, ifaces, maps, wideKeys, modest, calm, conditions, laid).
  DERIVED. THE GIVEN ROWS OF THIS SEAT. 6 by the template 'for every input the law returns true; each argument reads behind the call as it read before'; 0 by the template 'total and deterministic' (their statements: YtlpdhmkcbdhelaaTotals.lean).
  GIVEN WITH THE SEED: the statements are not yours to turn. If you find one false, say at which input.
  Laid BY PROGRAM, IN A SANDBOX (cutbox-rows.mjs): the forced cells as the released guide's own fill.sh prints them over the translation 56ec559c71bbeefc… (all of the seat's roots in one cut). By AI agents, Wed Nov 11 2026. No macro, syntax, notation, axiom, sorry.
-/
import Derived.Test.YtlpdhmkcbdhelaaChecked
import GoSem.Claim
import GoSem.ClaimJoined
import GoSem.ClaimMapViews
import Derived.JoinedTies
import Derived.KernelRfl
namespace Go.Proofs.Ytlpdhmkcbdhelaa
/- THE CELL 'sum', in the pinned program and in every row, IS THE sha256 OF THE DUMP (.gsa) THAT YtlpdhmkcbdhelaaProg.lean LOADS. Nothing in Lean hashes anything: it is a label: what it is worth is what the hold of that sum in a sandbox is worth. -/
noncomputable def Try.pinned : Pinned := { name := "ytlpdhmkcbdhelaa", sum := "56ec559c71bbeefc14aab72cf7d24e3622a2ac80ef956ca71ae1d87ec6ee4043", checked := Try.checked }
namespace Rows
def none {H : Type} : Left H := { results := [], args := [] }

/-- 'lockgatelaw13.DepsDiamond': WHATEVER THE INPUT: true; the input reads as it did. -/
def depsDiamondSpec : ChangeSpec := { name := "depsDiamond", fn := fun _ => fun
  | [d1, d2] => { results := [.lit (.bool true)], args := [d1, d2] }
  | _ => none }
def depsDiamondRow : OpenClaim := { program := "ytlpdhmkcbdhelaa", sum := "56ec559c71bbeefc14aab72cf7d24e3622a2ac80ef956ca71ae1d87ec6ee4043", func := "lockgate/lockgatelaw13.DepsDiamond", spec := "depsDiamond", unfollowed := true, recurses := true, apart := false }
def DepsDiamondSaid : Prop := depsDiamondRow.holds Try.pinned (OpenSpec.ofChange depsDiamondSpec)

/-- ITS FALSE NEIGHBOUR: 'it returns false'. Refute it at one input. -/
def depsDiamondWrong : ChangeSpec := { name := "depsDiamond", fn := fun _ => fun
  | [d1, d2] => { results := [.lit (.bool false)], args := [d1, d2] }
  | _ => none }
def DepsDiamondWrongFalsely : Prop := depsDiamondRow.holds Try.pinned (OpenSpec.ofChange depsDiamondWrong)

/-- 'lockgatelaw13.DepsOne': WHATEVER THE INPUT: true; the input reads as it did. -/
def depsOneSpec : ChangeSpec := { name := "depsOne", fn := fun _ => fun
  | [d] => { results := [.lit (.bool true)], args := [d] }
  | _ => none }
def depsOneRow : OpenClaim := { program := "ytlpdhmkcbdhelaa", sum := "56ec559c71bbeefc14aab72cf7d24e3622a2ac80ef956ca71ae1d87ec6ee4043", func := "lockgate/lockgatelaw13.DepsOne", spec := "depsOne", unfollowed := true, recurses := true, apart := false }
def DepsOneSaid : Prop := depsOneRow.holds Try.pinned (OpenSpec.ofChange depsOneSpec)

/-- ITS FALSE NEIGHBOUR: 'it returns false'. Refute it at one input. -/
def depsOneWrong : ChangeSpec := { name := "depsOne", fn := fun _ => fun
  | [d] => { results := [.lit (.bool false)], args := [d] }
  | _ => none }
def DepsOneWrongFalsely : Prop := depsOneRow.holds Try.pinned (OpenSpec.ofChange depsOneWrong)

/-- 'lockgatelaw13.DepsDrain': WHATEVER THE INPUT: true; the input reads as it did. -/
def depsDrainSpec : ChangeSpec := { name := "depsDrain", fn := fun _ => fun
  | [d1, d2] => { results := [.lit (.bool true)], args := [d1, d2] }
  | _ => none }
def depsDrainRow : OpenClaim := { program := "ytlpdhmkcbdhelaa", sum := "56ec559c71bbeefc14aab72cf7d24e3622a2ac80ef956ca71ae1d87ec6ee4043", func := "lockgate/lockgatelaw13.DepsDrain", spec := "depsDrain", unfollowed := true, recurses := true, apart := false }
def DepsDrainSaid : Prop := depsDrainRow.holds Try.pinned (OpenSpec.ofChange depsDrainSpec)

/-- ITS FALSE NEIGHBOUR: 'it returns false'. Refute it at one input. -/
def depsDrainWrong : ChangeSpec := { name := "depsDrain", fn := fun _ => fun
  | [d1, d2] => { results := [.lit (.bool false)], args := [d1, d2] }
  | _ => none }
def DepsDrainWrongFalsely : Prop := depsDrainRow.holds Try.pinned (OpenSpec.ofChange depsDrainWrong)

/-- 'lockgatelaw13.DepsChain': WHATEVER THE INPUT: true; the input reads as it did. -/
def depsChainSpec : ChangeSpec := { name := "depsChain", fn := fun _ => fun
  | [d1, d2] => { results := [.lit (.bool true)], args := [d1, d2] }
  | _ => none }
def depsChainRow : OpenClaim := { program := "ytlpdhmkcbdhelaa", sum := "56ec559c71bbeefc14aab72cf7d24e3622a2ac80ef956ca71ae1d87ec6ee4043", func := "lockgate/lockgatelaw13.DepsChain", spec := "depsChain", unfollowed := true, recurses := true, apart := false }
def DepsChainSaid : Prop := depsChainRow.holds Try.pinned (OpenSpec.ofChange depsChainSpec)

/-- ITS FALSE NEIGHBOUR: 'it returns false'. Refute it at one input. -/
def depsChainWrong : ChangeSpec := { name := "depsChain", fn := fun _ => fun
  | [d1, d2] => { results := [.lit (.bool false)], args := [d1, d2] }
  | _ => none }
def DepsChainWrongFalsely : Prop := depsChainRow.holds Try.pinned (OpenSpec.ofChange depsChainWrong)

/-- 'lockgatelaw13.DepsPlay': WHATEVER THE INPUT: true; the input reads as it did. -/
def depsPlaySpec : ChangeSpec := { name := "depsPlay", fn := fun _ => fun
  | [d1, d2, d3, d4] => { results := [.lit (.bool true)], args := [d1, d2, d3, d4] }
  | _ => none }
def depsPlayRow : OpenClaim := { program := "ytlpdhmkcbdhelaa", sum := "56ec559c71bbeefc14aab72cf7d24e3622a2ac80ef956ca71ae1d87ec6ee4043", func := "lockgate/lockgatelaw13.DepsPlay", spec := "depsPlay", unfollowed := true, recurses := true, apart := false }
def DepsPlaySaid : Prop := depsPlayRow.holds Try.pinned (OpenSpec.ofChange depsPlaySpec)

/-- ITS FALSE NEIGHBOUR: 'it returns false'. Refute it at one input. -/
def depsPlayWrong : ChangeSpec := { name := "depsPlay", fn := fun _ => fun
  | [d1, d2, d3, d4] => { results := [.lit (.bool false)], args := [d1, d2, d3, d4] }
  | _ => none }
def DepsPlayWrongFalsely : Prop := depsPlayRow.holds Try.pinned (OpenSpec.ofChange depsPlayWrong)

/-- 'lockgatelaw13.DepsCopy': WHATEVER THE INPUT: true; the input reads as it did. -/
def depsCopySpec : ChangeSpec := { name := "depsCopy", fn := fun _ => fun
  | [d1, d2, d3] => { results := [.lit (.bool true)], args := [d1, d2, d3] }
  | _ => none }
def depsCopyRow : OpenClaim := { program := "ytlpdhmkcbdhelaa", sum := "56ec559c71bbeefc14aab72cf7d24e3622a2ac80ef956ca71ae1d87ec6ee4043", func := "lockgate/lockgatelaw13.DepsCopy", spec := "depsCopy", inPlace := ["maps.clone"], unfollowed := true, recurses := true, apart := false }
def DepsCopySaid : Prop := depsCopyRow.holds Try.pinned (OpenSpec.ofChange depsCopySpec)

/-- ITS FALSE NEIGHBOUR: 'it returns false'. Refute it at one input. -/
def depsCopyWrong : ChangeSpec := { name := "depsCopy", fn := fun _ => fun
  | [d1, d2, d3] => { results := [.lit (.bool false)], args := [d1, d2, d3] }
  | _ => none }
def DepsCopyWrongFalsely : Prop := depsCopyRow.holds Try.pinned (OpenSpec.ofChange depsCopyWrong)

/- THE SECOND FORM. 'bulk': how many values and letters a reading holds, each counted each time it is reached (what is shared counts as often as it is met; a slice's spare places count too). A statement '..UptoSaid' is the law's where the arguments, and the package variables that the reading takes, are together of bulk at most 1048576: NARROWER than '..Said'. Prove '..Said' where nothing that the law and all that it calls make is longer than what came in: it says more and counts as full. Else prove '..UptoSaid'. A law counts once. -/
mutual
def uptoBulk {H : Type} : DataW H → Nat
  | .lit (.string bytes) => bytes.length + 1
  | .lit _ => 1
  | .nil => 1
  | .ptr d => uptoBulk d + 1
  | .slice elems spare => uptoBulkAll elems + uptoBulkAll spare + 1
  | .agg parts => uptoBulkAll parts + 1
  | .iface _ d => uptoBulk d + 1
  | .map entries => uptoBulkEntries entries + 1
  | .held _ => 1
def uptoBulkAll {H : Type} : List (DataW H) → Nat
  | [] => 0
  | d :: r => uptoBulk d + uptoBulkAll r
def uptoBulkEntries {H : Type} : List (Lit × DataW H) → Nat
  | [] => 0
  | x :: r => uptoBulkEntry x + uptoBulkEntries r
def uptoBulkEntry {H : Type} : Lit × DataW H → Nat
  | (.string bytes, d) => bytes.length + uptoBulk d + 1
  | (_, d) => uptoBulk d + 1
 end
def uptoSmall : (H : Type) → List (DataW H) → Bool := fun _ ds => decide (uptoBulkAll ds ≤ 1048576)
def OpenSpec.upto (s : _root_.Go.ChangeSpec) : _root_.Go.OpenSpec := { _root_.Go.OpenSpec.ofChange s with cond := some uptoSmall }

/-- 'lockgatelaw13.DepsDiamond', WHERE WHAT IT READS IS OF BULK AT MOST 1048576: true; the input reads as it did. -/
def depsDiamondUptoRow : OpenClaim := { program := "ytlpdhmkcbdhelaa", sum := "56ec559c71bbeefc14aab72cf7d24e3622a2ac80ef956ca71ae1d87ec6ee4043", func := "lockgate/lockgatelaw13.DepsDiamond", spec := "depsDiamond", unfollowed := true, recurses := true, apart := false, narrowed := true }
def DepsDiamondUptoSaid : Prop := depsDiamondUptoRow.holds Try.pinned (OpenSpec.upto depsDiamondSpec)

/-- 'lockgatelaw13.DepsOne', WHERE WHAT IT READS IS OF BULK AT MOST 1048576: true; the input reads as it did. -/
def depsOneUptoRow : OpenClaim := { program := "ytlpdhmkcbdhelaa", sum := "56ec559c71bbeefc14aab72cf7d24e3622a2ac80ef956ca71ae1d87ec6ee4043", func := "lockgate/lockgatelaw13.DepsOne", spec := "depsOne", unfollowed := true, recurses := true, apart := false, narrowed := true }
def DepsOneUptoSaid : Prop := depsOneUptoRow.holds Try.pinned (OpenSpec.upto depsOneSpec)

/-- 'lockgatelaw13.DepsDrain', WHERE WHAT IT READS IS OF BULK AT MOST 1048576: true; the input reads as it did. -/
def depsDrainUptoRow : OpenClaim := { program := "ytlpdhmkcbdhelaa", sum := "56ec559c71bbeefc14aab72cf7d24e3622a2ac80ef956ca71ae1d87ec6ee4043", func := "lockgate/lockgatelaw13.DepsDrain", spec := "depsDrain", unfollowed := true, recurses := true, apart := false, narrowed := true }
def DepsDrainUptoSaid : Prop := depsDrainUptoRow.holds Try.pinned (OpenSpec.upto depsDrainSpec)

/-- 'lockgatelaw13.DepsChain', WHERE WHAT IT READS IS OF BULK AT MOST 1048576: true; the input reads as it did. -/
def depsChainUptoRow : OpenClaim := { program := "ytlpdhmkcbdhelaa", sum := "56ec559c71bbeefc14aab72cf7d24e3622a2ac80ef956ca71ae1d87ec6ee4043", func := "lockgate/lockgatelaw13.DepsChain", spec := "depsChain", unfollowed := true, recurses := true, apart := false, narrowed := true }
def DepsChainUptoSaid : Prop := depsChainUptoRow.holds Try.pinned (OpenSpec.upto depsChainSpec)

/-- 'lockgatelaw13.DepsPlay', WHERE WHAT IT READS IS OF BULK AT MOST 1048576: true; the input reads as it did. -/
def depsPlayUptoRow : OpenClaim := { program := "ytlpdhmkcbdhelaa", sum := "56ec559c71bbeefc14aab72cf7d24e3622a2ac80ef956ca71ae1d87ec6ee4043", func := "lockgate/lockgatelaw13.DepsPlay", spec := "depsPlay", unfollowed := true, recurses := true, apart := false, narrowed := true }
def DepsPlayUptoSaid : Prop := depsPlayUptoRow.holds Try.pinned (OpenSpec.upto depsPlaySpec)

/-- 'lockgatelaw13.DepsCopy', WHERE WHAT IT READS IS OF BULK AT MOST 1048576: true; the input reads as it did. -/
def depsCopyUptoRow : OpenClaim := { program := "ytlpdhmkcbdhelaa", sum := "56ec559c71bbeefc14aab72cf7d24e3622a2ac80ef956ca71ae1d87ec6ee4043", func := "lockgate/lockgatelaw13.DepsCopy", spec := "depsCopy", inPlace := ["maps.clone"], unfollowed := true, recurses := true, apart := false, narrowed := true }
def DepsCopyUptoSaid : Prop := depsCopyUptoRow.holds Try.pinned (OpenSpec.upto depsCopySpec)

end Rows
end Go.Proofs.Ytlpdhmkcbdhelaa
