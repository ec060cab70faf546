/-
  No cell of these rows narrows 'for every input' (looked for: loops, veiled, ifaces, maps, wideKeys, modest, calm, conditions, laid).
  DERIVED. THE GIVEN ROWS OF THIS SEAT. 6 by the template 'for every input the law returns true; each argument reads behind the call as it read before'; 0 by the template 'total and deterministic' (their statements: YtnmlmbbacicojaaTotals.lean).
  GIVEN WITH THE SEED: the statements are not yours to turn. If you find one false, say at which input.
  Laid BY PROGRAM, IN A SANDBOX (cutbox-rows.mjs): the forced cells as the released guide's own fill.sh prints them over the translation ebd3d7a98ce63d02… (all of the seat's roots in one cut). By AI agents, Wed Nov 11 2026. No macro, syntax, notation, axiom, sorry.
-/
import Derived.Test.YtnmlmbbacicojaaChecked
import GoSem.Claim
import GoSem.ClaimJoined
import GoSem.ClaimMapViews
import Derived.JoinedTies
import Derived.KernelRfl
namespace Go.Proofs.Ytnmlmbbacicojaa
/- THE CELL 'sum', in the pinned program and in every row, IS THE sha256 OF THE DUMP (.gsa) THAT YtnmlmbbacicojaaProg.lean LOADS. Nothing in Lean hashes anything: it is a label: what it is worth is what the hold of that sum in a sandbox is worth. -/
noncomputable def Try.pinned : Pinned := { name := "ytnmlmbbacicojaa", sum := "ebd3d7a98ce63d022311e8b8ea9304a8edfeda062f09b5e588f9c7e7fd128f28", checked := Try.checked }
namespace Rows
def none {H : Type} : Left H := { results := [], args := [] }

/-- 'lockgatelaw20.WalkSame': WHATEVER THE INPUT: true; the input reads as it did. -/
def walkSameSpec : ChangeSpec := { name := "walkSame", fn := fun _ => fun
  | [d1, d2] => { results := [.lit (.bool true)], args := [d1, d2] }
  | _ => none }
def walkSameRow : OpenClaim := { program := "ytnmlmbbacicojaa", sum := "ebd3d7a98ce63d022311e8b8ea9304a8edfeda062f09b5e588f9c7e7fd128f28", func := "lockgate/lockgatelaw20.WalkSame", spec := "walkSame", unfollowed := true, recurses := true, apart := false }
def WalkSameSaid : Prop := walkSameRow.holds Try.pinned (OpenSpec.ofChange walkSameSpec)

/-- ITS FALSE NEIGHBOUR: 'it returns false'. Refute it at one input. -/
def walkSameWrong : ChangeSpec := { name := "walkSame", fn := fun _ => fun
  | [d1, d2] => { results := [.lit (.bool false)], args := [d1, d2] }
  | _ => none }
def WalkSameWrongFalsely : Prop := walkSameRow.holds Try.pinned (OpenSpec.ofChange walkSameWrong)

/-- 'lockgatelaw20.WalkNumbers': WHATEVER THE INPUT: true; the input reads as it did. -/
def walkNumbersSpec : ChangeSpec := { name := "walkNumbers", fn := fun _ => fun
  | [d] => { results := [.lit (.bool true)], args := [d] }
  | _ => none }
def walkNumbersRow : OpenClaim := { program := "ytnmlmbbacicojaa", sum := "ebd3d7a98ce63d022311e8b8ea9304a8edfeda062f09b5e588f9c7e7fd128f28", func := "lockgate/lockgatelaw20.WalkNumbers", spec := "walkNumbers", unfollowed := true, recurses := true, apart := false }
def WalkNumbersSaid : Prop := walkNumbersRow.holds Try.pinned (OpenSpec.ofChange walkNumbersSpec)

/-- ITS FALSE NEIGHBOUR: 'it returns false'. Refute it at one input. -/
def walkNumbersWrong : ChangeSpec := { name := "walkNumbers", fn := fun _ => fun
  | [d] => { results := [.lit (.bool false)], args := [d] }
  | _ => none }
def WalkNumbersWrongFalsely : Prop := walkNumbersRow.holds Try.pinned (OpenSpec.ofChange walkNumbersWrong)

/-- 'lockgatelaw20.WalkTurned': WHATEVER THE INPUT: true; the input reads as it did. -/
def walkTurnedSpec : ChangeSpec := { name := "walkTurned", fn := fun _ => fun
  | [d1, d2, d3] => { results := [.lit (.bool true)], args := [d1, d2, d3] }
  | _ => none }
def walkTurnedRow : OpenClaim := { program := "ytnmlmbbacicojaa", sum := "ebd3d7a98ce63d022311e8b8ea9304a8edfeda062f09b5e588f9c7e7fd128f28", func := "lockgate/lockgatelaw20.WalkTurned", spec := "walkTurned", unfollowed := true, recurses := true, apart := false }
def WalkTurnedSaid : Prop := walkTurnedRow.holds Try.pinned (OpenSpec.ofChange walkTurnedSpec)

/-- ITS FALSE NEIGHBOUR: 'it returns false'. Refute it at one input. -/
def walkTurnedWrong : ChangeSpec := { name := "walkTurned", fn := fun _ => fun
  | [d1, d2, d3] => { results := [.lit (.bool false)], args := [d1, d2, d3] }
  | _ => none }
def WalkTurnedWrongFalsely : Prop := walkTurnedRow.holds Try.pinned (OpenSpec.ofChange walkTurnedWrong)

/-- 'lockgatelaw20.WalkFinds': WHATEVER THE INPUT: true; the input reads as it did. -/
def walkFindsSpec : ChangeSpec := { name := "walkFinds", fn := fun _ => fun
  | [d1, d2] => { results := [.lit (.bool true)], args := [d1, d2] }
  | _ => none }
def walkFindsRow : OpenClaim := { program := "ytnmlmbbacicojaa", sum := "ebd3d7a98ce63d022311e8b8ea9304a8edfeda062f09b5e588f9c7e7fd128f28", func := "lockgate/lockgatelaw20.WalkFinds", spec := "walkFinds", inPlace := ["internal/bytealg.IndexByteString", "internal/bytealg.IndexString"], unfollowed := true, recurses := true, named := ["internal/bytealg.MaxLen"], apart := false }
def WalkFindsSaid : Prop := walkFindsRow.holds Try.pinned (OpenSpec.ofChange walkFindsSpec)

/-- ITS FALSE NEIGHBOUR: 'it returns false'. Refute it at one input. -/
def walkFindsWrong : ChangeSpec := { name := "walkFinds", fn := fun _ => fun
  | [d1, d2] => { results := [.lit (.bool false)], args := [d1, d2] }
  | _ => none }
def WalkFindsWrongFalsely : Prop := walkFindsRow.holds Try.pinned (OpenSpec.ofChange walkFindsWrong)

/-- 'lockgatelaw20.WalkDeep': WHATEVER THE INPUT: true; the input reads as it did. -/
def walkDeepSpec : ChangeSpec := { name := "walkDeep", fn := fun _ => fun
  | [d1, d2] => { results := [.lit (.bool true)], args := [d1, d2] }
  | _ => none }
def walkDeepRow : OpenClaim := { program := "ytnmlmbbacicojaa", sum := "ebd3d7a98ce63d022311e8b8ea9304a8edfeda062f09b5e588f9c7e7fd128f28", func := "lockgate/lockgatelaw20.WalkDeep", spec := "walkDeep", inPlace := ["internal/bytealg.IndexByteString", "internal/bytealg.IndexString"], unfollowed := true, recurses := true, named := ["internal/bytealg.MaxLen"], apart := false }
def WalkDeepSaid : Prop := walkDeepRow.holds Try.pinned (OpenSpec.ofChange walkDeepSpec)

/-- ITS FALSE NEIGHBOUR: 'it returns false'. Refute it at one input. -/
def walkDeepWrong : ChangeSpec := { name := "walkDeep", fn := fun _ => fun
  | [d1, d2] => { results := [.lit (.bool false)], args := [d1, d2] }
  | _ => none }
def WalkDeepWrongFalsely : Prop := walkDeepRow.holds Try.pinned (OpenSpec.ofChange walkDeepWrong)

/-- 'lockgatelaw20.WalkLinks': WHATEVER THE INPUT: true; the input reads as it did. -/
def walkLinksSpec : ChangeSpec := { name := "walkLinks", fn := fun _ => fun
  | [d] => { results := [.lit (.bool true)], args := [d] }
  | _ => none }
def walkLinksRow : OpenClaim := { program := "ytnmlmbbacicojaa", sum := "ebd3d7a98ce63d022311e8b8ea9304a8edfeda062f09b5e588f9c7e7fd128f28", func := "lockgate/lockgatelaw20.WalkLinks", spec := "walkLinks", inPlace := ["internal/bytealg.IndexByteString", "internal/bytealg.IndexString"], unfollowed := true, recurses := true, named := ["internal/bytealg.MaxLen"], apart := false }
def WalkLinksSaid : Prop := walkLinksRow.holds Try.pinned (OpenSpec.ofChange walkLinksSpec)

/-- ITS FALSE NEIGHBOUR: 'it returns false'. Refute it at one input. -/
def walkLinksWrong : ChangeSpec := { name := "walkLinks", fn := fun _ => fun
  | [d] => { results := [.lit (.bool false)], args := [d] }
  | _ => none }
def WalkLinksWrongFalsely : Prop := walkLinksRow.holds Try.pinned (OpenSpec.ofChange walkLinksWrong)

/- THE SECOND FORM. 'bulk': how many values and letters a reading holds, each counted each time it is reached (what is shared counts as often as it is met; a slice's spare places count too). A statement '..UptoSaid' is the law's where the arguments, and the package variables that the reading takes, are together of bulk at most 1048576: NARROWER than '..Said'. Prove '..Said' where nothing that the law and all that it calls make is longer than what came in: it says more and counts as full. Else prove '..UptoSaid'. A law counts once. -/
mutual
def uptoBulk {H : Type} : DataW H → Nat
  | .lit (.string bytes) => bytes.length + 1
  | .lit _ => 1
  | .nil => 1
  | .ptr d => uptoBulk d + 1
  | .slice elems spare => uptoBulkAll elems + uptoBulkAll spare + 1
  | .agg parts => uptoBulkAll parts + 1
  | .iface _ d => uptoBulk d + 1
  | .map entries => uptoBulkEntries entries + 1
  | .held _ => 1
def uptoBulkAll {H : Type} : List (DataW H) → Nat
  | [] => 0
  | d :: r => uptoBulk d + uptoBulkAll r
def uptoBulkEntries {H : Type} : List (Lit × DataW H) → Nat
  | [] => 0
  | x :: r => uptoBulkEntry x + uptoBulkEntries r
def uptoBulkEntry {H : Type} : Lit × DataW H → Nat
  | (.string bytes, d) => bytes.length + uptoBulk d + 1
  | (_, d) => uptoBulk d + 1
 end
def uptoSmall : (H : Type) → List (DataW H) → Bool := fun _ ds => decide (uptoBulkAll ds ≤ 1048576)
def OpenSpec.upto (s : _root_.Go.ChangeSpec) : _root_.Go.OpenSpec := { _root_.Go.OpenSpec.ofChange s with cond := some uptoSmall }

/-- 'lockgatelaw20.WalkSame', WHERE WHAT IT READS IS OF BULK AT MOST 1048576: true; the input reads as it did. -/
def walkSameUptoRow : OpenClaim := { program := "ytnmlmbbacicojaa", sum := "ebd3d7a98ce63d022311e8b8ea9304a8edfeda062f09b5e588f9c7e7fd128f28", func := "lockgate/lockgatelaw20.WalkSame", spec := "walkSame", unfollowed := true, recurses := true, apart := false, narrowed := true }
def WalkSameUptoSaid : Prop := walkSameUptoRow.holds Try.pinned (OpenSpec.upto walkSameSpec)

/-- 'lockgatelaw20.WalkNumbers', WHERE WHAT IT READS IS OF BULK AT MOST 1048576: true; the input reads as it did. -/
def walkNumbersUptoRow : OpenClaim := { program := "ytnmlmbbacicojaa", sum := "ebd3d7a98ce63d022311e8b8ea9304a8edfeda062f09b5e588f9c7e7fd128f28", func := "lockgate/lockgatelaw20.WalkNumbers", spec := "walkNumbers", unfollowed := true, recurses := true, apart := false, narrowed := true }
def WalkNumbersUptoSaid : Prop := walkNumbersUptoRow.holds Try.pinned (OpenSpec.upto walkNumbersSpec)

/-- 'lockgatelaw20.WalkTurned', WHERE WHAT IT READS IS OF BULK AT MOST 1048576: true; the input reads as it did. -/
def walkTurnedUptoRow : OpenClaim := { program := "ytnmlmbbacicojaa", sum := "ebd3d7a98ce63d022311e8b8ea9304a8edfeda062f09b5e588f9c7e7fd128f28", func := "lockgate/lockgatelaw20.WalkTurned", spec := "walkTurned", unfollowed := true, recurses := true, apart := false, narrowed := true }
def WalkTurnedUptoSaid : Prop := walkTurnedUptoRow.holds Try.pinned (OpenSpec.upto walkTurnedSpec)

/-- 'lockgatelaw20.WalkFinds', WHERE WHAT IT READS IS OF BULK AT MOST 1048576: true; the input reads as it did. -/
def walkFindsUptoRow : OpenClaim := { program := "ytnmlmbbacicojaa", sum := "ebd3d7a98ce63d022311e8b8ea9304a8edfeda062f09b5e588f9c7e7fd128f28", func := "lockgate/lockgatelaw20.WalkFinds", spec := "walkFinds", inPlace := ["internal/bytealg.IndexByteString", "internal/bytealg.IndexString"], unfollowed := true, recurses := true, named := ["internal/bytealg.MaxLen"], apart := false, narrowed := true }
def WalkFindsUptoSaid : Prop := walkFindsUptoRow.holds Try.pinned (OpenSpec.upto walkFindsSpec)

/-- 'lockgatelaw20.WalkDeep', WHERE WHAT IT READS IS OF BULK AT MOST 1048576: true; the input reads as it did. -/
def walkDeepUptoRow : OpenClaim := { program := "ytnmlmbbacicojaa", sum := "ebd3d7a98ce63d022311e8b8ea9304a8edfeda062f09b5e588f9c7e7fd128f28", func := "lockgate/lockgatelaw20.WalkDeep", spec := "walkDeep", inPlace := ["internal/bytealg.IndexByteString", "internal/bytealg.IndexString"], unfollowed := true, recurses := true, named := ["internal/bytealg.MaxLen"], apart := false, narrowed := true }
def WalkDeepUptoSaid : Prop := walkDeepUptoRow.holds Try.pinned (OpenSpec.upto walkDeepSpec)

/-- 'lockgatelaw20.WalkLinks', WHERE WHAT IT READS IS OF BULK AT MOST 1048576: true; the input reads as it did. -/
def walkLinksUptoRow : OpenClaim := { program := "ytnmlmbbacicojaa", sum := "ebd3d7a98ce63d022311e8b8ea9304a8edfeda062f09b5e588f9c7e7fd128f28", func := "lockgate/lockgatelaw20.WalkLinks", spec := "walkLinks", inPlace := ["internal/bytealg.IndexByteString", "internal/bytealg.IndexString"], unfollowed := true, recurses := true, named := ["internal/bytealg.MaxLen"], apart := false, narrowed := true }
def WalkLinksUptoSaid : Prop := walkLinksUptoRow.holds Try.pinned (OpenSpec.upto walkLinksSpec)

end Rows
end Go.Proofs.Ytnmlmbbacicojaa
