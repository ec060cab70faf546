/-
  No cell of these rows narrows 'for every input' (looked for: loops, veiled, ifaces, maps, wideKeys, modest, calm, conditions, laid).
  DERIVED. THE GIVEN ROWS OF THIS SEAT. 4 by the template 'for every input the law returns true; each argument reads behind the call as it read before'; 0 by the template 'total and deterministic' (their statements: YtjfejimghbohdaaTotals.lean).
  GIVEN WITH THE SEED: the statements are not yours to turn. If you find one false, say at which input.
  Laid BY PROGRAM, IN A SANDBOX (cutbox-rows.mjs): the forced cells as the released guide's own fill.sh prints them over the translation 69b52b8e331b760d… (all of the seat's roots in one cut). By AI agents, Wed Nov 11 2026. No macro, syntax, notation, axiom, sorry.
-/
import Derived.Test.YtjfejimghbohdaaChecked
import GoSem.Claim
import GoSem.ClaimJoined
import GoSem.ClaimMapViews
import Derived.JoinedTies
import Derived.KernelRfl
namespace Go.Proofs.Ytjfejimghbohdaa
/- THE CELL 'sum', in the pinned program and in every row, IS THE sha256 OF THE DUMP (.gsa) THAT YtjfejimghbohdaaProg.lean LOADS. Nothing in Lean hashes anything: it is a label: what it is worth is what the hold of that sum in a sandbox is worth. -/
noncomputable def Try.pinned : Pinned := { name := "ytjfejimghbohdaa", sum := "69b52b8e331b760dbd97024c2fea566b3c0f76ea69be5163b072dffe4ad29ca9", checked := Try.checked }
namespace Rows
def none {H : Type} : Left H := { results := [], args := [] }

/-- 'lockgatelaw22.SyncerBrings': WHATEVER THE INPUT: true; the input reads as it did. -/
def syncerBringsSpec : ChangeSpec := { name := "syncerBrings", fn := fun _ => fun
  | [d1, d2] => { results := [.lit (.bool true)], args := [d1, d2] }
  | _ => none }
def syncerBringsRow : OpenClaim := { program := "ytjfejimghbohdaa", sum := "69b52b8e331b760dbd97024c2fea566b3c0f76ea69be5163b072dffe4ad29ca9", func := "lockgate/lockgatelaw22.SyncerBrings", spec := "syncerBrings", inPlace := ["maps.clone"], unfollowed := true, recurses := true, apart := false }
def SyncerBringsSaid : Prop := syncerBringsRow.holds Try.pinned (OpenSpec.ofChange syncerBringsSpec)

/-- ITS FALSE NEIGHBOUR: 'it returns false'. Refute it at one input. -/
def syncerBringsWrong : ChangeSpec := { name := "syncerBrings", fn := fun _ => fun
  | [d1, d2] => { results := [.lit (.bool false)], args := [d1, d2] }
  | _ => none }
def SyncerBringsWrongFalsely : Prop := syncerBringsRow.holds Try.pinned (OpenSpec.ofChange syncerBringsWrong)

/-- 'lockgatelaw22.SyncerLeast': WHATEVER THE INPUT: true; the input reads as it did. -/
def syncerLeastSpec : ChangeSpec := { name := "syncerLeast", fn := fun _ => fun
  | [d] => { results := [.lit (.bool true)], args := [d] }
  | _ => none }
def syncerLeastRow : OpenClaim := { program := "ytjfejimghbohdaa", sum := "69b52b8e331b760dbd97024c2fea566b3c0f76ea69be5163b072dffe4ad29ca9", func := "lockgate/lockgatelaw22.SyncerLeast", spec := "syncerLeast", inPlace := ["maps.clone"], unfollowed := true, recurses := true, apart := false }
def SyncerLeastSaid : Prop := syncerLeastRow.holds Try.pinned (OpenSpec.ofChange syncerLeastSpec)

/-- ITS FALSE NEIGHBOUR: 'it returns false'. Refute it at one input. -/
def syncerLeastWrong : ChangeSpec := { name := "syncerLeast", fn := fun _ => fun
  | [d] => { results := [.lit (.bool false)], args := [d] }
  | _ => none }
def SyncerLeastWrongFalsely : Prop := syncerLeastRow.holds Try.pinned (OpenSpec.ofChange syncerLeastWrong)

/-- 'lockgatelaw22.SyncerChain': WHATEVER THE INPUT: true; the input reads as it did. -/
def syncerChainSpec : ChangeSpec := { name := "syncerChain", fn := fun _ => fun
  | [d1, d2] => { results := [.lit (.bool true)], args := [d1, d2] }
  | _ => none }
def syncerChainRow : OpenClaim := { program := "ytjfejimghbohdaa", sum := "69b52b8e331b760dbd97024c2fea566b3c0f76ea69be5163b072dffe4ad29ca9", func := "lockgate/lockgatelaw22.SyncerChain", spec := "syncerChain", inPlace := ["maps.clone"], unfollowed := true, recurses := true, apart := false }
def SyncerChainSaid : Prop := syncerChainRow.holds Try.pinned (OpenSpec.ofChange syncerChainSpec)

/-- ITS FALSE NEIGHBOUR: 'it returns false'. Refute it at one input. -/
def syncerChainWrong : ChangeSpec := { name := "syncerChain", fn := fun _ => fun
  | [d1, d2] => { results := [.lit (.bool false)], args := [d1, d2] }
  | _ => none }
def SyncerChainWrongFalsely : Prop := syncerChainRow.holds Try.pinned (OpenSpec.ofChange syncerChainWrong)

/-- 'lockgatelaw22.SyncerPlans': WHATEVER THE INPUT: true; the input reads as it did. -/
def syncerPlansSpec : ChangeSpec := { name := "syncerPlans", fn := fun _ => fun
  | [d1, d2] => { results := [.lit (.bool true)], args := [d1, d2] }
  | _ => none }
def syncerPlansRow : OpenClaim := { program := "ytjfejimghbohdaa", sum := "69b52b8e331b760dbd97024c2fea566b3c0f76ea69be5163b072dffe4ad29ca9", func := "lockgate/lockgatelaw22.SyncerPlans", spec := "syncerPlans", inPlace := ["maps.clone"], unfollowed := true, recurses := true, apart := false }
def SyncerPlansSaid : Prop := syncerPlansRow.holds Try.pinned (OpenSpec.ofChange syncerPlansSpec)

/-- ITS FALSE NEIGHBOUR: 'it returns false'. Refute it at one input. -/
def syncerPlansWrong : ChangeSpec := { name := "syncerPlans", fn := fun _ => fun
  | [d1, d2] => { results := [.lit (.bool false)], args := [d1, d2] }
  | _ => none }
def SyncerPlansWrongFalsely : Prop := syncerPlansRow.holds Try.pinned (OpenSpec.ofChange syncerPlansWrong)

/- THE SECOND FORM. 'bulk': how many values and letters a reading holds, each counted each time it is reached (what is shared counts as often as it is met; a slice's spare places count too). A statement '..UptoSaid' is the law's where the arguments, and the package variables that the reading takes, are together of bulk at most 1048576: NARROWER than '..Said'. Prove '..Said' where nothing that the law and all that it calls make is longer than what came in: it says more and counts as full. Else prove '..UptoSaid'. A law counts once. -/
mutual
def uptoBulk {H : Type} : DataW H → Nat
  | .lit (.string bytes) => bytes.length + 1
  | .lit _ => 1
  | .nil => 1
  | .ptr d => uptoBulk d + 1
  | .slice elems spare => uptoBulkAll elems + uptoBulkAll spare + 1
  | .agg parts => uptoBulkAll parts + 1
  | .iface _ d => uptoBulk d + 1
  | .map entries => uptoBulkEntries entries + 1
  | .held _ => 1
def uptoBulkAll {H : Type} : List (DataW H) → Nat
  | [] => 0
  | d :: r => uptoBulk d + uptoBulkAll r
def uptoBulkEntries {H : Type} : List (Lit × DataW H) → Nat
  | [] => 0
  | x :: r => uptoBulkEntry x + uptoBulkEntries r
def uptoBulkEntry {H : Type} : Lit × DataW H → Nat
  | (.string bytes, d) => bytes.length + uptoBulk d + 1
  | (_, d) => uptoBulk d + 1
 end
def uptoSmall : (H : Type) → List (DataW H) → Bool := fun _ ds => decide (uptoBulkAll ds ≤ 1048576)
def OpenSpec.upto (s : _root_.Go.ChangeSpec) : _root_.Go.OpenSpec := { _root_.Go.OpenSpec.ofChange s with cond := some uptoSmall }

/-- 'lockgatelaw22.SyncerBrings', WHERE WHAT IT READS IS OF BULK AT MOST 1048576: true; the input reads as it did. -/
def syncerBringsUptoRow : OpenClaim := { program := "ytjfejimghbohdaa", sum := "69b52b8e331b760dbd97024c2fea566b3c0f76ea69be5163b072dffe4ad29ca9", func := "lockgate/lockgatelaw22.SyncerBrings", spec := "syncerBrings", inPlace := ["maps.clone"], unfollowed := true, recurses := true, apart := false, narrowed := true }
def SyncerBringsUptoSaid : Prop := syncerBringsUptoRow.holds Try.pinned (OpenSpec.upto syncerBringsSpec)

/-- 'lockgatelaw22.SyncerLeast', WHERE WHAT IT READS IS OF BULK AT MOST 1048576: true; the input reads as it did. -/
def syncerLeastUptoRow : OpenClaim := { program := "ytjfejimghbohdaa", sum := "69b52b8e331b760dbd97024c2fea566b3c0f76ea69be5163b072dffe4ad29ca9", func := "lockgate/lockgatelaw22.SyncerLeast", spec := "syncerLeast", inPlace := ["maps.clone"], unfollowed := true, recurses := true, apart := false, narrowed := true }
def SyncerLeastUptoSaid : Prop := syncerLeastUptoRow.holds Try.pinned (OpenSpec.upto syncerLeastSpec)

/-- 'lockgatelaw22.SyncerChain', WHERE WHAT IT READS IS OF BULK AT MOST 1048576: true; the input reads as it did. -/
def syncerChainUptoRow : OpenClaim := { program := "ytjfejimghbohdaa", sum := "69b52b8e331b760dbd97024c2fea566b3c0f76ea69be5163b072dffe4ad29ca9", func := "lockgate/lockgatelaw22.SyncerChain", spec := "syncerChain", inPlace := ["maps.clone"], unfollowed := true, recurses := true, apart := false, narrowed := true }
def SyncerChainUptoSaid : Prop := syncerChainUptoRow.holds Try.pinned (OpenSpec.upto syncerChainSpec)

/-- 'lockgatelaw22.SyncerPlans', WHERE WHAT IT READS IS OF BULK AT MOST 1048576: true; the input reads as it did. -/
def syncerPlansUptoRow : OpenClaim := { program := "ytjfejimghbohdaa", sum := "69b52b8e331b760dbd97024c2fea566b3c0f76ea69be5163b072dffe4ad29ca9", func := "lockgate/lockgatelaw22.SyncerPlans", spec := "syncerPlans", inPlace := ["maps.clone"], unfollowed := true, recurses := true, apart := false, narrowed := true }
def SyncerPlansUptoSaid : Prop := syncerPlansUptoRow.holds Try.pinned (OpenSpec.upto syncerPlansSpec)

end Rows
end Go.Proofs.Ytjfejimghbohdaa
