/-
  No cell of these rows narrows 'for every input' (looked for: loops, veiled, ifaces, maps, wideKeys, modest, calm, conditions, laid).
  DERIVED. THE GIVEN ROWS OF THIS SEAT. 5 by the template 'for every input the law returns true; each argument reads behind the call as it read before'; 0 by the template 'total and deterministic' (their statements: YtegkgcdcglaemaaTotals.lean).
  GIVEN WITH THE SEED: the statements are not yours to turn. If you find one false, say at which input.
  Laid BY PROGRAM, IN A SANDBOX (cutbox-rows.mjs): the forced cells as the released guide's own fill.sh prints them over the translation 83e487caf54adc2d… (all of the seat's roots in one cut). By AI agents, Wed Nov 11 2026. No macro, syntax, notation, axiom, sorry.
-/
import Derived.Test.YtegkgcdcglaemaaChecked
import GoSem.Claim
import GoSem.ClaimJoined
import GoSem.ClaimMapViews
import Derived.JoinedTies
import Derived.KernelRfl
namespace Go.Proofs.Ytegkgcdcglaemaa
/- THE CELL 'sum', in the pinned program and in every row, IS THE sha256 OF THE DUMP (.gsa) THAT YtegkgcdcglaemaaProg.lean LOADS. Nothing in Lean hashes anything: it is a label: what it is worth is what the hold of that sum in a sandbox is worth. -/
noncomputable def Try.pinned : Pinned := { name := "ytegkgcdcglaemaa", sum := "83e487caf54adc2dcafaa92d5468ec91900fbe8f8ab8137cbf4773ad4d03e893", checked := Try.checked }
namespace Rows
def none {H : Type} : Left H := { results := [], args := [] }

/-- 'lockgatelaw9.BmapMeta': WHATEVER THE INPUT: true; the input reads as it did. -/
def bmapMetaSpec : ChangeSpec := { name := "bmapMeta", fn := fun _ => fun
  | [d] => { results := [.lit (.bool true)], args := [d] }
  | _ => none }
def bmapMetaRow : OpenClaim := { program := "ytegkgcdcglaemaa", sum := "83e487caf54adc2dcafaa92d5468ec91900fbe8f8ab8137cbf4773ad4d03e893", func := "lockgate/lockgatelaw9.BmapMeta", spec := "bmapMeta", plainKeys := false, apart := false }
def BmapMetaSaid : Prop := bmapMetaRow.holds Try.pinned (OpenSpec.ofChange bmapMetaSpec)

/-- ITS FALSE NEIGHBOUR: 'it returns false'. Refute it at one input. -/
def bmapMetaWrong : ChangeSpec := { name := "bmapMeta", fn := fun _ => fun
  | [d] => { results := [.lit (.bool false)], args := [d] }
  | _ => none }
def BmapMetaWrongFalsely : Prop := bmapMetaRow.holds Try.pinned (OpenSpec.ofChange bmapMetaWrong)

/-- 'lockgatelaw9.BmapOnce': WHATEVER THE INPUT: true; the input reads as it did. -/
def bmapOnceSpec : ChangeSpec := { name := "bmapOnce", fn := fun _ => fun
  | [d1, d2] => { results := [.lit (.bool true)], args := [d1, d2] }
  | _ => none }
def bmapOnceRow : OpenClaim := { program := "ytegkgcdcglaemaa", sum := "83e487caf54adc2dcafaa92d5468ec91900fbe8f8ab8137cbf4773ad4d03e893", func := "lockgate/lockgatelaw9.BmapOnce", spec := "bmapOnce", plainKeys := false, apart := false }
def BmapOnceSaid : Prop := bmapOnceRow.holds Try.pinned (OpenSpec.ofChange bmapOnceSpec)

/-- ITS FALSE NEIGHBOUR: 'it returns false'. Refute it at one input. -/
def bmapOnceWrong : ChangeSpec := { name := "bmapOnce", fn := fun _ => fun
  | [d1, d2] => { results := [.lit (.bool false)], args := [d1, d2] }
  | _ => none }
def BmapOnceWrongFalsely : Prop := bmapOnceRow.holds Try.pinned (OpenSpec.ofChange bmapOnceWrong)

/-- 'lockgatelaw9.BmapGrow': WHATEVER THE INPUT: true; the input reads as it did. -/
def bmapGrowSpec : ChangeSpec := { name := "bmapGrow", fn := fun _ => fun
  | [d] => { results := [.lit (.bool true)], args := [d] }
  | _ => none }
def bmapGrowRow : OpenClaim := { program := "ytegkgcdcglaemaa", sum := "83e487caf54adc2dcafaa92d5468ec91900fbe8f8ab8137cbf4773ad4d03e893", func := "lockgate/lockgatelaw9.BmapGrow", spec := "bmapGrow", plainKeys := false, apart := false }
def BmapGrowSaid : Prop := bmapGrowRow.holds Try.pinned (OpenSpec.ofChange bmapGrowSpec)

/-- ITS FALSE NEIGHBOUR: 'it returns false'. Refute it at one input. -/
def bmapGrowWrong : ChangeSpec := { name := "bmapGrow", fn := fun _ => fun
  | [d] => { results := [.lit (.bool false)], args := [d] }
  | _ => none }
def BmapGrowWrongFalsely : Prop := bmapGrowRow.holds Try.pinned (OpenSpec.ofChange bmapGrowWrong)

/-- 'lockgatelaw9.BmapBack': WHATEVER THE INPUT: true; the input reads as it did. -/
def bmapBackSpec : ChangeSpec := { name := "bmapBack", fn := fun _ => fun
  | [d] => { results := [.lit (.bool true)], args := [d] }
  | _ => none }
def bmapBackRow : OpenClaim := { program := "ytegkgcdcglaemaa", sum := "83e487caf54adc2dcafaa92d5468ec91900fbe8f8ab8137cbf4773ad4d03e893", func := "lockgate/lockgatelaw9.BmapBack", spec := "bmapBack", plainKeys := false, apart := false }
def BmapBackSaid : Prop := bmapBackRow.holds Try.pinned (OpenSpec.ofChange bmapBackSpec)

/-- ITS FALSE NEIGHBOUR: 'it returns false'. Refute it at one input. -/
def bmapBackWrong : ChangeSpec := { name := "bmapBack", fn := fun _ => fun
  | [d] => { results := [.lit (.bool false)], args := [d] }
  | _ => none }
def BmapBackWrongFalsely : Prop := bmapBackRow.holds Try.pinned (OpenSpec.ofChange bmapBackWrong)

/-- 'lockgatelaw9.BmapTells': WHATEVER THE INPUT: true; the input reads as it did. -/
def bmapTellsSpec : ChangeSpec := { name := "bmapTells", fn := fun _ => fun
  | [d1, d2, d3, d4] => { results := [.lit (.bool true)], args := [d1, d2, d3, d4] }
  | _ => none }
def bmapTellsRow : OpenClaim := { program := "ytegkgcdcglaemaa", sum := "83e487caf54adc2dcafaa92d5468ec91900fbe8f8ab8137cbf4773ad4d03e893", func := "lockgate/lockgatelaw9.BmapTells", spec := "bmapTells", plainKeys := false, apart := false }
def BmapTellsSaid : Prop := bmapTellsRow.holds Try.pinned (OpenSpec.ofChange bmapTellsSpec)

/-- ITS FALSE NEIGHBOUR: 'it returns false'. Refute it at one input. -/
def bmapTellsWrong : ChangeSpec := { name := "bmapTells", fn := fun _ => fun
  | [d1, d2, d3, d4] => { results := [.lit (.bool false)], args := [d1, d2, d3, d4] }
  | _ => none }
def BmapTellsWrongFalsely : Prop := bmapTellsRow.holds Try.pinned (OpenSpec.ofChange bmapTellsWrong)

/- THE SECOND FORM. 'bulk': how many values and letters a reading holds, each counted each time it is reached (what is shared counts as often as it is met; a slice's spare places count too). A statement '..UptoSaid' is the law's where the arguments, and the package variables that the reading takes, are together of bulk at most 1048576: NARROWER than '..Said'. Prove '..Said' where nothing that the law and all that it calls make is longer than what came in: it says more and counts as full. Else prove '..UptoSaid'. A law counts once. -/
mutual
def uptoBulk {H : Type} : DataW H → Nat
  | .lit (.string bytes) => bytes.length + 1
  | .lit _ => 1
  | .nil => 1
  | .ptr d => uptoBulk d + 1
  | .slice elems spare => uptoBulkAll elems + uptoBulkAll spare + 1
  | .agg parts => uptoBulkAll parts + 1
  | .iface _ d => uptoBulk d + 1
  | .map entries => uptoBulkEntries entries + 1
  | .held _ => 1
def uptoBulkAll {H : Type} : List (DataW H) → Nat
  | [] => 0
  | d :: r => uptoBulk d + uptoBulkAll r
def uptoBulkEntries {H : Type} : List (Lit × DataW H) → Nat
  | [] => 0
  | x :: r => uptoBulkEntry x + uptoBulkEntries r
def uptoBulkEntry {H : Type} : Lit × DataW H → Nat
  | (.string bytes, d) => bytes.length + uptoBulk d + 1
  | (_, d) => uptoBulk d + 1
 end
def uptoSmall : (H : Type) → List (DataW H) → Bool := fun _ ds => decide (uptoBulkAll ds ≤ 1048576)
def OpenSpec.upto (s : _root_.Go.ChangeSpec) : _root_.Go.OpenSpec := { _root_.Go.OpenSpec.ofChange s with cond := some uptoSmall }

/-- 'lockgatelaw9.BmapMeta', WHERE WHAT IT READS IS OF BULK AT MOST 1048576: true; the input reads as it did. -/
def bmapMetaUptoRow : OpenClaim := { program := "ytegkgcdcglaemaa", sum := "83e487caf54adc2dcafaa92d5468ec91900fbe8f8ab8137cbf4773ad4d03e893", func := "lockgate/lockgatelaw9.BmapMeta", spec := "bmapMeta", plainKeys := false, apart := false, narrowed := true }
def BmapMetaUptoSaid : Prop := bmapMetaUptoRow.holds Try.pinned (OpenSpec.upto bmapMetaSpec)

/-- 'lockgatelaw9.BmapOnce', WHERE WHAT IT READS IS OF BULK AT MOST 1048576: true; the input reads as it did. -/
def bmapOnceUptoRow : OpenClaim := { program := "ytegkgcdcglaemaa", sum := "83e487caf54adc2dcafaa92d5468ec91900fbe8f8ab8137cbf4773ad4d03e893", func := "lockgate/lockgatelaw9.BmapOnce", spec := "bmapOnce", plainKeys := false, apart := false, narrowed := true }
def BmapOnceUptoSaid : Prop := bmapOnceUptoRow.holds Try.pinned (OpenSpec.upto bmapOnceSpec)

/-- 'lockgatelaw9.BmapGrow', WHERE WHAT IT READS IS OF BULK AT MOST 1048576: true; the input reads as it did. -/
def bmapGrowUptoRow : OpenClaim := { program := "ytegkgcdcglaemaa", sum := "83e487caf54adc2dcafaa92d5468ec91900fbe8f8ab8137cbf4773ad4d03e893", func := "lockgate/lockgatelaw9.BmapGrow", spec := "bmapGrow", plainKeys := false, apart := false, narrowed := true }
def BmapGrowUptoSaid : Prop := bmapGrowUptoRow.holds Try.pinned (OpenSpec.upto bmapGrowSpec)

/-- 'lockgatelaw9.BmapBack', WHERE WHAT IT READS IS OF BULK AT MOST 1048576: true; the input reads as it did. -/
def bmapBackUptoRow : OpenClaim := { program := "ytegkgcdcglaemaa", sum := "83e487caf54adc2dcafaa92d5468ec91900fbe8f8ab8137cbf4773ad4d03e893", func := "lockgate/lockgatelaw9.BmapBack", spec := "bmapBack", plainKeys := false, apart := false, narrowed := true }
def BmapBackUptoSaid : Prop := bmapBackUptoRow.holds Try.pinned (OpenSpec.upto bmapBackSpec)

/-- 'lockgatelaw9.BmapTells', WHERE WHAT IT READS IS OF BULK AT MOST 1048576: true; the input reads as it did. -/
def bmapTellsUptoRow : OpenClaim := { program := "ytegkgcdcglaemaa", sum := "83e487caf54adc2dcafaa92d5468ec91900fbe8f8ab8137cbf4773ad4d03e893", func := "lockgate/lockgatelaw9.BmapTells", spec := "bmapTells", plainKeys := false, apart := false, narrowed := true }
def BmapTellsUptoSaid : Prop := bmapTellsUptoRow.holds Try.pinned (OpenSpec.upto bmapTellsSpec)

end Rows
end Go.Proofs.Ytegkgcdcglaemaa
