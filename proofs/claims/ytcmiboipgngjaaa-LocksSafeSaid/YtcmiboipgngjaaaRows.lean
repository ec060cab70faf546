/-
  No cell of these rows narrows 'for every input' (looked for: loops, veiled, ifaces, maps, wideKeys, modest, calm, conditions, laid).
  DERIVED. THE GIVEN ROWS OF THIS SEAT. 6 by the template 'for every input the law returns true; each argument reads behind the call as it read before'; 0 by the template 'total and deterministic' (their statements: YtcmiboipgngjaaaTotals.lean).
  GIVEN WITH THE SEED: the statements are not yours to turn. If you find one false, say at which input.
  Laid BY PROGRAM, IN A SANDBOX (cutbox-rows.mjs): the forced cells as the released guide's own fill.sh prints them over the translation 1650ca01a4a48a86… (all of the seat's roots in one cut). By AI agents, Wed Nov 11 2026. No macro, syntax, notation, axiom, sorry.
-/
import Derived.Test.YtcmiboipgngjaaaChecked
import GoSem.Claim
import GoSem.ClaimJoined
import GoSem.ClaimMapViews
import Derived.JoinedTies
import Derived.KernelRfl
namespace Go.Proofs.Ytcmiboipgngjaaa
/- THE CELL 'sum', in the pinned program and in every row, IS THE sha256 OF THE DUMP (.gsa) THAT YtcmiboipgngjaaaProg.lean LOADS. Nothing in Lean hashes anything: it is a label: what it is worth is what the hold of that sum in a sandbox is worth. -/
noncomputable def Try.pinned : Pinned := { name := "ytcmiboipgngjaaa", sum := "1650ca01a4a48a86473417ede1cfe95a1ce7cd3e45877efcc007c3a76f408156", checked := Try.checked }
namespace Rows
def none {H : Type} : Left H := { results := [], args := [] }

/-- 'lockgatelaw15.LocksRing': WHATEVER THE INPUT: true; the input reads as it did. -/
def locksRingSpec : ChangeSpec := { name := "locksRing", fn := fun _ => fun
  | [d1, d2, d3] => { results := [.lit (.bool true)], args := [d1, d2, d3] }
  | _ => none }
def locksRingRow : OpenClaim := { program := "ytcmiboipgngjaaa", sum := "1650ca01a4a48a86473417ede1cfe95a1ce7cd3e45877efcc007c3a76f408156", func := "lockgate/lockgatelaw15.LocksRing", spec := "locksRing", inPlace := ["maps.clone"], unfollowed := true, recurses := true, apart := false }
def LocksRingSaid : Prop := locksRingRow.holds Try.pinned (OpenSpec.ofChange locksRingSpec)

/-- ITS FALSE NEIGHBOUR: 'it returns false'. Refute it at one input. -/
def locksRingWrong : ChangeSpec := { name := "locksRing", fn := fun _ => fun
  | [d1, d2, d3] => { results := [.lit (.bool false)], args := [d1, d2, d3] }
  | _ => none }
def LocksRingWrongFalsely : Prop := locksRingRow.holds Try.pinned (OpenSpec.ofChange locksRingWrong)

/-- 'lockgatelaw15.LocksOrder': WHATEVER THE INPUT: true; the input reads as it did. -/
def locksOrderSpec : ChangeSpec := { name := "locksOrder", fn := fun _ => fun
  | [d1, d2] => { results := [.lit (.bool true)], args := [d1, d2] }
  | _ => none }
def locksOrderRow : OpenClaim := { program := "ytcmiboipgngjaaa", sum := "1650ca01a4a48a86473417ede1cfe95a1ce7cd3e45877efcc007c3a76f408156", func := "lockgate/lockgatelaw15.LocksOrder", spec := "locksOrder", inPlace := ["maps.clone"], unfollowed := true, recurses := true, apart := false }
def LocksOrderSaid : Prop := locksOrderRow.holds Try.pinned (OpenSpec.ofChange locksOrderSpec)

/-- ITS FALSE NEIGHBOUR: 'it returns false'. Refute it at one input. -/
def locksOrderWrong : ChangeSpec := { name := "locksOrder", fn := fun _ => fun
  | [d1, d2] => { results := [.lit (.bool false)], args := [d1, d2] }
  | _ => none }
def LocksOrderWrongFalsely : Prop := locksOrderRow.holds Try.pinned (OpenSpec.ofChange locksOrderWrong)

/-- 'lockgatelaw15.LocksSafe': WHATEVER THE INPUT: true; the input reads as it did. -/
def locksSafeSpec : ChangeSpec := { name := "locksSafe", fn := fun _ => fun
  | [d1, d2] => { results := [.lit (.bool true)], args := [d1, d2] }
  | _ => none }
def locksSafeRow : OpenClaim := { program := "ytcmiboipgngjaaa", sum := "1650ca01a4a48a86473417ede1cfe95a1ce7cd3e45877efcc007c3a76f408156", func := "lockgate/lockgatelaw15.LocksSafe", spec := "locksSafe", inPlace := ["maps.clone"], unfollowed := true, recurses := true, apart := false }
def LocksSafeSaid : Prop := locksSafeRow.holds Try.pinned (OpenSpec.ofChange locksSafeSpec)

/-- ITS FALSE NEIGHBOUR: 'it returns false'. Refute it at one input. -/
def locksSafeWrong : ChangeSpec := { name := "locksSafe", fn := fun _ => fun
  | [d1, d2] => { results := [.lit (.bool false)], args := [d1, d2] }
  | _ => none }
def LocksSafeWrongFalsely : Prop := locksSafeRow.holds Try.pinned (OpenSpec.ofChange locksSafeWrong)

/-- 'lockgatelaw15.LocksShared': WHATEVER THE INPUT: true; the input reads as it did. -/
def locksSharedSpec : ChangeSpec := { name := "locksShared", fn := fun _ => fun
  | [d1, d2] => { results := [.lit (.bool true)], args := [d1, d2] }
  | _ => none }
def locksSharedRow : OpenClaim := { program := "ytcmiboipgngjaaa", sum := "1650ca01a4a48a86473417ede1cfe95a1ce7cd3e45877efcc007c3a76f408156", func := "lockgate/lockgatelaw15.LocksShared", spec := "locksShared", inPlace := ["maps.clone"], unfollowed := true, recurses := true, apart := false }
def LocksSharedSaid : Prop := locksSharedRow.holds Try.pinned (OpenSpec.ofChange locksSharedSpec)

/-- ITS FALSE NEIGHBOUR: 'it returns false'. Refute it at one input. -/
def locksSharedWrong : ChangeSpec := { name := "locksShared", fn := fun _ => fun
  | [d1, d2] => { results := [.lit (.bool false)], args := [d1, d2] }
  | _ => none }
def LocksSharedWrongFalsely : Prop := locksSharedRow.holds Try.pinned (OpenSpec.ofChange locksSharedWrong)

/-- 'lockgatelaw15.LocksFirst': WHATEVER THE INPUT: true; the input reads as it did. -/
def locksFirstSpec : ChangeSpec := { name := "locksFirst", fn := fun _ => fun
  | [d] => { results := [.lit (.bool true)], args := [d] }
  | _ => none }
def locksFirstRow : OpenClaim := { program := "ytcmiboipgngjaaa", sum := "1650ca01a4a48a86473417ede1cfe95a1ce7cd3e45877efcc007c3a76f408156", func := "lockgate/lockgatelaw15.LocksFirst", spec := "locksFirst", inPlace := ["maps.clone"], unfollowed := true, recurses := true, apart := false }
def LocksFirstSaid : Prop := locksFirstRow.holds Try.pinned (OpenSpec.ofChange locksFirstSpec)

/-- ITS FALSE NEIGHBOUR: 'it returns false'. Refute it at one input. -/
def locksFirstWrong : ChangeSpec := { name := "locksFirst", fn := fun _ => fun
  | [d] => { results := [.lit (.bool false)], args := [d] }
  | _ => none }
def LocksFirstWrongFalsely : Prop := locksFirstRow.holds Try.pinned (OpenSpec.ofChange locksFirstWrong)

/-- 'lockgatelaw15.LocksPlay': WHATEVER THE INPUT: true; the input reads as it did. -/
def locksPlaySpec : ChangeSpec := { name := "locksPlay", fn := fun _ => fun
  | [d] => { results := [.lit (.bool true)], args := [d] }
  | _ => none }
def locksPlayRow : OpenClaim := { program := "ytcmiboipgngjaaa", sum := "1650ca01a4a48a86473417ede1cfe95a1ce7cd3e45877efcc007c3a76f408156", func := "lockgate/lockgatelaw15.LocksPlay", spec := "locksPlay", inPlace := ["maps.clone"], unfollowed := true, recurses := true, apart := false }
def LocksPlaySaid : Prop := locksPlayRow.holds Try.pinned (OpenSpec.ofChange locksPlaySpec)

/-- ITS FALSE NEIGHBOUR: 'it returns false'. Refute it at one input. -/
def locksPlayWrong : ChangeSpec := { name := "locksPlay", fn := fun _ => fun
  | [d] => { results := [.lit (.bool false)], args := [d] }
  | _ => none }
def LocksPlayWrongFalsely : Prop := locksPlayRow.holds Try.pinned (OpenSpec.ofChange locksPlayWrong)

/- THE SECOND FORM. 'bulk': how many values and letters a reading holds, each counted each time it is reached (what is shared counts as often as it is met; a slice's spare places count too). A statement '..UptoSaid' is the law's where the arguments, and the package variables that the reading takes, are together of bulk at most 1048576: NARROWER than '..Said'. Prove '..Said' where nothing that the law and all that it calls make is longer than what came in: it says more and counts as full. Else prove '..UptoSaid'. A law counts once. -/
mutual
def uptoBulk {H : Type} : DataW H → Nat
  | .lit (.string bytes) => bytes.length + 1
  | .lit _ => 1
  | .nil => 1
  | .ptr d => uptoBulk d + 1
  | .slice elems spare => uptoBulkAll elems + uptoBulkAll spare + 1
  | .agg parts => uptoBulkAll parts + 1
  | .iface _ d => uptoBulk d + 1
  | .map entries => uptoBulkEntries entries + 1
  | .held _ => 1
def uptoBulkAll {H : Type} : List (DataW H) → Nat
  | [] => 0
  | d :: r => uptoBulk d + uptoBulkAll r
def uptoBulkEntries {H : Type} : List (Lit × DataW H) → Nat
  | [] => 0
  | x :: r => uptoBulkEntry x + uptoBulkEntries r
def uptoBulkEntry {H : Type} : Lit × DataW H → Nat
  | (.string bytes, d) => bytes.length + uptoBulk d + 1
  | (_, d) => uptoBulk d + 1
 end
def uptoSmall : (H : Type) → List (DataW H) → Bool := fun _ ds => decide (uptoBulkAll ds ≤ 1048576)
def OpenSpec.upto (s : _root_.Go.ChangeSpec) : _root_.Go.OpenSpec := { _root_.Go.OpenSpec.ofChange s with cond := some uptoSmall }

/-- 'lockgatelaw15.LocksRing', WHERE WHAT IT READS IS OF BULK AT MOST 1048576: true; the input reads as it did. -/
def locksRingUptoRow : OpenClaim := { program := "ytcmiboipgngjaaa", sum := "1650ca01a4a48a86473417ede1cfe95a1ce7cd3e45877efcc007c3a76f408156", func := "lockgate/lockgatelaw15.LocksRing", spec := "locksRing", inPlace := ["maps.clone"], unfollowed := true, recurses := true, apart := false, narrowed := true }
def LocksRingUptoSaid : Prop := locksRingUptoRow.holds Try.pinned (OpenSpec.upto locksRingSpec)

/-- 'lockgatelaw15.LocksOrder', WHERE WHAT IT READS IS OF BULK AT MOST 1048576: true; the input reads as it did. -/
def locksOrderUptoRow : OpenClaim := { program := "ytcmiboipgngjaaa", sum := "1650ca01a4a48a86473417ede1cfe95a1ce7cd3e45877efcc007c3a76f408156", func := "lockgate/lockgatelaw15.LocksOrder", spec := "locksOrder", inPlace := ["maps.clone"], unfollowed := true, recurses := true, apart := false, narrowed := true }
def LocksOrderUptoSaid : Prop := locksOrderUptoRow.holds Try.pinned (OpenSpec.upto locksOrderSpec)

/-- 'lockgatelaw15.LocksSafe', WHERE WHAT IT READS IS OF BULK AT MOST 1048576: true; the input reads as it did. -/
def locksSafeUptoRow : OpenClaim := { program := "ytcmiboipgngjaaa", sum := "1650ca01a4a48a86473417ede1cfe95a1ce7cd3e45877efcc007c3a76f408156", func := "lockgate/lockgatelaw15.LocksSafe", spec := "locksSafe", inPlace := ["maps.clone"], unfollowed := true, recurses := true, apart := false, narrowed := true }
def LocksSafeUptoSaid : Prop := locksSafeUptoRow.holds Try.pinned (OpenSpec.upto locksSafeSpec)

/-- 'lockgatelaw15.LocksShared', WHERE WHAT IT READS IS OF BULK AT MOST 1048576: true; the input reads as it did. -/
def locksSharedUptoRow : OpenClaim := { program := "ytcmiboipgngjaaa", sum := "1650ca01a4a48a86473417ede1cfe95a1ce7cd3e45877efcc007c3a76f408156", func := "lockgate/lockgatelaw15.LocksShared", spec := "locksShared", inPlace := ["maps.clone"], unfollowed := true, recurses := true, apart := false, narrowed := true }
def LocksSharedUptoSaid : Prop := locksSharedUptoRow.holds Try.pinned (OpenSpec.upto locksSharedSpec)

/-- 'lockgatelaw15.LocksFirst', WHERE WHAT IT READS IS OF BULK AT MOST 1048576: true; the input reads as it did. -/
def locksFirstUptoRow : OpenClaim := { program := "ytcmiboipgngjaaa", sum := "1650ca01a4a48a86473417ede1cfe95a1ce7cd3e45877efcc007c3a76f408156", func := "lockgate/lockgatelaw15.LocksFirst", spec := "locksFirst", inPlace := ["maps.clone"], unfollowed := true, recurses := true, apart := false, narrowed := true }
def LocksFirstUptoSaid : Prop := locksFirstUptoRow.holds Try.pinned (OpenSpec.upto locksFirstSpec)

/-- 'lockgatelaw15.LocksPlay', WHERE WHAT IT READS IS OF BULK AT MOST 1048576: true; the input reads as it did. -/
def locksPlayUptoRow : OpenClaim := { program := "ytcmiboipgngjaaa", sum := "1650ca01a4a48a86473417ede1cfe95a1ce7cd3e45877efcc007c3a76f408156", func := "lockgate/lockgatelaw15.LocksPlay", spec := "locksPlay", inPlace := ["maps.clone"], unfollowed := true, recurses := true, apart := false, narrowed := true }
def LocksPlayUptoSaid : Prop := locksPlayUptoRow.holds Try.pinned (OpenSpec.upto locksPlaySpec)

end Rows
end Go.Proofs.Ytcmiboipgngjaaa
