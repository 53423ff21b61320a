/-
  No cell of these rows narrows 'for every input' (looked for: loops, veiled, ifaces, maps, wideKeys, modest, calm, conditions, laid).
  DERIVED. THE GIVEN ROWS OF THIS SEAT. 4 by the template 'for every input the law returns true; each argument reads behind the call as it read before'; 0 by the template 'total and deterministic' (their statements: YtcjmffcpldjbpaaTotals.lean).
  GIVEN WITH THE SEED: the statements are not yours to turn. If you find one false, say at which input.
  Laid BY PROGRAM, IN A SANDBOX (cutbox-rows.mjs): the forced cells as the released guide's own fill.sh prints them over the translation 5a6c843a00453b7a… (all of the seat's roots in one cut). By AI agents, Wed Nov 11 2026. No macro, syntax, notation, axiom, sorry.
-/
import Derived.Test.YtcjmffcpldjbpaaChecked
import GoSem.Claim
import GoSem.ClaimJoined
import GoSem.ClaimMapViews
import Derived.JoinedTies
import Derived.KernelRfl
namespace Go.Proofs.Ytcjmffcpldjbpaa
/- THE CELL 'sum', in the pinned program and in every row, IS THE sha256 OF THE DUMP (.gsa) THAT YtcjmffcpldjbpaaProg.lean LOADS. Nothing in Lean hashes anything: it is a label: what it is worth is what the hold of that sum in a sandbox is worth. -/
noncomputable def Try.pinned : Pinned := { name := "ytcjmffcpldjbpaa", sum := "5a6c843a00453b7a96025428d7344aa64bc4e199eefab8e4670c377bf6a58445", checked := Try.checked }
namespace Rows
def none {H : Type} : Left H := { results := [], args := [] }

/-- 'signalmanlaw14.ReorderFar': WHATEVER THE INPUT: true; the input reads as it did. -/
def reorderFarSpec : ChangeSpec := { name := "reorderFar", fn := fun _ => fun
  | [d1, d2, d3, d4] => { results := [.lit (.bool true)], args := [d1, d2, d3, d4] }
  | _ => none }
def reorderFarRow : OpenClaim := { program := "ytcjmffcpldjbpaa", sum := "5a6c843a00453b7a96025428d7344aa64bc4e199eefab8e4670c377bf6a58445", func := "signalman/signalmanlaw14.ReorderFar", spec := "reorderFar", apart := false }
def ReorderFarSaid : Prop := reorderFarRow.holds Try.pinned (OpenSpec.ofChange reorderFarSpec)

/-- ITS FALSE NEIGHBOUR: 'it returns false'. Refute it at one input. -/
def reorderFarWrong : ChangeSpec := { name := "reorderFar", fn := fun _ => fun
  | [d1, d2, d3, d4] => { results := [.lit (.bool false)], args := [d1, d2, d3, d4] }
  | _ => none }
def ReorderFarWrongFalsely : Prop := reorderFarRow.holds Try.pinned (OpenSpec.ofChange reorderFarWrong)

/-- 'signalmanlaw14.ReorderSorts': WHATEVER THE INPUT: true; the input reads as it did. -/
def reorderSortsSpec : ChangeSpec := { name := "reorderSorts", fn := fun _ => fun
  | [d1, d2, d3, d4] => { results := [.lit (.bool true)], args := [d1, d2, d3, d4] }
  | _ => none }
def reorderSortsRow : OpenClaim := { program := "ytcjmffcpldjbpaa", sum := "5a6c843a00453b7a96025428d7344aa64bc4e199eefab8e4670c377bf6a58445", func := "signalman/signalmanlaw14.ReorderSorts", spec := "reorderSorts", apart := false }
def ReorderSortsSaid : Prop := reorderSortsRow.holds Try.pinned (OpenSpec.ofChange reorderSortsSpec)

/-- ITS FALSE NEIGHBOUR: 'it returns false'. Refute it at one input. -/
def reorderSortsWrong : ChangeSpec := { name := "reorderSorts", fn := fun _ => fun
  | [d1, d2, d3, d4] => { results := [.lit (.bool false)], args := [d1, d2, d3, d4] }
  | _ => none }
def ReorderSortsWrongFalsely : Prop := reorderSortsRow.holds Try.pinned (OpenSpec.ofChange reorderSortsWrong)

/-- 'signalmanlaw14.ReorderPlays': WHATEVER THE INPUT: true; the input reads as it did. -/
def reorderPlaysSpec : ChangeSpec := { name := "reorderPlays", fn := fun _ => fun
  | [d1, d2, d3] => { results := [.lit (.bool true)], args := [d1, d2, d3] }
  | _ => none }
def reorderPlaysRow : OpenClaim := { program := "ytcjmffcpldjbpaa", sum := "5a6c843a00453b7a96025428d7344aa64bc4e199eefab8e4670c377bf6a58445", func := "signalman/signalmanlaw14.ReorderPlays", spec := "reorderPlays", apart := false }
def ReorderPlaysSaid : Prop := reorderPlaysRow.holds Try.pinned (OpenSpec.ofChange reorderPlaysSpec)

/-- ITS FALSE NEIGHBOUR: 'it returns false'. Refute it at one input. -/
def reorderPlaysWrong : ChangeSpec := { name := "reorderPlays", fn := fun _ => fun
  | [d1, d2, d3] => { results := [.lit (.bool false)], args := [d1, d2, d3] }
  | _ => none }
def ReorderPlaysWrongFalsely : Prop := reorderPlaysRow.holds Try.pinned (OpenSpec.ofChange reorderPlaysWrong)

/-- 'signalmanlaw14.ReorderClears': WHATEVER THE INPUT: true; the input reads as it did. -/
def reorderClearsSpec : ChangeSpec := { name := "reorderClears", fn := fun _ => fun
  | [d1, d2] => { results := [.lit (.bool true)], args := [d1, d2] }
  | _ => none }
def reorderClearsRow : OpenClaim := { program := "ytcjmffcpldjbpaa", sum := "5a6c843a00453b7a96025428d7344aa64bc4e199eefab8e4670c377bf6a58445", func := "signalman/signalmanlaw14.ReorderClears", spec := "reorderClears", apart := false }
def ReorderClearsSaid : Prop := reorderClearsRow.holds Try.pinned (OpenSpec.ofChange reorderClearsSpec)

/-- ITS FALSE NEIGHBOUR: 'it returns false'. Refute it at one input. -/
def reorderClearsWrong : ChangeSpec := { name := "reorderClears", fn := fun _ => fun
  | [d1, d2] => { results := [.lit (.bool false)], args := [d1, d2] }
  | _ => none }
def ReorderClearsWrongFalsely : Prop := reorderClearsRow.holds Try.pinned (OpenSpec.ofChange reorderClearsWrong)

/- THE SECOND FORM. 'bulk': how many values and letters a reading holds, each counted each time it is reached (what is shared counts as often as it is met; a slice's spare places count too). A statement '..UptoSaid' is the law's where the arguments, and the package variables that the reading takes, are together of bulk at most 1048576: NARROWER than '..Said'. Prove '..Said' where nothing that the law and all that it calls make is longer than what came in: it says more and counts as full. Else prove '..UptoSaid'. A law counts once. -/
mutual
def uptoBulk {H : Type} : DataW H → Nat
  | .lit (.string bytes) => bytes.length + 1
  | .lit _ => 1
  | .nil => 1
  | .ptr d => uptoBulk d + 1
  | .slice elems spare => uptoBulkAll elems + uptoBulkAll spare + 1
  | .agg parts => uptoBulkAll parts + 1
  | .iface _ d => uptoBulk d + 1
  | .map entries => uptoBulkEntries entries + 1
  | .held _ => 1
def uptoBulkAll {H : Type} : List (DataW H) → Nat
  | [] => 0
  | d :: r => uptoBulk d + uptoBulkAll r
def uptoBulkEntries {H : Type} : List (Lit × DataW H) → Nat
  | [] => 0
  | x :: r => uptoBulkEntry x + uptoBulkEntries r
def uptoBulkEntry {H : Type} : Lit × DataW H → Nat
  | (.string bytes, d) => bytes.length + uptoBulk d + 1
  | (_, d) => uptoBulk d + 1
 end
def uptoSmall : (H : Type) → List (DataW H) → Bool := fun _ ds => decide (uptoBulkAll ds ≤ 1048576)
def OpenSpec.upto (s : _root_.Go.ChangeSpec) : _root_.Go.OpenSpec := { _root_.Go.OpenSpec.ofChange s with cond := some uptoSmall }

/-- 'signalmanlaw14.ReorderFar', WHERE WHAT IT READS IS OF BULK AT MOST 1048576: true; the input reads as it did. -/
def reorderFarUptoRow : OpenClaim := { program := "ytcjmffcpldjbpaa", sum := "5a6c843a00453b7a96025428d7344aa64bc4e199eefab8e4670c377bf6a58445", func := "signalman/signalmanlaw14.ReorderFar", spec := "reorderFar", apart := false, narrowed := true }
def ReorderFarUptoSaid : Prop := reorderFarUptoRow.holds Try.pinned (OpenSpec.upto reorderFarSpec)

/-- 'signalmanlaw14.ReorderSorts', WHERE WHAT IT READS IS OF BULK AT MOST 1048576: true; the input reads as it did. -/
def reorderSortsUptoRow : OpenClaim := { program := "ytcjmffcpldjbpaa", sum := "5a6c843a00453b7a96025428d7344aa64bc4e199eefab8e4670c377bf6a58445", func := "signalman/signalmanlaw14.ReorderSorts", spec := "reorderSorts", apart := false, narrowed := true }
def ReorderSortsUptoSaid : Prop := reorderSortsUptoRow.holds Try.pinned (OpenSpec.upto reorderSortsSpec)

/-- 'signalmanlaw14.ReorderPlays', WHERE WHAT IT READS IS OF BULK AT MOST 1048576: true; the input reads as it did. -/
def reorderPlaysUptoRow : OpenClaim := { program := "ytcjmffcpldjbpaa", sum := "5a6c843a00453b7a96025428d7344aa64bc4e199eefab8e4670c377bf6a58445", func := "signalman/signalmanlaw14.ReorderPlays", spec := "reorderPlays", apart := false, narrowed := true }
def ReorderPlaysUptoSaid : Prop := reorderPlaysUptoRow.holds Try.pinned (OpenSpec.upto reorderPlaysSpec)

/-- 'signalmanlaw14.ReorderClears', WHERE WHAT IT READS IS OF BULK AT MOST 1048576: true; the input reads as it did. -/
def reorderClearsUptoRow : OpenClaim := { program := "ytcjmffcpldjbpaa", sum := "5a6c843a00453b7a96025428d7344aa64bc4e199eefab8e4670c377bf6a58445", func := "signalman/signalmanlaw14.ReorderClears", spec := "reorderClears", apart := false, narrowed := true }
def ReorderClearsUptoSaid : Prop := reorderClearsUptoRow.holds Try.pinned (OpenSpec.upto reorderClearsSpec)

end Rows
end Go.Proofs.Ytcjmffcpldjbpaa
