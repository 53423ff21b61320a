/-
  No cell of these rows narrows 'for every input' (looked for: loops, veiled, ifaces, maps, wideKeys, modest, calm, conditions, laid).
  DERIVED. THE GIVEN ROWS OF THIS SEAT. 5 by the template 'for every input the law returns true; each argument reads behind the call as it read before'; 0 by the template 'total and deterministic' (their statements: YtaejcbpijdacmaaGreatTotals.lean).
  GIVEN WITH THE SEED: the statements are not yours to turn. If you find one false, say at which input.
  Laid BY PROGRAM, IN A SANDBOX (cutbox-rows.mjs): the forced cells as the released guide's own fill.sh prints them over the translation 474cbc91ee71a9c3… (all of the seat's roots in one cut). By AI agents, Wed Nov 11 2026. No macro, syntax, notation, axiom, sorry.
-/
import Derived.Test.YtaejcbpijdacmaaGreatChecked
import GoSem.Claim
import GoSem.ClaimJoined
import GoSem.ClaimMapViews
import Derived.JoinedTies
import Derived.KernelRfl
namespace Go.Proofs.YtaejcbpijdacmaaGreat
/- THE CELL 'sum', in the pinned program and in every row, IS THE sha256 OF THE DUMP (.gsa) THAT YtaejcbpijdacmaaGreatProg.lean LOADS. Nothing in Lean hashes anything: it is a label: what it is worth is what the hold of that sum in a sandbox is worth. -/
noncomputable def Tryz.pinned : Pinned := { name := "ytaejcbpijdacmaagreat", sum := "474cbc91ee71a9c352d5b1f8b8b22f35c4f25b23219e692bf081851ccea1a579", checked := Tryz.checked }
namespace Rows
def none {H : Type} : Left H := { results := [], args := [] }

/-- 'signalmanlaw21.WorldCuts': WHATEVER THE INPUT: true; the input reads as it did. -/
def worldCutsSpec : ChangeSpec := { name := "worldCuts", fn := fun _ => fun
  | [d1, d2] => { results := [.lit (.bool true)], args := [d1, d2] }
  | _ => none }
def worldCutsRow : OpenClaim := { program := "ytaejcbpijdacmaagreat", sum := "474cbc91ee71a9c352d5b1f8b8b22f35c4f25b23219e692bf081851ccea1a579", func := "signalman/signalmanlaw21.WorldCuts", spec := "worldCuts", inPlace := ["slices.overlaps[byte]"], unfollowed := true, recurses := true, apart := false }
def WorldCutsSaid : Prop := worldCutsRow.holds Tryz.pinned (OpenSpec.ofChange worldCutsSpec)

/-- ITS FALSE NEIGHBOUR: 'it returns false'. Refute it at one input. -/
def worldCutsWrong : ChangeSpec := { name := "worldCuts", fn := fun _ => fun
  | [d1, d2] => { results := [.lit (.bool false)], args := [d1, d2] }
  | _ => none }
def WorldCutsWrongFalsely : Prop := worldCutsRow.holds Tryz.pinned (OpenSpec.ofChange worldCutsWrong)

/-- 'signalmanlaw21.WorldOrders': WHATEVER THE INPUT: true; the input reads as it did. -/
def worldOrdersSpec : ChangeSpec := { name := "worldOrders", fn := fun _ => fun
  | [d1, d2] => { results := [.lit (.bool true)], args := [d1, d2] }
  | _ => none }
def worldOrdersRow : OpenClaim := { program := "ytaejcbpijdacmaagreat", sum := "474cbc91ee71a9c352d5b1f8b8b22f35c4f25b23219e692bf081851ccea1a579", func := "signalman/signalmanlaw21.WorldOrders", spec := "worldOrders", inPlace := ["slices.overlaps[byte]"], unfollowed := true, recurses := true, apart := false }
def WorldOrdersSaid : Prop := worldOrdersRow.holds Tryz.pinned (OpenSpec.ofChange worldOrdersSpec)

/-- ITS FALSE NEIGHBOUR: 'it returns false'. Refute it at one input. -/
def worldOrdersWrong : ChangeSpec := { name := "worldOrders", fn := fun _ => fun
  | [d1, d2] => { results := [.lit (.bool false)], args := [d1, d2] }
  | _ => none }
def WorldOrdersWrongFalsely : Prop := worldOrdersRow.holds Tryz.pinned (OpenSpec.ofChange worldOrdersWrong)

/-- 'signalmanlaw21.WorldDelivers': WHATEVER THE INPUT: true; the input reads as it did. -/
def worldDeliversSpec : ChangeSpec := { name := "worldDelivers", fn := fun _ => fun
  | [d1, d2, d3, d4, d5] => { results := [.lit (.bool true)], args := [d1, d2, d3, d4, d5] }
  | _ => none }
def worldDeliversRow : OpenClaim := { program := "ytaejcbpijdacmaagreat", sum := "474cbc91ee71a9c352d5b1f8b8b22f35c4f25b23219e692bf081851ccea1a579", func := "signalman/signalmanlaw21.WorldDelivers", spec := "worldDelivers", inPlace := ["slices.overlaps[byte]"], unfollowed := true, recurses := true, apart := false }
def WorldDeliversSaid : Prop := worldDeliversRow.holds Tryz.pinned (OpenSpec.ofChange worldDeliversSpec)

/-- ITS FALSE NEIGHBOUR: 'it returns false'. Refute it at one input. -/
def worldDeliversWrong : ChangeSpec := { name := "worldDelivers", fn := fun _ => fun
  | [d1, d2, d3, d4, d5] => { results := [.lit (.bool false)], args := [d1, d2, d3, d4, d5] }
  | _ => none }
def WorldDeliversWrongFalsely : Prop := worldDeliversRow.holds Tryz.pinned (OpenSpec.ofChange worldDeliversWrong)

/-- 'signalmanlaw21.WorldPlays': WHATEVER THE INPUT: true; the input reads as it did. -/
def worldPlaysSpec : ChangeSpec := { name := "worldPlays", fn := fun _ => fun
  | [d1, d2] => { results := [.lit (.bool true)], args := [d1, d2] }
  | _ => none }
def worldPlaysRow : OpenClaim := { program := "ytaejcbpijdacmaagreat", sum := "474cbc91ee71a9c352d5b1f8b8b22f35c4f25b23219e692bf081851ccea1a579", func := "signalman/signalmanlaw21.WorldPlays", spec := "worldPlays", inPlace := ["slices.overlaps[byte]"], unfollowed := true, recurses := true, apart := false }
def WorldPlaysSaid : Prop := worldPlaysRow.holds Tryz.pinned (OpenSpec.ofChange worldPlaysSpec)

/-- ITS FALSE NEIGHBOUR: 'it returns false'. Refute it at one input. -/
def worldPlaysWrong : ChangeSpec := { name := "worldPlays", fn := fun _ => fun
  | [d1, d2] => { results := [.lit (.bool false)], args := [d1, d2] }
  | _ => none }
def WorldPlaysWrongFalsely : Prop := worldPlaysRow.holds Tryz.pinned (OpenSpec.ofChange worldPlaysWrong)

/-- 'signalmanlaw21.WorldClean': WHATEVER THE INPUT: true; the input reads as it did. -/
def worldCleanSpec : ChangeSpec := { name := "worldClean", fn := fun _ => fun
  | [d1, d2, d3, d4, d5] => { results := [.lit (.bool true)], args := [d1, d2, d3, d4, d5] }
  | _ => none }
def worldCleanRow : OpenClaim := { program := "ytaejcbpijdacmaagreat", sum := "474cbc91ee71a9c352d5b1f8b8b22f35c4f25b23219e692bf081851ccea1a579", func := "signalman/signalmanlaw21.WorldClean", spec := "worldClean", inPlace := ["slices.overlaps[byte]"], unfollowed := true, recurses := true, apart := false }
def WorldCleanSaid : Prop := worldCleanRow.holds Tryz.pinned (OpenSpec.ofChange worldCleanSpec)

/-- ITS FALSE NEIGHBOUR: 'it returns false'. Refute it at one input. -/
def worldCleanWrong : ChangeSpec := { name := "worldClean", fn := fun _ => fun
  | [d1, d2, d3, d4, d5] => { results := [.lit (.bool false)], args := [d1, d2, d3, d4, d5] }
  | _ => none }
def WorldCleanWrongFalsely : Prop := worldCleanRow.holds Tryz.pinned (OpenSpec.ofChange worldCleanWrong)

/- THE SECOND FORM. 'bulk': how many values and letters a reading holds, each counted each time it is reached (what is shared counts as often as it is met; a slice's spare places count too). A statement '..UptoSaid' is the law's where the arguments, and the package variables that the reading takes, are together of bulk at most 1048576: NARROWER than '..Said'. Prove '..Said' where nothing that the law and all that it calls make is longer than what came in: it says more and counts as full. Else prove '..UptoSaid'. A law counts once. -/
mutual
def uptoBulk {H : Type} : DataW H → Nat
  | .lit (.string bytes) => bytes.length + 1
  | .lit _ => 1
  | .nil => 1
  | .ptr d => uptoBulk d + 1
  | .slice elems spare => uptoBulkAll elems + uptoBulkAll spare + 1
  | .agg parts => uptoBulkAll parts + 1
  | .iface _ d => uptoBulk d + 1
  | .map entries => uptoBulkEntries entries + 1
  | .held _ => 1
def uptoBulkAll {H : Type} : List (DataW H) → Nat
  | [] => 0
  | d :: r => uptoBulk d + uptoBulkAll r
def uptoBulkEntries {H : Type} : List (Lit × DataW H) → Nat
  | [] => 0
  | x :: r => uptoBulkEntry x + uptoBulkEntries r
def uptoBulkEntry {H : Type} : Lit × DataW H → Nat
  | (.string bytes, d) => bytes.length + uptoBulk d + 1
  | (_, d) => uptoBulk d + 1
 end
def uptoSmall : (H : Type) → List (DataW H) → Bool := fun _ ds => decide (uptoBulkAll ds ≤ 1048576)
def OpenSpec.upto (s : _root_.Go.ChangeSpec) : _root_.Go.OpenSpec := { _root_.Go.OpenSpec.ofChange s with cond := some uptoSmall }

/-- 'signalmanlaw21.WorldCuts', WHERE WHAT IT READS IS OF BULK AT MOST 1048576: true; the input reads as it did. -/
def worldCutsUptoRow : OpenClaim := { program := "ytaejcbpijdacmaagreat", sum := "474cbc91ee71a9c352d5b1f8b8b22f35c4f25b23219e692bf081851ccea1a579", func := "signalman/signalmanlaw21.WorldCuts", spec := "worldCuts", inPlace := ["slices.overlaps[byte]"], unfollowed := true, recurses := true, apart := false, narrowed := true }
def WorldCutsUptoSaid : Prop := worldCutsUptoRow.holds Tryz.pinned (OpenSpec.upto worldCutsSpec)

/-- 'signalmanlaw21.WorldOrders', WHERE WHAT IT READS IS OF BULK AT MOST 1048576: true; the input reads as it did. -/
def worldOrdersUptoRow : OpenClaim := { program := "ytaejcbpijdacmaagreat", sum := "474cbc91ee71a9c352d5b1f8b8b22f35c4f25b23219e692bf081851ccea1a579", func := "signalman/signalmanlaw21.WorldOrders", spec := "worldOrders", inPlace := ["slices.overlaps[byte]"], unfollowed := true, recurses := true, apart := false, narrowed := true }
def WorldOrdersUptoSaid : Prop := worldOrdersUptoRow.holds Tryz.pinned (OpenSpec.upto worldOrdersSpec)

/-- 'signalmanlaw21.WorldDelivers', WHERE WHAT IT READS IS OF BULK AT MOST 1048576: true; the input reads as it did. -/
def worldDeliversUptoRow : OpenClaim := { program := "ytaejcbpijdacmaagreat", sum := "474cbc91ee71a9c352d5b1f8b8b22f35c4f25b23219e692bf081851ccea1a579", func := "signalman/signalmanlaw21.WorldDelivers", spec := "worldDelivers", inPlace := ["slices.overlaps[byte]"], unfollowed := true, recurses := true, apart := false, narrowed := true }
def WorldDeliversUptoSaid : Prop := worldDeliversUptoRow.holds Tryz.pinned (OpenSpec.upto worldDeliversSpec)

/-- 'signalmanlaw21.WorldPlays', WHERE WHAT IT READS IS OF BULK AT MOST 1048576: true; the input reads as it did. -/
def worldPlaysUptoRow : OpenClaim := { program := "ytaejcbpijdacmaagreat", sum := "474cbc91ee71a9c352d5b1f8b8b22f35c4f25b23219e692bf081851ccea1a579", func := "signalman/signalmanlaw21.WorldPlays", spec := "worldPlays", inPlace := ["slices.overlaps[byte]"], unfollowed := true, recurses := true, apart := false, narrowed := true }
def WorldPlaysUptoSaid : Prop := worldPlaysUptoRow.holds Tryz.pinned (OpenSpec.upto worldPlaysSpec)

/-- 'signalmanlaw21.WorldClean', WHERE WHAT IT READS IS OF BULK AT MOST 1048576: true; the input reads as it did. -/
def worldCleanUptoRow : OpenClaim := { program := "ytaejcbpijdacmaagreat", sum := "474cbc91ee71a9c352d5b1f8b8b22f35c4f25b23219e692bf081851ccea1a579", func := "signalman/signalmanlaw21.WorldClean", spec := "worldClean", inPlace := ["slices.overlaps[byte]"], unfollowed := true, recurses := true, apart := false, narrowed := true }
def WorldCleanUptoSaid : Prop := worldCleanUptoRow.holds Tryz.pinned (OpenSpec.upto worldCleanSpec)

end Rows
end Go.Proofs.YtaejcbpijdacmaaGreat
