/-
  No cell of these rows narrows 'for every input' (looked for: loops, veiled, ifaces, maps, wideKeys, modest, calm, conditions, laid).
  DERIVED. THE GIVEN ROWS OF THIS SEAT. 9 by the template 'for every input the law returns true; each argument reads behind the call as it read before'; 0 by the template 'total and deterministic' (their statements: YtgkjmdapodgnfaaGreatTotals.lean).
  GIVEN WITH THE SEED: the statements are not yours to turn. If you find one false, say at which input.
  Laid BY PROGRAM, IN A SANDBOX (cutbox-rows.mjs): the forced cells as the released guide's own fill.sh prints them over the translation ba072d0867f987a4… (all of the seat's roots in one cut). By AI agents, Wed Nov 11 2026. No macro, syntax, notation, axiom, sorry.
-/
import Derived.Test.YtgkjmdapodgnfaaGreatChecked
import GoSem.Claim
import GoSem.ClaimJoined
import GoSem.ClaimMapViews
import Derived.JoinedTies
import Derived.KernelRfl
namespace Go.Proofs.YtgkjmdapodgnfaaGreat
/- THE CELL 'sum', in the pinned program and in every row, IS THE sha256 OF THE DUMP (.gsa) THAT YtgkjmdapodgnfaaGreatProg.lean LOADS. Nothing in Lean hashes anything: it is a label: what it is worth is what the hold of that sum in a sandbox is worth. -/
noncomputable def Tryz.pinned : Pinned := { name := "ytgkjmdapodgnfaagreat", sum := "ba072d0867f987a4a3ec2b2defd96b701bb1cf0dbc2e04a5cce8ddebbc40dc32", checked := Tryz.checked }
namespace Rows
def none {H : Type} : Left H := { results := [], args := [] }

/-- 'signalmanlaw25.SignalReverts': WHATEVER THE INPUT: true; the input reads as it did. -/
def signalRevertsSpec : ChangeSpec := { name := "signalReverts", fn := fun _ => fun
  | [d1, d2, d3] => { results := [.lit (.bool true)], args := [d1, d2, d3] }
  | _ => none }
def signalRevertsRow : OpenClaim := { program := "ytgkjmdapodgnfaagreat", sum := "ba072d0867f987a4a3ec2b2defd96b701bb1cf0dbc2e04a5cce8ddebbc40dc32", func := "signalman/signalmanlaw25.SignalReverts", spec := "signalReverts", inPlace := ["slices.overlaps[byte]"], unfollowed := true, recurses := true, apart := false }
def SignalRevertsSaid : Prop := signalRevertsRow.holds Tryz.pinned (OpenSpec.ofChange signalRevertsSpec)

/-- ITS FALSE NEIGHBOUR: 'it returns false'. Refute it at one input. -/
def signalRevertsWrong : ChangeSpec := { name := "signalReverts", fn := fun _ => fun
  | [d1, d2, d3] => { results := [.lit (.bool false)], args := [d1, d2, d3] }
  | _ => none }
def SignalRevertsWrongFalsely : Prop := signalRevertsRow.holds Tryz.pinned (OpenSpec.ofChange signalRevertsWrong)

/-- 'signalmanlaw25.SignalCounts': WHATEVER THE INPUT: true; the input reads as it did. -/
def signalCountsSpec : ChangeSpec := { name := "signalCounts", fn := fun _ => fun
  | [d1, d2] => { results := [.lit (.bool true)], args := [d1, d2] }
  | _ => none }
def signalCountsRow : OpenClaim := { program := "ytgkjmdapodgnfaagreat", sum := "ba072d0867f987a4a3ec2b2defd96b701bb1cf0dbc2e04a5cce8ddebbc40dc32", func := "signalman/signalmanlaw25.SignalCounts", spec := "signalCounts", inPlace := ["slices.overlaps[byte]"], unfollowed := true, recurses := true, apart := false }
def SignalCountsSaid : Prop := signalCountsRow.holds Tryz.pinned (OpenSpec.ofChange signalCountsSpec)

/-- ITS FALSE NEIGHBOUR: 'it returns false'. Refute it at one input. -/
def signalCountsWrong : ChangeSpec := { name := "signalCounts", fn := fun _ => fun
  | [d1, d2] => { results := [.lit (.bool false)], args := [d1, d2] }
  | _ => none }
def SignalCountsWrongFalsely : Prop := signalCountsRow.holds Tryz.pinned (OpenSpec.ofChange signalCountsWrong)

/-- 'signalmanlaw25.SignalSplits': WHATEVER THE INPUT: true; the input reads as it did. -/
def signalSplitsSpec : ChangeSpec := { name := "signalSplits", fn := fun _ => fun
  | [d1, d2, d3, d4] => { results := [.lit (.bool true)], args := [d1, d2, d3, d4] }
  | _ => none }
def signalSplitsRow : OpenClaim := { program := "ytgkjmdapodgnfaagreat", sum := "ba072d0867f987a4a3ec2b2defd96b701bb1cf0dbc2e04a5cce8ddebbc40dc32", func := "signalman/signalmanlaw25.SignalSplits", spec := "signalSplits", inPlace := ["slices.overlaps[byte]"], unfollowed := true, recurses := true, apart := false }
def SignalSplitsSaid : Prop := signalSplitsRow.holds Tryz.pinned (OpenSpec.ofChange signalSplitsSpec)

/-- ITS FALSE NEIGHBOUR: 'it returns false'. Refute it at one input. -/
def signalSplitsWrong : ChangeSpec := { name := "signalSplits", fn := fun _ => fun
  | [d1, d2, d3, d4] => { results := [.lit (.bool false)], args := [d1, d2, d3, d4] }
  | _ => none }
def SignalSplitsWrongFalsely : Prop := signalSplitsRow.holds Tryz.pinned (OpenSpec.ofChange signalSplitsWrong)

/-- 'signalmanlaw25.SignalLatency': WHATEVER THE INPUT: true; the input reads as it did. -/
def signalLatencySpec : ChangeSpec := { name := "signalLatency", fn := fun _ => fun
  | [d1, d2, d3, d4, d5, d6] => { results := [.lit (.bool true)], args := [d1, d2, d3, d4, d5, d6] }
  | _ => none }
def signalLatencyRow : OpenClaim := { program := "ytgkjmdapodgnfaagreat", sum := "ba072d0867f987a4a3ec2b2defd96b701bb1cf0dbc2e04a5cce8ddebbc40dc32", func := "signalman/signalmanlaw25.SignalLatency", spec := "signalLatency", inPlace := ["slices.overlaps[byte]"], unfollowed := true, recurses := true, apart := false }
def SignalLatencySaid : Prop := signalLatencyRow.holds Tryz.pinned (OpenSpec.ofChange signalLatencySpec)

/-- ITS FALSE NEIGHBOUR: 'it returns false'. Refute it at one input. -/
def signalLatencyWrong : ChangeSpec := { name := "signalLatency", fn := fun _ => fun
  | [d1, d2, d3, d4, d5, d6] => { results := [.lit (.bool false)], args := [d1, d2, d3, d4, d5, d6] }
  | _ => none }
def SignalLatencyWrongFalsely : Prop := signalLatencyRow.holds Tryz.pinned (OpenSpec.ofChange signalLatencyWrong)

/-- 'signalmanlaw25.SignalErrors': WHATEVER THE INPUT: true; the input reads as it did. -/
def signalErrorsSpec : ChangeSpec := { name := "signalErrors", fn := fun _ => fun
  | [d] => { results := [.lit (.bool true)], args := [d] }
  | _ => none }
def signalErrorsRow : OpenClaim := { program := "ytgkjmdapodgnfaagreat", sum := "ba072d0867f987a4a3ec2b2defd96b701bb1cf0dbc2e04a5cce8ddebbc40dc32", func := "signalman/signalmanlaw25.SignalErrors", spec := "signalErrors", inPlace := ["slices.overlaps[byte]"], unfollowed := true, recurses := true, apart := false }
def SignalErrorsSaid : Prop := signalErrorsRow.holds Tryz.pinned (OpenSpec.ofChange signalErrorsSpec)

/-- ITS FALSE NEIGHBOUR: 'it returns false'. Refute it at one input. -/
def signalErrorsWrong : ChangeSpec := { name := "signalErrors", fn := fun _ => fun
  | [d] => { results := [.lit (.bool false)], args := [d] }
  | _ => none }
def SignalErrorsWrongFalsely : Prop := signalErrorsRow.holds Tryz.pinned (OpenSpec.ofChange signalErrorsWrong)

/-- 'signalmanlaw25.SignalPlays': WHATEVER THE INPUT: true; the input reads as it did. -/
def signalPlaysSpec : ChangeSpec := { name := "signalPlays", fn := fun _ => fun
  | [d1, d2] => { results := [.lit (.bool true)], args := [d1, d2] }
  | _ => none }
def signalPlaysRow : OpenClaim := { program := "ytgkjmdapodgnfaagreat", sum := "ba072d0867f987a4a3ec2b2defd96b701bb1cf0dbc2e04a5cce8ddebbc40dc32", func := "signalman/signalmanlaw25.SignalPlays", spec := "signalPlays", inPlace := ["slices.overlaps[byte]"], unfollowed := true, recurses := true, apart := false }
def SignalPlaysSaid : Prop := signalPlaysRow.holds Tryz.pinned (OpenSpec.ofChange signalPlaysSpec)

/-- ITS FALSE NEIGHBOUR: 'it returns false'. Refute it at one input. -/
def signalPlaysWrong : ChangeSpec := { name := "signalPlays", fn := fun _ => fun
  | [d1, d2] => { results := [.lit (.bool false)], args := [d1, d2] }
  | _ => none }
def SignalPlaysWrongFalsely : Prop := signalPlaysRow.holds Tryz.pinned (OpenSpec.ofChange signalPlaysWrong)

/-- 'signalmanlaw25.SignalAgrees': WHATEVER THE INPUT: true; the input reads as it did. -/
def signalAgreesSpec : ChangeSpec := { name := "signalAgrees", fn := fun _ => fun
  | [d1, d2, d3] => { results := [.lit (.bool true)], args := [d1, d2, d3] }
  | _ => none }
def signalAgreesRow : OpenClaim := { program := "ytgkjmdapodgnfaagreat", sum := "ba072d0867f987a4a3ec2b2defd96b701bb1cf0dbc2e04a5cce8ddebbc40dc32", func := "signalman/signalmanlaw25.SignalAgrees", spec := "signalAgrees", inPlace := ["slices.overlaps[byte]"], unfollowed := true, recurses := true, apart := false }
def SignalAgreesSaid : Prop := signalAgreesRow.holds Tryz.pinned (OpenSpec.ofChange signalAgreesSpec)

/-- ITS FALSE NEIGHBOUR: 'it returns false'. Refute it at one input. -/
def signalAgreesWrong : ChangeSpec := { name := "signalAgrees", fn := fun _ => fun
  | [d1, d2, d3] => { results := [.lit (.bool false)], args := [d1, d2, d3] }
  | _ => none }
def SignalAgreesWrongFalsely : Prop := signalAgreesRow.holds Tryz.pinned (OpenSpec.ofChange signalAgreesWrong)

/-- 'signalmanlaw25.SignalRefuses': WHATEVER THE INPUT: true; the input reads as it did. -/
def signalRefusesSpec : ChangeSpec := { name := "signalRefuses", fn := fun _ => fun
  | [d1, d2, d3] => { results := [.lit (.bool true)], args := [d1, d2, d3] }
  | _ => none }
def signalRefusesRow : OpenClaim := { program := "ytgkjmdapodgnfaagreat", sum := "ba072d0867f987a4a3ec2b2defd96b701bb1cf0dbc2e04a5cce8ddebbc40dc32", func := "signalman/signalmanlaw25.SignalRefuses", spec := "signalRefuses", inPlace := ["slices.overlaps[byte]"], unfollowed := true, recurses := true, apart := false }
def SignalRefusesSaid : Prop := signalRefusesRow.holds Tryz.pinned (OpenSpec.ofChange signalRefusesSpec)

/-- ITS FALSE NEIGHBOUR: 'it returns false'. Refute it at one input. -/
def signalRefusesWrong : ChangeSpec := { name := "signalRefuses", fn := fun _ => fun
  | [d1, d2, d3] => { results := [.lit (.bool false)], args := [d1, d2, d3] }
  | _ => none }
def SignalRefusesWrongFalsely : Prop := signalRefusesRow.holds Tryz.pinned (OpenSpec.ofChange signalRefusesWrong)

/-- 'signalmanlaw25.SignalSwitches': WHATEVER THE INPUT: true; the input reads as it did. -/
def signalSwitchesSpec : ChangeSpec := { name := "signalSwitches", fn := fun _ => fun
  | [d1, d2, d3, d4, d5, d6] => { results := [.lit (.bool true)], args := [d1, d2, d3, d4, d5, d6] }
  | _ => none }
def signalSwitchesRow : OpenClaim := { program := "ytgkjmdapodgnfaagreat", sum := "ba072d0867f987a4a3ec2b2defd96b701bb1cf0dbc2e04a5cce8ddebbc40dc32", func := "signalman/signalmanlaw25.SignalSwitches", spec := "signalSwitches", inPlace := ["slices.overlaps[byte]"], unfollowed := true, recurses := true, apart := false }
def SignalSwitchesSaid : Prop := signalSwitchesRow.holds Tryz.pinned (OpenSpec.ofChange signalSwitchesSpec)

/-- ITS FALSE NEIGHBOUR: 'it returns false'. Refute it at one input. -/
def signalSwitchesWrong : ChangeSpec := { name := "signalSwitches", fn := fun _ => fun
  | [d1, d2, d3, d4, d5, d6] => { results := [.lit (.bool false)], args := [d1, d2, d3, d4, d5, d6] }
  | _ => none }
def SignalSwitchesWrongFalsely : Prop := signalSwitchesRow.holds Tryz.pinned (OpenSpec.ofChange signalSwitchesWrong)

/- THE SECOND FORM. 'bulk': how many values and letters a reading holds, each counted each time it is reached (what is shared counts as often as it is met; a slice's spare places count too). A statement '..UptoSaid' is the law's where the arguments, and the package variables that the reading takes, are together of bulk at most 1048576: NARROWER than '..Said'. Prove '..Said' where nothing that the law and all that it calls make is longer than what came in: it says more and counts as full. Else prove '..UptoSaid'. A law counts once. -/
mutual
def uptoBulk {H : Type} : DataW H → Nat
  | .lit (.string bytes) => bytes.length + 1
  | .lit _ => 1
  | .nil => 1
  | .ptr d => uptoBulk d + 1
  | .slice elems spare => uptoBulkAll elems + uptoBulkAll spare + 1
  | .agg parts => uptoBulkAll parts + 1
  | .iface _ d => uptoBulk d + 1
  | .map entries => uptoBulkEntries entries + 1
  | .held _ => 1
def uptoBulkAll {H : Type} : List (DataW H) → Nat
  | [] => 0
  | d :: r => uptoBulk d + uptoBulkAll r
def uptoBulkEntries {H : Type} : List (Lit × DataW H) → Nat
  | [] => 0
  | x :: r => uptoBulkEntry x + uptoBulkEntries r
def uptoBulkEntry {H : Type} : Lit × DataW H → Nat
  | (.string bytes, d) => bytes.length + uptoBulk d + 1
  | (_, d) => uptoBulk d + 1
 end
def uptoSmall : (H : Type) → List (DataW H) → Bool := fun _ ds => decide (uptoBulkAll ds ≤ 1048576)
def OpenSpec.upto (s : _root_.Go.ChangeSpec) : _root_.Go.OpenSpec := { _root_.Go.OpenSpec.ofChange s with cond := some uptoSmall }

/-- 'signalmanlaw25.SignalReverts', WHERE WHAT IT READS IS OF BULK AT MOST 1048576: true; the input reads as it did. -/
def signalRevertsUptoRow : OpenClaim := { program := "ytgkjmdapodgnfaagreat", sum := "ba072d0867f987a4a3ec2b2defd96b701bb1cf0dbc2e04a5cce8ddebbc40dc32", func := "signalman/signalmanlaw25.SignalReverts", spec := "signalReverts", inPlace := ["slices.overlaps[byte]"], unfollowed := true, recurses := true, apart := false, narrowed := true }
def SignalRevertsUptoSaid : Prop := signalRevertsUptoRow.holds Tryz.pinned (OpenSpec.upto signalRevertsSpec)

/-- 'signalmanlaw25.SignalCounts', WHERE WHAT IT READS IS OF BULK AT MOST 1048576: true; the input reads as it did. -/
def signalCountsUptoRow : OpenClaim := { program := "ytgkjmdapodgnfaagreat", sum := "ba072d0867f987a4a3ec2b2defd96b701bb1cf0dbc2e04a5cce8ddebbc40dc32", func := "signalman/signalmanlaw25.SignalCounts", spec := "signalCounts", inPlace := ["slices.overlaps[byte]"], unfollowed := true, recurses := true, apart := false, narrowed := true }
def SignalCountsUptoSaid : Prop := signalCountsUptoRow.holds Tryz.pinned (OpenSpec.upto signalCountsSpec)

/-- 'signalmanlaw25.SignalSplits', WHERE WHAT IT READS IS OF BULK AT MOST 1048576: true; the input reads as it did. -/
def signalSplitsUptoRow : OpenClaim := { program := "ytgkjmdapodgnfaagreat", sum := "ba072d0867f987a4a3ec2b2defd96b701bb1cf0dbc2e04a5cce8ddebbc40dc32", func := "signalman/signalmanlaw25.SignalSplits", spec := "signalSplits", inPlace := ["slices.overlaps[byte]"], unfollowed := true, recurses := true, apart := false, narrowed := true }
def SignalSplitsUptoSaid : Prop := signalSplitsUptoRow.holds Tryz.pinned (OpenSpec.upto signalSplitsSpec)

/-- 'signalmanlaw25.SignalLatency', WHERE WHAT IT READS IS OF BULK AT MOST 1048576: true; the input reads as it did. -/
def signalLatencyUptoRow : OpenClaim := { program := "ytgkjmdapodgnfaagreat", sum := "ba072d0867f987a4a3ec2b2defd96b701bb1cf0dbc2e04a5cce8ddebbc40dc32", func := "signalman/signalmanlaw25.SignalLatency", spec := "signalLatency", inPlace := ["slices.overlaps[byte]"], unfollowed := true, recurses := true, apart := false, narrowed := true }
def SignalLatencyUptoSaid : Prop := signalLatencyUptoRow.holds Tryz.pinned (OpenSpec.upto signalLatencySpec)

/-- 'signalmanlaw25.SignalErrors', WHERE WHAT IT READS IS OF BULK AT MOST 1048576: true; the input reads as it did. -/
def signalErrorsUptoRow : OpenClaim := { program := "ytgkjmdapodgnfaagreat", sum := "ba072d0867f987a4a3ec2b2defd96b701bb1cf0dbc2e04a5cce8ddebbc40dc32", func := "signalman/signalmanlaw25.SignalErrors", spec := "signalErrors", inPlace := ["slices.overlaps[byte]"], unfollowed := true, recurses := true, apart := false, narrowed := true }
def SignalErrorsUptoSaid : Prop := signalErrorsUptoRow.holds Tryz.pinned (OpenSpec.upto signalErrorsSpec)

/-- 'signalmanlaw25.SignalPlays', WHERE WHAT IT READS IS OF BULK AT MOST 1048576: true; the input reads as it did. -/
def signalPlaysUptoRow : OpenClaim := { program := "ytgkjmdapodgnfaagreat", sum := "ba072d0867f987a4a3ec2b2defd96b701bb1cf0dbc2e04a5cce8ddebbc40dc32", func := "signalman/signalmanlaw25.SignalPlays", spec := "signalPlays", inPlace := ["slices.overlaps[byte]"], unfollowed := true, recurses := true, apart := false, narrowed := true }
def SignalPlaysUptoSaid : Prop := signalPlaysUptoRow.holds Tryz.pinned (OpenSpec.upto signalPlaysSpec)

/-- 'signalmanlaw25.SignalAgrees', WHERE WHAT IT READS IS OF BULK AT MOST 1048576: true; the input reads as it did. -/
def signalAgreesUptoRow : OpenClaim := { program := "ytgkjmdapodgnfaagreat", sum := "ba072d0867f987a4a3ec2b2defd96b701bb1cf0dbc2e04a5cce8ddebbc40dc32", func := "signalman/signalmanlaw25.SignalAgrees", spec := "signalAgrees", inPlace := ["slices.overlaps[byte]"], unfollowed := true, recurses := true, apart := false, narrowed := true }
def SignalAgreesUptoSaid : Prop := signalAgreesUptoRow.holds Tryz.pinned (OpenSpec.upto signalAgreesSpec)

/-- 'signalmanlaw25.SignalRefuses', WHERE WHAT IT READS IS OF BULK AT MOST 1048576: true; the input reads as it did. -/
def signalRefusesUptoRow : OpenClaim := { program := "ytgkjmdapodgnfaagreat", sum := "ba072d0867f987a4a3ec2b2defd96b701bb1cf0dbc2e04a5cce8ddebbc40dc32", func := "signalman/signalmanlaw25.SignalRefuses", spec := "signalRefuses", inPlace := ["slices.overlaps[byte]"], unfollowed := true, recurses := true, apart := false, narrowed := true }
def SignalRefusesUptoSaid : Prop := signalRefusesUptoRow.holds Tryz.pinned (OpenSpec.upto signalRefusesSpec)

/-- 'signalmanlaw25.SignalSwitches', WHERE WHAT IT READS IS OF BULK AT MOST 1048576: true; the input reads as it did. -/
def signalSwitchesUptoRow : OpenClaim := { program := "ytgkjmdapodgnfaagreat", sum := "ba072d0867f987a4a3ec2b2defd96b701bb1cf0dbc2e04a5cce8ddebbc40dc32", func := "signalman/signalmanlaw25.SignalSwitches", spec := "signalSwitches", inPlace := ["slices.overlaps[byte]"], unfollowed := true, recurses := true, apart := false, narrowed := true }
def SignalSwitchesUptoSaid : Prop := signalSwitchesUptoRow.holds Tryz.pinned (OpenSpec.upto signalSwitchesSpec)

end Rows
end Go.Proofs.YtgkjmdapodgnfaaGreat
