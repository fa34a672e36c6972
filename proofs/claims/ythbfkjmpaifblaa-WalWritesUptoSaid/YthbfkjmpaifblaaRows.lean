/-
  No cell of these rows narrows 'for every input' (looked for: loops, veiled, ifaces, maps, wideKeys, modest, calm, conditions, laid).
  DERIVED. THE GIVEN ROWS OF THIS SEAT. 8 by the template 'for every input the law returns true; each argument reads behind the call as it read before'; 0 by the template 'total and deterministic' (their statements: YthbfkjmpaifblaaTotals.lean).
  GIVEN WITH THE SEED: the statements are not yours to turn. If you find one false, say at which input.
  Laid BY PROGRAM, IN A SANDBOX (cutbox-rows.mjs): the forced cells as the released guide's own fill.sh prints them over the translation 02f32a61ecfc55b4… (all of the seat's roots in one cut). By AI agents, Wed Nov 11 2026. No macro, syntax, notation, axiom, sorry.
-/
import Derived.Test.YthbfkjmpaifblaaChecked
import GoSem.Claim
import GoSem.ClaimJoined
import GoSem.ClaimMapViews
import Derived.JoinedTies
import Derived.KernelRfl
namespace Go.Proofs.Ythbfkjmpaifblaa
/- THE CELL 'sum', in the pinned program and in every row, IS THE sha256 OF THE DUMP (.gsa) THAT YthbfkjmpaifblaaProg.lean LOADS. Nothing in Lean hashes anything: it is a label: what it is worth is what the hold of that sum in a sandbox is worth. -/
noncomputable def Try.pinned : Pinned := { name := "ythbfkjmpaifblaa", sum := "02f32a61ecfc55b484d57d29a4f1d05f8c609fe7dd0962bbef75b462d8ad939b", checked := Try.checked }
namespace Rows
def none {H : Type} : Left H := { results := [], args := [] }

/-- 'exlaw2.WalFrames': WHATEVER THE INPUT: true; the input reads as it did. -/
def walFramesSpec : ChangeSpec := { name := "walFrames", fn := fun _ => fun
  | [d1, d2, d3] => { results := [.lit (.bool true)], args := [d1, d2, d3] }
  | _ => none }
def walFramesRow : OpenClaim := { program := "ythbfkjmpaifblaa", sum := "02f32a61ecfc55b484d57d29a4f1d05f8c609fe7dd0962bbef75b462d8ad939b", func := "exchequer/exlaw2.WalFrames", spec := "walFrames", unfollowed := true, recurses := true, apart := false }
def WalFramesSaid : Prop := walFramesRow.holds Try.pinned (OpenSpec.ofChange walFramesSpec)

/-- ITS FALSE NEIGHBOUR: 'it returns false'. Refute it at one input. -/
def walFramesWrong : ChangeSpec := { name := "walFrames", fn := fun _ => fun
  | [d1, d2, d3] => { results := [.lit (.bool false)], args := [d1, d2, d3] }
  | _ => none }
def WalFramesWrongFalsely : Prop := walFramesRow.holds Try.pinned (OpenSpec.ofChange walFramesWrong)

/-- 'exlaw2.WalWrites': WHATEVER THE INPUT: true; the input reads as it did. -/
def walWritesSpec : ChangeSpec := { name := "walWrites", fn := fun _ => fun
  | [d1, d2, d3] => { results := [.lit (.bool true)], args := [d1, d2, d3] }
  | _ => none }
def walWritesRow : OpenClaim := { program := "ythbfkjmpaifblaa", sum := "02f32a61ecfc55b484d57d29a4f1d05f8c609fe7dd0962bbef75b462d8ad939b", func := "exchequer/exlaw2.WalWrites", spec := "walWrites", unfollowed := true, recurses := true, apart := false }
def WalWritesSaid : Prop := walWritesRow.holds Try.pinned (OpenSpec.ofChange walWritesSpec)

/-- ITS FALSE NEIGHBOUR: 'it returns false'. Refute it at one input. -/
def walWritesWrong : ChangeSpec := { name := "walWrites", fn := fun _ => fun
  | [d1, d2, d3] => { results := [.lit (.bool false)], args := [d1, d2, d3] }
  | _ => none }
def WalWritesWrongFalsely : Prop := walWritesRow.holds Try.pinned (OpenSpec.ofChange walWritesWrong)

/-- 'exlaw2.WalAgain': WHATEVER THE INPUT: true; the input reads as it did. -/
def walAgainSpec : ChangeSpec := { name := "walAgain", fn := fun _ => fun
  | [d1, d2] => { results := [.lit (.bool true)], args := [d1, d2] }
  | _ => none }
def walAgainRow : OpenClaim := { program := "ythbfkjmpaifblaa", sum := "02f32a61ecfc55b484d57d29a4f1d05f8c609fe7dd0962bbef75b462d8ad939b", func := "exchequer/exlaw2.WalAgain", spec := "walAgain", unfollowed := true, recurses := true, apart := false }
def WalAgainSaid : Prop := walAgainRow.holds Try.pinned (OpenSpec.ofChange walAgainSpec)

/-- ITS FALSE NEIGHBOUR: 'it returns false'. Refute it at one input. -/
def walAgainWrong : ChangeSpec := { name := "walAgain", fn := fun _ => fun
  | [d1, d2] => { results := [.lit (.bool false)], args := [d1, d2] }
  | _ => none }
def WalAgainWrongFalsely : Prop := walAgainRow.holds Try.pinned (OpenSpec.ofChange walAgainWrong)

/-- 'exlaw2.WalOpens': WHATEVER THE INPUT: true; the input reads as it did. -/
def walOpensSpec : ChangeSpec := { name := "walOpens", fn := fun _ => fun
  | [d1, d2, d3, d4] => { results := [.lit (.bool true)], args := [d1, d2, d3, d4] }
  | _ => none }
def walOpensRow : OpenClaim := { program := "ythbfkjmpaifblaa", sum := "02f32a61ecfc55b484d57d29a4f1d05f8c609fe7dd0962bbef75b462d8ad939b", func := "exchequer/exlaw2.WalOpens", spec := "walOpens", unfollowed := true, recurses := true, apart := false }
def WalOpensSaid : Prop := walOpensRow.holds Try.pinned (OpenSpec.ofChange walOpensSpec)

/-- ITS FALSE NEIGHBOUR: 'it returns false'. Refute it at one input. -/
def walOpensWrong : ChangeSpec := { name := "walOpens", fn := fun _ => fun
  | [d1, d2, d3, d4] => { results := [.lit (.bool false)], args := [d1, d2, d3, d4] }
  | _ => none }
def WalOpensWrongFalsely : Prop := walOpensRow.holds Try.pinned (OpenSpec.ofChange walOpensWrong)

/-- 'exlaw2.WalApart': WHATEVER THE INPUT: true; the input reads as it did. -/
def walApartSpec : ChangeSpec := { name := "walApart", fn := fun _ => fun
  | [d1, d2] => { results := [.lit (.bool true)], args := [d1, d2] }
  | _ => none }
def walApartRow : OpenClaim := { program := "ythbfkjmpaifblaa", sum := "02f32a61ecfc55b484d57d29a4f1d05f8c609fe7dd0962bbef75b462d8ad939b", func := "exchequer/exlaw2.WalApart", spec := "walApart", unfollowed := true, recurses := true, apart := false }
def WalApartSaid : Prop := walApartRow.holds Try.pinned (OpenSpec.ofChange walApartSpec)

/-- ITS FALSE NEIGHBOUR: 'it returns false'. Refute it at one input. -/
def walApartWrong : ChangeSpec := { name := "walApart", fn := fun _ => fun
  | [d1, d2] => { results := [.lit (.bool false)], args := [d1, d2] }
  | _ => none }
def WalApartWrongFalsely : Prop := walApartRow.holds Try.pinned (OpenSpec.ofChange walApartWrong)

/-- 'exlaw2.WalKept': WHATEVER THE INPUT: true; the input reads as it did. -/
def walKeptSpec : ChangeSpec := { name := "walKept", fn := fun _ => fun
  | [d1, d2, d3, d4] => { results := [.lit (.bool true)], args := [d1, d2, d3, d4] }
  | _ => none }
def walKeptRow : OpenClaim := { program := "ythbfkjmpaifblaa", sum := "02f32a61ecfc55b484d57d29a4f1d05f8c609fe7dd0962bbef75b462d8ad939b", func := "exchequer/exlaw2.WalKept", spec := "walKept", unfollowed := true, recurses := true, apart := false }
def WalKeptSaid : Prop := walKeptRow.holds Try.pinned (OpenSpec.ofChange walKeptSpec)

/-- ITS FALSE NEIGHBOUR: 'it returns false'. Refute it at one input. -/
def walKeptWrong : ChangeSpec := { name := "walKept", fn := fun _ => fun
  | [d1, d2, d3, d4] => { results := [.lit (.bool false)], args := [d1, d2, d3, d4] }
  | _ => none }
def WalKeptWrongFalsely : Prop := walKeptRow.holds Try.pinned (OpenSpec.ofChange walKeptWrong)

/-- 'exlaw2.WalFull': WHATEVER THE INPUT: true; the input reads as it did. -/
def walFullSpec : ChangeSpec := { name := "walFull", fn := fun _ => fun
  | [d1, d2, d3] => { results := [.lit (.bool true)], args := [d1, d2, d3] }
  | _ => none }
def walFullRow : OpenClaim := { program := "ythbfkjmpaifblaa", sum := "02f32a61ecfc55b484d57d29a4f1d05f8c609fe7dd0962bbef75b462d8ad939b", func := "exchequer/exlaw2.WalFull", spec := "walFull", unfollowed := true, recurses := true, apart := false }
def WalFullSaid : Prop := walFullRow.holds Try.pinned (OpenSpec.ofChange walFullSpec)

/-- ITS FALSE NEIGHBOUR: 'it returns false'. Refute it at one input. -/
def walFullWrong : ChangeSpec := { name := "walFull", fn := fun _ => fun
  | [d1, d2, d3] => { results := [.lit (.bool false)], args := [d1, d2, d3] }
  | _ => none }
def WalFullWrongFalsely : Prop := walFullRow.holds Try.pinned (OpenSpec.ofChange walFullWrong)

/-- 'exlaw2.WalStuck': WHATEVER THE INPUT: true; the input reads as it did. -/
def walStuckSpec : ChangeSpec := { name := "walStuck", fn := fun _ => fun
  | [d1, d2] => { results := [.lit (.bool true)], args := [d1, d2] }
  | _ => none }
def walStuckRow : OpenClaim := { program := "ythbfkjmpaifblaa", sum := "02f32a61ecfc55b484d57d29a4f1d05f8c609fe7dd0962bbef75b462d8ad939b", func := "exchequer/exlaw2.WalStuck", spec := "walStuck", unfollowed := true, recurses := true, apart := false }
def WalStuckSaid : Prop := walStuckRow.holds Try.pinned (OpenSpec.ofChange walStuckSpec)

/-- ITS FALSE NEIGHBOUR: 'it returns false'. Refute it at one input. -/
def walStuckWrong : ChangeSpec := { name := "walStuck", fn := fun _ => fun
  | [d1, d2] => { results := [.lit (.bool false)], args := [d1, d2] }
  | _ => none }
def WalStuckWrongFalsely : Prop := walStuckRow.holds Try.pinned (OpenSpec.ofChange walStuckWrong)

/- THE SECOND FORM. 'bulk': how many values and letters a reading holds, each counted each time it is reached (what is shared counts as often as it is met; a slice's spare places count too). A statement '..UptoSaid' is the law's where the arguments, and the package variables that the reading takes, are together of bulk at most 1048576: NARROWER than '..Said'. Prove '..Said' where nothing that the law and all that it calls make is longer than what came in: it says more and counts as full. Else prove '..UptoSaid'. A law counts once. -/
mutual
def uptoBulk {H : Type} : DataW H → Nat
  | .lit (.string bytes) => bytes.length + 1
  | .lit _ => 1
  | .nil => 1
  | .ptr d => uptoBulk d + 1
  | .slice elems spare => uptoBulkAll elems + uptoBulkAll spare + 1
  | .agg parts => uptoBulkAll parts + 1
  | .iface _ d => uptoBulk d + 1
  | .map entries => uptoBulkEntries entries + 1
  | .held _ => 1
def uptoBulkAll {H : Type} : List (DataW H) → Nat
  | [] => 0
  | d :: r => uptoBulk d + uptoBulkAll r
def uptoBulkEntries {H : Type} : List (Lit × DataW H) → Nat
  | [] => 0
  | x :: r => uptoBulkEntry x + uptoBulkEntries r
def uptoBulkEntry {H : Type} : Lit × DataW H → Nat
  | (.string bytes, d) => bytes.length + uptoBulk d + 1
  | (_, d) => uptoBulk d + 1
 end
def uptoSmall : (H : Type) → List (DataW H) → Bool := fun _ ds => decide (uptoBulkAll ds ≤ 1048576)
def OpenSpec.upto (s : _root_.Go.ChangeSpec) : _root_.Go.OpenSpec := { _root_.Go.OpenSpec.ofChange s with cond := some uptoSmall }

/-- 'exlaw2.WalFrames', WHERE WHAT IT READS IS OF BULK AT MOST 1048576: true; the input reads as it did. -/
def walFramesUptoRow : OpenClaim := { program := "ythbfkjmpaifblaa", sum := "02f32a61ecfc55b484d57d29a4f1d05f8c609fe7dd0962bbef75b462d8ad939b", func := "exchequer/exlaw2.WalFrames", spec := "walFrames", unfollowed := true, recurses := true, apart := false, narrowed := true }
def WalFramesUptoSaid : Prop := walFramesUptoRow.holds Try.pinned (OpenSpec.upto walFramesSpec)

/-- 'exlaw2.WalWrites', WHERE WHAT IT READS IS OF BULK AT MOST 1048576: true; the input reads as it did. -/
def walWritesUptoRow : OpenClaim := { program := "ythbfkjmpaifblaa", sum := "02f32a61ecfc55b484d57d29a4f1d05f8c609fe7dd0962bbef75b462d8ad939b", func := "exchequer/exlaw2.WalWrites", spec := "walWrites", unfollowed := true, recurses := true, apart := false, narrowed := true }
def WalWritesUptoSaid : Prop := walWritesUptoRow.holds Try.pinned (OpenSpec.upto walWritesSpec)

/-- 'exlaw2.WalAgain', WHERE WHAT IT READS IS OF BULK AT MOST 1048576: true; the input reads as it did. -/
def walAgainUptoRow : OpenClaim := { program := "ythbfkjmpaifblaa", sum := "02f32a61ecfc55b484d57d29a4f1d05f8c609fe7dd0962bbef75b462d8ad939b", func := "exchequer/exlaw2.WalAgain", spec := "walAgain", unfollowed := true, recurses := true, apart := false, narrowed := true }
def WalAgainUptoSaid : Prop := walAgainUptoRow.holds Try.pinned (OpenSpec.upto walAgainSpec)

/-- 'exlaw2.WalOpens', WHERE WHAT IT READS IS OF BULK AT MOST 1048576: true; the input reads as it did. -/
def walOpensUptoRow : OpenClaim := { program := "ythbfkjmpaifblaa", sum := "02f32a61ecfc55b484d57d29a4f1d05f8c609fe7dd0962bbef75b462d8ad939b", func := "exchequer/exlaw2.WalOpens", spec := "walOpens", unfollowed := true, recurses := true, apart := false, narrowed := true }
def WalOpensUptoSaid : Prop := walOpensUptoRow.holds Try.pinned (OpenSpec.upto walOpensSpec)

/-- 'exlaw2.WalApart', WHERE WHAT IT READS IS OF BULK AT MOST 1048576: true; the input reads as it did. -/
def walApartUptoRow : OpenClaim := { program := "ythbfkjmpaifblaa", sum := "02f32a61ecfc55b484d57d29a4f1d05f8c609fe7dd0962bbef75b462d8ad939b", func := "exchequer/exlaw2.WalApart", spec := "walApart", unfollowed := true, recurses := true, apart := false, narrowed := true }
def WalApartUptoSaid : Prop := walApartUptoRow.holds Try.pinned (OpenSpec.upto walApartSpec)

/-- 'exlaw2.WalKept', WHERE WHAT IT READS IS OF BULK AT MOST 1048576: true; the input reads as it did. -/
def walKeptUptoRow : OpenClaim := { program := "ythbfkjmpaifblaa", sum := "02f32a61ecfc55b484d57d29a4f1d05f8c609fe7dd0962bbef75b462d8ad939b", func := "exchequer/exlaw2.WalKept", spec := "walKept", unfollowed := true, recurses := true, apart := false, narrowed := true }
def WalKeptUptoSaid : Prop := walKeptUptoRow.holds Try.pinned (OpenSpec.upto walKeptSpec)

/-- 'exlaw2.WalFull', WHERE WHAT IT READS IS OF BULK AT MOST 1048576: true; the input reads as it did. -/
def walFullUptoRow : OpenClaim := { program := "ythbfkjmpaifblaa", sum := "02f32a61ecfc55b484d57d29a4f1d05f8c609fe7dd0962bbef75b462d8ad939b", func := "exchequer/exlaw2.WalFull", spec := "walFull", unfollowed := true, recurses := true, apart := false, narrowed := true }
def WalFullUptoSaid : Prop := walFullUptoRow.holds Try.pinned (OpenSpec.upto walFullSpec)

/-- 'exlaw2.WalStuck', WHERE WHAT IT READS IS OF BULK AT MOST 1048576: true; the input reads as it did. -/
def walStuckUptoRow : OpenClaim := { program := "ythbfkjmpaifblaa", sum := "02f32a61ecfc55b484d57d29a4f1d05f8c609fe7dd0962bbef75b462d8ad939b", func := "exchequer/exlaw2.WalStuck", spec := "walStuck", unfollowed := true, recurses := true, apart := false, narrowed := true }
def WalStuckUptoSaid : Prop := walStuckUptoRow.holds Try.pinned (OpenSpec.upto walStuckSpec)

end Rows
end Go.Proofs.Ythbfkjmpaifblaa
