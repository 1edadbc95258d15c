/-
  No cell of these rows narrows 'for every input' (looked for: loops, veiled, ifaces, maps, wideKeys, modest, calm, conditions, laid).
  DERIVED. THE GIVEN ROWS OF THIS SEAT. 6 by the template 'for every input the law returns true; each argument reads behind the call as it read before'; 0 by the template 'total and deterministic' (their statements: YtpadocjddoenhaaTotals.lean).
  GIVEN WITH THE SEED: the statements are not yours to turn. If you find one false, say at which input.
  Laid BY PROGRAM, IN A SANDBOX (cutbox-rows.mjs): the forced cells as the released guide's own fill.sh prints them over the translation 3d7945e676693d2f… (all of the seat's roots in one cut). By AI agents, Wed Nov 11 2026. No macro, syntax, notation, axiom, sorry.
-/
import Derived.Test.YtpadocjddoenhaaChecked
import GoSem.Claim
import GoSem.ClaimJoined
import GoSem.ClaimMapViews
import Derived.JoinedTies
import Derived.KernelRfl
namespace Go.Proofs.Ytpadocjddoenhaa
/- THE CELL 'sum', in the pinned program and in every row, IS THE sha256 OF THE DUMP (.gsa) THAT YtpadocjddoenhaaProg.lean LOADS. Nothing in Lean hashes anything: it is a label: what it is worth is what the hold of that sum in a sandbox is worth. -/
noncomputable def Try.pinned : Pinned := { name := "ytpadocjddoenhaa", sum := "3d7945e676693d2f7411b6ad7fa00a69fce708e0f0bebbf6185e74f42bfd3a36", checked := Try.checked }
namespace Rows
def none {H : Type} : Left H := { results := [], args := [] }

/-- 'punchcutlaw12.MsdfMedian': WHATEVER THE INPUT: true; the input reads as it did. -/
def msdfMedianSpec : ChangeSpec := { name := "msdfMedian", fn := fun _ => fun
  | [d1, d2, d3] => { results := [.lit (.bool true)], args := [d1, d2, d3] }
  | _ => none }
def msdfMedianRow : OpenClaim := { program := "ytpadocjddoenhaa", sum := "3d7945e676693d2f7411b6ad7fa00a69fce708e0f0bebbf6185e74f42bfd3a36", func := "punchcut/punchcutlaw12.MsdfMedian", spec := "msdfMedian", unfollowed := true, recurses := true, apart := false }
def MsdfMedianSaid : Prop := msdfMedianRow.holds Try.pinned (OpenSpec.ofChange msdfMedianSpec)

/-- ITS FALSE NEIGHBOUR: 'it returns false'. Refute it at one input. -/
def msdfMedianWrong : ChangeSpec := { name := "msdfMedian", fn := fun _ => fun
  | [d1, d2, d3] => { results := [.lit (.bool false)], args := [d1, d2, d3] }
  | _ => none }
def MsdfMedianWrongFalsely : Prop := msdfMedianRow.holds Try.pinned (OpenSpec.ofChange msdfMedianWrong)

/-- 'punchcutlaw12.MsdfMerge': WHATEVER THE INPUT: true; the input reads as it did. -/
def msdfMergeSpec : ChangeSpec := { name := "msdfMerge", fn := fun _ => fun
  | [d1, d2, d3, d4, d5, d6] => { results := [.lit (.bool true)], args := [d1, d2, d3, d4, d5, d6] }
  | _ => none }
def msdfMergeRow : OpenClaim := { program := "ytpadocjddoenhaa", sum := "3d7945e676693d2f7411b6ad7fa00a69fce708e0f0bebbf6185e74f42bfd3a36", func := "punchcut/punchcutlaw12.MsdfMerge", spec := "msdfMerge", unfollowed := true, recurses := true, apart := false }
def MsdfMergeSaid : Prop := msdfMergeRow.holds Try.pinned (OpenSpec.ofChange msdfMergeSpec)

/-- ITS FALSE NEIGHBOUR: 'it returns false'. Refute it at one input. -/
def msdfMergeWrong : ChangeSpec := { name := "msdfMerge", fn := fun _ => fun
  | [d1, d2, d3, d4, d5, d6] => { results := [.lit (.bool false)], args := [d1, d2, d3, d4, d5, d6] }
  | _ => none }
def MsdfMergeWrongFalsely : Prop := msdfMergeRow.holds Try.pinned (OpenSpec.ofChange msdfMergeWrong)

/-- 'punchcutlaw12.MsdfMake': WHATEVER THE INPUT: true; the input reads as it did. -/
def msdfMakeSpec : ChangeSpec := { name := "msdfMake", fn := fun _ => fun
  | [d1, d2, d3] => { results := [.lit (.bool true)], args := [d1, d2, d3] }
  | _ => none }
def msdfMakeRow : OpenClaim := { program := "ytpadocjddoenhaa", sum := "3d7945e676693d2f7411b6ad7fa00a69fce708e0f0bebbf6185e74f42bfd3a36", func := "punchcut/punchcutlaw12.MsdfMake", spec := "msdfMake", unfollowed := true, recurses := true, apart := false }
def MsdfMakeSaid : Prop := msdfMakeRow.holds Try.pinned (OpenSpec.ofChange msdfMakeSpec)

/-- ITS FALSE NEIGHBOUR: 'it returns false'. Refute it at one input. -/
def msdfMakeWrong : ChangeSpec := { name := "msdfMake", fn := fun _ => fun
  | [d1, d2, d3] => { results := [.lit (.bool false)], args := [d1, d2, d3] }
  | _ => none }
def MsdfMakeWrongFalsely : Prop := msdfMakeRow.holds Try.pinned (OpenSpec.ofChange msdfMakeWrong)

/-- 'punchcutlaw12.MsdfChannel': WHATEVER THE INPUT: true; the input reads as it did. -/
def msdfChannelSpec : ChangeSpec := { name := "msdfChannel", fn := fun _ => fun
  | [d1, d2, d3, d4, d5] => { results := [.lit (.bool true)], args := [d1, d2, d3, d4, d5] }
  | _ => none }
def msdfChannelRow : OpenClaim := { program := "ytpadocjddoenhaa", sum := "3d7945e676693d2f7411b6ad7fa00a69fce708e0f0bebbf6185e74f42bfd3a36", func := "punchcut/punchcutlaw12.MsdfChannel", spec := "msdfChannel", unfollowed := true, recurses := true, apart := false }
def MsdfChannelSaid : Prop := msdfChannelRow.holds Try.pinned (OpenSpec.ofChange msdfChannelSpec)

/-- ITS FALSE NEIGHBOUR: 'it returns false'. Refute it at one input. -/
def msdfChannelWrong : ChangeSpec := { name := "msdfChannel", fn := fun _ => fun
  | [d1, d2, d3, d4, d5] => { results := [.lit (.bool false)], args := [d1, d2, d3, d4, d5] }
  | _ => none }
def MsdfChannelWrongFalsely : Prop := msdfChannelRow.holds Try.pinned (OpenSpec.ofChange msdfChannelWrong)

/-- 'punchcutlaw12.MsdfNear': WHATEVER THE INPUT: true; the input reads as it did. -/
def msdfNearSpec : ChangeSpec := { name := "msdfNear", fn := fun _ => fun
  | [d1, d2, d3, d4, d5] => { results := [.lit (.bool true)], args := [d1, d2, d3, d4, d5] }
  | _ => none }
def msdfNearRow : OpenClaim := { program := "ytpadocjddoenhaa", sum := "3d7945e676693d2f7411b6ad7fa00a69fce708e0f0bebbf6185e74f42bfd3a36", func := "punchcut/punchcutlaw12.MsdfNear", spec := "msdfNear", unfollowed := true, recurses := true, apart := false }
def MsdfNearSaid : Prop := msdfNearRow.holds Try.pinned (OpenSpec.ofChange msdfNearSpec)

/-- ITS FALSE NEIGHBOUR: 'it returns false'. Refute it at one input. -/
def msdfNearWrong : ChangeSpec := { name := "msdfNear", fn := fun _ => fun
  | [d1, d2, d3, d4, d5] => { results := [.lit (.bool false)], args := [d1, d2, d3, d4, d5] }
  | _ => none }
def MsdfNearWrongFalsely : Prop := msdfNearRow.holds Try.pinned (OpenSpec.ofChange msdfNearWrong)

/-- 'punchcutlaw12.MsdfWhite': WHATEVER THE INPUT: true; the input reads as it did. -/
def msdfWhiteSpec : ChangeSpec := { name := "msdfWhite", fn := fun _ => fun
  | [d1, d2] => { results := [.lit (.bool true)], args := [d1, d2] }
  | _ => none }
def msdfWhiteRow : OpenClaim := { program := "ytpadocjddoenhaa", sum := "3d7945e676693d2f7411b6ad7fa00a69fce708e0f0bebbf6185e74f42bfd3a36", func := "punchcut/punchcutlaw12.MsdfWhite", spec := "msdfWhite", unfollowed := true, recurses := true, apart := false }
def MsdfWhiteSaid : Prop := msdfWhiteRow.holds Try.pinned (OpenSpec.ofChange msdfWhiteSpec)

/-- ITS FALSE NEIGHBOUR: 'it returns false'. Refute it at one input. -/
def msdfWhiteWrong : ChangeSpec := { name := "msdfWhite", fn := fun _ => fun
  | [d1, d2] => { results := [.lit (.bool false)], args := [d1, d2] }
  | _ => none }
def MsdfWhiteWrongFalsely : Prop := msdfWhiteRow.holds Try.pinned (OpenSpec.ofChange msdfWhiteWrong)

/- THE SECOND FORM. 'bulk': how many values and letters a reading holds, each counted each time it is reached (what is shared counts as often as it is met; a slice's spare places count too). A statement '..UptoSaid' is the law's where the arguments, and the package variables that the reading takes, are together of bulk at most 1048576: NARROWER than '..Said'. Prove '..Said' where nothing that the law and all that it calls make is longer than what came in: it says more and counts as full. Else prove '..UptoSaid'. A law counts once. -/
mutual
def uptoBulk {H : Type} : DataW H → Nat
  | .lit (.string bytes) => bytes.length + 1
  | .lit _ => 1
  | .nil => 1
  | .ptr d => uptoBulk d + 1
  | .slice elems spare => uptoBulkAll elems + uptoBulkAll spare + 1
  | .agg parts => uptoBulkAll parts + 1
  | .iface _ d => uptoBulk d + 1
  | .map entries => uptoBulkEntries entries + 1
  | .held _ => 1
def uptoBulkAll {H : Type} : List (DataW H) → Nat
  | [] => 0
  | d :: r => uptoBulk d + uptoBulkAll r
def uptoBulkEntries {H : Type} : List (Lit × DataW H) → Nat
  | [] => 0
  | x :: r => uptoBulkEntry x + uptoBulkEntries r
def uptoBulkEntry {H : Type} : Lit × DataW H → Nat
  | (.string bytes, d) => bytes.length + uptoBulk d + 1
  | (_, d) => uptoBulk d + 1
 end
def uptoSmall : (H : Type) → List (DataW H) → Bool := fun _ ds => decide (uptoBulkAll ds ≤ 1048576)
def OpenSpec.upto (s : _root_.Go.ChangeSpec) : _root_.Go.OpenSpec := { _root_.Go.OpenSpec.ofChange s with cond := some uptoSmall }

/-- 'punchcutlaw12.MsdfMedian', WHERE WHAT IT READS IS OF BULK AT MOST 1048576: true; the input reads as it did. -/
def msdfMedianUptoRow : OpenClaim := { program := "ytpadocjddoenhaa", sum := "3d7945e676693d2f7411b6ad7fa00a69fce708e0f0bebbf6185e74f42bfd3a36", func := "punchcut/punchcutlaw12.MsdfMedian", spec := "msdfMedian", unfollowed := true, recurses := true, apart := false, narrowed := true }
def MsdfMedianUptoSaid : Prop := msdfMedianUptoRow.holds Try.pinned (OpenSpec.upto msdfMedianSpec)

/-- 'punchcutlaw12.MsdfMerge', WHERE WHAT IT READS IS OF BULK AT MOST 1048576: true; the input reads as it did. -/
def msdfMergeUptoRow : OpenClaim := { program := "ytpadocjddoenhaa", sum := "3d7945e676693d2f7411b6ad7fa00a69fce708e0f0bebbf6185e74f42bfd3a36", func := "punchcut/punchcutlaw12.MsdfMerge", spec := "msdfMerge", unfollowed := true, recurses := true, apart := false, narrowed := true }
def MsdfMergeUptoSaid : Prop := msdfMergeUptoRow.holds Try.pinned (OpenSpec.upto msdfMergeSpec)

/-- 'punchcutlaw12.MsdfMake', WHERE WHAT IT READS IS OF BULK AT MOST 1048576: true; the input reads as it did. -/
def msdfMakeUptoRow : OpenClaim := { program := "ytpadocjddoenhaa", sum := "3d7945e676693d2f7411b6ad7fa00a69fce708e0f0bebbf6185e74f42bfd3a36", func := "punchcut/punchcutlaw12.MsdfMake", spec := "msdfMake", unfollowed := true, recurses := true, apart := false, narrowed := true }
def MsdfMakeUptoSaid : Prop := msdfMakeUptoRow.holds Try.pinned (OpenSpec.upto msdfMakeSpec)

/-- 'punchcutlaw12.MsdfChannel', WHERE WHAT IT READS IS OF BULK AT MOST 1048576: true; the input reads as it did. -/
def msdfChannelUptoRow : OpenClaim := { program := "ytpadocjddoenhaa", sum := "3d7945e676693d2f7411b6ad7fa00a69fce708e0f0bebbf6185e74f42bfd3a36", func := "punchcut/punchcutlaw12.MsdfChannel", spec := "msdfChannel", unfollowed := true, recurses := true, apart := false, narrowed := true }
def MsdfChannelUptoSaid : Prop := msdfChannelUptoRow.holds Try.pinned (OpenSpec.upto msdfChannelSpec)

/-- 'punchcutlaw12.MsdfNear', WHERE WHAT IT READS IS OF BULK AT MOST 1048576: true; the input reads as it did. -/
def msdfNearUptoRow : OpenClaim := { program := "ytpadocjddoenhaa", sum := "3d7945e676693d2f7411b6ad7fa00a69fce708e0f0bebbf6185e74f42bfd3a36", func := "punchcut/punchcutlaw12.MsdfNear", spec := "msdfNear", unfollowed := true, recurses := true, apart := false, narrowed := true }
def MsdfNearUptoSaid : Prop := msdfNearUptoRow.holds Try.pinned (OpenSpec.upto msdfNearSpec)

/-- 'punchcutlaw12.MsdfWhite', WHERE WHAT IT READS IS OF BULK AT MOST 1048576: true; the input reads as it did. -/
def msdfWhiteUptoRow : OpenClaim := { program := "ytpadocjddoenhaa", sum := "3d7945e676693d2f7411b6ad7fa00a69fce708e0f0bebbf6185e74f42bfd3a36", func := "punchcut/punchcutlaw12.MsdfWhite", spec := "msdfWhite", unfollowed := true, recurses := true, apart := false, narrowed := true }
def MsdfWhiteUptoSaid : Prop := msdfWhiteUptoRow.holds Try.pinned (OpenSpec.upto msdfWhiteSpec)

end Rows
end Go.Proofs.Ytpadocjddoenhaa
