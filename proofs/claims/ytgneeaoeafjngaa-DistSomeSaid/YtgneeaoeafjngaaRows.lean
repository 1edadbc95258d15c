/-
  No cell of these rows narrows 'for every input' (looked for: loops, veiled, ifaces, maps, wideKeys, modest, calm, conditions, laid).
  DERIVED. THE GIVEN ROWS OF THIS SEAT. 12 by the template 'for every input the law returns true; each argument reads behind the call as it read before'; 0 by the template 'total and deterministic' (their statements: YtgneeaoeafjngaaTotals.lean).
  GIVEN WITH THE SEED: the statements are not yours to turn. If you find one false, say at which input.
  Laid BY PROGRAM, IN A SANDBOX (cutbox-rows.mjs): the forced cells as the released guide's own fill.sh prints them over the translation b2441aac2621e5ee… (all of the seat's roots in one cut). By AI agents, Wed Nov 11 2026. No macro, syntax, notation, axiom, sorry.
-/
import Derived.Test.YtgneeaoeafjngaaChecked
import GoSem.Claim
import GoSem.ClaimJoined
import GoSem.ClaimMapViews
import Derived.JoinedTies
import Derived.KernelRfl
namespace Go.Proofs.Ytgneeaoeafjngaa
/- THE CELL 'sum', in the pinned program and in every row, IS THE sha256 OF THE DUMP (.gsa) THAT YtgneeaoeafjngaaProg.lean LOADS. Nothing in Lean hashes anything: it is a label: what it is worth is what the hold of that sum in a sandbox is worth. -/
noncomputable def Try.pinned : Pinned := { name := "ytgneeaoeafjngaa", sum := "b2441aac2621e5eee5012bb510994433a7ce8d9be23b7df60f9d651d9a26a4f9", checked := Try.checked }
namespace Rows
def none {H : Type} : Left H := { results := [], args := [] }

/-- 'punchcutlaw07.WindSquare': WHATEVER THE INPUT: true; the input reads as it did. -/
def windSquareSpec : ChangeSpec := { name := "windSquare", fn := fun _ => fun
  | [d1, d2, d3, d4, d5] => { results := [.lit (.bool true)], args := [d1, d2, d3, d4, d5] }
  | _ => none }
def windSquareRow : OpenClaim := { program := "ytgneeaoeafjngaa", sum := "b2441aac2621e5eee5012bb510994433a7ce8d9be23b7df60f9d651d9a26a4f9", func := "punchcut/punchcutlaw07.WindSquare", spec := "windSquare", apart := false }
def WindSquareSaid : Prop := windSquareRow.holds Try.pinned (OpenSpec.ofChange windSquareSpec)

/-- ITS FALSE NEIGHBOUR: 'it returns false'. Refute it at one input. -/
def windSquareWrong : ChangeSpec := { name := "windSquare", fn := fun _ => fun
  | [d1, d2, d3, d4, d5] => { results := [.lit (.bool false)], args := [d1, d2, d3, d4, d5] }
  | _ => none }
def WindSquareWrongFalsely : Prop := windSquareRow.holds Try.pinned (OpenSpec.ofChange windSquareWrong)

/-- 'punchcutlaw07.WindNumber': WHATEVER THE INPUT: true; the input reads as it did. -/
def windNumberSpec : ChangeSpec := { name := "windNumber", fn := fun _ => fun
  | [d1, d2, d3] => { results := [.lit (.bool true)], args := [d1, d2, d3] }
  | _ => none }
def windNumberRow : OpenClaim := { program := "ytgneeaoeafjngaa", sum := "b2441aac2621e5eee5012bb510994433a7ce8d9be23b7df60f9d651d9a26a4f9", func := "punchcut/punchcutlaw07.WindNumber", spec := "windNumber", unfollowed := true, recurses := true, apart := false }
def WindNumberSaid : Prop := windNumberRow.holds Try.pinned (OpenSpec.ofChange windNumberSpec)

/-- ITS FALSE NEIGHBOUR: 'it returns false'. Refute it at one input. -/
def windNumberWrong : ChangeSpec := { name := "windNumber", fn := fun _ => fun
  | [d1, d2, d3] => { results := [.lit (.bool false)], args := [d1, d2, d3] }
  | _ => none }
def WindNumberWrongFalsely : Prop := windNumberRow.holds Try.pinned (OpenSpec.ofChange windNumberWrong)

/-- 'punchcutlaw07.WindOn': WHATEVER THE INPUT: true; the input reads as it did. -/
def windOnSpec : ChangeSpec := { name := "windOn", fn := fun _ => fun
  | [d1, d2, d3] => { results := [.lit (.bool true)], args := [d1, d2, d3] }
  | _ => none }
def windOnRow : OpenClaim := { program := "ytgneeaoeafjngaa", sum := "b2441aac2621e5eee5012bb510994433a7ce8d9be23b7df60f9d651d9a26a4f9", func := "punchcut/punchcutlaw07.WindOn", spec := "windOn", unfollowed := true, recurses := true, apart := false }
def WindOnSaid : Prop := windOnRow.holds Try.pinned (OpenSpec.ofChange windOnSpec)

/-- ITS FALSE NEIGHBOUR: 'it returns false'. Refute it at one input. -/
def windOnWrong : ChangeSpec := { name := "windOn", fn := fun _ => fun
  | [d1, d2, d3] => { results := [.lit (.bool false)], args := [d1, d2, d3] }
  | _ => none }
def WindOnWrongFalsely : Prop := windOnRow.holds Try.pinned (OpenSpec.ofChange windOnWrong)

/-- 'punchcutlaw07.WindTurn': WHATEVER THE INPUT: true; the input reads as it did. -/
def windTurnSpec : ChangeSpec := { name := "windTurn", fn := fun _ => fun
  | [d1, d2, d3] => { results := [.lit (.bool true)], args := [d1, d2, d3] }
  | _ => none }
def windTurnRow : OpenClaim := { program := "ytgneeaoeafjngaa", sum := "b2441aac2621e5eee5012bb510994433a7ce8d9be23b7df60f9d651d9a26a4f9", func := "punchcut/punchcutlaw07.WindTurn", spec := "windTurn", unfollowed := true, recurses := true, apart := false }
def WindTurnSaid : Prop := windTurnRow.holds Try.pinned (OpenSpec.ofChange windTurnSpec)

/-- ITS FALSE NEIGHBOUR: 'it returns false'. Refute it at one input. -/
def windTurnWrong : ChangeSpec := { name := "windTurn", fn := fun _ => fun
  | [d1, d2, d3] => { results := [.lit (.bool false)], args := [d1, d2, d3] }
  | _ => none }
def WindTurnWrongFalsely : Prop := windTurnRow.holds Try.pinned (OpenSpec.ofChange windTurnWrong)

/-- 'punchcutlaw07.WindBoth': WHATEVER THE INPUT: true; the input reads as it did. -/
def windBothSpec : ChangeSpec := { name := "windBoth", fn := fun _ => fun
  | [d1, d2, d3, d4] => { results := [.lit (.bool true)], args := [d1, d2, d3, d4] }
  | _ => none }
def windBothRow : OpenClaim := { program := "ytgneeaoeafjngaa", sum := "b2441aac2621e5eee5012bb510994433a7ce8d9be23b7df60f9d651d9a26a4f9", func := "punchcut/punchcutlaw07.WindBoth", spec := "windBoth", unfollowed := true, recurses := true, apart := false }
def WindBothSaid : Prop := windBothRow.holds Try.pinned (OpenSpec.ofChange windBothSpec)

/-- ITS FALSE NEIGHBOUR: 'it returns false'. Refute it at one input. -/
def windBothWrong : ChangeSpec := { name := "windBoth", fn := fun _ => fun
  | [d1, d2, d3, d4] => { results := [.lit (.bool false)], args := [d1, d2, d3, d4] }
  | _ => none }
def WindBothWrongFalsely : Prop := windBothRow.holds Try.pinned (OpenSpec.ofChange windBothWrong)

/-- 'punchcutlaw07.WindOut': WHATEVER THE INPUT: true; the input reads as it did. -/
def windOutSpec : ChangeSpec := { name := "windOut", fn := fun _ => fun
  | [d1, d2, d3] => { results := [.lit (.bool true)], args := [d1, d2, d3] }
  | _ => none }
def windOutRow : OpenClaim := { program := "ytgneeaoeafjngaa", sum := "b2441aac2621e5eee5012bb510994433a7ce8d9be23b7df60f9d651d9a26a4f9", func := "punchcut/punchcutlaw07.WindOut", spec := "windOut", unfollowed := true, recurses := true, apart := false }
def WindOutSaid : Prop := windOutRow.holds Try.pinned (OpenSpec.ofChange windOutSpec)

/-- ITS FALSE NEIGHBOUR: 'it returns false'. Refute it at one input. -/
def windOutWrong : ChangeSpec := { name := "windOut", fn := fun _ => fun
  | [d1, d2, d3] => { results := [.lit (.bool false)], args := [d1, d2, d3] }
  | _ => none }
def WindOutWrongFalsely : Prop := windOutRow.holds Try.pinned (OpenSpec.ofChange windOutWrong)

/-- 'punchcutlaw08.DistNear': WHATEVER THE INPUT: true; the input reads as it did. -/
def distNearSpec : ChangeSpec := { name := "distNear", fn := fun _ => fun
  | [d1, d2, d3] => { results := [.lit (.bool true)], args := [d1, d2, d3] }
  | _ => none }
def distNearRow : OpenClaim := { program := "ytgneeaoeafjngaa", sum := "b2441aac2621e5eee5012bb510994433a7ce8d9be23b7df60f9d651d9a26a4f9", func := "punchcut/punchcutlaw08.DistNear", spec := "distNear", unfollowed := true, recurses := true, apart := false }
def DistNearSaid : Prop := distNearRow.holds Try.pinned (OpenSpec.ofChange distNearSpec)

/-- ITS FALSE NEIGHBOUR: 'it returns false'. Refute it at one input. -/
def distNearWrong : ChangeSpec := { name := "distNear", fn := fun _ => fun
  | [d1, d2, d3] => { results := [.lit (.bool false)], args := [d1, d2, d3] }
  | _ => none }
def DistNearWrongFalsely : Prop := distNearRow.holds Try.pinned (OpenSpec.ofChange distNearWrong)

/-- 'punchcutlaw08.DistSome': WHATEVER THE INPUT: true; the input reads as it did. -/
def distSomeSpec : ChangeSpec := { name := "distSome", fn := fun _ => fun
  | [d1, d2, d3, d4] => { results := [.lit (.bool true)], args := [d1, d2, d3, d4] }
  | _ => none }
def distSomeRow : OpenClaim := { program := "ytgneeaoeafjngaa", sum := "b2441aac2621e5eee5012bb510994433a7ce8d9be23b7df60f9d651d9a26a4f9", func := "punchcut/punchcutlaw08.DistSome", spec := "distSome", unfollowed := true, recurses := true, apart := false }
def DistSomeSaid : Prop := distSomeRow.holds Try.pinned (OpenSpec.ofChange distSomeSpec)

/-- ITS FALSE NEIGHBOUR: 'it returns false'. Refute it at one input. -/
def distSomeWrong : ChangeSpec := { name := "distSome", fn := fun _ => fun
  | [d1, d2, d3, d4] => { results := [.lit (.bool false)], args := [d1, d2, d3, d4] }
  | _ => none }
def DistSomeWrongFalsely : Prop := distSomeRow.holds Try.pinned (OpenSpec.ofChange distSomeWrong)

/-- 'punchcutlaw08.DistEight': WHATEVER THE INPUT: true; the input reads as it did. -/
def distEightSpec : ChangeSpec := { name := "distEight", fn := fun _ => fun
  | [d1, d2, d3] => { results := [.lit (.bool true)], args := [d1, d2, d3] }
  | _ => none }
def distEightRow : OpenClaim := { program := "ytgneeaoeafjngaa", sum := "b2441aac2621e5eee5012bb510994433a7ce8d9be23b7df60f9d651d9a26a4f9", func := "punchcut/punchcutlaw08.DistEight", spec := "distEight", unfollowed := true, recurses := true, apart := false }
def DistEightSaid : Prop := distEightRow.holds Try.pinned (OpenSpec.ofChange distEightSpec)

/-- ITS FALSE NEIGHBOUR: 'it returns false'. Refute it at one input. -/
def distEightWrong : ChangeSpec := { name := "distEight", fn := fun _ => fun
  | [d1, d2, d3] => { results := [.lit (.bool false)], args := [d1, d2, d3] }
  | _ => none }
def DistEightWrongFalsely : Prop := distEightRow.holds Try.pinned (OpenSpec.ofChange distEightWrong)

/-- 'punchcutlaw08.DistSign': WHATEVER THE INPUT: true; the input reads as it did. -/
def distSignSpec : ChangeSpec := { name := "distSign", fn := fun _ => fun
  | [d1, d2, d3] => { results := [.lit (.bool true)], args := [d1, d2, d3] }
  | _ => none }
def distSignRow : OpenClaim := { program := "ytgneeaoeafjngaa", sum := "b2441aac2621e5eee5012bb510994433a7ce8d9be23b7df60f9d651d9a26a4f9", func := "punchcut/punchcutlaw08.DistSign", spec := "distSign", unfollowed := true, recurses := true, apart := false }
def DistSignSaid : Prop := distSignRow.holds Try.pinned (OpenSpec.ofChange distSignSpec)

/-- ITS FALSE NEIGHBOUR: 'it returns false'. Refute it at one input. -/
def distSignWrong : ChangeSpec := { name := "distSign", fn := fun _ => fun
  | [d1, d2, d3] => { results := [.lit (.bool false)], args := [d1, d2, d3] }
  | _ => none }
def DistSignWrongFalsely : Prop := distSignRow.holds Try.pinned (OpenSpec.ofChange distSignWrong)

/-- 'punchcutlaw08.DistStep': WHATEVER THE INPUT: true; the input reads as it did. -/
def distStepSpec : ChangeSpec := { name := "distStep", fn := fun _ => fun
  | [d1, d2, d3, d4, d5] => { results := [.lit (.bool true)], args := [d1, d2, d3, d4, d5] }
  | _ => none }
def distStepRow : OpenClaim := { program := "ytgneeaoeafjngaa", sum := "b2441aac2621e5eee5012bb510994433a7ce8d9be23b7df60f9d651d9a26a4f9", func := "punchcut/punchcutlaw08.DistStep", spec := "distStep", unfollowed := true, recurses := true, apart := false }
def DistStepSaid : Prop := distStepRow.holds Try.pinned (OpenSpec.ofChange distStepSpec)

/-- ITS FALSE NEIGHBOUR: 'it returns false'. Refute it at one input. -/
def distStepWrong : ChangeSpec := { name := "distStep", fn := fun _ => fun
  | [d1, d2, d3, d4, d5] => { results := [.lit (.bool false)], args := [d1, d2, d3, d4, d5] }
  | _ => none }
def DistStepWrongFalsely : Prop := distStepRow.holds Try.pinned (OpenSpec.ofChange distStepWrong)

/-- 'punchcutlaw08.DistMore': WHATEVER THE INPUT: true; the input reads as it did. -/
def distMoreSpec : ChangeSpec := { name := "distMore", fn := fun _ => fun
  | [d1, d2, d3, d4] => { results := [.lit (.bool true)], args := [d1, d2, d3, d4] }
  | _ => none }
def distMoreRow : OpenClaim := { program := "ytgneeaoeafjngaa", sum := "b2441aac2621e5eee5012bb510994433a7ce8d9be23b7df60f9d651d9a26a4f9", func := "punchcut/punchcutlaw08.DistMore", spec := "distMore", unfollowed := true, recurses := true, apart := false }
def DistMoreSaid : Prop := distMoreRow.holds Try.pinned (OpenSpec.ofChange distMoreSpec)

/-- ITS FALSE NEIGHBOUR: 'it returns false'. Refute it at one input. -/
def distMoreWrong : ChangeSpec := { name := "distMore", fn := fun _ => fun
  | [d1, d2, d3, d4] => { results := [.lit (.bool false)], args := [d1, d2, d3, d4] }
  | _ => none }
def DistMoreWrongFalsely : Prop := distMoreRow.holds Try.pinned (OpenSpec.ofChange distMoreWrong)

/- THE SECOND FORM. 'bulk': how many values and letters a reading holds, each counted each time it is reached (what is shared counts as often as it is met; a slice's spare places count too). A statement '..UptoSaid' is the law's where the arguments, and the package variables that the reading takes, are together of bulk at most 1048576: NARROWER than '..Said'. Prove '..Said' where nothing that the law and all that it calls make is longer than what came in: it says more and counts as full. Else prove '..UptoSaid'. A law counts once. -/
mutual
def uptoBulk {H : Type} : DataW H → Nat
  | .lit (.string bytes) => bytes.length + 1
  | .lit _ => 1
  | .nil => 1
  | .ptr d => uptoBulk d + 1
  | .slice elems spare => uptoBulkAll elems + uptoBulkAll spare + 1
  | .agg parts => uptoBulkAll parts + 1
  | .iface _ d => uptoBulk d + 1
  | .map entries => uptoBulkEntries entries + 1
  | .held _ => 1
def uptoBulkAll {H : Type} : List (DataW H) → Nat
  | [] => 0
  | d :: r => uptoBulk d + uptoBulkAll r
def uptoBulkEntries {H : Type} : List (Lit × DataW H) → Nat
  | [] => 0
  | x :: r => uptoBulkEntry x + uptoBulkEntries r
def uptoBulkEntry {H : Type} : Lit × DataW H → Nat
  | (.string bytes, d) => bytes.length + uptoBulk d + 1
  | (_, d) => uptoBulk d + 1
 end
def uptoSmall : (H : Type) → List (DataW H) → Bool := fun _ ds => decide (uptoBulkAll ds ≤ 1048576)
def OpenSpec.upto (s : _root_.Go.ChangeSpec) : _root_.Go.OpenSpec := { _root_.Go.OpenSpec.ofChange s with cond := some uptoSmall }

/-- 'punchcutlaw07.WindSquare', WHERE WHAT IT READS IS OF BULK AT MOST 1048576: true; the input reads as it did. -/
def windSquareUptoRow : OpenClaim := { program := "ytgneeaoeafjngaa", sum := "b2441aac2621e5eee5012bb510994433a7ce8d9be23b7df60f9d651d9a26a4f9", func := "punchcut/punchcutlaw07.WindSquare", spec := "windSquare", apart := false, narrowed := true }
def WindSquareUptoSaid : Prop := windSquareUptoRow.holds Try.pinned (OpenSpec.upto windSquareSpec)

/-- 'punchcutlaw07.WindNumber', WHERE WHAT IT READS IS OF BULK AT MOST 1048576: true; the input reads as it did. -/
def windNumberUptoRow : OpenClaim := { program := "ytgneeaoeafjngaa", sum := "b2441aac2621e5eee5012bb510994433a7ce8d9be23b7df60f9d651d9a26a4f9", func := "punchcut/punchcutlaw07.WindNumber", spec := "windNumber", unfollowed := true, recurses := true, apart := false, narrowed := true }
def WindNumberUptoSaid : Prop := windNumberUptoRow.holds Try.pinned (OpenSpec.upto windNumberSpec)

/-- 'punchcutlaw07.WindOn', WHERE WHAT IT READS IS OF BULK AT MOST 1048576: true; the input reads as it did. -/
def windOnUptoRow : OpenClaim := { program := "ytgneeaoeafjngaa", sum := "b2441aac2621e5eee5012bb510994433a7ce8d9be23b7df60f9d651d9a26a4f9", func := "punchcut/punchcutlaw07.WindOn", spec := "windOn", unfollowed := true, recurses := true, apart := false, narrowed := true }
def WindOnUptoSaid : Prop := windOnUptoRow.holds Try.pinned (OpenSpec.upto windOnSpec)

/-- 'punchcutlaw07.WindTurn', WHERE WHAT IT READS IS OF BULK AT MOST 1048576: true; the input reads as it did. -/
def windTurnUptoRow : OpenClaim := { program := "ytgneeaoeafjngaa", sum := "b2441aac2621e5eee5012bb510994433a7ce8d9be23b7df60f9d651d9a26a4f9", func := "punchcut/punchcutlaw07.WindTurn", spec := "windTurn", unfollowed := true, recurses := true, apart := false, narrowed := true }
def WindTurnUptoSaid : Prop := windTurnUptoRow.holds Try.pinned (OpenSpec.upto windTurnSpec)

/-- 'punchcutlaw07.WindBoth', WHERE WHAT IT READS IS OF BULK AT MOST 1048576: true; the input reads as it did. -/
def windBothUptoRow : OpenClaim := { program := "ytgneeaoeafjngaa", sum := "b2441aac2621e5eee5012bb510994433a7ce8d9be23b7df60f9d651d9a26a4f9", func := "punchcut/punchcutlaw07.WindBoth", spec := "windBoth", unfollowed := true, recurses := true, apart := false, narrowed := true }
def WindBothUptoSaid : Prop := windBothUptoRow.holds Try.pinned (OpenSpec.upto windBothSpec)

/-- 'punchcutlaw07.WindOut', WHERE WHAT IT READS IS OF BULK AT MOST 1048576: true; the input reads as it did. -/
def windOutUptoRow : OpenClaim := { program := "ytgneeaoeafjngaa", sum := "b2441aac2621e5eee5012bb510994433a7ce8d9be23b7df60f9d651d9a26a4f9", func := "punchcut/punchcutlaw07.WindOut", spec := "windOut", unfollowed := true, recurses := true, apart := false, narrowed := true }
def WindOutUptoSaid : Prop := windOutUptoRow.holds Try.pinned (OpenSpec.upto windOutSpec)

/-- 'punchcutlaw08.DistNear', WHERE WHAT IT READS IS OF BULK AT MOST 1048576: true; the input reads as it did. -/
def distNearUptoRow : OpenClaim := { program := "ytgneeaoeafjngaa", sum := "b2441aac2621e5eee5012bb510994433a7ce8d9be23b7df60f9d651d9a26a4f9", func := "punchcut/punchcutlaw08.DistNear", spec := "distNear", unfollowed := true, recurses := true, apart := false, narrowed := true }
def DistNearUptoSaid : Prop := distNearUptoRow.holds Try.pinned (OpenSpec.upto distNearSpec)

/-- 'punchcutlaw08.DistSome', WHERE WHAT IT READS IS OF BULK AT MOST 1048576: true; the input reads as it did. -/
def distSomeUptoRow : OpenClaim := { program := "ytgneeaoeafjngaa", sum := "b2441aac2621e5eee5012bb510994433a7ce8d9be23b7df60f9d651d9a26a4f9", func := "punchcut/punchcutlaw08.DistSome", spec := "distSome", unfollowed := true, recurses := true, apart := false, narrowed := true }
def DistSomeUptoSaid : Prop := distSomeUptoRow.holds Try.pinned (OpenSpec.upto distSomeSpec)

/-- 'punchcutlaw08.DistEight', WHERE WHAT IT READS IS OF BULK AT MOST 1048576: true; the input reads as it did. -/
def distEightUptoRow : OpenClaim := { program := "ytgneeaoeafjngaa", sum := "b2441aac2621e5eee5012bb510994433a7ce8d9be23b7df60f9d651d9a26a4f9", func := "punchcut/punchcutlaw08.DistEight", spec := "distEight", unfollowed := true, recurses := true, apart := false, narrowed := true }
def DistEightUptoSaid : Prop := distEightUptoRow.holds Try.pinned (OpenSpec.upto distEightSpec)

/-- 'punchcutlaw08.DistSign', WHERE WHAT IT READS IS OF BULK AT MOST 1048576: true; the input reads as it did. -/
def distSignUptoRow : OpenClaim := { program := "ytgneeaoeafjngaa", sum := "b2441aac2621e5eee5012bb510994433a7ce8d9be23b7df60f9d651d9a26a4f9", func := "punchcut/punchcutlaw08.DistSign", spec := "distSign", unfollowed := true, recurses := true, apart := false, narrowed := true }
def DistSignUptoSaid : Prop := distSignUptoRow.holds Try.pinned (OpenSpec.upto distSignSpec)

/-- 'punchcutlaw08.DistStep', WHERE WHAT IT READS IS OF BULK AT MOST 1048576: true; the input reads as it did. -/
def distStepUptoRow : OpenClaim := { program := "ytgneeaoeafjngaa", sum := "b2441aac2621e5eee5012bb510994433a7ce8d9be23b7df60f9d651d9a26a4f9", func := "punchcut/punchcutlaw08.DistStep", spec := "distStep", unfollowed := true, recurses := true, apart := false, narrowed := true }
def DistStepUptoSaid : Prop := distStepUptoRow.holds Try.pinned (OpenSpec.upto distStepSpec)

/-- 'punchcutlaw08.DistMore', WHERE WHAT IT READS IS OF BULK AT MOST 1048576: true; the input reads as it did. -/
def distMoreUptoRow : OpenClaim := { program := "ytgneeaoeafjngaa", sum := "b2441aac2621e5eee5012bb510994433a7ce8d9be23b7df60f9d651d9a26a4f9", func := "punchcut/punchcutlaw08.DistMore", spec := "distMore", unfollowed := true, recurses := true, apart := false, narrowed := true }
def DistMoreUptoSaid : Prop := distMoreUptoRow.holds Try.pinned (OpenSpec.upto distMoreSpec)

end Rows
end Go.Proofs.Ytgneeaoeafjngaa
