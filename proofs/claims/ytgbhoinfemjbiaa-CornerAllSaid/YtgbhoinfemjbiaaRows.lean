/-
  No cell of these rows narrows 'for every input' (looked for: loops, veiled, ifaces, maps, wideKeys, modest, calm, conditions, laid).
  DERIVED. THE GIVEN ROWS OF THIS SEAT. 12 by the template 'for every input the law returns true; each argument reads behind the call as it read before'; 0 by the template 'total and deterministic' (their statements: YtgbhoinfemjbiaaTotals.lean).
  GIVEN WITH THE SEED: the statements are not yours to turn. If you find one false, say at which input.
  Laid BY PROGRAM, IN A SANDBOX (cutbox-rows.mjs): the forced cells as the released guide's own fill.sh prints them over the translation b0d315cd2c39d79e… (all of the seat's roots in one cut). By AI agents, Wed Nov 11 2026. No macro, syntax, notation, axiom, sorry.
-/
import Derived.Test.YtgbhoinfemjbiaaChecked
import GoSem.Claim
import GoSem.ClaimJoined
import GoSem.ClaimMapViews
import Derived.JoinedTies
import Derived.KernelRfl
namespace Go.Proofs.Ytgbhoinfemjbiaa
/- THE CELL 'sum', in the pinned program and in every row, IS THE sha256 OF THE DUMP (.gsa) THAT YtgbhoinfemjbiaaProg.lean LOADS. Nothing in Lean hashes anything: it is a label: what it is worth is what the hold of that sum in a sandbox is worth. -/
noncomputable def Try.pinned : Pinned := { name := "ytgbhoinfemjbiaa", sum := "b0d315cd2c39d79ebc22d30e210725910a95d75e696dbc1e7e0a0a375e3afec4", checked := Try.checked }
namespace Rows
def none {H : Type} : Left H := { results := [], args := [] }

/-- 'punchcutlaw06.FlatOn': WHATEVER THE INPUT: true; the input reads as it did. -/
def flatOnSpec : ChangeSpec := { name := "flatOn", fn := fun _ => fun
  | [d1, d2] => { results := [.lit (.bool true)], args := [d1, d2] }
  | _ => none }
def flatOnRow : OpenClaim := { program := "ytgbhoinfemjbiaa", sum := "b0d315cd2c39d79ebc22d30e210725910a95d75e696dbc1e7e0a0a375e3afec4", func := "punchcut/punchcutlaw06.FlatOn", spec := "flatOn", unfollowed := true, recurses := true, apart := false }
def FlatOnSaid : Prop := flatOnRow.holds Try.pinned (OpenSpec.ofChange flatOnSpec)

/-- ITS FALSE NEIGHBOUR: 'it returns false'. Refute it at one input. -/
def flatOnWrong : ChangeSpec := { name := "flatOn", fn := fun _ => fun
  | [d1, d2] => { results := [.lit (.bool false)], args := [d1, d2] }
  | _ => none }
def FlatOnWrongFalsely : Prop := flatOnRow.holds Try.pinned (OpenSpec.ofChange flatOnWrong)

/-- 'punchcutlaw06.FlatEdges': WHATEVER THE INPUT: true; the input reads as it did. -/
def flatEdgesSpec : ChangeSpec := { name := "flatEdges", fn := fun _ => fun
  | [d] => { results := [.lit (.bool true)], args := [d] }
  | _ => none }
def flatEdgesRow : OpenClaim := { program := "ytgbhoinfemjbiaa", sum := "b0d315cd2c39d79ebc22d30e210725910a95d75e696dbc1e7e0a0a375e3afec4", func := "punchcut/punchcutlaw06.FlatEdges", spec := "flatEdges", unfollowed := true, recurses := true, apart := false }
def FlatEdgesSaid : Prop := flatEdgesRow.holds Try.pinned (OpenSpec.ofChange flatEdgesSpec)

/-- ITS FALSE NEIGHBOUR: 'it returns false'. Refute it at one input. -/
def flatEdgesWrong : ChangeSpec := { name := "flatEdges", fn := fun _ => fun
  | [d] => { results := [.lit (.bool false)], args := [d] }
  | _ => none }
def FlatEdgesWrongFalsely : Prop := flatEdgesRow.holds Try.pinned (OpenSpec.ofChange flatEdgesWrong)

/-- 'punchcutlaw06.FlatHull': WHATEVER THE INPUT: true; the input reads as it did. -/
def flatHullSpec : ChangeSpec := { name := "flatHull", fn := fun _ => fun
  | [d1, d2] => { results := [.lit (.bool true)], args := [d1, d2] }
  | _ => none }
def flatHullRow : OpenClaim := { program := "ytgbhoinfemjbiaa", sum := "b0d315cd2c39d79ebc22d30e210725910a95d75e696dbc1e7e0a0a375e3afec4", func := "punchcut/punchcutlaw06.FlatHull", spec := "flatHull", unfollowed := true, recurses := true, apart := false }
def FlatHullSaid : Prop := flatHullRow.holds Try.pinned (OpenSpec.ofChange flatHullSpec)

/-- ITS FALSE NEIGHBOUR: 'it returns false'. Refute it at one input. -/
def flatHullWrong : ChangeSpec := { name := "flatHull", fn := fun _ => fun
  | [d1, d2] => { results := [.lit (.bool false)], args := [d1, d2] }
  | _ => none }
def FlatHullWrongFalsely : Prop := flatHullRow.holds Try.pinned (OpenSpec.ofChange flatHullWrong)

/-- 'punchcutlaw06.FlatTurn': WHATEVER THE INPUT: true; the input reads as it did. -/
def flatTurnSpec : ChangeSpec := { name := "flatTurn", fn := fun _ => fun
  | [d1, d2] => { results := [.lit (.bool true)], args := [d1, d2] }
  | _ => none }
def flatTurnRow : OpenClaim := { program := "ytgbhoinfemjbiaa", sum := "b0d315cd2c39d79ebc22d30e210725910a95d75e696dbc1e7e0a0a375e3afec4", func := "punchcut/punchcutlaw06.FlatTurn", spec := "flatTurn", unfollowed := true, recurses := true, apart := false }
def FlatTurnSaid : Prop := flatTurnRow.holds Try.pinned (OpenSpec.ofChange flatTurnSpec)

/-- ITS FALSE NEIGHBOUR: 'it returns false'. Refute it at one input. -/
def flatTurnWrong : ChangeSpec := { name := "flatTurn", fn := fun _ => fun
  | [d1, d2] => { results := [.lit (.bool false)], args := [d1, d2] }
  | _ => none }
def FlatTurnWrongFalsely : Prop := flatTurnRow.holds Try.pinned (OpenSpec.ofChange flatTurnWrong)

/-- 'punchcutlaw11.CornerIs': WHATEVER THE INPUT: true; the input reads as it did. -/
def cornerIsSpec : ChangeSpec := { name := "cornerIs", fn := fun _ => fun
  | [d1, d2, d3] => { results := [.lit (.bool true)], args := [d1, d2, d3] }
  | _ => none }
def cornerIsRow : OpenClaim := { program := "ytgbhoinfemjbiaa", sum := "b0d315cd2c39d79ebc22d30e210725910a95d75e696dbc1e7e0a0a375e3afec4", func := "punchcut/punchcutlaw11.CornerIs", spec := "cornerIs", apart := false }
def CornerIsSaid : Prop := cornerIsRow.holds Try.pinned (OpenSpec.ofChange cornerIsSpec)

/-- ITS FALSE NEIGHBOUR: 'it returns false'. Refute it at one input. -/
def cornerIsWrong : ChangeSpec := { name := "cornerIs", fn := fun _ => fun
  | [d1, d2, d3] => { results := [.lit (.bool false)], args := [d1, d2, d3] }
  | _ => none }
def CornerIsWrongFalsely : Prop := cornerIsRow.holds Try.pinned (OpenSpec.ofChange cornerIsWrong)

/-- 'punchcutlaw06.FlatAll': WHATEVER THE INPUT: true; the input reads as it did. -/
def flatAllSpec : ChangeSpec := { name := "flatAll", fn := fun _ => fun
  | [d] => { results := [.lit (.bool true)], args := [d] }
  | _ => none }
def flatAllRow : OpenClaim := { program := "ytgbhoinfemjbiaa", sum := "b0d315cd2c39d79ebc22d30e210725910a95d75e696dbc1e7e0a0a375e3afec4", func := "punchcut/punchcutlaw06.FlatAll", spec := "flatAll", unfollowed := true, recurses := true, apart := false }
def FlatAllSaid : Prop := flatAllRow.holds Try.pinned (OpenSpec.ofChange flatAllSpec)

/-- ITS FALSE NEIGHBOUR: 'it returns false'. Refute it at one input. -/
def flatAllWrong : ChangeSpec := { name := "flatAll", fn := fun _ => fun
  | [d] => { results := [.lit (.bool false)], args := [d] }
  | _ => none }
def FlatAllWrongFalsely : Prop := flatAllRow.holds Try.pinned (OpenSpec.ofChange flatAllWrong)

/-- 'punchcutlaw06.FlatBox': WHATEVER THE INPUT: true; the input reads as it did. -/
def flatBoxSpec : ChangeSpec := { name := "flatBox", fn := fun _ => fun
  | [d] => { results := [.lit (.bool true)], args := [d] }
  | _ => none }
def flatBoxRow : OpenClaim := { program := "ytgbhoinfemjbiaa", sum := "b0d315cd2c39d79ebc22d30e210725910a95d75e696dbc1e7e0a0a375e3afec4", func := "punchcut/punchcutlaw06.FlatBox", spec := "flatBox", unfollowed := true, recurses := true, apart := false }
def FlatBoxSaid : Prop := flatBoxRow.holds Try.pinned (OpenSpec.ofChange flatBoxSpec)

/-- ITS FALSE NEIGHBOUR: 'it returns false'. Refute it at one input. -/
def flatBoxWrong : ChangeSpec := { name := "flatBox", fn := fun _ => fun
  | [d] => { results := [.lit (.bool false)], args := [d] }
  | _ => none }
def FlatBoxWrongFalsely : Prop := flatBoxRow.holds Try.pinned (OpenSpec.ofChange flatBoxWrong)

/-- 'punchcutlaw11.CornerCorners': WHATEVER THE INPUT: true; the input reads as it did. -/
def cornerCornersSpec : ChangeSpec := { name := "cornerCorners", fn := fun _ => fun
  | [d] => { results := [.lit (.bool true)], args := [d] }
  | _ => none }
def cornerCornersRow : OpenClaim := { program := "ytgbhoinfemjbiaa", sum := "b0d315cd2c39d79ebc22d30e210725910a95d75e696dbc1e7e0a0a375e3afec4", func := "punchcut/punchcutlaw11.CornerCorners", spec := "cornerCorners", unfollowed := true, recurses := true, apart := false }
def CornerCornersSaid : Prop := cornerCornersRow.holds Try.pinned (OpenSpec.ofChange cornerCornersSpec)

/-- ITS FALSE NEIGHBOUR: 'it returns false'. Refute it at one input. -/
def cornerCornersWrong : ChangeSpec := { name := "cornerCorners", fn := fun _ => fun
  | [d] => { results := [.lit (.bool false)], args := [d] }
  | _ => none }
def CornerCornersWrongFalsely : Prop := cornerCornersRow.holds Try.pinned (OpenSpec.ofChange cornerCornersWrong)

/-- 'punchcutlaw11.CornerColours': WHATEVER THE INPUT: true; the input reads as it did. -/
def cornerColoursSpec : ChangeSpec := { name := "cornerColours", fn := fun _ => fun
  | [d] => { results := [.lit (.bool true)], args := [d] }
  | _ => none }
def cornerColoursRow : OpenClaim := { program := "ytgbhoinfemjbiaa", sum := "b0d315cd2c39d79ebc22d30e210725910a95d75e696dbc1e7e0a0a375e3afec4", func := "punchcut/punchcutlaw11.CornerColours", spec := "cornerColours", unfollowed := true, recurses := true, apart := false }
def CornerColoursSaid : Prop := cornerColoursRow.holds Try.pinned (OpenSpec.ofChange cornerColoursSpec)

/-- ITS FALSE NEIGHBOUR: 'it returns false'. Refute it at one input. -/
def cornerColoursWrong : ChangeSpec := { name := "cornerColours", fn := fun _ => fun
  | [d] => { results := [.lit (.bool false)], args := [d] }
  | _ => none }
def CornerColoursWrongFalsely : Prop := cornerColoursRow.holds Try.pinned (OpenSpec.ofChange cornerColoursWrong)

/-- 'punchcutlaw11.CornerShare': WHATEVER THE INPUT: true; the input reads as it did. -/
def cornerShareSpec : ChangeSpec := { name := "cornerShare", fn := fun _ => fun
  | [d] => { results := [.lit (.bool true)], args := [d] }
  | _ => none }
def cornerShareRow : OpenClaim := { program := "ytgbhoinfemjbiaa", sum := "b0d315cd2c39d79ebc22d30e210725910a95d75e696dbc1e7e0a0a375e3afec4", func := "punchcut/punchcutlaw11.CornerShare", spec := "cornerShare", unfollowed := true, recurses := true, apart := false }
def CornerShareSaid : Prop := cornerShareRow.holds Try.pinned (OpenSpec.ofChange cornerShareSpec)

/-- ITS FALSE NEIGHBOUR: 'it returns false'. Refute it at one input. -/
def cornerShareWrong : ChangeSpec := { name := "cornerShare", fn := fun _ => fun
  | [d] => { results := [.lit (.bool false)], args := [d] }
  | _ => none }
def CornerShareWrongFalsely : Prop := cornerShareRow.holds Try.pinned (OpenSpec.ofChange cornerShareWrong)

/-- 'punchcutlaw11.CornerPieces': WHATEVER THE INPUT: true; the input reads as it did. -/
def cornerPiecesSpec : ChangeSpec := { name := "cornerPieces", fn := fun _ => fun
  | [d1, d2] => { results := [.lit (.bool true)], args := [d1, d2] }
  | _ => none }
def cornerPiecesRow : OpenClaim := { program := "ytgbhoinfemjbiaa", sum := "b0d315cd2c39d79ebc22d30e210725910a95d75e696dbc1e7e0a0a375e3afec4", func := "punchcut/punchcutlaw11.CornerPieces", spec := "cornerPieces", unfollowed := true, recurses := true, apart := false }
def CornerPiecesSaid : Prop := cornerPiecesRow.holds Try.pinned (OpenSpec.ofChange cornerPiecesSpec)

/-- ITS FALSE NEIGHBOUR: 'it returns false'. Refute it at one input. -/
def cornerPiecesWrong : ChangeSpec := { name := "cornerPieces", fn := fun _ => fun
  | [d1, d2] => { results := [.lit (.bool false)], args := [d1, d2] }
  | _ => none }
def CornerPiecesWrongFalsely : Prop := cornerPiecesRow.holds Try.pinned (OpenSpec.ofChange cornerPiecesWrong)

/-- 'punchcutlaw11.CornerAll': WHATEVER THE INPUT: true; the input reads as it did. -/
def cornerAllSpec : ChangeSpec := { name := "cornerAll", fn := fun _ => fun
  | [d] => { results := [.lit (.bool true)], args := [d] }
  | _ => none }
def cornerAllRow : OpenClaim := { program := "ytgbhoinfemjbiaa", sum := "b0d315cd2c39d79ebc22d30e210725910a95d75e696dbc1e7e0a0a375e3afec4", func := "punchcut/punchcutlaw11.CornerAll", spec := "cornerAll", unfollowed := true, recurses := true, apart := false }
def CornerAllSaid : Prop := cornerAllRow.holds Try.pinned (OpenSpec.ofChange cornerAllSpec)

/-- ITS FALSE NEIGHBOUR: 'it returns false'. Refute it at one input. -/
def cornerAllWrong : ChangeSpec := { name := "cornerAll", fn := fun _ => fun
  | [d] => { results := [.lit (.bool false)], args := [d] }
  | _ => none }
def CornerAllWrongFalsely : Prop := cornerAllRow.holds Try.pinned (OpenSpec.ofChange cornerAllWrong)

/- THE SECOND FORM. 'bulk': how many values and letters a reading holds, each counted each time it is reached (what is shared counts as often as it is met; a slice's spare places count too). A statement '..UptoSaid' is the law's where the arguments, and the package variables that the reading takes, are together of bulk at most 1048576: NARROWER than '..Said'. Prove '..Said' where nothing that the law and all that it calls make is longer than what came in: it says more and counts as full. Else prove '..UptoSaid'. A law counts once. -/
mutual
def uptoBulk {H : Type} : DataW H → Nat
  | .lit (.string bytes) => bytes.length + 1
  | .lit _ => 1
  | .nil => 1
  | .ptr d => uptoBulk d + 1
  | .slice elems spare => uptoBulkAll elems + uptoBulkAll spare + 1
  | .agg parts => uptoBulkAll parts + 1
  | .iface _ d => uptoBulk d + 1
  | .map entries => uptoBulkEntries entries + 1
  | .held _ => 1
def uptoBulkAll {H : Type} : List (DataW H) → Nat
  | [] => 0
  | d :: r => uptoBulk d + uptoBulkAll r
def uptoBulkEntries {H : Type} : List (Lit × DataW H) → Nat
  | [] => 0
  | x :: r => uptoBulkEntry x + uptoBulkEntries r
def uptoBulkEntry {H : Type} : Lit × DataW H → Nat
  | (.string bytes, d) => bytes.length + uptoBulk d + 1
  | (_, d) => uptoBulk d + 1
 end
def uptoSmall : (H : Type) → List (DataW H) → Bool := fun _ ds => decide (uptoBulkAll ds ≤ 1048576)
def OpenSpec.upto (s : _root_.Go.ChangeSpec) : _root_.Go.OpenSpec := { _root_.Go.OpenSpec.ofChange s with cond := some uptoSmall }

/-- 'punchcutlaw06.FlatOn', WHERE WHAT IT READS IS OF BULK AT MOST 1048576: true; the input reads as it did. -/
def flatOnUptoRow : OpenClaim := { program := "ytgbhoinfemjbiaa", sum := "b0d315cd2c39d79ebc22d30e210725910a95d75e696dbc1e7e0a0a375e3afec4", func := "punchcut/punchcutlaw06.FlatOn", spec := "flatOn", unfollowed := true, recurses := true, apart := false, narrowed := true }
def FlatOnUptoSaid : Prop := flatOnUptoRow.holds Try.pinned (OpenSpec.upto flatOnSpec)

/-- 'punchcutlaw06.FlatEdges', WHERE WHAT IT READS IS OF BULK AT MOST 1048576: true; the input reads as it did. -/
def flatEdgesUptoRow : OpenClaim := { program := "ytgbhoinfemjbiaa", sum := "b0d315cd2c39d79ebc22d30e210725910a95d75e696dbc1e7e0a0a375e3afec4", func := "punchcut/punchcutlaw06.FlatEdges", spec := "flatEdges", unfollowed := true, recurses := true, apart := false, narrowed := true }
def FlatEdgesUptoSaid : Prop := flatEdgesUptoRow.holds Try.pinned (OpenSpec.upto flatEdgesSpec)

/-- 'punchcutlaw06.FlatHull', WHERE WHAT IT READS IS OF BULK AT MOST 1048576: true; the input reads as it did. -/
def flatHullUptoRow : OpenClaim := { program := "ytgbhoinfemjbiaa", sum := "b0d315cd2c39d79ebc22d30e210725910a95d75e696dbc1e7e0a0a375e3afec4", func := "punchcut/punchcutlaw06.FlatHull", spec := "flatHull", unfollowed := true, recurses := true, apart := false, narrowed := true }
def FlatHullUptoSaid : Prop := flatHullUptoRow.holds Try.pinned (OpenSpec.upto flatHullSpec)

/-- 'punchcutlaw06.FlatTurn', WHERE WHAT IT READS IS OF BULK AT MOST 1048576: true; the input reads as it did. -/
def flatTurnUptoRow : OpenClaim := { program := "ytgbhoinfemjbiaa", sum := "b0d315cd2c39d79ebc22d30e210725910a95d75e696dbc1e7e0a0a375e3afec4", func := "punchcut/punchcutlaw06.FlatTurn", spec := "flatTurn", unfollowed := true, recurses := true, apart := false, narrowed := true }
def FlatTurnUptoSaid : Prop := flatTurnUptoRow.holds Try.pinned (OpenSpec.upto flatTurnSpec)

/-- 'punchcutlaw11.CornerIs', WHERE WHAT IT READS IS OF BULK AT MOST 1048576: true; the input reads as it did. -/
def cornerIsUptoRow : OpenClaim := { program := "ytgbhoinfemjbiaa", sum := "b0d315cd2c39d79ebc22d30e210725910a95d75e696dbc1e7e0a0a375e3afec4", func := "punchcut/punchcutlaw11.CornerIs", spec := "cornerIs", apart := false, narrowed := true }
def CornerIsUptoSaid : Prop := cornerIsUptoRow.holds Try.pinned (OpenSpec.upto cornerIsSpec)

/-- 'punchcutlaw06.FlatAll', WHERE WHAT IT READS IS OF BULK AT MOST 1048576: true; the input reads as it did. -/
def flatAllUptoRow : OpenClaim := { program := "ytgbhoinfemjbiaa", sum := "b0d315cd2c39d79ebc22d30e210725910a95d75e696dbc1e7e0a0a375e3afec4", func := "punchcut/punchcutlaw06.FlatAll", spec := "flatAll", unfollowed := true, recurses := true, apart := false, narrowed := true }
def FlatAllUptoSaid : Prop := flatAllUptoRow.holds Try.pinned (OpenSpec.upto flatAllSpec)

/-- 'punchcutlaw06.FlatBox', WHERE WHAT IT READS IS OF BULK AT MOST 1048576: true; the input reads as it did. -/
def flatBoxUptoRow : OpenClaim := { program := "ytgbhoinfemjbiaa", sum := "b0d315cd2c39d79ebc22d30e210725910a95d75e696dbc1e7e0a0a375e3afec4", func := "punchcut/punchcutlaw06.FlatBox", spec := "flatBox", unfollowed := true, recurses := true, apart := false, narrowed := true }
def FlatBoxUptoSaid : Prop := flatBoxUptoRow.holds Try.pinned (OpenSpec.upto flatBoxSpec)

/-- 'punchcutlaw11.CornerCorners', WHERE WHAT IT READS IS OF BULK AT MOST 1048576: true; the input reads as it did. -/
def cornerCornersUptoRow : OpenClaim := { program := "ytgbhoinfemjbiaa", sum := "b0d315cd2c39d79ebc22d30e210725910a95d75e696dbc1e7e0a0a375e3afec4", func := "punchcut/punchcutlaw11.CornerCorners", spec := "cornerCorners", unfollowed := true, recurses := true, apart := false, narrowed := true }
def CornerCornersUptoSaid : Prop := cornerCornersUptoRow.holds Try.pinned (OpenSpec.upto cornerCornersSpec)

/-- 'punchcutlaw11.CornerColours', WHERE WHAT IT READS IS OF BULK AT MOST 1048576: true; the input reads as it did. -/
def cornerColoursUptoRow : OpenClaim := { program := "ytgbhoinfemjbiaa", sum := "b0d315cd2c39d79ebc22d30e210725910a95d75e696dbc1e7e0a0a375e3afec4", func := "punchcut/punchcutlaw11.CornerColours", spec := "cornerColours", unfollowed := true, recurses := true, apart := false, narrowed := true }
def CornerColoursUptoSaid : Prop := cornerColoursUptoRow.holds Try.pinned (OpenSpec.upto cornerColoursSpec)

/-- 'punchcutlaw11.CornerShare', WHERE WHAT IT READS IS OF BULK AT MOST 1048576: true; the input reads as it did. -/
def cornerShareUptoRow : OpenClaim := { program := "ytgbhoinfemjbiaa", sum := "b0d315cd2c39d79ebc22d30e210725910a95d75e696dbc1e7e0a0a375e3afec4", func := "punchcut/punchcutlaw11.CornerShare", spec := "cornerShare", unfollowed := true, recurses := true, apart := false, narrowed := true }
def CornerShareUptoSaid : Prop := cornerShareUptoRow.holds Try.pinned (OpenSpec.upto cornerShareSpec)

/-- 'punchcutlaw11.CornerPieces', WHERE WHAT IT READS IS OF BULK AT MOST 1048576: true; the input reads as it did. -/
def cornerPiecesUptoRow : OpenClaim := { program := "ytgbhoinfemjbiaa", sum := "b0d315cd2c39d79ebc22d30e210725910a95d75e696dbc1e7e0a0a375e3afec4", func := "punchcut/punchcutlaw11.CornerPieces", spec := "cornerPieces", unfollowed := true, recurses := true, apart := false, narrowed := true }
def CornerPiecesUptoSaid : Prop := cornerPiecesUptoRow.holds Try.pinned (OpenSpec.upto cornerPiecesSpec)

/-- 'punchcutlaw11.CornerAll', WHERE WHAT IT READS IS OF BULK AT MOST 1048576: true; the input reads as it did. -/
def cornerAllUptoRow : OpenClaim := { program := "ytgbhoinfemjbiaa", sum := "b0d315cd2c39d79ebc22d30e210725910a95d75e696dbc1e7e0a0a375e3afec4", func := "punchcut/punchcutlaw11.CornerAll", spec := "cornerAll", unfollowed := true, recurses := true, apart := false, narrowed := true }
def CornerAllUptoSaid : Prop := cornerAllUptoRow.holds Try.pinned (OpenSpec.upto cornerAllSpec)

end Rows
end Go.Proofs.Ytgbhoinfemjbiaa
