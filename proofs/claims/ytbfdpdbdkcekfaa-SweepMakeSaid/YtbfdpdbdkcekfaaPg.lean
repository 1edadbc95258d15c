/- The contracts of law06.on, flat.Box, law06.awake. -/
import Derived.Test.YtbfdpdbdkcekfaaPm
namespace Go.Proofs.Ytbfdpdbdkcekfaa
open Go SX
set_option linter.unusedVariables false
set_option maxRecDepth 100000


/-! ### flat.Box -/
structure Bx where
  lo : Pt
  hi : Pt
def boxP (b : Bx) (p : Pt) : Bx := ⟨⟨min2I b.lo.x p.x, min2I b.lo.y p.y⟩, ⟨max2I b.hi.x p.x, max2I b.hi.y p.y⟩⟩
def boxE (b : Bx) (e : Ed) : Bx := boxP (boxP b e.a) e.b
def boxZ (es : List Ed) : Bx := ⟨(es.getD 0 default).a, (es.getD 0 default).a⟩
def boxTo (es : List Ed) (i : Nat) : Bx := match i with
  | 0 => ⟨⟨0, 0⟩, ⟨0, 0⟩⟩
  | i => (es.take i).foldl boxE (boxZ es)
def box (es : List Ed) : Bx := boxTo es es.length
/-! ### the document's example -/
def s06 : List Sg := [⟨⟨0, 0⟩, ⟨2, 4⟩, ⟨4, 0⟩, true⟩, ⟨⟨4, 0⟩, ⟨4, 0⟩, ⟨0, 0⟩, false⟩]
def l06 : List Ed := [⟨⟨0, 0⟩, ⟨16, 24⟩⟩, ⟨⟨16, 24⟩, ⟨32, 32⟩⟩, ⟨⟨32, 32⟩, ⟨48, 24⟩⟩, ⟨⟨48, 24⟩, ⟨64, 0⟩⟩, ⟨⟨64, 0⟩, ⟨0, 0⟩⟩]
end Go.Proofs.Ytbfdpdbdkcekfaa
