/- The contracts of law07: awake, number, on, Spot. -/
import Derived.Test.YtpadocjddoenhaaPu
import Derived.Test.YtpadocjddoenhaaPk
import Derived.Test.YtpadocjddoenhaaPx
namespace Go.Proofs.Ytpadocjddoenhaa
open Go SX
set_option linter.unusedVariables false
set_option maxRecDepth 100000

theorem glyph_in (cs : List (List Vx)) : edsIn (glyph cs) := by
  obtain ⟨h1, h2⟩ := glyph_ok cs
  exact ⟨fun e he => (h1 e he).1.up (by decide), by omega⟩
@[reducible] def aPl (p : Pt) : Bool × List L := (true, [.lit (.int .i16 p.x), .lit (.int .i16 p.y)])
@[reducible] def aU16 (k : Int) : Bool × List L := (false, [.lit (.int .u16 k)])
theorem sideW_pos {e : Ed} {p : Pt} (h : crossW (subP e.b e.a) (subP p e.a) > 0) : sideW e p > 0 := by unfold sideW sgn; rw [if_pos h]; decide
theorem of_sideW_pos {e : Ed} {p : Pt} (h : sideW e p > 0) : crossW (subP e.b e.a) (subP p e.a) > 0 := by
  unfold sideW sgn at h
  split at h
  · assumption
  · split at h <;> simp at h
theorem sideW_neg {e : Ed} {p : Pt} (h : crossW (subP e.b e.a) (subP p e.a) < 0) : sideW e p < 0 := by unfold sideW sgn; rw [if_neg (by omega), if_pos h]; decide
theorem of_sideW_neg {e : Ed} {p : Pt} (h : sideW e p < 0) : crossW (subP e.b e.a) (subP p e.a) < 0 := by
  unfold sideW sgn at h
  split at h
  · simp at h
  · split at h
    · assumption
    · simp at h
def lonE (p : Pt) (e : Ed) : Bool := decide (crossW (subP e.b e.a) (subP p e.a) = 0 ∧ min2I e.a.x e.b.x ≤ p.x ∧ p.x ≤ max2I e.a.x e.b.x ∧ min2I e.a.y e.b.y ≤ p.y ∧ p.y ≤ max2I e.a.y e.b.y)
theorem tmod_u {n k : Int} (h : 0 ≤ n) (hk : 0 < k) : n.tmod k = n % k := Int.tmod_eq_emod_of_nonneg h
end Go.Proofs.Ytpadocjddoenhaa
