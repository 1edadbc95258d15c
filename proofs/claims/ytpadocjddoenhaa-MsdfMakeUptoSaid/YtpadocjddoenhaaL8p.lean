/- dist.Some, in plain words. -/
import Derived.Test.YtpadocjddoenhaaPu
namespace Go.Proofs.Ytpadocjddoenhaa
open Go SX
set_option linter.unusedVariables false
set_option maxRecDepth 100000

/-! ### dist.Some, in plain words -/
def someTo (tk : Nat → Bool) (es : List Ed) (p : Pt) (i : Nat) : Nr := match i with
  | 0 => ⟨⟨0, 0⟩, -1⟩
  | i + 1 => if tk i = true then nearStep p (someTo tk es p i) (i, es.getD i default) else someTo tk es p i
theorem someTo_ok {tk : Nat → Bool} {es : List Ed} {p : Pt} (hb : ∀ e ∈ es, edIn 8192 e) (hp : ptIn 33000 p) : ∀ i, i ≤ es.length → (someTo tk es p i).at' = -1 ∨ (0 ≤ (someTo tk es p i).at' ∧ (someTo tk es p i).at' < i ∧ (someTo tk es p i).best = sqN (es.getD (someTo tk es p i).at'.toNat default) p ∧ frIn (someTo tk es p i).best)
  | 0, _ => .inl rfl
  | i + 1, hi => by
    have ih := someTo_ok (tk := tk) hb hp i (by omega)
    have hf := sqN_in (hb _ (getD_mem' (show i < es.length by omega))) hp
    unfold someTo
    split
    · unfold nearStep
      split
      · exact .inr ⟨Int.natCast_nonneg _, by show (i : Int) < _; omega, rfl, hf⟩
      · rcases ih with h | ⟨a, b, c, d⟩
        · exact .inl h
        · exact .inr ⟨a, by omega, c, d⟩
    · rcases ih with h | ⟨a, b, c, d⟩
      · exact .inl h
      · exact .inr ⟨a, by omega, c, d⟩
end Go.Proofs.Ytpadocjddoenhaa
