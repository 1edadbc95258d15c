/- MsdfChannel, MsdfNear: the rows. -/
import Derived.Test.YtpadocjddoenhaaM2e
namespace Go.Proofs.Ytpadocjddoenhaa
open Go SX
set_option linter.unusedVariables false

theorem row_csikc {g : Nat} (hat : ∀ (cs : List (List Vx)) {s : Sp} (_ : spIn s) {i k c : Int} (_ : 0 ≤ i ∧ i ≤ 255) (_ : 0 ≤ k ∧ k ≤ 255) (_ : 0 ≤ c ∧ c ≤ 255), FnAt Try.prog g [aSl dsL 1 cs, aSp s, aU8' i, aU8' k, aU8' c] [aB true]) :
    ∀ args, TyArgs tt 8 [35, 37, 5, 5, 5] args → FnAt Try.prog g args [(false, [.lit (.bool true)])] := by
  intro args h
  obtain ⟨a1, a2, a3, a4, a5, rfl, h1, h2, h3, h4, h5⟩ := tyA5 h
  obtain ⟨l, cs, rfl, hcs⟩ := a_dots (k := 4) h1
  obtain ⟨s, rfl, hs⟩ := a_sp (k := 6) h2
  obtain ⟨i, rfl, hi⟩ := a_u8 (k := 7) h3
  obtain ⟨k, rfl, hk⟩ := a_u8 (k := 7) h4
  obtain ⟨c, rfl, hc⟩ := a_u8 (k := 7) h5
  exact (hat cs hs hi hk hc).args ⟨rfl, hcs, rfl, sameLs_refl _, rfl, sameLs_refl _, rfl, sameLs_refl _, rfl, sameLs_refl _, trivial⟩
theorem MsdfChannel_row : ∀ args, TyArgs tt 8 [35, 37, 5, 5, 5] args → FnAt Try.prog 6 args [(false, [.lit (.bool true)])] := row_csikc fun cs _ hs _ _ _ hi hk hc => msdfChannel_at cs hs hi hk hc
theorem MsdfNear_row : ∀ args, TyArgs tt 8 [35, 37, 5, 5, 5] args → FnAt Try.prog 7 args [(false, [.lit (.bool true)])] := row_csikc fun cs _ hs _ _ _ hi hk hc => msdfNear_at cs hs hi hk hc
end Go.Proofs.Ytpadocjddoenhaa
