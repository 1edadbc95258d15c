/- MsdfMedian. -/
import Derived.Test.YtpadocjddoenhaaM2e
namespace Go.Proofs.Ytpadocjddoenhaa
open Go SX
set_option linter.unusedVariables false
set_option maxRecDepth 100000
set_option maxHeartbeats 4000000

theorem if_eqf {a b : Int} {A B : Prop} (h : a ≠ b → A) (h' : a = b → B) : ((a == b) = false → A) ∧ ((a == b) = true → B) := ⟨fun e => h (by simpa using e), fun e => h' (by simpa using e)⟩
theorem msdfMedian_at (a b c : Int) : FnAt Try.prog 3 [aU8' a, aU8' b, aU8' c] [aB true] := by
  have hm := med_at a b c
  obtain ⟨m1, m2, m3⟩ := med_ok a b c
  generalize medN a b c = m at *
  refine fn_at (E := EE) (fn := Try.f3) (c := Try.f3.body.getD .skip) (rs := Try.f3.results.toList) (nt := Try.f3.ntmps) EE_ok follows (by kernel_rfl) (by kernel_rfl) rfl rfl rfl [] rfl ?_
  refine ⟨_, awake12_at, ?_⟩
  refine ⟨(fun h => nomatch h), fun _ => ?_⟩
  refine ⟨_, hm, ?_⟩
  refine Or.inl ⟨4, ?_⟩
  iterate 6 all_goals (refine if_dec (fun h => ?_) (fun h => ?_))
  all_goals first
    | (exfalso; omega)
    | (refine if_eqf (fun q1 => if_eqf (fun q2 => ⟨⟨vB (beq_iff_eq.2 (by omega)).symm, trivial⟩, trivial⟩) (fun q2 => ⟨⟨kB rfl, trivial⟩, trivial⟩)) (fun q1 => ⟨⟨kB rfl, trivial⟩, trivial⟩))
theorem MsdfMedian_row : ∀ args, TyArgs tt 8 [5, 5, 5] args → FnAt Try.prog 3 args [(false, [.lit (.bool true)])] := by
  intro args h
  obtain ⟨a1, a2, a3, rfl, h1, h2, h3⟩ := tyA3 h
  obtain ⟨a, rfl, _⟩ := a_u8 (k := 7) h1
  obtain ⟨b, rfl, _⟩ := a_u8 (k := 7) h2
  obtain ⟨c, rfl, _⟩ := a_u8 (k := 7) h3
  exact msdfMedian_at a b c
end Go.Proofs.Ytpadocjddoenhaa
