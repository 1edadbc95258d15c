/- The law MsdfMake returns true for every input, and leaves its arguments as they were.
   Conditions: none beyond the row's own. -/
import Derived.Test.YtpadocjddoenhaaRows
import Derived.Test.YtpadocjddoenhaaUp
import Derived.Deep.CondSized
import Derived.JoinedCond
import Derived.Test.YtpadocjddoenhaaM2f
namespace Go.Proofs.Ytpadocjddoenhaa.msdfMake
open Go.ChangeShapes Go.WideShapes Go.ChangeAt Go.RowKit
open Go.ChangeMaps (open_string shut_string)
set_option linter.unusedVariables false
theorem own : ownKnob Try.prog.godebug = none := by kernel_rfl
theorem laidOut : laidOutB Try.prog = true := by kernel_rfl
set_option maxRecDepth 100000 in
theorem lifted (os : Os) (started : os.Started) (H : Type) (enc : TypeId × Value → H) (F : Stop.Interp) :
    ReturnsInHanded {} Try.checked os 5 .any ((Rows.OpenSpec.upto Rows.msdfMakeSpec).pre6 enc Try.prog Try.f5 Rows.msdfMakeUptoRow.domain false) (((Rows.OpenSpec.upto Rows.msdfMakeSpec).at F).post enc Try.prog Try.f5 false true false false) := by
  refine returnsInHanded_of_cond_sized (C := Try.checked) (s := Rows.OpenSpec.upto Rows.msdfMakeSpec) (k := Rows.uptoSmall) rfl own started (by kernel_rfl) Try.func5
    (OpenSpec.witness (enc := enc) (C := Try.checked) (s := Rows.OpenSpec.upto Rows.msdfMakeSpec) (k := Rows.uptoSmall) rfl false ⟨#[], #[.slice none 0 0, .agg #[.int .u8 0, .int .u8 0, .int .u8 0, .int .u8 0, .int .u8 0, .int .u8 0], .slice none 0 0], []⟩ 8 (by kernel_rfl) (by kernel_rfl) (by kernel_rfl)
      (x := ([.nil, .agg [.lit (.int .u8 0), .lit (.int .u8 0), .lit (.int .u8 0), .lit (.int .u8 0), .lit (.int .u8 0), .lit (.int .u8 0)], .nil], [], [])) (by kernel_rfl) rfl (by kernel_rfl)) ?_
  intro W base args ds gs before hval0 hW hcnd hk0 hsz0 _
  have hsz : (DataW.weightsEach Try.prog (Try.f5.params.toList ++ Rows.msdfMakeSpec.plain.varTypes Try.prog) (ds ++ gs)).all (· ≤ reachBytes) = true := hsz0
  have hval : ∀ (j : Nat) t v, Try.f5.params[j]? = some t → args[j]? = some v → Value.okWide Try.prog W .any base t v := hval0
  have hW' := hW
  obtain ⟨p, q, hA0, hV, rfl, hfz, hnd⟩ := hW
  have hA : DataW.TrodAll enc Try.prog W 0 (fun _ => true) true Try.f5.params.toList args.toList ds p := hA0
  obtain ⟨rfl, rfl⟩ := trodVars_none hV
  rw [Try.params5] at hA hval hsz
  have hsz' : (DataW.weightsEach Try.prog [35, 37, 24] ds).all (· ≤ reachBytes) = true := by
    have h : (DataW.weightsEach Try.prog ([35, 37, 24] ++ []) (ds ++ [])).all (· ≤ reachBytes) = true := hsz
    rwa [List.append_nil, List.append_nil] at h
  have hk : Rows.uptoSmall H ds = true := by
    have h : Rows.uptoSmall H (ds ++ []) = true := hk0
    rwa [List.append_nil] at h
  refine (SX.law_calls_upto (k := 8) tt_ok laidOut (by kernel_rfl) (by kernel_rfl) MsdfMake_row hA hsz' (fun j t v h h' => hval j t v (by simpa using h) (by simpa using h')) hk).mono fun e W' ⟨he, bel, hback⟩ => ?_
  subst he
  obtain ⟨d0, d1, d2, rfl⟩ : ∃ d0 d1 d2, ds = [d0, d1, d2] := by
    have hl := SX.trodAll_len hA
    match ds, hl with
    | [d0, d1, d2], _ => exact ⟨d0, d1, d2, rfl⟩
  exact ⟨_, rfl, _, _, _, [], _, [], hW', trodAll_mk1 (shut_bool Try.underlying4 _), hback, rfl, bel.frame _, fun h => by cases h⟩
theorem over : Rows.msdfMakeUptoRow.holds Try.pinned (Rows.OpenSpec.upto Rows.msdfMakeSpec) :=
  OpenClaim.holds_of_cond 5 Try.f5 rfl rfl rfl rfl rfl rfl rfl ⟨rfl, rfl, rfl, rfl, rfl⟩ rfl rfl rfl rfl rfl (by kernel_rfl) Try.func5 (by kernel_rfl)
    (of_decide_eq_true (by kernel_rfl)) (by unfold Func.isWrapper; first | (rw [if_pos (by decide +kernel)]; kernel_rfl) | (rw [if_neg (by decide +kernel)]; exact ⟨rfl, rfl⟩))
    (fun os started H enc _ F => lifted os started H enc F)
end Go.Proofs.Ytpadocjddoenhaa.msdfMake
namespace Go.Proofs.Ytpadocjddoenhaa
theorem msdfMakeUpto_holds : Rows.MsdfMakeUptoSaid := msdfMake.over
#print axioms msdfMakeUpto_holds
end Go.Proofs.Ytpadocjddoenhaa
