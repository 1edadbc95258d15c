/- The law MsdfMerge returns true for every input, and leaves its arguments as they were.
   Conditions: none beyond the row's own. -/
import Derived.Test.YtpadocjddoenhaaRows
import Derived.Test.YtpadocjddoenhaaM2g
namespace Go.Proofs.Ytpadocjddoenhaa.msdfMerge
open Go.ChangeShapes Go.WideShapes Go.ChangeAt Go.RowKit
open Go.ChangeMaps (open_string shut_string)
set_option linter.unusedVariables false
theorem own : ownKnob Try.prog.godebug = none := by kernel_rfl
theorem laidOut : laidOutB Try.prog = true := by kernel_rfl
set_option maxRecDepth 100000 in
theorem lifted (os : Os) (started : os.Started) (H : Type) (enc : TypeId × Value → H) :
    ReturnsInHanded {} Try.checked os 4 .any (Rows.msdfMergeSpec.pre6 enc Try.prog Try.f4 Rows.msdfMergeRow.domain false) (Rows.msdfMergeSpec.post enc Try.prog Try.f4 false true false false) := by
  refine returnsInHanded_of_change_sized (C := Try.checked) own started (by kernel_rfl) Try.func4
    (ChangeSpec.witness6 (enc := enc) (C := Try.checked) false ⟨#[], #[.slice none 0 0, .slice none 0 0, .slice none 0 0, .int .i8 0, .int .i8 0, .int .u8 0], []⟩ 8 (by kernel_rfl) (by kernel_rfl) (by kernel_rfl) (by kernel_rfl)) ?_
  intro W base args ds gs before hval0 hW hcnd hsz0 _
  have hsz : (DataW.weightsEach Try.prog (Try.f4.params.toList ++ Rows.msdfMergeSpec.plain.varTypes Try.prog) (ds ++ gs)).all (· ≤ reachBytes) = true := hsz0
  have hval : ∀ (j : Nat) t v, Try.f4.params[j]? = some t → args[j]? = some v → Value.okWide Try.prog W .any base t v := hval0
  have hW' := hW
  obtain ⟨p, q, hA0, hV, rfl, hfz, hnd⟩ := hW
  have hA : DataW.TrodAll enc Try.prog W 0 (fun _ => true) true Try.f4.params.toList args.toList ds p := hA0
  obtain ⟨rfl, rfl⟩ := trodVars_none hV
  rw [Try.params4] at hA hval hsz
  have hsz' : (DataW.weightsEach Try.prog [24, 24, 24, 26, 26, 5] ds).all (· ≤ reachBytes) = true := by
    have h : (DataW.weightsEach Try.prog ([24, 24, 24, 26, 26, 5] ++ []) (ds ++ [])).all (· ≤ reachBytes) = true := hsz
    rwa [List.append_nil, List.append_nil] at h
  refine (SX.law_calls (k := 8) tt_ok laidOut (by kernel_rfl) (by kernel_rfl) MsdfMerge_row hA hsz' (fun j t v h h' => hval j t v (by simpa using h) (by simpa using h'))).mono fun e W' ⟨he, bel, hback⟩ => ?_
  subst he
  obtain ⟨d0, d1, d2, d3, d4, d5, rfl⟩ : ∃ d0 d1 d2 d3 d4 d5, ds = [d0, d1, d2, d3, d4, d5] := by
    have hl := SX.trodAll_len hA
    match ds, hl with
    | [d0, d1, d2, d3, d4, d5], _ => exact ⟨d0, d1, d2, d3, d4, d5, rfl⟩
  exact ⟨_, rfl, _, _, _, [], _, [], hW', trodAll_mk1 (shut_bool Try.underlying4 _), hback, rfl, bel.frame _, fun h => by cases h⟩
theorem over : Rows.msdfMergeRow.holds Try.pinned (OpenSpec.ofChange Rows.msdfMergeSpec) :=
  OpenClaim.holds_of_wide 4 Try.f4 rfl rfl rfl rfl rfl rfl rfl ⟨rfl, rfl, rfl, rfl, rfl⟩ rfl rfl rfl rfl rfl (by kernel_rfl) Try.func4 (by kernel_rfl)
    (of_decide_eq_true (by kernel_rfl)) (by unfold Func.isWrapper; first | (rw [if_pos (by decide +kernel)]; kernel_rfl) | (rw [if_neg (by decide +kernel)]; exact ⟨rfl, rfl⟩))
    (fun os started H enc _ => lifted os started H enc)
end Go.Proofs.Ytpadocjddoenhaa.msdfMerge
namespace Go.Proofs.Ytpadocjddoenhaa
theorem msdfMerge_holds : Rows.MsdfMergeSaid := msdfMerge.over
#print axioms msdfMerge_holds
end Go.Proofs.Ytpadocjddoenhaa
