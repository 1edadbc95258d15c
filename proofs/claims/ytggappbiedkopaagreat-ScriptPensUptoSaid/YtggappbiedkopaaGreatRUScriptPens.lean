/- The law ScriptPens returns true for every input, and leaves its arguments as they were.
   Conditions: none beyond the row's own. -/
import Derived.Test.YtggappbiedkopaaGreatRows
import Derived.Test.YtggappbiedkopaaGreatUp
import Derived.Test.YtggappbiedkopaaGreatLv
import Derived.Deep.CondSized
import Derived.JoinedCond
import Derived.Test.YtggappbiedkopaaGreatK2m
namespace Go.Proofs.YtggappbiedkopaaGreat.scriptPens
open Go.ChangeShapes Go.WideShapes Go.ChangeAt Go.RowKit
open Go.ChangeMaps (open_string shut_string)
set_option linter.unusedVariables false
theorem own : ownKnob Tryz.prog.godebug = none := by kernel_rfl
theorem laidOut : laidOutB Tryz.prog = true := by kernel_rfl
set_option maxRecDepth 100000 in
theorem lifted (os : Os) (started : os.Started) (H : Type) (enc : TypeId × Value → H) (F : Stop.Interp) :
    ReturnsInHanded { calm := true } Tryz.checked os 4 .any ((Rows.OpenSpec.upto Rows.scriptPensSpec).pre6 enc Tryz.prog Tryz.f4 Rows.scriptPensUptoRow.domain false) (((Rows.OpenSpec.upto Rows.scriptPensSpec).at F).post enc Tryz.prog Tryz.f4 false true false false) := by
  refine returnsInHanded_of_cond_sized (C := Tryz.checked) (s := Rows.OpenSpec.upto Rows.scriptPensSpec) (k := Rows.uptoSmall) rfl own started (by kernel_rfl) Tryz.func4
    (witness_calm (enc := enc) (C := Tryz.checked) (s := Rows.OpenSpec.upto Rows.scriptPensSpec) (k := Rows.uptoSmall) rfl ⟨#[], #[.slice none 0 0], []⟩ 8 (by kernel_rfl) (by kernel_rfl) (by kernel_rfl)
      (x := ([.nil], [], [])) (by kernel_rfl) rfl (by kernel_rfl)) ?_
  intro W base args ds gs before hval0 hW hcnd hk0 hsz0 _
  have hsz : (DataW.weightsEach Tryz.prog (Tryz.f4.params.toList ++ Rows.scriptPensSpec.plain.varTypes Tryz.prog) (ds ++ gs)).all (· ≤ reachBytes) = true := hsz0
  have hval : ∀ (j : Nat) t v, Tryz.f4.params[j]? = some t → args[j]? = some v → Value.okWide Tryz.prog W .any base t v := hval0
  have hW' := hW
  obtain ⟨p, q, hA0, hV, rfl, hfz, hnd⟩ := hW
  have hA : DataW.TrodAll enc Tryz.prog W 0 (fun _ => true) true Tryz.f4.params.toList args.toList ds p := hA0
  obtain ⟨rfl, rfl⟩ := trodVars_none hV
  rw [Tryz.params4] at hA hval hsz
  have hsz' : (DataW.weightsEach Tryz.prog [22] ds).all (· ≤ reachBytes) = true := by
    have h : (DataW.weightsEach Tryz.prog ([22] ++ []) (ds ++ [])).all (· ≤ reachBytes) = true := hsz
    rwa [List.append_nil, List.append_nil] at h
  have hk : Rows.uptoSmall H ds = true := by
    have h : Rows.uptoSmall H (ds ++ []) = true := hk0
    rwa [List.append_nil] at h
  refine (SX.law_calls_upto (k := 8) tt_ok laidOut (by kernel_rfl) (by kernel_rfl) ScriptPens_row hA hsz' (fun j t v h h' => hval j t v (by simpa using h) (by simpa using h')) hk).mono fun e W' ⟨he, bel, hback⟩ => ?_
  subst he
  obtain ⟨d0, rfl⟩ : ∃ d0, ds = [d0] := by
    have hl := SX.trodAll_len hA
    match ds, hl with
    | [d0], _ => exact ⟨d0, rfl⟩
  exact ⟨_, rfl, _, _, _, [], _, [], hW', trodAll_mk1 (shut_bool Tryz.underlying4 _), hback, rfl, bel.frame _, fun h => by cases h⟩
theorem over : Rows.scriptPensUptoRow.holds Tryz.pinned (Rows.OpenSpec.upto Rows.scriptPensSpec) :=
  holds_lone_time 4 Tryz.f4 ⟨rfl, rfl, rfl⟩ ⟨rfl, rfl, rfl, rfl, rfl, rfl, rfl, rfl, rfl⟩ ⟨rfl, rfl, rfl, rfl, rfl⟩ (by kernel_rfl) Tryz.func4 (by kernel_rfl)
    (of_decide_eq_true (by kernel_rfl)) (by unfold Func.isWrapper; first | (rw [if_pos (by decide +kernel)]; kernel_rfl) | (rw [if_neg (by decide +kernel)]; exact ⟨rfl, rfl⟩))
    (fun _ _ _ => rfl) (fun os started H enc F => lifted os started H enc F)
end Go.Proofs.YtggappbiedkopaaGreat.scriptPens
namespace Go.Proofs.YtggappbiedkopaaGreat
theorem scriptPensUpto_holds : Rows.ScriptPensUptoSaid := scriptPens.over
#print axioms scriptPensUpto_holds
end Go.Proofs.YtggappbiedkopaaGreat
