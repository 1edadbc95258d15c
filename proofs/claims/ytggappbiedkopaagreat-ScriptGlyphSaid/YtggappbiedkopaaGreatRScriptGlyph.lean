/- The law ScriptGlyph returns true for every input, and leaves its arguments as they were.
   Conditions: none beyond the row's own. -/
import Derived.Test.YtggappbiedkopaaGreatRows
import Derived.Test.YtggappbiedkopaaGreatLv
import Derived.Test.YtggappbiedkopaaGreatK2m
namespace Go.Proofs.YtggappbiedkopaaGreat.scriptGlyph
open Go.ChangeShapes Go.WideShapes Go.ChangeAt Go.RowKit
open Go.ChangeMaps (open_string shut_string)
set_option linter.unusedVariables false
theorem own : ownKnob Tryz.prog.godebug = none := by kernel_rfl
theorem laidOut : laidOutB Tryz.prog = true := by kernel_rfl
set_option maxRecDepth 100000 in
theorem lifted (os : Os) (started : os.Started) (H : Type) (enc : TypeId × Value → H) :
    ReturnsInHanded { calm := true } Tryz.checked os 5 .any (Rows.scriptGlyphSpec.pre6 enc Tryz.prog Tryz.f5 Rows.scriptGlyphRow.domain false) (Rows.scriptGlyphSpec.post enc Tryz.prog Tryz.f5 false true false false) := by
  refine returnsInHanded_of_change_sized (C := Tryz.checked) own started (by kernel_rfl) Tryz.func5
    (ChangeSpec.witness6c (enc := enc) (C := Tryz.checked) ⟨#[], #[.int .u8 0, .int .u8 0, .int .u8 0], []⟩ 8 (by kernel_rfl) (by kernel_rfl) (by kernel_rfl) (by kernel_rfl)) ?_
  intro W base args ds gs before hval0 hW hcnd hsz0 _
  have hsz : (DataW.weightsEach Tryz.prog (Tryz.f5.params.toList ++ Rows.scriptGlyphSpec.plain.varTypes Tryz.prog) (ds ++ gs)).all (· ≤ reachBytes) = true := hsz0
  have hval : ∀ (j : Nat) t v, Tryz.f5.params[j]? = some t → args[j]? = some v → Value.okWide Tryz.prog W .any base t v := hval0
  have hW' := hW
  obtain ⟨p, q, hA0, hV, rfl, hfz, hnd⟩ := hW
  have hA : DataW.TrodAll enc Tryz.prog W 0 (fun _ => true) true Tryz.f5.params.toList args.toList ds p := hA0
  obtain ⟨rfl, rfl⟩ := trodVars_none hV
  rw [Tryz.params5] at hA hval hsz
  have hsz' : (DataW.weightsEach Tryz.prog [5, 5, 5] ds).all (· ≤ reachBytes) = true := by
    have h : (DataW.weightsEach Tryz.prog ([5, 5, 5] ++ []) (ds ++ [])).all (· ≤ reachBytes) = true := hsz
    rwa [List.append_nil, List.append_nil] at h
  refine (SX.law_calls (k := 8) tt_ok laidOut (by kernel_rfl) (by kernel_rfl) ScriptGlyph_row hA hsz' (fun j t v h h' => hval j t v (by simpa using h) (by simpa using h'))).mono fun e W' ⟨he, bel, hback⟩ => ?_
  subst he
  obtain ⟨d0, d1, d2, rfl⟩ : ∃ d0 d1 d2, ds = [d0, d1, d2] := by
    have hl := SX.trodAll_len hA
    match ds, hl with
    | [d0, d1, d2], _ => exact ⟨d0, d1, d2, rfl⟩
  exact ⟨_, rfl, _, _, _, [], _, [], hW', trodAll_mk1 (shut_bool Tryz.underlying4 _), hback, rfl, bel.frame _, fun h => by cases h⟩
theorem over : Rows.scriptGlyphRow.holds Tryz.pinned (OpenSpec.ofChange Rows.scriptGlyphSpec) :=
  holds_lone_time 5 Tryz.f5 ⟨rfl, rfl, rfl⟩ ⟨rfl, rfl, rfl, rfl, rfl, rfl, rfl, rfl, rfl⟩ ⟨rfl, rfl, rfl, rfl, rfl⟩ (by kernel_rfl) Tryz.func5 (by kernel_rfl)
    (of_decide_eq_true (by kernel_rfl)) (by unfold Func.isWrapper; first | (rw [if_pos (by decide +kernel)]; kernel_rfl) | (rw [if_neg (by decide +kernel)]; exact ⟨rfl, rfl⟩))
    (fun _ _ _ => rfl) (fun os started H enc _ => lifted os started H enc)
end Go.Proofs.YtggappbiedkopaaGreat.scriptGlyph
namespace Go.Proofs.YtggappbiedkopaaGreat
theorem scriptGlyph_holds : Rows.ScriptGlyphSaid := scriptGlyph.over
#print axioms scriptGlyph_holds
end Go.Proofs.YtggappbiedkopaaGreat
