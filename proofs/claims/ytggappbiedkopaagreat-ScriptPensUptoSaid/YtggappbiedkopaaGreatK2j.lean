/- Law 22: the contract of awake. -/
import Derived.Test.YtggappbiedkopaaGreatK2i
namespace Go.Proofs.YtggappbiedkopaaGreat
open Go SX
set_option linter.unusedVariables false
set_option maxRecDepth 100000
set_option maxHeartbeats 1000000

theorem uIn_getD {bs : List Int} (h : ∀ n ∈ bs, uIn n) (k : Nat) : uIn (bs.getD k default) := by
  by_cases hk : k < bs.length
  · exact h _ (getD_memG hk)
  · rw [List.getD_eq_getElem?_getD, List.getElem?_eq_none (by omega)]
    exact ⟨by decide, by decide⟩
def awB : List Int := [0, 9, 10, 11, 12, 1, 5, 0, 8, 9, 10, 7, 3]
theorem awB_in : ∀ n ∈ awB, uIn n := by
  intro n hn
  have h : ∀ n ∈ awB, 0 ≤ n ∧ n ≤ 255 := by decide
  exact h n hn
def awT : List Int := encF (glyF 10 11 12)
@[reducible] def awL : List Ac := [⟨0, keyS 9, awT, 0, 0, 0, 0, 0, 0, 0⟩, ⟨3, keyS 0, [], 0, 1, 3, 2, 96, 104, 248⟩]
theorem awL_eq : actsF awB 2 = awL := by
  show [actAt awB 0, actAt awB 1] = awL
  have h0 : actAt awB 0 = ⟨0, keyS 9, awT, 0, 0, 0, 0, 0, 0, 0⟩ := rfl
  have h1 : actAt awB 1 = ⟨3, keyS 0, [], 0, 1, 3, 2, 96, 104, 248⟩ := rfl
  rw [h0, h1]
theorem awT_len : 5 < awT.length := by decide +kernel
theorem awActs : FnAt Tryz.prog 7 [(false, [.sl 1 13 (fun a b => nth (awB.flatMap uL) (a * 1 + b))])] [(false, [.sl 10 2 (rowOf acL awL)])] := by
  have h := Acts_at awB (uIn_getD awB_in) (by decide)
  have e : (awB.length / 6) = 2 := rfl
  rw [e, awL_eq] at h
  exact h.args ⟨rfl, ⟨⟨rfl, rfl, fun i hi j hj => .of_eq (flat_nth (sz := 1) (fun _ => rfl) awB i j hi hj)⟩, trivial⟩, trivial⟩
theorem awake_at : FnAt Tryz.prog 6 [] [aB true] := by
  refine fn_at (E := EE) (fn := Tryz.f6) (c := Tryz.f6.body.getD .skip) (rs := Tryz.f6.results.toList) (nt := Tryz.f6.ntmps) EE_ok follows (by kernel_rfl) (by kernel_rfl) rfl rfl rfl [] rfl ?_
  refine ⟨_, awActs, ?_⟩
  refine ⟨_, Glyph_at 0 0 0 ⟨by decide, by decide⟩ ⟨by decide, by decide⟩ ⟨by decide, by decide⟩, ?_⟩
  refine ⟨fun _ => ?_, fun h => absurd h (by decide)⟩
  refine ⟨fun h => absurd h (by decide), fun _ => ?_⟩
  refine ⟨_, worldOf_at, ?_⟩
  refine ⟨⟨by decide, by decide⟩, ?_⟩
  refine if_tt (by decide) ?_
  refine ⟨⟨by decide, by decide⟩, ?_⟩
  refine if_tt (by decide +kernel) ?_
  refine ⟨⟨by decide, by decide⟩, ?_⟩
  refine if_tt (decide_eq_true (show (awT.length : Int) > 5 by have := awT_len; omega)) ?_
  refine ⟨⟨by decide, by decide⟩, ?_⟩
  refine if_tt (by decide) ?_
  refine ⟨⟨by decide, by decide⟩, ?_⟩
  refine if_tt (by decide) ?_
  refine ⟨⟨by decide, by decide⟩, ?_⟩
  refine if_tt (by decide) ?_
  refine ⟨_, DoTouch_at _, ?_⟩
  refine if_tt (by decide) ?_
  refine ⟨_, DoNone_at _, ?_⟩
  refine ⟨⟨vB ?_, trivial⟩, trivial⟩
  decide
end Go.Proofs.YtggappbiedkopaaGreat
