/- The contracts of law06.FlatOn, law06.FlatHull. -/
import Derived.Test.YtgbhoinfemjbiaaPg
import Derived.Test.YtgbhoinfemjbiaaPc
import Derived.Test.YtgbhoinfemjbiaaPy
namespace Go.Proofs.Ytgbhoinfemjbiaa
open Go SX
set_option linter.unusedVariables false
set_option maxRecDepth 100000

/-- points, cut to 510 -/
def cutP (p : Pt) : Pt := ⟨p.x.tmod 511, p.y.tmod 511⟩
def cutS (s : Sg) : Sg := ⟨cutP s.a, cutP s.b, cutP s.c, s.cv⟩
theorem cutP_in (p : Pt) : ptIn 510 (cutP p) := by
  have h1 := tmod_in p.x (m := 511) (by decide)
  have h2 := tmod_in p.y (m := 511) (by decide)
  unfold ptIn cutP
  dsimp only
  omega

theorem cutS_in (s : Sg) : sgIn 1100 (cutS s) := ⟨(cutP_in _).up (by decide), (cutP_in _).up (by decide), (cutP_in _).up (by decide)⟩
theorem u8mod {k : Int} (h : 0 ≤ k) : w64 (k.tmod 5) = k.tmod 5 ∧ 0 ≤ k.tmod 5 ∧ k.tmod 5 ≤ 4 := by
  have h1 := Int.tmod_nonneg 5 h
  have h2 := Int.tmod_lt_of_pos k (b := 5) (by decide)
  exact ⟨w64_in (by omega), h1, by omega⟩

theorem flatOn_at (s : Sg) (k : Int) (hk : 0 ≤ k) : FnAt Try.prog 3 [aSg s, aU8 k] [aB true] := by
  obtain ⟨k1, k2, k3⟩ := u8mod hk
  have hs := cutS_in s
  refine fn_at (E := EE) (fn := Try.f3) (c := Try.f3.body.getD .skip) (rs := Try.f3.results.toList) (nt := Try.f3.ntmps) EE_ok follows (by kernel_rfl) (by kernel_rfl) rfl rfl rfl [] rfl ?_
  refine ⟨_, awake06_at, ?_⟩
  refine ⟨(fun h => nomatch h), fun _ => ?_⟩
  refine Or.inl ⟨4, ?_⟩
  refine ⟨_, on_at (cutS s) (w64 (k.tmod 5)), ?_⟩
  refine ⟨_, lon_at (cutS s) (w64 (k.tmod 5)), ?_⟩
  have he : onP (cutS s) (w64 (k.tmod 5)) = lonP (cutS s) (w64 (k.tmod 5)) := by
    rw [k1, onP_lin ⟨k2, k3⟩ hs, lonP_lin ⟨k2, k3⟩ hs]
  refine if_pt (fun _ => ?_) (fun h => absurd he h)
  refine ⟨_, on_at (cutS s) 0, ?_⟩
  have hz : onP (cutS s) 0 = ⟨w64 (16 * (cutS s).a.x), w64 (16 * (cutS s).a.y)⟩ := by
    rw [onP_lin (by decide) hs, linP_zero]
    exact (small_eq (n := 1100) (by decide) hs.1).symm
  refine ⟨⟨congrArg Value.bool ?_, trivial⟩, trivial⟩
  exact (pt_eq (onP (cutS s) 0) ⟨w64 (16 * (cutS s).a.x), w64 (16 * (cutS s).a.y)⟩).trans (decide_eq_true hz)

theorem FlatOn_row : ∀ args, TyArgs tt 8 [25, 5] args → FnAt Try.prog 3 args [(false, [.lit (.bool true)])] := by
  intro args h
  match args, h with
  | [(b1, l1), (b2, l2)], ⟨⟨e1, h1⟩, ⟨e2, h2⟩, _⟩ =>
    have e1 : b1 = true := e1
    have e2 : b2 = false := e2
    subst e1
    subst e2
    obtain ⟨s, rfl⟩ := ty_sg (k := 5) h1
    obtain ⟨k, rfl, hk, _⟩ := ty_u8 (k := 7) h2
    exact flatOn_at s k hk
end Go.Proofs.Ytgbhoinfemjbiaa
