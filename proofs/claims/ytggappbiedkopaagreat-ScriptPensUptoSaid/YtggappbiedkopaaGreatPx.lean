/- Arguments of the statements, one by one. -/
import Derived.Test.YtggappbiedkopaaGreatPy
namespace Go.Proofs.YtggappbiedkopaaGreat
open Go SX
set_option linter.unusedVariables false
set_option maxRecDepth 100000

theorem tyA1 {k t1 : Nat} {args : Res} (h : TyArgs tt k [t1] args) : ∃ a1, args = [a1] ∧ TyArgs tt k [t1] [a1] := by
  match args, h with
  | [a1], ⟨h1, _⟩ => exact ⟨a1, rfl, ⟨h1, trivial⟩⟩
theorem tyA2 {k t1 t2 : Nat} {args : Res} (h : TyArgs tt k [t1, t2] args) : ∃ a1 a2, args = [a1, a2] ∧ TyArgs tt k [t1] [a1] ∧ TyArgs tt k [t2] [a2] := by
  match args, h with
  | [a1, a2], ⟨h1, h2, _⟩ => exact ⟨a1, a2, rfl, ⟨h1, trivial⟩, ⟨h2, trivial⟩⟩
theorem tyA3 {k t1 t2 t3 : Nat} {args : Res} (h : TyArgs tt k [t1, t2, t3] args) : ∃ a1 a2 a3, args = [a1, a2, a3] ∧ TyArgs tt k [t1] [a1] ∧ TyArgs tt k [t2] [a2] ∧ TyArgs tt k [t3] [a3] := by
  match args, h with
  | [a1, a2, a3], ⟨h1, h2, h3, _⟩ => exact ⟨a1, a2, a3, rfl, ⟨h1, trivial⟩, ⟨h2, trivial⟩, ⟨h3, trivial⟩⟩
theorem tyA4 {k t1 t2 t3 t4 : Nat} {args : Res} (h : TyArgs tt k [t1, t2, t3, t4] args) : ∃ a1 a2 a3 a4, args = [a1, a2, a3, a4] ∧ TyArgs tt k [t1] [a1] ∧ TyArgs tt k [t2] [a2] ∧ TyArgs tt k [t3] [a3] ∧ TyArgs tt k [t4] [a4] := by
  match args, h with
  | [a1, a2, a3, a4], ⟨h1, h2, h3, h4, _⟩ => exact ⟨a1, a2, a3, a4, rfl, ⟨h1, trivial⟩, ⟨h2, trivial⟩, ⟨h3, trivial⟩, ⟨h4, trivial⟩⟩
theorem tyA5 {k t1 t2 t3 t4 t5 : Nat} {args : Res} (h : TyArgs tt k [t1, t2, t3, t4, t5] args) : ∃ a1 a2 a3 a4 a5, args = [a1, a2, a3, a4, a5] ∧ TyArgs tt k [t1] [a1] ∧ TyArgs tt k [t2] [a2] ∧ TyArgs tt k [t3] [a3] ∧ TyArgs tt k [t4] [a4] ∧ TyArgs tt k [t5] [a5] := by
  match args, h with
  | [a1, a2, a3, a4, a5], ⟨h1, h2, h3, h4, h5, _⟩ => exact ⟨a1, a2, a3, a4, a5, rfl, ⟨h1, trivial⟩, ⟨h2, trivial⟩, ⟨h3, trivial⟩, ⟨h4, trivial⟩, ⟨h5, trivial⟩⟩
theorem tyA6 {k t1 t2 t3 t4 t5 t6 : Nat} {args : Res} (h : TyArgs tt k [t1, t2, t3, t4, t5, t6] args) : ∃ a1 a2 a3 a4 a5 a6, args = [a1, a2, a3, a4, a5, a6] ∧ TyArgs tt k [t1] [a1] ∧ TyArgs tt k [t2] [a2] ∧ TyArgs tt k [t3] [a3] ∧ TyArgs tt k [t4] [a4] ∧ TyArgs tt k [t5] [a5] ∧ TyArgs tt k [t6] [a6] := by
  match args, h with
  | [a1, a2, a3, a4, a5, a6], ⟨h1, h2, h3, h4, h5, h6, _⟩ => exact ⟨a1, a2, a3, a4, a5, a6, rfl, ⟨h1, trivial⟩, ⟨h2, trivial⟩, ⟨h3, trivial⟩, ⟨h4, trivial⟩, ⟨h5, trivial⟩, ⟨h6, trivial⟩⟩
theorem a_u8 {k : Nat} {a : Bool × List L} (h : TyArgs tt (k + 1) [5] [a]) : ∃ n : Int, a = (false, [.lit (.int .u8 n)]) ∧ 0 ≤ n ∧ n ≤ 255 := by
  obtain ⟨b, l⟩ := a
  obtain ⟨⟨e, h⟩, _⟩ := h
  have e : b = false := e
  subst e
  obtain ⟨n, rfl, h⟩ : ∃ n, l = [.lit (.int .u8 n)] ∧ (Lit.int .u8 n).wf = true := h
  simp only [Lit.wf, Bool.and_eq_true, decide_eq_true_eq] at h
  exact ⟨n, rfl, h⟩
theorem a_i8 {k : Nat} {a : Bool × List L} (h : TyArgs tt (k + 1) [192] [a]) : ∃ n : Int, a = (false, [.lit (.int .i8 n)]) ∧ -128 ≤ n ∧ n ≤ 127 := by
  obtain ⟨b, l⟩ := a
  obtain ⟨⟨e, h⟩, _⟩ := h
  have e : b = false := e
  subst e
  obtain ⟨n, rfl, h⟩ : ∃ n, l = [.lit (.int .i8 n)] ∧ (Lit.int .i8 n).wf = true := h
  simp only [Lit.wf, Bool.and_eq_true, decide_eq_true_eq] at h
  exact ⟨n, rfl, h⟩
theorem a_i64 {k : Nat} {a : Bool × List L} (h : TyArgs tt (k + 1) [3] [a]) : ∃ n : Int, a = (false, [.lit (.int .i64 n)]) ∧ -9223372036854775808 ≤ n ∧ n ≤ 9223372036854775807 := by
  obtain ⟨b, l⟩ := a
  obtain ⟨⟨e, h⟩, _⟩ := h
  have e : b = false := e
  subst e
  obtain ⟨n, rfl, h⟩ : ∃ n, l = [.lit (.int .i64 n)] ∧ (Lit.int .i64 n).wf = true := h
  simp only [Lit.wf, Bool.and_eq_true, decide_eq_true_eq] at h
  exact ⟨n, rfl, h⟩
end Go.Proofs.YtggappbiedkopaaGreat
