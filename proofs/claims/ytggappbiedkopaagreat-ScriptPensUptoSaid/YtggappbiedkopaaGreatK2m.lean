/- Law 22: the laws at whatever comes in. -/
import Derived.Test.YtggappbiedkopaaGreatK2l
import Derived.Test.YtggappbiedkopaaGreatPx
import Derived.Test.YtggappbiedkopaaGreatUp
namespace Go.Proofs.YtggappbiedkopaaGreat
open Go SX
set_option linter.unusedVariables false
set_option maxRecDepth 100000

theorem ty_u8J {k : Nat} {ls : List L} (h : TyL tt (k + 1) 5 ls) : ∃ x : Int, ls = [.lit (.int .u8 x)] ∧ 0 ≤ x ∧ x ≤ 255 := by
  obtain ⟨n, rfl, h⟩ : ∃ n, ls = [.lit (.int .u8 n)] ∧ (Lit.int .u8 n).wf = true := h
  simp only [Lit.wf, Bool.and_eq_true, decide_eq_true_eq] at h
  exact ⟨n, rfl, h⟩
theorem a_text {k : Nat} {a : Bool × List L} (h : TyArgs tt (k + 2) [22] [a]) : ∃ (n : Nat) (f : Nat → Nat → L) (t : List Int), a = (false, [.sl 1 n f]) ∧ n = t.length ∧ sameLs [.sl 1 n f] [bSl t] ∧ ∀ x ∈ t, uIn x := by
  obtain ⟨b, l⟩ := a
  obtain ⟨⟨e, h⟩, _⟩ := h
  have e : b = false := e
  subst e
  obtain ⟨n, f, rfl, hb, hm, hs⟩ : ∃ n f, l = [.sl 1 n f] ∧ n * 1 ≤ 140737488351232 ∧ n ≤ 9223372036854775807 ∧ ∀ i, i < n → TyL tt (k + 1) 5 ((List.range 1).map (f i)) := h
  obtain ⟨t, rfl, htk, hQ⟩ := ty_list (g := uL) (Q := uIn) hs fun ls hl => by
    obtain ⟨x, rfl, hx⟩ := ty_u8J (k := k) hl
    exact ⟨x, sameLs_refl _, hx⟩
  exact ⟨_, _, t, rfl, rfl, ⟨sl_same rfl htk, trivial⟩, hQ⟩
theorem ScriptGlyph_row : ∀ args, TyArgs tt 8 [5, 5, 5] args → FnAt Tryz.prog 5 args [(false, [.lit (.bool true)])] := by
  intro args h
  obtain ⟨a1, a2, a3, rfl, h1, h2, h3⟩ := tyA3 h
  obtain ⟨a, rfl, ha⟩ := a_u8 (k := 7) h1
  obtain ⟨b, rfl, hb⟩ := a_u8 (k := 7) h2
  obtain ⟨c, rfl, hc⟩ := a_u8 (k := 7) h3
  exact ScriptGlyph_at a b c ha hb hc
theorem ScriptActs_row : ∀ args, TyArgs tt 8 [22] args → shortA tt [22] 1048576 args → FnAt Tryz.prog 3 args [(false, [.lit (.bool true)])] := by
  intro args h hB
  obtain ⟨a1, rfl, h1⟩ := tyA1 h
  obtain ⟨n, f, t, rfl, hn, st, ht⟩ := a_text (k := 6) h1
  have hb := hB 0 22 _ _ 1 n f rfl rfl rfl rfl
  exact (ScriptActs_at t (uIn_getD ht) (by omega)).args ⟨rfl, st, trivial⟩
theorem ScriptPens_row : ∀ args, TyArgs tt 8 [22] args → shortA tt [22] 1048576 args → FnAt Tryz.prog 4 args [(false, [.lit (.bool true)])] := by
  intro args h hB
  obtain ⟨a1, rfl, h1⟩ := tyA1 h
  obtain ⟨n, f, t, rfl, hn, st, ht⟩ := a_text (k := 6) h1
  have hb := hB 0 22 _ _ 1 n f rfl rfl rfl rfl
  exact (ScriptPens_at t (uIn_getD ht) (by omega)).args ⟨rfl, st, trivial⟩
end Go.Proofs.YtggappbiedkopaaGreat
