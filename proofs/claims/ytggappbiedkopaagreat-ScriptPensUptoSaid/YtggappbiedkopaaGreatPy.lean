/- Arguments, read by their types. -/
import Derived.Test.YtggappbiedkopaaGreatPa
namespace Go.Proofs.YtggappbiedkopaaGreat
open Go SX
set_option linter.unusedVariables false
set_option maxRecDepth 100000

@[reducible] def aU8 (k : Int) : Bool × List L := (false, [.lit (.int .u8 k)])
/-! ### arguments -/
def in64 (n : Int) : Prop := -9223372036854775808 ≤ n ∧ n ≤ 9223372036854775807
theorem ty_int {k : Nat} {ls : List L} (h : TyL tt (k + 1) 3 ls) : ∃ n, ls = [I n] ∧ in64 n := by
  obtain ⟨n, rfl, h⟩ : ∃ n, ls = [.lit (.int .i64 n)] ∧ (Lit.int .i64 n).wf = true := h
  simp only [Lit.wf, Bool.and_eq_true, decide_eq_true_eq] at h
  exact ⟨n, rfl, h⟩
theorem ty_u8 {k : Nat} {ls : List L} (h : TyL tt (k + 1) 5 ls) : ∃ n : Int, ls = [.lit (.int .u8 n)] ∧ 0 ≤ n ∧ n ≤ 255 := by
  obtain ⟨n, rfl, h⟩ : ∃ n, ls = [.lit (.int .u8 n)] ∧ (Lit.int .u8 n).wf = true := h
  simp only [Lit.wf, Bool.and_eq_true, decide_eq_true_eq] at h
  exact ⟨n, rfl, h⟩
theorem ty_bool {k : Nat} {ls : List L} (h : TyL tt (k + 1) 4 ls) : ∃ b, ls = [Bo b] := h
theorem ty_pt {k : Nat} {ls : List L} (h : TyL tt (k + 2) 120 ls) : ∃ p : Pt, ls = p.ls := by
  obtain ⟨hl, h⟩ : ls.length = 2 ∧ ∀ p ∈ [(0, 3), (1, 3)], match tt p.2 with
    | none => False
    | some fi => TyL tt (k + 1) p.2 ((ls.drop p.1).take fi.sz) := h
  match ls, hl with
  | [a, b], _ =>
    obtain ⟨x, hx, _⟩ := ty_int (k := k) (h (0, 3) (by simp))
    obtain ⟨y, hy, _⟩ := ty_int (k := k) (h (1, 3) (by simp))
    have hx : [a] = [I x] := hx
    have hy : [b] = [I y] := hy
    cases hx
    cases hy
    exact ⟨⟨x, y⟩, rfl⟩
theorem ty_sg {k : Nat} {ls : List L} (h : TyL tt (k + 3) 195 ls) : ∃ p : Sg, ls = p.ls := by
  obtain ⟨hl, h⟩ : ls.length = 7 ∧ ∀ p ∈ [(0, 120), (2, 120), (4, 120), (6, 4)], match tt p.2 with
    | none => False
    | some fi => TyL tt (k + 2) p.2 ((ls.drop p.1).take fi.sz) := h
  match ls, hl with
  | [a, b, c, d, e, f, g], _ =>
    obtain ⟨x, hx⟩ := ty_pt (k := k) (h (0, 120) (by simp))
    obtain ⟨y, hy⟩ := ty_pt (k := k) (h (2, 120) (by simp))
    obtain ⟨z, hz⟩ := ty_pt (k := k) (h (4, 120) (by simp))
    obtain ⟨u, hu⟩ := ty_bool (k := k + 1) (h (6, 4) (by simp))
    have hx : [a, b] = x.ls := hx
    have hy : [c, d] = y.ls := hy
    have hz : [e, f] = z.ls := hz
    have hu : [g] = [Bo u] := hu
    cases hx
    cases hy
    cases hz
    cases hu
    exact ⟨⟨x, y, z, u⟩, rfl⟩
theorem nth_map_range {f : Nat → L} {sz j : Nat} (h : j < sz) : nth ((List.range sz).map f) j = f j := by
  have key : ∀ (l : List L) (j : Nat) x, l[j]? = some x → nth l j = x := by
    intro l
    induction l with
    | nil => intro j x h; simp at h
    | cons a l ih =>
      intro j x h
      cases j with
      | zero => have h : a = x := by simpa using h
                exact h
      | succ j => exact ih j x (by simpa using h)
  exact key _ j _ (by simp [h])
theorem sameLs_nth : ∀ {ls ls' : List L} {j : Nat}, sameLs ls ls' → SameL (nth ls j) (nth ls' j)
  | [], [], _, _ => SameL.refl _
  | _ :: _, _ :: _, 0, h => h.1
  | _ :: _, _ :: _, j + 1, h => sameLs_nth (j := j) h.2
  | [], _ :: _, _, h => h.elim
  | _ :: _, [], _, h => h.elim
/-- a slice that was read, as a list -/
theorem ty_list {α : Type} [Inhabited α] {g : α → List L} {Q : α → Prop} {sz n k e : Nat} {f : Nat → Nat → L} (hs : ∀ i, i < n → TyL tt k e ((List.range sz).map (f i))) (hd : ∀ ls, TyL tt k e ls → ∃ x : α, sameLs ls (g x) ∧ Q x) :
    ∃ es : List α, n = es.length ∧ (∀ i, i < n → ∀ j, j < sz → SameL (f i j) (rowOf g es i j)) ∧ ∀ x ∈ es, Q x := by
  have hp : ∀ i : Nat, ∃ x : α, i < n → sameLs ((List.range sz).map (f i)) (g x) ∧ Q x := by
    intro i
    by_cases h : i < n
    · obtain ⟨x, hx⟩ := hd _ (hs i h); exact ⟨x, fun _ => hx⟩
    · exact ⟨default, fun h' => absurd h' h⟩
  refine ⟨(List.range n).map fun i => (hp i).choose, by simp, fun i hi j hj => ?_, fun x hx => ?_⟩
  · have h1 := ((hp i).choose_spec hi).1
    have h2 := sameLs_nth (j := j) h1
    rw [nth_map_range hj] at h2
    have : rowOf g ((List.range n).map fun i => (hp i).choose) i j = nth (g (hp i).choose) j := by
      unfold rowOf
      rw [List.getD_eq_getElem?_getD, List.getElem?_map, List.getElem?_range hi]
      rfl
    rw [this]; exact h2
  · obtain ⟨i, hi, rfl⟩ := List.mem_map.1 hx
    exact ((hp i).choose_spec (by simpa using hi)).2

end Go.Proofs.YtggappbiedkopaaGreat
