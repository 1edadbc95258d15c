/- The contracts of law06.FlatOn, law06.FlatHull. -/
import Derived.Test.YtgbhoinfemjbiaaPg
namespace Go.Proofs.Ytgbhoinfemjbiaa
open Go SX
set_option linter.unusedVariables false
set_option maxRecDepth 100000

/-! ### a point of a curve, in numbers -/
def lin (k x y z : Int) : Int := (4 - k) * (4 - k) * x + 2 * k * (4 - k) * y + k * k * z
theorem of_lin {a b c x y z : Int} (h1 : -1000000 ≤ a * x ∧ a * x ≤ 1000000) (h2 : -1000000 ≤ b * y ∧ b * y ≤ 1000000) (h3 : -1000000 ≤ c * z ∧ c * z ≤ 1000000) : ofI a b c x y z = a * x + b * y + c * z := by
  unfold ofI
  rw [w64_in (n := a * x) (by omega), w64_in (n := b * y) (by omega), w64_in (n := c * z) (by omega), w64_in (n := a * x + b * y) (by omega), w64_in (n := a * x + b * y + c * z) (by omega), w64_in (n := (a * x + b * y + c * z) * 16) (by omega), Int.mul_tdiv_cancel _ (by decide), w64_in (by omega)]
theorem lon_lin {a b c x y z : Int} (h1 : -1000000 ≤ a * x ∧ a * x ≤ 1000000) (h2 : -1000000 ≤ b * y ∧ b * y ≤ 1000000) (h3 : -1000000 ≤ c * z ∧ c * z ≤ 1000000) : w64 (w64 (w64 (a * x) + w64 (b * y)) + w64 (c * z)) = a * x + b * y + c * z := by
  rw [w64_in (n := a * x) (by omega), w64_in (n := b * y) (by omega), w64_in (n := c * z) (by omega), w64_in (n := a * x + b * y) (by omega), w64_in (n := a * x + b * y + c * z) (by omega)]
theorem on_eq {k x y z : Int} (hk : 0 ≤ k ∧ k ≤ 4) (hx : -1100 ≤ x ∧ x ≤ 1100) (hy : -1100 ≤ y ∧ y ≤ 1100) (hz : -1100 ≤ z ∧ z ≤ 1100) : onX k x y z = lin k x y z ∧ lonX k x y z = lin k x y z := by
  have hk : k = 0 ∨ k = 1 ∨ k = 2 ∨ k = 3 ∨ k = 4 := by omega
  unfold lin
  rcases hk with rfl | rfl | rfl | rfl | rfl
  · have e1 : w64 (w64 (4 - 0) * w64 (4 - 0)) = 16 := by decide
    have e2 : w64 (w64 (2 * 0) * w64 (4 - 0)) = 0 := by decide
    have e3 : w64 (0 * 0) = 0 := by decide
    have e4 : w64 (w64 (2 * w64 (4 - 0)) * 0) = 0 := by decide
    unfold onX lonX
    rw [e1, e2, e3, e4, of_lin (by omega) (by omega) (by omega), lon_lin (by omega) (by omega) (by omega)]
    constructor <;> omega
  · have e1 : w64 (w64 (4 - 1) * w64 (4 - 1)) = 9 := by decide
    have e2 : w64 (w64 (2 * 1) * w64 (4 - 1)) = 6 := by decide
    have e3 : w64 (1 * 1) = 1 := by decide
    have e4 : w64 (w64 (2 * w64 (4 - 1)) * 1) = 6 := by decide
    unfold onX lonX
    rw [e1, e2, e3, e4, of_lin (by omega) (by omega) (by omega), lon_lin (by omega) (by omega) (by omega)]
    constructor <;> omega
  · have e1 : w64 (w64 (4 - 2) * w64 (4 - 2)) = 4 := by decide
    have e2 : w64 (w64 (2 * 2) * w64 (4 - 2)) = 8 := by decide
    have e3 : w64 (2 * 2) = 4 := by decide
    have e4 : w64 (w64 (2 * w64 (4 - 2)) * 2) = 8 := by decide
    unfold onX lonX
    rw [e1, e2, e3, e4, of_lin (by omega) (by omega) (by omega), lon_lin (by omega) (by omega) (by omega)]
    constructor <;> omega
  · have e1 : w64 (w64 (4 - 3) * w64 (4 - 3)) = 1 := by decide
    have e2 : w64 (w64 (2 * 3) * w64 (4 - 3)) = 6 := by decide
    have e3 : w64 (3 * 3) = 9 := by decide
    have e4 : w64 (w64 (2 * w64 (4 - 3)) * 3) = 6 := by decide
    unfold onX lonX
    rw [e1, e2, e3, e4, of_lin (by omega) (by omega) (by omega), lon_lin (by omega) (by omega) (by omega)]
    constructor <;> omega
  · have e1 : w64 (w64 (4 - 4) * w64 (4 - 4)) = 0 := by decide
    have e2 : w64 (w64 (2 * 4) * w64 (4 - 4)) = 0 := by decide
    have e3 : w64 (4 * 4) = 16 := by decide
    have e4 : w64 (w64 (2 * w64 (4 - 4)) * 4) = 0 := by decide
    unfold onX lonX
    rw [e1, e2, e3, e4, of_lin (by omega) (by omega) (by omega), lon_lin (by omega) (by omega) (by omega)]
    constructor <;> omega
def ptIn (n : Int) (p : Pt) : Prop := -n ≤ p.x ∧ p.x ≤ n ∧ -n ≤ p.y ∧ p.y ≤ n
def sgIn (n : Int) (s : Sg) : Prop := ptIn n s.a ∧ ptIn n s.b ∧ ptIn n s.c
def linP (s : Sg) (k : Int) : Pt := ⟨lin k s.a.x s.b.x s.c.x, lin k s.a.y s.b.y s.c.y⟩
theorem onP_lin {s : Sg} {k : Int} (hk : 0 ≤ k ∧ k ≤ 4) (h : sgIn 1100 s) : onP s k = linP s k := by
  obtain ⟨⟨a1, a2, a3, a4⟩, ⟨b1, b2, b3, b4⟩, c1, c2, c3, c4⟩ := h
  unfold onP linP
  rw [(on_eq hk ⟨a1, a2⟩ ⟨b1, b2⟩ ⟨c1, c2⟩).1, (on_eq hk ⟨a3, a4⟩ ⟨b3, b4⟩ ⟨c3, c4⟩).1]
theorem lonP_lin {s : Sg} {k : Int} (hk : 0 ≤ k ∧ k ≤ 4) (h : sgIn 1100 s) : lonP s k = linP s k := by
  obtain ⟨⟨a1, a2, a3, a4⟩, ⟨b1, b2, b3, b4⟩, c1, c2, c3, c4⟩ := h
  unfold lonP linP
  rw [(on_eq hk ⟨a1, a2⟩ ⟨b1, b2⟩ ⟨c1, c2⟩).2, (on_eq hk ⟨a3, a4⟩ ⟨b3, b4⟩ ⟨c3, c4⟩).2]
theorem small_eq {p : Pt} {n : Int} (hn : n ≤ 100000000) (h : ptIn n p) : small p = ⟨16 * p.x, 16 * p.y⟩ := by
  obtain ⟨a1, a2, a3, a4⟩ := h
  unfold small
  rw [w64_in (by omega), w64_in (by omega)]
theorem linP_zero (s : Sg) : linP s 0 = ⟨16 * s.a.x, 16 * s.a.y⟩ := by
  unfold linP lin
  congr 1 <;> omega
/-- points, cut to 510 -/
def cutP (p : Pt) : Pt := ⟨p.x.tmod 511, p.y.tmod 511⟩
def cutS (s : Sg) : Sg := ⟨cutP s.a, cutP s.b, cutP s.c, s.cv⟩
theorem tmod_in (x : Int) {m : Int} (hm : 0 < m) : -m < x.tmod m ∧ x.tmod m < m := by
  have h1 := Int.tmod_lt_of_pos x hm
  have h2 := Int.tmod_lt_of_pos (-x) hm
  rw [Int.neg_tmod] at h2
  omega
theorem cutP_in (p : Pt) : ptIn 510 (cutP p) := by
  have h1 := tmod_in p.x (m := 511) (by decide)
  have h2 := tmod_in p.y (m := 511) (by decide)
  unfold ptIn cutP
  dsimp only
  omega
theorem ptIn.up {n m : Int} {p : Pt} (h : ptIn n p) (hm : n ≤ m) : ptIn m p := by unfold ptIn at *; omega
theorem cutS_in (s : Sg) : sgIn 1100 (cutS s) := ⟨(cutP_in _).up (by decide), (cutP_in _).up (by decide), (cutP_in _).up (by decide)⟩
theorem u8mod {k : Int} (h : 0 ≤ k) : w64 (k.tmod 5) = k.tmod 5 ∧ 0 ≤ k.tmod 5 ∧ k.tmod 5 ≤ 4 := by
  have h1 := Int.tmod_nonneg 5 h
  have h2 := Int.tmod_lt_of_pos k (b := 5) (by decide)
  exact ⟨w64_in (by omega), h1, by omega⟩
@[reducible] def aU8 (k : Int) : Bool × List L := (false, [.lit (.int .u8 k)])

theorem flatOn_at (s : Sg) (k : Int) (hk : 0 ≤ k) : FnAt Try.prog 3 [aSg s, aU8 k] [aB true] := by
  obtain ⟨k1, k2, k3⟩ := u8mod hk
  have hs := cutS_in s
  refine fn_at (E := EE) (fn := Try.f3) (c := Try.f3.body.getD .skip) (rs := Try.f3.results.toList) (nt := Try.f3.ntmps) EE_ok follows (by kernel_rfl) (by kernel_rfl) rfl rfl rfl [] rfl ?_
  refine ⟨_, awake06_at, ?_⟩
  refine ⟨(fun h => nomatch h), fun _ => ?_⟩
  refine Or.inl ⟨4, ?_⟩
  refine ⟨_, on_at (cutS s) (w64 (k.tmod 5)), ?_⟩
  refine ⟨_, lon_at (cutS s) (w64 (k.tmod 5)), ?_⟩
  have he : onP (cutS s) (w64 (k.tmod 5)) = lonP (cutS s) (w64 (k.tmod 5)) := by
    rw [k1, onP_lin ⟨k2, k3⟩ hs, lonP_lin ⟨k2, k3⟩ hs]
  refine if_pt (fun _ => ?_) (fun h => absurd he h)
  refine ⟨_, on_at (cutS s) 0, ?_⟩
  have hz : onP (cutS s) 0 = ⟨w64 (16 * (cutS s).a.x), w64 (16 * (cutS s).a.y)⟩ := by
    rw [onP_lin (by decide) hs, linP_zero]
    exact (small_eq (n := 1100) (by decide) hs.1).symm
  refine ⟨⟨congrArg Value.bool ?_, trivial⟩, trivial⟩
  exact (pt_eq (onP (cutS s) 0) ⟨w64 (16 * (cutS s).a.x), w64 (16 * (cutS s).a.y)⟩).trans (decide_eq_true hz)

/-! ### arguments -/
def in64 (n : Int) : Prop := -9223372036854775808 ≤ n ∧ n ≤ 9223372036854775807
theorem ty_int {k : Nat} {ls : List L} (h : TyL tt (k + 1) 3 ls) : ∃ n, ls = [I n] ∧ in64 n := by
  obtain ⟨n, rfl, h⟩ : ∃ n, ls = [.lit (.int .i64 n)] ∧ (Lit.int .i64 n).wf = true := h
  simp only [Lit.wf, Bool.and_eq_true, decide_eq_true_eq] at h
  exact ⟨n, rfl, h⟩
theorem ty_u8 {k : Nat} {ls : List L} (h : TyL tt (k + 1) 5 ls) : ∃ n : Int, ls = [.lit (.int .u8 n)] ∧ 0 ≤ n ∧ n ≤ 255 := by
  obtain ⟨n, rfl, h⟩ : ∃ n, ls = [.lit (.int .u8 n)] ∧ (Lit.int .u8 n).wf = true := h
  simp only [Lit.wf, Bool.and_eq_true, decide_eq_true_eq] at h
  exact ⟨n, rfl, h⟩
theorem ty_bool {k : Nat} {ls : List L} (h : TyL tt (k + 1) 4 ls) : ∃ b, ls = [Bo b] := h
theorem ty_pt {k : Nat} {ls : List L} (h : TyL tt (k + 2) 23 ls) : ∃ p : Pt, ls = p.ls := by
  obtain ⟨hl, h⟩ : ls.length = 2 ∧ ∀ p ∈ [(0, 3), (1, 3)], match tt p.2 with
    | none => False
    | some fi => TyL tt (k + 1) p.2 ((ls.drop p.1).take fi.sz) := h
  match ls, hl with
  | [a, b], _ =>
    obtain ⟨x, hx, _⟩ := ty_int (k := k) (h (0, 3) (by simp))
    obtain ⟨y, hy, _⟩ := ty_int (k := k) (h (1, 3) (by simp))
    have hx : [a] = [I x] := hx
    have hy : [b] = [I y] := hy
    cases hx
    cases hy
    exact ⟨⟨x, y⟩, rfl⟩
theorem ty_sg {k : Nat} {ls : List L} (h : TyL tt (k + 3) 25 ls) : ∃ p : Sg, ls = p.ls := by
  obtain ⟨hl, h⟩ : ls.length = 7 ∧ ∀ p ∈ [(0, 23), (2, 23), (4, 23), (6, 4)], match tt p.2 with
    | none => False
    | some fi => TyL tt (k + 2) p.2 ((ls.drop p.1).take fi.sz) := h
  match ls, hl with
  | [a, b, c, d, e, f, g], _ =>
    obtain ⟨x, hx⟩ := ty_pt (k := k) (h (0, 23) (by simp))
    obtain ⟨y, hy⟩ := ty_pt (k := k) (h (2, 23) (by simp))
    obtain ⟨z, hz⟩ := ty_pt (k := k) (h (4, 23) (by simp))
    obtain ⟨u, hu⟩ := ty_bool (k := k + 1) (h (6, 4) (by simp))
    have hx : [a, b] = x.ls := hx
    have hy : [c, d] = y.ls := hy
    have hz : [e, f] = z.ls := hz
    have hu : [g] = [Bo u] := hu
    cases hx
    cases hy
    cases hz
    cases hu
    exact ⟨⟨x, y, z, u⟩, rfl⟩
theorem nth_map_range {f : Nat → L} {sz j : Nat} (h : j < sz) : nth ((List.range sz).map f) j = f j := by
  have key : ∀ (l : List L) (j : Nat) x, l[j]? = some x → nth l j = x := by
    intro l
    induction l with
    | nil => intro j x h; simp at h
    | cons a l ih =>
      intro j x h
      cases j with
      | zero => have h : a = x := by simpa using h
                exact h
      | succ j => exact ih j x (by simpa using h)
  exact key _ j _ (by simp [h])
theorem sameLs_nth : ∀ {ls ls' : List L} {j : Nat}, sameLs ls ls' → SameL (nth ls j) (nth ls' j)
  | [], [], _, _ => SameL.refl _
  | _ :: _, _ :: _, 0, h => h.1
  | _ :: _, _ :: _, j + 1, h => sameLs_nth (j := j) h.2
  | [], _ :: _, _, h => h.elim
  | _ :: _, [], _, h => h.elim
/-- a slice that was read, as a list -/
theorem ty_list {α : Type} [Inhabited α] {g : α → List L} {Q : α → Prop} {sz n k e : Nat} {f : Nat → Nat → L} (hs : ∀ i, i < n → TyL tt k e ((List.range sz).map (f i))) (hd : ∀ ls, TyL tt k e ls → ∃ x : α, sameLs ls (g x) ∧ Q x) :
    ∃ es : List α, n = es.length ∧ (∀ i, i < n → ∀ j, j < sz → SameL (f i j) (rowOf g es i j)) ∧ ∀ x ∈ es, Q x := by
  have hp : ∀ i : Nat, ∃ x : α, i < n → sameLs ((List.range sz).map (f i)) (g x) ∧ Q x := by
    intro i
    by_cases h : i < n
    · obtain ⟨x, hx⟩ := hd _ (hs i h); exact ⟨x, fun _ => hx⟩
    · exact ⟨default, fun h' => absurd h' h⟩
  refine ⟨(List.range n).map fun i => (hp i).choose, by simp, fun i hi j hj => ?_, fun x hx => ?_⟩
  · have h1 := ((hp i).choose_spec hi).1
    have h2 := sameLs_nth (j := j) h1
    rw [nth_map_range hj] at h2
    have : rowOf g ((List.range n).map fun i => (hp i).choose) i j = nth (g (hp i).choose) j := by
      unfold rowOf
      rw [List.getD_eq_getElem?_getD, List.getElem?_map, List.getElem?_range hi]
      rfl
    rw [this]; exact h2
  · obtain ⟨i, hi, rfl⟩ := List.mem_map.1 hx
    exact ((hp i).choose_spec (by simpa using hi)).2
theorem FlatOn_row : ∀ args, TyArgs tt 8 [25, 5] args → FnAt Try.prog 3 args [(false, [.lit (.bool true)])] := by
  intro args h
  match args, h with
  | [(b1, l1), (b2, l2)], ⟨⟨e1, h1⟩, ⟨e2, h2⟩, _⟩ =>
    have e1 : b1 = true := e1
    have e2 : b2 = false := e2
    subst e1
    subst e2
    obtain ⟨s, rfl⟩ := ty_sg (k := 5) h1
    obtain ⟨k, rfl, hk, _⟩ := ty_u8 (k := 7) h2
    exact flatOn_at s k hk
end Go.Proofs.Ytgbhoinfemjbiaa
