/- A point of a curve, in numbers. Plain. -/
import Derived.Test.YtpadocjddoenhaaPf
import Derived.Test.YtpadocjddoenhaaPc
namespace Go.Proofs.Ytpadocjddoenhaa
open Go SX
set_option linter.unusedVariables false
set_option maxRecDepth 100000

def lonX (k x y z : Int) : Int := w64 (w64 (w64 (w64 (w64 (4 - k) * w64 (4 - k)) * x) + w64 (w64 (w64 (2 * w64 (4 - k)) * k) * y)) + w64 (w64 (k * k) * z))
def lonP (s : Sg) (k : Int) : Pt := ⟨lonX k s.a.x s.b.x s.c.x, lonX k s.a.y s.b.y s.c.y⟩
/-! ### a point of a curve, in numbers -/
def lin (k x y z : Int) : Int := (4 - k) * (4 - k) * x + 2 * k * (4 - k) * y + k * k * z
theorem of_lin {a b c x y z : Int} (h1 : -1000000 ≤ a * x ∧ a * x ≤ 1000000) (h2 : -1000000 ≤ b * y ∧ b * y ≤ 1000000) (h3 : -1000000 ≤ c * z ∧ c * z ≤ 1000000) : ofI a b c x y z = a * x + b * y + c * z := by
  unfold ofI
  rw [w64_in (n := a * x) (by omega), w64_in (n := b * y) (by omega), w64_in (n := c * z) (by omega), w64_in (n := a * x + b * y) (by omega), w64_in (n := a * x + b * y + c * z) (by omega), w64_in (n := (a * x + b * y + c * z) * 16) (by omega), Int.mul_tdiv_cancel _ (by decide), w64_in (by omega)]
theorem lon_lin {a b c x y z : Int} (h1 : -1000000 ≤ a * x ∧ a * x ≤ 1000000) (h2 : -1000000 ≤ b * y ∧ b * y ≤ 1000000) (h3 : -1000000 ≤ c * z ∧ c * z ≤ 1000000) : w64 (w64 (w64 (a * x) + w64 (b * y)) + w64 (c * z)) = a * x + b * y + c * z := by
  rw [w64_in (n := a * x) (by omega), w64_in (n := b * y) (by omega), w64_in (n := c * z) (by omega), w64_in (n := a * x + b * y) (by omega), w64_in (n := a * x + b * y + c * z) (by omega)]
theorem on_eq {k x y z : Int} (hk : 0 ≤ k ∧ k ≤ 4) (hx : -1100 ≤ x ∧ x ≤ 1100) (hy : -1100 ≤ y ∧ y ≤ 1100) (hz : -1100 ≤ z ∧ z ≤ 1100) : onX k x y z = lin k x y z ∧ lonX k x y z = lin k x y z := by
  have hk : k = 0 ∨ k = 1 ∨ k = 2 ∨ k = 3 ∨ k = 4 := by omega
  unfold lin
  rcases hk with rfl | rfl | rfl | rfl | rfl
  · have e1 : w64 (w64 (4 - 0) * w64 (4 - 0)) = 16 := by decide
    have e2 : w64 (w64 (2 * 0) * w64 (4 - 0)) = 0 := by decide
    have e3 : w64 (0 * 0) = 0 := by decide
    have e4 : w64 (w64 (2 * w64 (4 - 0)) * 0) = 0 := by decide
    unfold onX lonX
    rw [e1, e2, e3, e4, of_lin (by omega) (by omega) (by omega), lon_lin (by omega) (by omega) (by omega)]
    constructor <;> omega
  · have e1 : w64 (w64 (4 - 1) * w64 (4 - 1)) = 9 := by decide
    have e2 : w64 (w64 (2 * 1) * w64 (4 - 1)) = 6 := by decide
    have e3 : w64 (1 * 1) = 1 := by decide
    have e4 : w64 (w64 (2 * w64 (4 - 1)) * 1) = 6 := by decide
    unfold onX lonX
    rw [e1, e2, e3, e4, of_lin (by omega) (by omega) (by omega), lon_lin (by omega) (by omega) (by omega)]
    constructor <;> omega
  · have e1 : w64 (w64 (4 - 2) * w64 (4 - 2)) = 4 := by decide
    have e2 : w64 (w64 (2 * 2) * w64 (4 - 2)) = 8 := by decide
    have e3 : w64 (2 * 2) = 4 := by decide
    have e4 : w64 (w64 (2 * w64 (4 - 2)) * 2) = 8 := by decide
    unfold onX lonX
    rw [e1, e2, e3, e4, of_lin (by omega) (by omega) (by omega), lon_lin (by omega) (by omega) (by omega)]
    constructor <;> omega
  · have e1 : w64 (w64 (4 - 3) * w64 (4 - 3)) = 1 := by decide
    have e2 : w64 (w64 (2 * 3) * w64 (4 - 3)) = 6 := by decide
    have e3 : w64 (3 * 3) = 9 := by decide
    have e4 : w64 (w64 (2 * w64 (4 - 3)) * 3) = 6 := by decide
    unfold onX lonX
    rw [e1, e2, e3, e4, of_lin (by omega) (by omega) (by omega), lon_lin (by omega) (by omega) (by omega)]
    constructor <;> omega
  · have e1 : w64 (w64 (4 - 4) * w64 (4 - 4)) = 0 := by decide
    have e2 : w64 (w64 (2 * 4) * w64 (4 - 4)) = 0 := by decide
    have e3 : w64 (4 * 4) = 16 := by decide
    have e4 : w64 (w64 (2 * w64 (4 - 4)) * 4) = 0 := by decide
    unfold onX lonX
    rw [e1, e2, e3, e4, of_lin (by omega) (by omega) (by omega), lon_lin (by omega) (by omega) (by omega)]
    constructor <;> omega

def sgIn (n : Int) (s : Sg) : Prop := ptIn n s.a ∧ ptIn n s.b ∧ ptIn n s.c
def linP (s : Sg) (k : Int) : Pt := ⟨lin k s.a.x s.b.x s.c.x, lin k s.a.y s.b.y s.c.y⟩
theorem onP_lin {s : Sg} {k : Int} (hk : 0 ≤ k ∧ k ≤ 4) (h : sgIn 1100 s) : onP s k = linP s k := by
  obtain ⟨⟨a1, a2, a3, a4⟩, ⟨b1, b2, b3, b4⟩, c1, c2, c3, c4⟩ := h
  unfold onP linP
  rw [(on_eq hk ⟨a1, a2⟩ ⟨b1, b2⟩ ⟨c1, c2⟩).1, (on_eq hk ⟨a3, a4⟩ ⟨b3, b4⟩ ⟨c3, c4⟩).1]
theorem lonP_lin {s : Sg} {k : Int} (hk : 0 ≤ k ∧ k ≤ 4) (h : sgIn 1100 s) : lonP s k = linP s k := by
  obtain ⟨⟨a1, a2, a3, a4⟩, ⟨b1, b2, b3, b4⟩, c1, c2, c3, c4⟩ := h
  unfold lonP linP
  rw [(on_eq hk ⟨a1, a2⟩ ⟨b1, b2⟩ ⟨c1, c2⟩).2, (on_eq hk ⟨a3, a4⟩ ⟨b3, b4⟩ ⟨c3, c4⟩).2]
theorem small_eq {p : Pt} {n : Int} (hn : n ≤ 100000000) (h : ptIn n p) : small p = ⟨16 * p.x, 16 * p.y⟩ := by
  obtain ⟨a1, a2, a3, a4⟩ := h
  unfold small
  rw [w64_in (by omega), w64_in (by omega)]
theorem linP_zero (s : Sg) : linP s 0 = ⟨16 * s.a.x, 16 * s.a.y⟩ := by
  unfold linP lin
  congr 1 <;> omega
theorem lin_hull {k x y z lo hi : Int} (hk : 0 ≤ k ∧ k ≤ 4) (h1 : lo ≤ x ∧ x ≤ hi) (h2 : lo ≤ y ∧ y ≤ hi) (h3 : lo ≤ z ∧ z ≤ hi) : 16 * lo ≤ lin k x y z ∧ lin k x y z ≤ 16 * hi := by
  have hk : k = 0 ∨ k = 1 ∨ k = 2 ∨ k = 3 ∨ k = 4 := by omega
  unfold lin
  rcases hk with rfl | rfl | rfl | rfl | rfl <;> omega
end Go.Proofs.Ytpadocjddoenhaa
