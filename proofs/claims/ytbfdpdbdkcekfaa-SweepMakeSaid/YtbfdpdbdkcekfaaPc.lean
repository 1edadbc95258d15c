/- The contracts of corner: Is, Corners, colour; of law11: is. -/
import Derived.Test.YtbfdpdbdkcekfaaPb
namespace Go.Proofs.Ytbfdpdbdkcekfaa
open Go SX
set_option linter.unusedVariables false
set_option maxRecDepth 100000

/-! ### numbers -/
theorem tmod_in (x : Int) {m : Int} (hm : 0 < m) : -m < x.tmod m ∧ x.tmod m < m := by
  have h1 := Int.tmod_lt_of_pos x hm
  have h2 := Int.tmod_lt_of_pos (-x) hm
  rw [Int.neg_tmod] at h2
  omega
theorem mul_bd {x y B C : Int} (hx : -B ≤ x ∧ x ≤ B) (hy : -C ≤ y ∧ y ≤ C) : -(B * C) ≤ x * y ∧ x * y ≤ B * C := by
  have h1 : x.natAbs ≤ B.natAbs := by omega
  have h2 : y.natAbs ≤ C.natAbs := by omega
  have h3 : (x * y).natAbs ≤ (B * C).natAbs := by rw [Int.natAbs_mul, Int.natAbs_mul]; exact Nat.mul_le_mul h1 h2
  have h4 : 0 ≤ B * C := Int.mul_nonneg (by omega) (by omega)
  omega
def ptIn (n : Int) (p : Pt) : Prop := -n ≤ p.x ∧ p.x ≤ n ∧ -n ≤ p.y ∧ p.y ≤ n
def edIn (n : Int) (e : Ed) : Prop := ptIn n e.a ∧ ptIn n e.b
theorem ptIn.up {n m : Int} {p : Pt} (h : ptIn n p) (hm : n ≤ m) : ptIn m p := by unfold ptIn at *; omega
theorem edIn.up {n m : Int} {e : Ed} (h : edIn n e) (hm : n ≤ m) : edIn m e := ⟨h.1.up hm, h.2.up hm⟩
/-- the way, the cross product, the dot product, in numbers -/
def way (a b : Pt) : Pt := ⟨a.x - b.x, a.y - b.y⟩
def crs (a b : Pt) : Int := a.x * b.y - a.y * b.x
def dt (a b : Pt) : Int := a.x * b.x + a.y * b.y
theorem subP_eq {n : Int} {a b : Pt} (hn : n ≤ 4000000000000000000) (ha : ptIn n a) (hb : ptIn n b) : subP a b = way a b := by
  unfold ptIn at ha hb
  unfold subP way
  rw [w64_in (by omega), w64_in (by omega)]
theorem way_in {n : Int} {a b : Pt} (ha : ptIn n a) (hb : ptIn n b) : ptIn (2 * n) (way a b) := by
  unfold ptIn way at *; dsimp only; omega
theorem crs_in {n : Int} {a b : Pt} (ha : ptIn n a) (hb : ptIn n b) : -(2 * (n * n)) ≤ crs a b ∧ crs a b ≤ 2 * (n * n) := by
  unfold ptIn at *
  have h1 := mul_bd (x := a.x) (y := b.y) (B := n) (C := n) (by omega) (by omega)
  have h2 := mul_bd (x := a.y) (y := b.x) (B := n) (C := n) (by omega) (by omega)
  unfold crs; omega
theorem dt_in {n : Int} {a b : Pt} (ha : ptIn n a) (hb : ptIn n b) : -(2 * (n * n)) ≤ dt a b ∧ dt a b ≤ 2 * (n * n) := by
  unfold ptIn at *
  have h1 := mul_bd (x := a.x) (y := b.x) (B := n) (C := n) (by omega) (by omega)
  have h2 := mul_bd (x := a.y) (y := b.y) (B := n) (C := n) (by omega) (by omega)
  unfold dt; omega
theorem sqr_le {n m : Int} (h0 : 0 ≤ n) (h : n ≤ m) : n * n ≤ m * m := Int.mul_le_mul h h h0 (by omega)
theorem ptIn.pos {n : Int} {a : Pt} (h : ptIn n a) : 0 ≤ n := by unfold ptIn at h; omega
theorem crossW_eq {n : Int} {a b : Pt} (hn : n ≤ 1000000000) (ha : ptIn n a) (hb : ptIn n b) : crossW a b = crs a b := by
  have hp := ha.pos
  have hq := sqr_le hp hn
  have h3 := crs_in ha hb
  unfold ptIn at *
  have h1 := mul_bd (x := a.x) (y := b.y) (B := n) (C := n) (by omega) (by omega)
  have h2 := mul_bd (x := a.y) (y := b.x) (B := n) (C := n) (by omega) (by omega)
  unfold crs at h3
  unfold crossW crs
  rw [w64_in (n := a.x * b.y) (by omega), w64_in (n := a.y * b.x) (by omega), w64_in (by omega)]
theorem dotW_eq {n : Int} {a b : Pt} (hn : n ≤ 1000000000) (ha : ptIn n a) (hb : ptIn n b) : dotW a b = dt a b := by
  have hp := ha.pos
  have hq := sqr_le hp hn
  have h3 := dt_in ha hb
  unfold ptIn at *
  have h1 := mul_bd (x := a.x) (y := b.x) (B := n) (C := n) (by omega) (by omega)
  have h2 := mul_bd (x := a.y) (y := b.y) (B := n) (C := n) (by omega) (by omega)
  unfold dt at h3
  unfold dotW dt
  rw [w64_in (n := a.x * b.x) (by omega), w64_in (n := a.y * b.y) (by omega), w64_in (by omega)]

/-! ### corner.Is -/
def isC (c d : Int) : Bool := decide (d ≤ 0) || decide (w64 (2 * max2I c (w64 (0 - c))) > d)
def isW (a b : Ed) : Bool := isC (crossW (subP a.b a.a) (subP b.b b.a)) (dotW (subP a.b a.a) (subP b.b b.a))
/-- in numbers -/
def isN (a b : Ed) : Bool := decide (dt (way a.b a.a) (way b.b b.a) ≤ 0 ∨ dt (way a.b a.a) (way b.b b.a) < 2 * crs (way a.b a.a) (way b.b b.a) ∨ dt (way a.b a.a) (way b.b b.a) < -2 * crs (way a.b a.a) (way b.b b.a))
theorem isW_eq {a b : Ed} (ha : edIn 100000000 a) (hb : edIn 100000000 b) : isW a b = isN a b := by
  unfold isW isN
  rw [subP_eq (by decide) ha.2 ha.1, subP_eq (by decide) hb.2 hb.1, crossW_eq (by decide) (way_in ha.2 ha.1) (way_in hb.2 hb.1), dotW_eq (by decide) (way_in ha.2 ha.1) (way_in hb.2 hb.1)]
  have h1 := crs_in (way_in ha.2 ha.1) (way_in hb.2 hb.1)
  generalize crs (way a.b a.a) (way b.b b.a) = c at *
  generalize dt (way a.b a.a) (way b.b b.a) = d at *
  unfold isC
  rw [w64_in (n := 0 - c) (by omega)]
  have h2 : max2I c (0 - c) = if 0 - c > c then 0 - c else c := rfl
  rw [h2, w64_in (by split <;> omega), ← Bool.decide_or]
  refine decide_eq_decide.2 ?_
  split <;> omega
/-- law11.is -/
def isL (a b : Ed) : Bool :=
  decide (dotW (subP a.b a.a) (subP b.b b.a) ≤ 0) || (decide (w64 (2 * crossW (subP a.b a.a) (subP b.b b.a)) > dotW (subP a.b a.a) (subP b.b b.a)) || decide (w64 (-2 * crossW (subP a.b a.a) (subP b.b b.a)) > dotW (subP a.b a.a) (subP b.b b.a)))
theorem isL_eq {a b : Ed} (ha : edIn 100000000 a) (hb : edIn 100000000 b) : isL a b = isN a b := by
  unfold isL isN
  rw [subP_eq (by decide) ha.2 ha.1, subP_eq (by decide) hb.2 hb.1, crossW_eq (by decide) (way_in ha.2 ha.1) (way_in hb.2 hb.1), dotW_eq (by decide) (way_in ha.2 ha.1) (way_in hb.2 hb.1)]
  have h1 := crs_in (way_in ha.2 ha.1) (way_in hb.2 hb.1)
  generalize crs (way a.b a.a) (way b.b b.a) = c at *
  generalize dt (way a.b a.a) (way b.b b.a) = d at *
  rw [w64_in (n := 2 * c) (by omega), w64_in (n := -2 * c) (by omega), ← Bool.decide_or, ← Bool.decide_or]

/-! ### corner.Corners -/
@[reducible] def natL (n : Nat) : List L := [I (n : Int)]
@[reducible] def rN (ks : List Nat) : OR := ⟨3, 1, ks.length, rowOf natL ks, true⟩
@[reducible] def aNs (ks : List Nat) : Bool × List L := aSl natL 1 ks
def cornP (es : List Ed) (k : Nat) : Bool := isW (es.getD ((k + es.length - 1) % es.length) default) (es.getD k default)
def cornTo (es : List Ed) (i : Nat) : List Nat := (List.range i).filter (cornP es)
theorem cornTo_succ (es : List Ed) (i : Nat) : cornTo es (i + 1) = if cornP es i = true then cornTo es i ++ [i] else cornTo es i := by
  unfold cornTo
  rw [List.range_succ, List.filter_append]
  by_cases h : cornP es i = true
  · rw [if_pos h]; simp [h]
  · rw [if_neg h]; simp [h]
theorem cornTo_len (es : List Ed) (i : Nat) : (cornTo es i).length ≤ i := by
  unfold cornTo
  exact Nat.le_trans (List.length_filter_le _ _) (by simp)

/-! ### corner.colour -/
def colourN (k m : Nat) : Int := if k + 1 = m ∧ m % 3 = 1 then 6 else if k % 3 = 0 then 5 else if k % 3 = 1 then 6 else 3
theorem tab3 (k : Nat) : [(5 : Int), 6, 3].getD (k % 3) 0 = if k % 3 = 0 then 5 else if k % 3 = 1 then 6 else 3 := by
  have h : k % 3 = 0 ∨ k % 3 = 1 ∨ k % 3 = 2 := by omega
  rcases h with h | h | h <;> rw [h] <;> rfl
end Go.Proofs.Ytbfdpdbdkcekfaa
