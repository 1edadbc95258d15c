/- Points, edges, in numbers. Plain. -/
import Derived.Test.YtbfdpdbdkcekfaaPu
namespace Go.Proofs.Ytbfdpdbdkcekfaa
open Go SX
set_option linter.unusedVariables false
set_option maxRecDepth 100000

/-! ### on an edge -/
theorem mul_pos_cases {a b : Int} (h : 0 < a * b) : (0 < a ∧ 0 < b) ∨ (a < 0 ∧ b < 0) := by
  rcases Int.lt_trichotomy a 0 with ha | ha | ha
  · rcases Int.lt_trichotomy b 0 with hb | hb | hb
    · exact .inr ⟨ha, hb⟩
    · rw [hb, Int.mul_zero] at h; omega
    · have := Int.mul_neg_of_neg_of_pos ha hb; omega
  · rw [ha, Int.zero_mul] at h; omega
  · rcases Int.lt_trichotomy b 0 with hb | hb | hb
    · have := Int.mul_neg_of_pos_of_neg ha hb; omega
    · rw [hb, Int.mul_zero] at h; omega
    · exact .inl ⟨ha, hb⟩
/-- between 0 and w -/
def btw (w t : Int) : Prop := (0 ≤ t ∧ t ≤ w) ∨ (w ≤ t ∧ t ≤ 0)
theorem btw_mul {w t : Int} (h : btw w t) : 0 ≤ w * t := by
  rcases h with ⟨h1, h2⟩ | ⟨h1, h2⟩
  · exact Int.mul_nonneg (by omega) h1
  · exact Int.mul_nonneg_of_nonpos_of_nonpos (by omega) h2
theorem btw_zero {w t : Int} (h : btw w t) (h0 : w * t = 0) : t = 0 := by
  rcases Int.mul_eq_zero.1 h0 with hw | ht
  · unfold btw at h; omega
  · exact ht
theorem sq_zero {x : Int} (h : x * x = 0) : x = 0 := by
  rcases Int.mul_eq_zero.1 h with h | h <;> exact h
theorem dt_zero {a : Pt} (h : dt a a = 0) : a.x = 0 ∧ a.y = 0 := by
  have h1 := sq_nonneg a.x
  have h2 := sq_nonneg a.y
  unfold dt at h
  exact ⟨sq_zero (by omega), sq_zero (by omega)⟩
theorem dt_pos {a : Pt} (h : a.x ≠ 0 ∨ a.y ≠ 0) : 0 < dt a a := by
  have h1 := sq_nonneg a.x
  have h2 := sq_nonneg a.y
  rcases Int.lt_or_le 0 (dt a a) with h' | h'
  · exact h'
  · have := dt_zero (a := a) (by unfold dt at h' ⊢; omega)
    omega
/-- scaled: long * t = w * d, 0 < d < long -/
theorem btw_of {w t d long : Int} (h : long * t = w * d) (h0 : 0 < d) (h1 : d < long) : btw w t := by
  unfold btw
  rcases Int.le_total 0 w with hw | hw
  · left
    have e1 : 0 ≤ long * t := by rw [h]; exact Int.mul_nonneg hw (by omega)
    have e2 : long * t ≤ long * w := by
      rw [h, Int.mul_comm long w]; exact Int.mul_le_mul_of_nonneg_left (by omega) hw
    refine ⟨?_, Int.le_of_mul_le_mul_left e2 (by omega)⟩
    exact Int.le_of_mul_le_mul_left (a := long) (by rw [Int.mul_zero]; exact e1) (by omega)
  · right
    have e1 : long * t ≤ 0 := by rw [h]; exact Int.mul_nonpos_of_nonpos_of_nonneg hw (by omega)
    have e2 : long * w ≤ long * t := by
      rw [h, Int.mul_comm long w]
      have := Int.mul_nonneg (show 0 ≤ -w by omega) (show 0 ≤ long - d by omega)
      rw [Int.neg_mul, Int.mul_sub] at this
      omega
    refine ⟨Int.le_of_mul_le_mul_left e2 (by omega), ?_⟩
    exact Int.le_of_mul_le_mul_left (a := long) (by rw [Int.mul_zero]; exact e1) (by omega)
/-- a point lies on an edge: in its line, and between its ends -/
def onN (p : Pt) (e : Ed) : Prop := crs (way e.b e.a) (way p e.a) = 0 ∧ btw (way e.b e.a).x (way p e.a).x ∧ btw (way e.b e.a).y (way p e.a).y
theorem sqN_zero {e : Ed} {p : Pt} (hne : e.a ≠ e.b) : (sqN e p).num = 0 ↔ onN p e := by
  have hwne : (way e.b e.a).x ≠ 0 ∨ (way e.b e.a).y ≠ 0 := by
    unfold way; dsimp only
    rcases Int.lt_trichotomy e.a.x e.b.x with h | h | h
    · left; omega
    · rcases Int.lt_trichotomy e.a.y e.b.y with h' | h' | h'
      · right; omega
      · exact absurd (by obtain ⟨⟨_, _⟩, ⟨_, _⟩⟩ := e; dsimp only at h h'; rw [h, h']) hne
      · right; omega
    · left; omega
  have hl := dt_pos hwne
  have hlag := lagrange (way e.b e.a) (way p e.a)
  have hback : way p e.b = ⟨(way p e.a).x - (way e.b e.a).x, (way p e.a).y - (way e.b e.a).y⟩ := by unfold way; dsimp only; congr 1 <;> omega
  unfold sqN onN
  rw [hback]
  generalize way e.b e.a = w at *
  generalize way p e.a = t at *
  split
  · rename_i h1
    dsimp only
    constructor
    · intro h0
      obtain ⟨hx, hy⟩ := dt_zero h0
      unfold crs btw
      rw [hx, hy]
      refine ⟨by simp, by omega, by omega⟩
    · rintro ⟨hc, hx, hy⟩
      have m1 := btw_mul hx
      have m2 := btw_mul hy
      unfold dt at h1
      have z1 := btw_zero hx (by omega)
      have z2 := btw_zero hy (by omega)
      unfold dt; rw [z1, z2]; rfl
  · rename_i h1
    split
    · rename_i h2
      dsimp only
      constructor
      · intro h0
        obtain ⟨hx, hy⟩ := dt_zero h0
        dsimp only at hx hy
        unfold crs btw
        rw [show t.x = w.x by omega, show t.y = w.y by omega]
        refine ⟨by rw [Int.mul_comm]; omega, by omega, by omega⟩
      · rintro ⟨hc, hx, hy⟩
        have b1 : btw w.x (w.x - t.x) := by unfold btw at hx ⊢; omega
        have b2 : btw w.y (w.y - t.y) := by unfold btw at hy ⊢; omega
        have m1 := btw_mul b1
        have m2 := btw_mul b2
        unfold dt at h2
        rw [Int.mul_sub] at m1 m2
        have z1 := btw_zero b1 (by rw [Int.mul_sub]; omega)
        have z2 := btw_zero b2 (by rw [Int.mul_sub]; omega)
        unfold dt; dsimp only
        rw [show t.x - w.x = 0 by omega, show t.y - w.y = 0 by omega]; rfl
    · rename_i h2
      obtain ⟨r1, r2, r3, r4, r5⟩ := redF_in (sq_nonneg (crs w t)) (show 1 ≤ dt w w by omega)
      constructor
      · intro h0
        rw [h0, Int.zero_mul] at r5
        have hc : crs w t = 0 := by
          rcases Int.mul_eq_zero.1 r5 with h | h
          · exact sq_zero h
          · omega
        have e1 : w.x * t.y = w.y * t.x := by unfold crs at hc; omega
        refine ⟨hc, btw_of (d := dt w t) (long := dt w w) ?_ (by omega) (by omega), btw_of (d := dt w t) (long := dt w w) ?_ (by omega) (by omega)⟩
        · unfold dt; grind
        · unfold dt; grind
      · rintro ⟨hc, _⟩
        have h0 : crs w t * crs w t = 0 := by rw [hc]; rfl
        omega
theorem onE_iff {e : Ed} {p : Pt} (hne : e.a ≠ e.b) : onE p e = true ↔ onN p e := by
  unfold onE
  rw [← sqN_zero hne]; simp
end Go.Proofs.Ytbfdpdbdkcekfaa
