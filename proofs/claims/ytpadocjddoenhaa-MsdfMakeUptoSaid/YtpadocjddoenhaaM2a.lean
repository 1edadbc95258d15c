/- The contract of plane.Line; how far from an edge's line. -/
import Derived.Test.YtpadocjddoenhaaPq
namespace Go.Proofs.Ytpadocjddoenhaa
open Go SX
set_option linter.unusedVariables false
set_option maxRecDepth 100000
set_option maxHeartbeats 1000000

/-- a point's distance from the line of an edge, squared -/
def lineN (e : Ed) (p : Pt) : Fr :=
  if dt (way e.b e.a) (way e.b e.a) = 0 then ⟨dt (way p e.a) (way p e.a), 1⟩
  else redF (crs (way e.b e.a) (way p e.a) * crs (way e.b e.a) (way p e.a)) (dt (way e.b e.a) (way e.b e.a))
theorem line_at {e : Ed} {p : Pt} (he : edIn 8192 e) (hp : ptIn 33000 p) : FnAt Try.prog 38 [aEd e, aPt p] [aFr (lineN e p)] := by
  have w1 := way_in he.2 he.1
  have w2 := way_in hp (he.1.up (m := 33000) (by decide))
  have w1' := w1.up (m := 66000) (by decide)
  have s1 := subP_eq (by decide) he.2 he.1
  have s2 := subP_eq (by decide) hp (he.1.up (m := 33000) (by decide))
  have d2 := dotW_eq (by decide) w1 w1
  have d3 := dotW_eq (by decide) w2 w2
  have c1 := crossW_eq (by decide) w1' w2
  refine fn_at (E := EE) (fn := Try.f38) (c := Try.f38.body.getD .skip) (rs := Try.f38.results.toList) (nt := Try.f38.ntmps) EE_ok follows (by kernel_rfl) (by kernel_rfl) rfl rfl rfl [] rfl ?_
  refine ⟨_, sub_at e.b e.a, ?_⟩
  refine ⟨_, sub_at p e.a, ?_⟩
  refine ⟨_, dot_at (subP e.b e.a) (subP e.b e.a), ?_⟩
  refine if_eq (fun h => ?_) (fun h => ?_)
  · have h : dotW (subP e.b e.a) (subP e.b e.a) = 0 := h
    refine ⟨_, dot_at (subP p e.a) (subP p e.a), ?_⟩
    have hs : lineN e p = ⟨dotW (subP p e.a) (subP p e.a), 1⟩ := by
      unfold lineN
      rw [s1, d2] at h
      rw [if_pos h, s2, d3]
    rw [hs]
    exact ⟨⟨rfl, ⟨rfl, rfl⟩, trivial⟩, trivial⟩
  · have h : ¬ dotW (subP e.b e.a) (subP e.b e.a) = 0 := h
    refine ⟨_, cross_at (subP e.b e.a) (subP p e.a), ?_⟩
    rw [s1, d2] at h
    have hcb : -2162688000 ≤ crs (way e.b e.a) (way p e.a) ∧ crs (way e.b e.a) (way p e.a) ≤ 2162688000 := by
      unfold ptIn at w1 w2
      have m1 := mul_bd (x := (way e.b e.a).x) (y := (way p e.a).y) (B := 16384) (C := 66000) (by omega) (by omega)
      have m2 := mul_bd (x := (way e.b e.a).y) (y := (way p e.a).x) (B := 16384) (C := 66000) (by omega) (by omega)
      unfold crs; omega
    have hdb := dt_in w1 w1
    have hdn := dt_nonneg (way e.b e.a)
    have hsq := mul_bd (x := crs (way e.b e.a) (way p e.a)) (y := crs (way e.b e.a) (way p e.a)) (B := 2162688000) (C := 2162688000) hcb hcb
    have hw : w64 (crossW (subP e.b e.a) (subP p e.a) * crossW (subP e.b e.a) (subP p e.a)) = crs (way e.b e.a) (way p e.a) * crs (way e.b e.a) (way p e.a) := by
      rw [s1, s2, c1, w64_in (by omega)]
    have hc0 : 0 ≤ crs (way e.b e.a) (way p e.a) * crs (way e.b e.a) (way p e.a) := sq_nonneg _
    have hO := rof_at (crs (way e.b e.a) (way p e.a) * crs (way e.b e.a) (way p e.a)) (dt (way e.b e.a) (way e.b e.a)) hc0 (by omega) (by omega) (by omega)
    refine ⟨_, hO.args ⟨rfl, ⟨.of_eq (congrArg I hw), trivial⟩, rfl, ⟨.of_eq (congrArg I (by rw [s1, d2])), trivial⟩, trivial⟩, ?_⟩
    have hs : lineN e p = redF (crs (way e.b e.a) (way p e.a) * crs (way e.b e.a) (way p e.a)) (dt (way e.b e.a) (way e.b e.a)) := by
      unfold lineN
      rw [if_neg h]
    rw [hs]
    exact ⟨⟨rfl, rfl, trivial⟩, trivial⟩
theorem lineN_in {e : Ed} {p : Pt} (he : edIn 8192 e) (hp : ptIn 33000 p) : frIn (lineN e p) := by
  have w1 := way_in he.2 he.1
  have w2 := way_in hp (he.1.up (m := 33000) (by decide))
  have d2 := dt_in w1 w1
  have d3 := dt_in w2 w2
  have n2 := dt_nonneg (way e.b e.a)
  have n3 := dt_nonneg (way p e.a)
  unfold frIn lineN
  split
  · dsimp only; omega
  · rename_i h1
    have hcb : -2162688000 ≤ crs (way e.b e.a) (way p e.a) ∧ crs (way e.b e.a) (way p e.a) ≤ 2162688000 := by
      unfold ptIn at w1 w2
      have m1 := mul_bd (x := (way e.b e.a).x) (y := (way p e.a).y) (B := 16384) (C := 66000) (by omega) (by omega)
      have m2 := mul_bd (x := (way e.b e.a).y) (y := (way p e.a).x) (B := 16384) (C := 66000) (by omega) (by omega)
      unfold crs; omega
    have hsq := mul_bd (x := crs (way e.b e.a) (way p e.a)) (y := crs (way e.b e.a) (way p e.a)) (B := 2162688000) (C := 2162688000) hcb hcb
    obtain ⟨r1, r2, r3, r4, _⟩ := redF_in (sq_nonneg (crs (way e.b e.a) (way p e.a))) (show 1 ≤ dt (way e.b e.a) (way e.b e.a) by omega)
    omega
/-- a number, a fraction: what lies over it -/
theorem red_le {c2 long t2 : Int} (hl : 1 ≤ long) (h0 : 0 ≤ c2) (h : c2 ≤ long * t2) : (redF c2 long).num ≤ t2 * (redF c2 long).den := by
  obtain ⟨r1, r2, r3, r4, r5⟩ := redF_in h0 hl
  generalize (redF c2 long).num = n at *
  generalize (redF c2 long).den = d at *
  have h3 : c2 * d ≤ (long * t2) * d := Int.mul_le_mul_of_nonneg_right h (by omega)
  have h4 : long * n ≤ long * (t2 * d) := by
    rw [Int.mul_comm long n, ← r5, ← Int.mul_assoc]; exact h3
  exact Int.le_of_mul_le_mul_left h4 (by omega)
theorem crs_back (e : Ed) (p : Pt) : crs (way e.b e.a) (way p e.b) = crs (way e.b e.a) (way p e.a) := by
  unfold crs way; dsimp only; grind
theorem dt_zero {w : Pt} (h : dt w w = 0) : w.x = 0 ∧ w.y = 0 := by
  have h1 := sq_nonneg w.x
  have h2 := sq_nonneg w.y
  unfold dt at h
  have e1 : w.x * w.x = 0 := by omega
  have e2 : w.y * w.y = 0 := by omega
  exact ⟨(Int.mul_eq_zero.1 e1).elim id id, (Int.mul_eq_zero.1 e2).elim id id⟩
/-- the line is no farther than the edge -/
theorem line_le {e : Ed} {p : Pt} : leF (lineN e p) (sqN e p) := by
  have n2 := dt_nonneg (way e.b e.a)
  have hg := lagrange (way e.b e.a) (way p e.a)
  have hg' := lagrange (way e.b e.a) (way p e.b)
  rw [crs_back] at hg'
  have q1 := sq_nonneg (dt (way e.b e.a) (way p e.a))
  have q2 := sq_nonneg (dt (way e.b e.a) (way p e.b))
  have hc := sq_nonneg (crs (way e.b e.a) (way p e.a))
  by_cases h0 : dt (way e.b e.a) (way e.b e.a) = 0
  · obtain ⟨z1, z2⟩ := dt_zero h0
    have hz : dt (way e.b e.a) (way p e.a) ≤ 0 := by
      show (way e.b e.a).x * (way p e.a).x + (way e.b e.a).y * (way p e.a).y ≤ 0
      rw [z1, z2]; omega
    unfold lineN sqN
    rw [if_pos h0, if_pos hz]
    exact leF.refl _
  · unfold lineN sqN
    rw [if_neg h0]
    split
    · unfold leF
      dsimp only
      have := red_le (c2 := crs (way e.b e.a) (way p e.a) * crs (way e.b e.a) (way p e.a)) (long := dt (way e.b e.a) (way e.b e.a)) (t2 := dt (way p e.a) (way p e.a)) (by omega) hc (by omega)
      omega
    · split
      · unfold leF
        dsimp only
        have := red_le (c2 := crs (way e.b e.a) (way p e.a) * crs (way e.b e.a) (way p e.a)) (long := dt (way e.b e.a) (way e.b e.a)) (t2 := dt (way p e.b) (way p e.b)) (by omega) hc (by omega)
        omega
      · exact leF.refl _
theorem lineN_le {e : Ed} {p : Pt} (he : edIn 8192 e) (hp : ptIn 33000 p) : (lineN e p).num ≤ 10000000000 * (lineN e p).den := by
  have w2 := way_in hp (he.1.up (m := 33000) (by decide))
  have d3 := dt_in w2 w2
  have n2 := dt_nonneg (way e.b e.a)
  have hg := lagrange (way e.b e.a) (way p e.a)
  have q1 := sq_nonneg (dt (way e.b e.a) (way p e.a))
  have hc := sq_nonneg (crs (way e.b e.a) (way p e.a))
  unfold lineN
  split
  · dsimp only; omega
  · obtain ⟨r1, r2, r3, r4, r5⟩ := redF_in hc (show 1 ≤ dt (way e.b e.a) (way e.b e.a) by omega)
    have := red_le (c2 := crs (way e.b e.a) (way p e.a) * crs (way e.b e.a) (way p e.a)) (long := dt (way e.b e.a) (way e.b e.a)) (t2 := dt (way p e.a) (way p e.a)) (by omega) hc (by omega)
    generalize (redF (crs (way e.b e.a) (way p e.a) * crs (way e.b e.a) (way p e.a)) (dt (way e.b e.a) (way e.b e.a))).num = n at *
    generalize (redF (crs (way e.b e.a) (way p e.a) * crs (way e.b e.a) (way p e.a)) (dt (way e.b e.a) (way e.b e.a))).den = d at *
    have h6 : dt (way p e.a) (way p e.a) * d ≤ 10000000000 * d := Int.mul_le_mul_of_nonneg_right (by omega) (by omega)
    omega
theorem eight_line {e : Ed} {p : Pt} (he : edIn 8192 e) (hp : ptIn 33000 p) : eightF (lineN e p) ≤ eightF (sqN e p) := eightF_mono (lineN_in he hp) (sqN_in he hp) line_le
end Go.Proofs.Ytpadocjddoenhaa
