/- The contracts of root.Compare, root.Scaled, plane.Side, plane.Square, wind, dist. -/
import Derived.Test.YtpadocjddoenhaaPw
import Derived.Test.YtpadocjddoenhaaPc
namespace Go.Proofs.Ytpadocjddoenhaa
open Go SX
set_option linter.unusedVariables false
set_option maxRecDepth 100000

structure Fr where
  num : Int
  den : Int
deriving DecidableEq, Inhabited
@[reducible] def Fr.ls (f : Fr) : List L := [I f.num, I f.den]
@[reducible] def aFr (f : Fr) : Bool × List L := (true, f.ls)
def frIn (f : Fr) : Prop := 0 ≤ f.num ∧ f.num ≤ 9223372036854775807 ∧ 1 ≤ f.den ∧ f.den ≤ 9223372036854775807
def cmpF (f g : Fr) : Int := cmpI (f.num * g.den) (g.num * f.den)
theorem rcmp_at {f g : Fr} (hf : frIn f) (hg : frIn g) : FnAt Try.prog 35 [aFr f, aFr g] [aI (cmpF f g)] := by
  unfold frIn at hf hg
  refine fn_at (E := EE) (fn := Try.f35) (c := Try.f35.body.getD .skip) (rs := Try.f35.results.toList) (nt := Try.f35.ntmps) EE_ok follows (by kernel_rfl) (by kernel_rfl) rfl rfl rfl [] rfl ?_
  refine ⟨_, less_at (a := f.num) (b := f.den) (c := g.num) (d := g.den) (by omega) (by omega) (by omega) (by omega), ?_⟩
  exact ⟨⟨rfl, trivial⟩, trivial⟩

/-! ### square roots -/
theorem exists_sqrt (n : Nat) : ∃ r : Nat, r * r ≤ n ∧ n < (r + 1) * (r + 1) := by
  induction n with
  | zero => exact ⟨0, by decide, by decide⟩
  | succ n ih =>
    obtain ⟨r, h1, h2⟩ := ih
    by_cases h : (r + 1) * (r + 1) ≤ n + 1
    · refine ⟨r + 1, h, ?_⟩
      have : (r + 1 + 1) * (r + 1 + 1) = (r + 1) * (r + 1) + 2 * (r + 1) + 1 := by grind
      omega
    · exact ⟨r, by omega, by omega⟩
noncomputable def isqN (n : Nat) : Nat := (exists_sqrt n).choose
noncomputable def isq (n : Int) : Int := isqN n.toNat
theorem isq_ok {n : Int} (h : 0 ≤ n) : 0 ≤ isq n ∧ isq n * isq n ≤ n ∧ n < (isq n + 1) * (isq n + 1) := by
  have h1 := (exists_sqrt n.toNat).choose_spec
  refine ⟨Int.natCast_nonneg _, ?_, ?_⟩
  · have h2 : ((isqN n.toNat * isqN n.toNat : Nat) : Int) ≤ (n.toNat : Int) := Int.ofNat_le.2 h1.1
    have h3 : ((n.toNat : Nat) : Int) = n := Int.toNat_of_nonneg h
    rw [h3] at h2
    exact_mod_cast h2
  · have h2 : (n.toNat : Int) < (((isqN n.toNat + 1) * (isqN n.toNat + 1) : Nat) : Int) := Int.ofNat_lt.2 h1.2
    have h3 : ((n.toNat : Nat) : Int) = n := Int.toNat_of_nonneg h
    rw [h3] at h2
    exact_mod_cast h2
theorem isq_uniq {n r : Int} (h : 0 ≤ n) (h0 : 0 ≤ r) (h1 : r * r ≤ n) (h2 : n < (r + 1) * (r + 1)) : isq n = r := by
  obtain ⟨a, b, c⟩ := isq_ok h
  exact sq_uniq a h0 b c h1 h2
/-- eight times the root of a fraction, rounded down -/
noncomputable def eightF (f : Fr) : Int := isq (f.num * 64 / f.den)
theorem scaled_at {f : Fr} (hf : frIn f) (hq : f.num * 64 / f.den ≤ 4611686018427387904) : FnAt Try.prog 26 [aFr f, aI 8] [aI (eightF f)] := by
  unfold frIn at hf
  refine fn_at (E := EE) (fn := Try.f26) (c := Try.f26.body.getD .skip) (rs := Try.f26.results.toList) (nt := Try.f26.ntmps) EE_ok follows (by kernel_rfl) (by kernel_rfl) rfl rfl rfl [] rfl ?_
  refine if_dec_f (fun _ => ?_) (fun h => absurd h (by decide))
  refine if_dec_f (fun _ => ?_) (fun h => absurd h (by decide))
  refine if_dec_f (fun _ => ?_) (fun h => absurd h (by omega))
  refine if_dec (fun h => absurd h (by omega)) (fun _ => ?_)
  obtain ⟨n, hn⟩ : ∃ n : Nat, f.num = n := ⟨f.num.toNat, by omega⟩
  obtain ⟨d, hd⟩ : ∃ d : Nat, f.den = d := ⟨f.den.toNat, by omega⟩
  have e64 : wu (w64 (8 * 8)) = 64 := by decide
  have wn := wu_in (n := f.num) (by unfold in64u; omega)
  have wd := wu_in (n := f.den) (by unfold in64u; omega)
  have hX : wu f.num * wu (w64 (8 * 8)) = ((n * 64 : Nat) : Int) := by rw [e64, wn, hn]; exact (Int.natCast_mul n 64).symm
  have hq' : n * 64 / d ≤ 4611686018427387904 := by
    rw [hn, hd] at hq
    have h1 : ((n * 64 / d : Nat) : Int) = (n : Int) * 64 / (d : Int) := by rw [Int.natCast_ediv, Int.natCast_mul]; rfl
    omega
  have hlt : n * 64 / 18446744073709551616 < d := by
    have h1 : n * 64 < d * (n * 64 / d) + d := Nat.lt_mul_div_succ (n * 64) (by omega)
    have h2 : d * (n * 64 / d) ≤ d * 4611686018427387904 := Nat.mul_le_mul_left _ hq'
    omega
  refine ⟨_, mul_at (a := wu f.num) (b := wu (w64 (8 * 8))) (by rw [wn]; unfold in64u; omega) (by rw [e64]; unfold in64u; omega), ?_⟩
  have hD := div_at (n * 64) d (by omega) hlt
  refine ⟨_, hD.args ⟨rfl, ⟨.of_eq (congrArg U (by rw [hX]; exact (Int.natCast_ediv _ _).symm)), .of_eq (congrArg U (by rw [hX]; exact (Int.natCast_emod _ _).symm)), trivial⟩, rfl, ⟨.of_eq (congrArg U (by show wu f.den = _; rw [wd, hd])), trivial⟩, trivial⟩, ?_⟩
  refine if_ne_f (fun _ => ?_) (fun h => absurd rfl h)
  have hq2 : n * 64 / d < 4611686018427387905 := by omega
  refine if_dec (fun h => absurd (show ((n * 64 / d : Nat) : Int) > 4611686018427387904 from h) (Int.not_lt.2 (Int.ofNat_le.2 hq'))) (fun _ => ?_)
  have hE : eightF f = isq ((n * 64 / d : Nat) : Int) := by
    unfold eightF
    rw [hn, hd, Int.natCast_ediv, Int.natCast_mul]; rfl
  obtain ⟨r1, r2, r3⟩ := isq_ok (n := ((n * 64 / d : Nat) : Int)) (Int.natCast_nonneg _)
  have hw : w64 ((n * 64 / d : Nat) : Int) = ((n * 64 / d : Nat) : Int) := w64_in ⟨Int.le_trans (by decide) (Int.natCast_nonneg _), Int.ofNat_le.2 (Nat.le_trans (Nat.le_of_lt hq2) (by decide))⟩
  rw [hE]
  refine ⟨_, sqrt_at (w64 ((n * 64 / d : Nat) : Int)) (isq ((n * 64 / d : Nat) : Int)) r1 (by rw [hw]; exact r2) (by rw [hw]; exact r3) (by rw [hw]; exact Int.ofNat_le.2 (Nat.le_trans (Nat.le_of_lt hq2) (by decide))), ?_⟩
  exact ⟨⟨rfl, trivial⟩, trivial⟩

/-! ### plane -/
def sgn (c : Int) : Int := if 0 < c then 1 else if c < 0 then -1 else 0
def sideW (e : Ed) (p : Pt) : Int := sgn (crossW (subP e.b e.a) (subP p e.a))
theorem side_at (e : Ed) (p : Pt) : FnAt Try.prog 37 [aEd e, aPt p] [aI (sideW e p)] := by
  refine fn_at (E := EE) (fn := Try.f37) (c := Try.f37.body.getD .skip) (rs := Try.f37.results.toList) (nt := Try.f37.ntmps) EE_ok follows (by kernel_rfl) (by kernel_rfl) rfl rfl rfl [] rfl ?_
  refine ⟨_, sub_at e.b e.a, ?_⟩
  refine ⟨_, sub_at p e.a, ?_⟩
  refine ⟨_, cross_at (subP e.b e.a) (subP p e.a), ?_⟩
  refine if_dec (fun h => ?_) (fun h => ?_)
  · exact ⟨⟨kI (by unfold sideW sgn; rw [if_pos h]), trivial⟩, trivial⟩
  · refine if_dec (fun h' => ?_) (fun h' => ?_)
    · exact ⟨⟨kI (by unfold sideW sgn; rw [if_neg h, if_pos h']), trivial⟩, trivial⟩
    · exact ⟨⟨kI (by unfold sideW sgn; rw [if_neg h, if_neg h']), trivial⟩, trivial⟩
/-- a point's distance from an edge, squared -/
def redF (n d : Int) : Fr := ⟨n / Int.gcd n d, d / Int.gcd n d⟩
def sqN (e : Ed) (p : Pt) : Fr :=
  if dt (way e.b e.a) (way p e.a) ≤ 0 then ⟨dt (way p e.a) (way p e.a), 1⟩
  else if dt (way e.b e.a) (way p e.a) ≥ dt (way e.b e.a) (way e.b e.a) then ⟨dt (way p e.b) (way p e.b), 1⟩
  else redF (crs (way e.b e.a) (way p e.a) * crs (way e.b e.a) (way p e.a)) (dt (way e.b e.a) (way e.b e.a))
theorem sq_nonneg (x : Int) : 0 ≤ x * x := by
  rcases Int.le_total 0 x with h | h
  · exact Int.mul_nonneg h h
  · exact Int.mul_nonneg_of_nonpos_of_nonpos h h
theorem square_at {e : Ed} {p : Pt} (he : edIn 8192 e) (hp : ptIn 33000 p) : FnAt Try.prog 36 [aEd e, aPt p] [aFr (sqN e p)] := by
  have w1 := way_in he.2 he.1
  have w2 := way_in hp (he.1.up (m := 33000) (by decide))
  have w3 := way_in hp (he.2.up (m := 33000) (by decide))
  have w1' := w1.up (m := 66000) (by decide)
  have s1 := subP_eq (by decide) he.2 he.1
  have s2 := subP_eq (by decide) hp (he.1.up (m := 33000) (by decide))
  have s3 := subP_eq (by decide) hp (he.2.up (m := 33000) (by decide))
  have d1 := dotW_eq (by decide) w1' w2
  have d2 := dotW_eq (by decide) w1 w1
  have d3 := dotW_eq (by decide) w2 w2
  have d4 := dotW_eq (by decide) w3 w3
  have c1 := crossW_eq (by decide) w1' w2
  refine fn_at (E := EE) (fn := Try.f36) (c := Try.f36.body.getD .skip) (rs := Try.f36.results.toList) (nt := Try.f36.ntmps) EE_ok follows (by kernel_rfl) (by kernel_rfl) rfl rfl rfl [] rfl ?_
  refine ⟨_, sub_at e.b e.a, ?_⟩
  refine ⟨_, sub_at p e.a, ?_⟩
  refine ⟨_, dot_at (subP e.b e.a) (subP p e.a), ?_⟩
  refine ⟨_, dot_at (subP e.b e.a) (subP e.b e.a), ?_⟩
  refine if_dec (fun h => ?_) (fun h => ?_)
  · have h : dotW (subP e.b e.a) (subP p e.a) ≤ 0 := h
    refine ⟨_, dot_at (subP p e.a) (subP p e.a), ?_⟩
    have hs : sqN e p = ⟨dotW (subP p e.a) (subP p e.a), 1⟩ := by
      unfold sqN
      rw [s1, s2, d1] at h
      rw [if_pos h, s2, d3]
    rw [hs]
    exact ⟨⟨rfl, ⟨rfl, rfl⟩, trivial⟩, trivial⟩
  · have h : ¬ dotW (subP e.b e.a) (subP p e.a) ≤ 0 := h
    refine if_dec (fun h' => ?_) (fun h' => ?_)
    · have h' : dotW (subP e.b e.a) (subP p e.a) ≥ dotW (subP e.b e.a) (subP e.b e.a) := h'
      refine ⟨_, sub_at p e.b, ?_⟩
      refine ⟨_, dot_at (subP p e.b) (subP p e.b), ?_⟩
      have hs : sqN e p = ⟨dotW (subP p e.b) (subP p e.b), 1⟩ := by
        unfold sqN
        rw [s1, s2, d1] at h h'
        rw [d2] at h'
        rw [if_neg h, if_pos h', s3, d4]
      rw [hs]
      exact ⟨⟨rfl, ⟨rfl, rfl⟩, trivial⟩, trivial⟩
    · have h' : ¬ dotW (subP e.b e.a) (subP p e.a) ≥ dotW (subP e.b e.a) (subP e.b e.a) := h'
      refine ⟨_, cross_at (subP e.b e.a) (subP p e.a), ?_⟩
      rw [s1, s2, d1] at h
      rw [s1, s2, d1, d2] at h'
      have hcb : -2162688000 ≤ crs (way e.b e.a) (way p e.a) ∧ crs (way e.b e.a) (way p e.a) ≤ 2162688000 := by
        unfold ptIn at w1 w2
        have m1 := mul_bd (x := (way e.b e.a).x) (y := (way p e.a).y) (B := 16384) (C := 66000) (by omega) (by omega)
        have m2 := mul_bd (x := (way e.b e.a).y) (y := (way p e.a).x) (B := 16384) (C := 66000) (by omega) (by omega)
        unfold crs; omega
      have hdb := dt_in w1 w1
      have hsq := mul_bd (x := crs (way e.b e.a) (way p e.a)) (y := crs (way e.b e.a) (way p e.a)) (B := 2162688000) (C := 2162688000) hcb hcb
      have hw : w64 (crossW (subP e.b e.a) (subP p e.a) * crossW (subP e.b e.a) (subP p e.a)) = crs (way e.b e.a) (way p e.a) * crs (way e.b e.a) (way p e.a) := by
        rw [s1, s2, c1, w64_in (by omega)]
      have hc0 : 0 ≤ crs (way e.b e.a) (way p e.a) * crs (way e.b e.a) (way p e.a) := sq_nonneg _
      have hO := rof_at (crs (way e.b e.a) (way p e.a) * crs (way e.b e.a) (way p e.a)) (dt (way e.b e.a) (way e.b e.a)) hc0 (by omega) (by omega) (by omega)
      refine ⟨_, hO.args ⟨rfl, ⟨.of_eq (congrArg I hw), trivial⟩, rfl, ⟨.of_eq (congrArg I (by rw [s1, d2])), trivial⟩, trivial⟩, ?_⟩
      have hs : sqN e p = redF (crs (way e.b e.a) (way p e.a) * crs (way e.b e.a) (way p e.a)) (dt (way e.b e.a) (way e.b e.a)) := by
        unfold sqN
        rw [if_neg h, if_neg h']
      rw [hs]
      exact ⟨⟨rfl, rfl, trivial⟩, trivial⟩
end Go.Proofs.Ytpadocjddoenhaa
