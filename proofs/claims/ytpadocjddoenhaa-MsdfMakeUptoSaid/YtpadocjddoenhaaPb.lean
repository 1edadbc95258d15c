/- The contracts of plane, root. -/
import Derived.Test.YtpadocjddoenhaaPa
namespace Go.Proofs.Ytpadocjddoenhaa
open Go SX
set_option linter.unusedVariables false
set_option maxRecDepth 100000

/-! ### plane -/
def subP (a b : Pt) : Pt := ⟨w64 (a.x - b.x), w64 (a.y - b.y)⟩
def crossW (a b : Pt) : Int := w64 (w64 (a.x * b.y) - w64 (a.y * b.x))
def dotW (a b : Pt) : Int := w64 (w64 (a.x * b.x) + w64 (a.y * b.y))
theorem sub_at (a b : Pt) : FnAt Try.prog 57 [aPt a, aPt b] [aPt (subP a b)] := by
  refine fn_at (E := EE) (fn := Try.f57) (c := Try.f57.body.getD .skip) (rs := Try.f57.results.toList) (nt := Try.f57.ntmps) EE_ok follows (by kernel_rfl) (by kernel_rfl) rfl rfl rfl [] rfl ?_
  exact ⟨⟨rfl, rfl, trivial⟩, trivial⟩
theorem cross_at (a b : Pt) : FnAt Try.prog 59 [aPt a, aPt b] [aI (crossW a b)] := by
  refine fn_at (E := EE) (fn := Try.f59) (c := Try.f59.body.getD .skip) (rs := Try.f59.results.toList) (nt := Try.f59.ntmps) EE_ok follows (by kernel_rfl) (by kernel_rfl) rfl rfl rfl [] rfl ?_
  exact ⟨⟨rfl, trivial⟩, trivial⟩
theorem dot_at (a b : Pt) : FnAt Try.prog 58 [aPt a, aPt b] [aI (dotW a b)] := by
  refine fn_at (E := EE) (fn := Try.f58) (c := Try.f58.body.getD .skip) (rs := Try.f58.results.toList) (nt := Try.f58.ntmps) EE_ok follows (by kernel_rfl) (by kernel_rfl) rfl rfl rfl [] rfl ?_
  exact ⟨⟨rfl, trivial⟩, trivial⟩

/-! ### root.Sqrt -/
theorem sq_le {a b : Int} (h0 : 0 ≤ a) (h : a ≤ b) : a * a ≤ b * b := Int.mul_le_mul h h h0 (by omega)
theorem sq_lt {a b : Int} (h0 : 0 ≤ a) (h : a < b) : a * a < b * b := by
  have h1 := sq_le (a := a + 1) (b := b) (by omega) (by omega)
  have h2 : (a + 1) * (a + 1) = a * a + 2 * a + 1 := by rw [Int.add_mul, Int.mul_add]; omega
  omega
theorem sq_uniq {a b n : Int} (ha : 0 ≤ a) (hb : 0 ≤ b) (h1 : a * a ≤ n) (h2 : n < (a + 1) * (a + 1)) (h3 : b * b ≤ n) (h4 : n < (b + 1) * (b + 1)) : a = b := by
  rcases Int.lt_trichotomy a b with h | h | h
  · have := sq_le (a := a + 1) (b := b) (by omega) (by omega); omega
  · exact h
  · have := sq_le (a := b + 1) (b := a) (by omega) (by omega); omega
noncomputable def SSqrt (n : Int) (p : Int × Int) : SS := mkS [(0, .o (.v (.int .i64 n))), (3, .o (.v (.int .i64 p.1))), (4, .o (.v (.int .i64 p.2)))] [] [] 0 Try.f47.ntmps
def InvSqrt (n : Int) (p : Int × Int) : Prop := 0 ≤ p.1 ∧ p.1 < p.2 ∧ p.2 ≤ 3037000500 ∧ p.1 * p.1 ≤ n ∧ n < p.2 * p.2
theorem sqrt_at (n : Int) (r : Int) (h0 : 0 ≤ r) (h1 : r * r ≤ n) (h2 : n < (r + 1) * (r + 1)) (hn : n ≤ 9223372036854775807) : FnAt Try.prog 47 [aI n] [aI r] := by
  have hr : 0 ≤ r * r := Int.mul_nonneg h0 h0
  refine fn_at (E := EE) (fn := Try.f47) (c := Try.f47.body.getD .skip) (rs := Try.f47.results.toList) (nt := Try.f47.ntmps) EE_ok follows (by kernel_rfl) (by kernel_rfl) rfl rfl rfl [] rfl ?_
  refine loop_inv (InvSqrt n) (fun p => (p.2 - p.1).toNat) (SSqrt n) (0, 3037000500) ⟨by decide, by decide, by decide, by show (0 : Int) * 0 ≤ n; omega, by show n < 3037000500 * 3037000500; omega⟩ ?_ (fun p hp => ?_)
  · refine ent_of (rl := []) (nl := []) ⟨rfl, ?_, ?_, trivial, rfl, rfl, Nat.zero_le _, trivial, trivial⟩ <;> (repeat' (first | exact trivial | exact SameL.refl _ | exact ep_seal rfl rfl | assumption | exact congrArg (Value.int _) (by assumption) | exact rfl | exact Nat.le_of_ble_eq_true rfl | decide | apply And.intro))
  obtain ⟨lo, hi⟩ := p
  obtain ⟨i1, i2, i3, i4, i5⟩ := hp
  dsimp only at i1 i2 i3 i4 i5
  have fin : n ≤ 0 ∨ hi - 1 ≤ lo → lo = r := by
    intro h
    rcases h with h | h
    · have hz : n = 0 := by omega
      have : lo = 0 := by
        rcases Int.lt_or_le 0 lo with h' | h'
        · have := sq_le (a := 1) (b := lo) (by omega) (by omega); omega
        · omega
      have : r = 0 := by
        rcases Int.lt_or_le 0 r with h' | h'
        · have := sq_le (a := 1) (b := r) (by omega) (by omega); omega
        · omega
      omega
    · have : hi = lo + 1 := by omega
      subst this
      exact sq_uniq i1 h0 i4 i5 h1 h2
  refine if_dec (fun hpos => ?_) (fun hneg => ?_)
  · refine if_dec (fun hlt => ?_) (fun hge => ?_)
    · have hlt : lo < w64 (hi - 1) := hlt
      rw [w64_in (by omega)] at hlt
      have hm : w64 ((w64 (lo + hi)).tdiv 2) = (lo + hi) / 2 := by
        rw [w64_in (n := lo + hi) (by omega), Int.tdiv_eq_ediv_of_nonneg (by omega), w64_in (by omega)]
      have hmm : w64 (w64 ((w64 (lo + hi)).tdiv 2) * w64 ((w64 (lo + hi)).tdiv 2)) = ((lo + hi) / 2) * ((lo + hi) / 2) := by
        rw [hm]
        have h3 := sq_le (a := (lo + hi) / 2) (b := 3037000499) (by omega) (by omega)
        have h4 : 0 ≤ (lo + hi) / 2 * ((lo + hi) / 2) := Int.mul_nonneg (by omega) (by omega)
        rw [w64_in (by omega)]
      refine if_dec (fun hle => ?_) (fun hgt => ?_)
      · have hle : w64 (w64 ((w64 (lo + hi)).tdiv 2) * w64 ((w64 (lo + hi)).tdiv 2)) ≤ n := hle
        rw [hmm] at hle
        refine ⟨((lo + hi) / 2, hi), ⟨?_, ?_⟩, ?_⟩
        · show (hi - (lo + hi) / 2).toNat < (hi - lo).toNat; omega
        · exact ⟨by show 0 ≤ (lo + hi) / 2; omega, by show (lo + hi) / 2 < hi; omega, i3, hle, i5⟩
        · refine ent_of (rl := []) (nl := []) ⟨rfl, ?_, ?_, trivial, rfl, rfl, Nat.zero_le _, trivial, trivial⟩ <;> (repeat' (first | exact trivial | exact SameL.refl _ | exact ep_seal rfl rfl | assumption | exact congrArg (Value.int _) (by assumption) | exact rfl | exact Nat.le_of_ble_eq_true rfl | decide | apply And.intro))
      · have hgt : ¬ w64 (w64 ((w64 (lo + hi)).tdiv 2) * w64 ((w64 (lo + hi)).tdiv 2)) ≤ n := hgt
        rw [hmm] at hgt
        refine ⟨(lo, (lo + hi) / 2), ⟨?_, ?_⟩, ?_⟩
        · show ((lo + hi) / 2 - lo).toNat < (hi - lo).toNat; omega
        · exact ⟨i1, by show lo < (lo + hi) / 2; omega, by show (lo + hi) / 2 ≤ _; omega, i4, by show n < (lo + hi) / 2 * ((lo + hi) / 2); omega⟩
        · refine ent_of (rl := []) (nl := []) ⟨rfl, ?_, ?_, trivial, rfl, rfl, Nat.zero_le _, trivial, trivial⟩ <;> (repeat' (first | exact trivial | exact SameL.refl _ | exact ep_seal rfl rfl | assumption | exact congrArg (Value.int _) (by assumption) | exact rfl | exact Nat.le_of_ble_eq_true rfl | decide | apply And.intro))
    · have hge : ¬ lo < w64 (hi - 1) := hge
      rw [w64_in (by omega)] at hge
      exact ⟨⟨vI (fin (.inr (by omega))).symm, trivial⟩, trivial⟩
  · exact ⟨⟨vI (fin (.inl (by omega))).symm, trivial⟩, trivial⟩
end Go.Proofs.Ytpadocjddoenhaa
