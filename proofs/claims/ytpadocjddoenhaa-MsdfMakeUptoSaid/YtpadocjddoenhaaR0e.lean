/- The contracts of law10.SdfSign, SdfSmooth. -/
import Derived.Test.YtpadocjddoenhaaR0c
import Derived.Test.YtpadocjddoenhaaSq
namespace Go.Proofs.Ytpadocjddoenhaa
open Go SX
set_option linter.unusedVariables false
set_option maxRecDepth 100000
set_option maxHeartbeats 1000000

/-- what a texel holds, in plain words -/
def nOf (s e : Int) : Int := if e < 256 * s then e * 127 / (256 * s) else 127
theorem nOf_in {s e : Int} (hs : 1 ≤ s ∧ s ≤ 64) (he : 0 ≤ e) : 0 ≤ nOf s e ∧ nOf s e ≤ 127 := by
  unfold nOf
  split
  · refine ⟨Int.ediv_nonneg (by omega) (by omega), ?_⟩
    refine Int.ediv_le_of_le_mul (by omega) ?_
    omega
  · decide
theorem codeN_eq {s sg e : Int} (hs : 1 ≤ s ∧ s ≤ 64) (he : 0 ≤ e) (hsg : -1 ≤ sg ∧ sg ≤ 1) : codeN s sg e = 128 + sg * nOf s e := by
  obtain ⟨h1, h2⟩ := nOf_in hs he
  have h0 : w64 (256 * s) = 256 * s := w64_in (by omega)
  have hn : (if e < w64 (256 * s) then w64 ((w64 (e * 127)).tdiv (w64 (256 * s))) else 127) = nOf s e := by
    rw [h0]
    unfold nOf at h1 h2 ⊢
    split
    · rename_i hlt
      rw [if_pos hlt] at h1 h2
      rw [w64_in (n := e * 127) (by omega), Int.tdiv_eq_ediv_of_nonneg (by omega), w64_in (by omega)]
    · rfl
  unfold codeN
  rw [hn]
  generalize nOf s e = n at *
  have hm : -127 ≤ sg * n ∧ sg * n ≤ 127 := by have := mul_bd (x := sg) (y := n) (B := 1) (C := 127) hsg (by omega); omega
  rw [w64_in (n := sg * n) (by omega), w64_in (by omega), IntKind.wrap_u8]
  omega
theorem sign_in (es : List Ed) (p : Pt) : -1 ≤ sign es p ∧ sign es p ≤ 1 := by
  unfold sign
  repeat' split
  all_goals decide
theorem eight_ge0 {es : List Ed} {p : Pt} (h : edsIn es) (hp : ptIn 33000 p) (h0 : 0 < es.length) : 0 ≤ eight es p := by
  rw [eight_pos h0]
  exact (eightF_ok (near_pos h hp h0).2.2.2).1
theorem texel_val {es : List Ed} {g : Gd} {i k : Int} (h : edsIn es) (hg : gdIn g) (hi : 0 ≤ i ∧ i < 24) (hk : 0 ≤ k ∧ k < 24) (h0 : 0 < es.length) :
    texel es g i k = 128 + sign es (centre g i k) * nOf g.spread (eight es (centre g i k)) ∧ 0 ≤ nOf g.spread (eight es (centre g i k)) ∧ nOf g.spread (eight es (centre g i k)) ≤ 127 := by
  have he := eight_ge0 h (centre_in hg hi hk) h0
  have hs := hg.2.2.2.2.2
  rw [texel_pos h0]
  exact ⟨codeN_eq hs he (sign_in _ _), nOf_in hs he⟩
def inB' (es : List Ed) (p : Pt) : Bool := decide (windN es p ≠ 0) || es.any (onE p)
theorem texel_sign {es : List Ed} {g : Gd} {i k : Int} (h : edsIn es) (hg : gdIn g) (hi : 0 ≤ i ∧ i < 24) (hk : 0 ≤ k ∧ k < 24) :
    (inB' es (centre g i k) = true → ¬ texel es g i k < 128) ∧ (inB' es (centre g i k) = false → ¬ texel es g i k > 128) := by
  rcases Nat.eq_zero_or_pos es.length with h0 | h0
  · obtain rfl := List.eq_nil_of_length_eq_zero h0
    refine ⟨(fun h => by cases h), fun _ => ?_⟩
    rw [texel_nil hg]; decide
  · obtain ⟨e, h1, h2⟩ := texel_val h hg hi hk h0
    rw [e]
    generalize nOf g.spread (eight es (centre g i k)) = n at *
    unfold inB' sign
    cases ha : es.any (onE (centre g i k)) with
    | true => simp
    | false =>
      by_cases hw : windN es (centre g i k) = 0
      · rw [if_neg (by decide), if_neg (fun h => h hw)]
        simp [hw]; omega
      · rw [if_neg (by decide), if_pos hw]
        simp [hw]; omega
end Go.Proofs.Ytpadocjddoenhaa
