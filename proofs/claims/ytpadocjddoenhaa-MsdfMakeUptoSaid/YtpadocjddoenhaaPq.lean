/- Plain laws of least distances. -/
import Derived.Test.YtpadocjddoenhaaPu
namespace Go.Proofs.Ytpadocjddoenhaa
open Go SX
set_option linter.unusedVariables false
set_option maxRecDepth 100000

theorem cmpF_lt {f g : Fr} : cmpF f g < 0 ↔ f.num * g.den < g.num * f.den := by
  unfold cmpF cmpI
  split
  · rename_i h; constructor <;> intro h' <;> first | exact h | decide
  · split <;> constructor <;> intro h' <;> omega
theorem cmpF_eq {f g : Fr} : cmpF f g = 0 ↔ f.num * g.den = g.num * f.den := by
  unfold cmpF cmpI
  split
  · constructor <;> intro h' <;> omega
  · split <;> constructor <;> intro h' <;> omega
/-- f lies no farther than g -/
def leF (f g : Fr) : Prop := f.num * g.den ≤ g.num * f.den
def ltF (f g : Fr) : Prop := f.num * g.den < g.num * f.den
theorem le_of_mul {a b c : Int} (hc : 0 < c) (h : a * c ≤ b * c) : a ≤ b := Int.le_of_mul_le_mul_right h hc
theorem leF.trans {f g k : Fr} (hf : frIn f) (hg : frIn g) (hk : frIn k) (h1 : leF f g) (h2 : leF g k) : leF f k := by
  unfold frIn at hf hg hk
  unfold leF at *
  refine le_of_mul (c := g.den) (by omega) ?_
  have a1 := Int.mul_le_mul_of_nonneg_right h1 (show 0 ≤ k.den by omega)
  have a2 := Int.mul_le_mul_of_nonneg_right h2 (show 0 ≤ f.den by omega)
  have e1 : f.num * k.den * g.den = f.num * g.den * k.den := by rw [Int.mul_assoc, Int.mul_comm k.den, ← Int.mul_assoc]
  have e2 : k.num * f.den * g.den = k.num * g.den * f.den := by rw [Int.mul_assoc, Int.mul_comm f.den, ← Int.mul_assoc]
  have e3 : g.num * f.den * k.den = g.num * k.den * f.den := by rw [Int.mul_assoc, Int.mul_comm f.den, ← Int.mul_assoc]
  rw [e1, e2]
  rw [e3] at a1
  exact Int.le_trans a1 a2
theorem ltF_iff {f g : Fr} : ltF f g ↔ ¬ leF g f := by unfold ltF leF; omega
theorem leF.refl (f : Fr) : leF f f := Int.le_refl _
/-- the least, and the first that has it -/
theorem near_least {es : List Ed} {p : Pt} (hb : ∀ e ∈ es, edIn 8192 e) (hp : ptIn 33000 p) : ∀ i, i ≤ es.length → ∀ j, j < i → leF (nearTo es p i).best (sqN (es.getD j default) p) ∧ ((j : Int) < (nearTo es p i).at' → ltF (nearTo es p i).best (sqN (es.getD j default) p))
  | 0, _ => fun j hj => by omega
  | i + 1, hi => by
    intro j hj
    have ih := near_least hb hp i (by omega)
    obtain ⟨h1, h2⟩ := nearTo_ok hb hp i (by omega)
    have hf : ∀ j, j < es.length → frIn (sqN (es.getD j default) p) := fun j hj => sqN_in (hb _ (getD_mem' hj)) hp
    show leF (nearStep p (nearTo es p i) (i, es.getD i default)).best _ ∧ ((j : Int) < (nearStep p (nearTo es p i) (i, es.getD i default)).at' → ltF (nearStep p (nearTo es p i) (i, es.getD i default)).best _)
    unfold nearStep
    split
    · rename_i hc
      rcases Nat.lt_or_ge j i with hji | hji
      · obtain ⟨a, b⟩ := ih j hji
        obtain ⟨c, _, _, d⟩ := h2 (by omega)
        rcases hc with hc | hc
        · omega
        · have hc := cmpF_lt.1 hc
          have hlt : ltF (sqN (es.getD i default) p) (sqN (es.getD j default) p) := by
            rw [ltF_iff]
            intro hle
            have := leF.trans d (hf j (by omega)) (hf i (by omega)) a hle
            unfold leF at this; dsimp only at hc; omega
          refine ⟨?_, fun _ => hlt⟩
          unfold ltF at hlt; unfold leF; dsimp only; omega
      · obtain rfl : j = i := by omega
        exact ⟨leF.refl _, fun h => by dsimp only at h; omega⟩
    · rename_i hc
      rcases Nat.lt_or_ge j i with hji | hji
      · exact ih j hji
      · obtain rfl : j = i := by omega
        have hle : leF (nearTo es p j).best (sqN (es.getD j default) p) := by
          have : ¬ (sqN (es.getD j default) p).num * (nearTo es p j).best.den < (nearTo es p j).best.num * (sqN (es.getD j default) p).den := fun h => hc (.inr (cmpF_lt.2 h))
          unfold leF; omega
        refine ⟨hle, fun h => ?_⟩
        rcases Nat.eq_zero_or_pos j with h0 | h0
        · have := h1 h0; omega
        · have := (h2 h0).2.1; omega
theorem near_le {es : List Ed} {p : Pt} (h : edsIn es) (hp : ptIn 33000 p) {e : Ed} (he : e ∈ es) : leF (near es p).best (sqN e p) := by
  obtain ⟨j, hj, rfl⟩ := List.getElem_of_mem he
  have := (near_least h.1 hp es.length (Nat.le_refl _) j hj).1
  rwa [List.getD_eq_getElem?_getD, List.getElem?_eq_getElem hj] at this
theorem near_in {es : List Ed} {p : Pt} (h : edsIn es) (hp : ptIn 33000 p) (h0 : 0 < es.length) : ∃ e ∈ es, (near es p).best = sqN e p := by
  obtain ⟨a, b, c, _⟩ := near_pos h hp h0
  exact ⟨_, getD_mem' (l := es) (i := (near es p).at'.toNat) (by omega), c⟩
/-- eight times the root goes with the fraction -/
theorem isq_mono {m n : Int} (hm : 0 ≤ m) (h : m ≤ n) : isq m ≤ isq n := by
  obtain ⟨a1, a2, a3⟩ := isq_ok hm
  obtain ⟨b1, b2, b3⟩ := isq_ok (show 0 ≤ n by omega)
  rcases Int.lt_or_le (isq n) (isq m) with h' | h'
  · have : (isq n + 1) * (isq n + 1) ≤ isq m * isq m := Int.mul_le_mul (by omega) (by omega) (by omega) a1
    omega
  · exact h'
theorem eightF_mono {f g : Fr} (hf : frIn f) (hg : frIn g) (h : leF f g) : eightF f ≤ eightF g := by
  unfold frIn at hf hg
  unfold leF at h
  unfold eightF
  refine isq_mono (Int.ediv_nonneg (by omega) (by omega)) ?_
  rw [Int.le_ediv_iff_mul_le (by omega)]
  have h1 : f.num * 64 / f.den * f.den ≤ f.num * 64 := Int.ediv_mul_le _ (by omega)
  refine le_of_mul (c := f.den) (by omega) ?_
  have a1 := Int.mul_le_mul_of_nonneg_right h1 (show 0 ≤ g.den by omega)
  have e1 : f.num * 64 / f.den * g.den * f.den = f.num * 64 / f.den * f.den * g.den := by rw [Int.mul_assoc, Int.mul_comm g.den, ← Int.mul_assoc]
  rw [e1]
  have e2 : f.num * 64 * g.den = f.num * g.den * 64 := by rw [Int.mul_assoc, Int.mul_comm 64, ← Int.mul_assoc]
  have e3 : g.num * 64 * f.den = g.num * f.den * 64 := by rw [Int.mul_assoc, Int.mul_comm 64, ← Int.mul_assoc]
  rw [e2] at a1
  rw [e3]
  omega
theorem eight_pos {es : List Ed} {p : Pt} (h0 : 0 < es.length) : eight es p = eightF (near es p).best := by
  cases es with
  | nil => simp at h0
  | cons e es => rfl
theorem eight_le {es : List Ed} {p : Pt} (h : edsIn es) (hp : ptIn 33000 p) {e : Ed} (he : e ∈ es) : eight es p ≤ eightF (sqN e p) := by
  have h0 : 0 < es.length := List.length_pos_of_mem he
  rw [eight_pos h0]
  exact eightF_mono (near_pos h hp h0).2.2.2 (sqN_in (h.1 e he) hp) (near_le h hp he)
theorem eight_in {es : List Ed} {p : Pt} (h : edsIn es) (hp : ptIn 33000 p) (h0 : 0 < es.length) : ∃ e ∈ es, eight es p = eightF (sqN e p) := by
  obtain ⟨e, he, hb⟩ := near_in h hp h0
  exact ⟨e, he, by rw [eight_pos h0, hb]⟩
theorem eightF_ok {f : Fr} (hf : frIn f) : 0 ≤ eightF f ∧ eightF f * eightF f * f.den ≤ 64 * f.num ∧ 64 * f.num < (eightF f + 1) * (eightF f + 1) * f.den := by
  unfold frIn at hf
  obtain ⟨a, b, c⟩ := isq_ok (n := f.num * 64 / f.den) (Int.ediv_nonneg (by omega) (by omega))
  unfold eightF
  refine ⟨a, ?_, ?_⟩
  · have := (Int.le_ediv_iff_mul_le (by omega)).1 b
    omega
  · have := (Int.ediv_lt_iff_lt_mul (by omega)).1 c
    omega
end Go.Proofs.Ytpadocjddoenhaa
