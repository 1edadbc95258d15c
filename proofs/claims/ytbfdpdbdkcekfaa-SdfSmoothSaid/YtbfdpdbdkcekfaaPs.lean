/- Who goes a way changes the distance by no more than that: plain. -/
import Derived.Test.YtbfdpdbdkcekfaaPq
import Derived.Test.YtbfdpdbdkcekfaaPn
namespace Go.Proofs.Ytbfdpdbdkcekfaa
open Go SX
set_option linter.unusedVariables false
set_option maxRecDepth 100000
set_option maxHeartbeats 1000000

/-- from a point to the k-th of L places of a way, L times as long -/
def ft (w to : Pt) (k : Int) : Pt := ⟨dt w w * to.x - k * w.x, dt w w * to.y - k * w.y⟩
theorem ft_sq (w to : Pt) (k : Int) : dt (ft w to k) (ft w to k) = dt w w * (dt w w * dt to to - 2 * (k * dt w to) + k * k) := by
  unfold ft dt; dsimp only; grind
theorem way_b (e : Ed) (p : Pt) : dt (way p e.b) (way p e.b) = dt (way p e.a) (way p e.a) - 2 * dt (way e.b e.a) (way p e.a) + dt (way e.b e.a) (way e.b e.a) := by
  unfold dt way; dsimp only; grind
theorem ft_le {e : Ed} {p : Pt} (hL : 1 ≤ dt (way e.b e.a) (way e.b e.a)) {k : Int} (h0 : 0 ≤ k) (hk : k ≤ dt (way e.b e.a) (way e.b e.a)) :
    dt (way e.b e.a) (way e.b e.a) * dt (way e.b e.a) (way e.b e.a) * (sqN e p).num ≤ dt (ft (way e.b e.a) (way p e.a) k) (ft (way e.b e.a) (way p e.a) k) * (sqN e p).den := by
  rw [ft_sq]
  have hg := lagrange (way e.b e.a) (way p e.a)
  have hb := way_b e p
  unfold sqN
  split
  · rename_i hm
    dsimp only
    generalize dt (way e.b e.a) (way p e.a) = m at *
    generalize dt (way e.b e.a) (way e.b e.a) = L at *
    generalize dt (way p e.a) (way p e.a) = t at *
    rw [Int.mul_one, Int.mul_assoc]
    refine Int.mul_le_mul_of_nonneg_left ?_ (by omega)
    have h1 := Int.mul_nonpos_of_nonneg_of_nonpos h0 hm
    have h2 := sq_nonneg k
    omega
  · split
    · rename_i _ hm
      dsimp only
      rw [hb]
      generalize dt (way e.b e.a) (way p e.a) = m at *
      generalize dt (way e.b e.a) (way e.b e.a) = L at *
      generalize dt (way p e.a) (way p e.a) = t at *
      rw [Int.mul_one, Int.mul_assoc]
      refine Int.mul_le_mul_of_nonneg_left ?_ (by omega)
      have h1 := Int.mul_nonneg (show 0 ≤ L - k by omega) (show 0 ≤ 2 * m - L - k by omega)
      have h2 : (L - k) * (2 * m - L - k) = (L * t - 2 * (k * m) + k * k) - L * (t - 2 * m + L) := by grind
      omega
    · obtain ⟨r1, r2, r3, r4, r5⟩ := redF_in (sq_nonneg (crs (way e.b e.a) (way p e.a))) hL
      generalize crs (way e.b e.a) (way p e.a) * crs (way e.b e.a) (way p e.a) = c2 at *
      generalize dt (way e.b e.a) (way p e.a) = m at *
      generalize dt (way e.b e.a) (way e.b e.a) = L at *
      generalize dt (way p e.a) (way p e.a) = t at *
      generalize (redF c2 L).num = N at *
      generalize (redF c2 L).den = D at *
      rw [Int.mul_assoc L L N, Int.mul_assoc L _ D]
      refine Int.mul_le_mul_of_nonneg_left ?_ (by omega)
      have h1 := Int.mul_nonneg (sq_nonneg (m - k)) (show 0 ≤ D by omega)
      have h2 : (L * t - 2 * (k * m) + k * k) * D = L * N + (m - k) * (m - k) * D := by grind
      omega
theorem ft_ex {e : Ed} {p : Pt} (hL : 1 ≤ dt (way e.b e.a) (way e.b e.a)) : ∃ k, 0 ≤ k ∧ k ≤ dt (way e.b e.a) (way e.b e.a) ∧
    dt (way e.b e.a) (way e.b e.a) * dt (way e.b e.a) (way e.b e.a) * (sqN e p).num = dt (ft (way e.b e.a) (way p e.a) k) (ft (way e.b e.a) (way p e.a) k) * (sqN e p).den := by
  have hg := lagrange (way e.b e.a) (way p e.a)
  have hb := way_b e p
  unfold sqN
  split
  · refine ⟨0, Int.le_refl _, by omega, ?_⟩
    rw [ft_sq]
    dsimp only
    generalize dt (way e.b e.a) (way p e.a) = m at *
    generalize dt (way e.b e.a) (way e.b e.a) = L at *
    generalize dt (way p e.a) (way p e.a) = t at *
    grind
  · split
    · refine ⟨dt (way e.b e.a) (way e.b e.a), by omega, Int.le_refl _, ?_⟩
      rw [ft_sq]
      dsimp only
      rw [hb]
      generalize dt (way e.b e.a) (way p e.a) = m at *
      generalize dt (way e.b e.a) (way e.b e.a) = L at *
      generalize dt (way p e.a) (way p e.a) = t at *
      grind
    · refine ⟨dt (way e.b e.a) (way p e.a), by omega, by omega, ?_⟩
      rw [ft_sq]
      obtain ⟨r1, r2, r3, r4, r5⟩ := redF_in (sq_nonneg (crs (way e.b e.a) (way p e.a))) hL
      generalize crs (way e.b e.a) (way p e.a) * crs (way e.b e.a) (way p e.a) = c2 at *
      generalize dt (way e.b e.a) (way p e.a) = m at *
      generalize dt (way e.b e.a) (way e.b e.a) = L at *
      generalize dt (way p e.a) (way p e.a) = t at *
      generalize (redF c2 L).num = N at *
      generalize (redF c2 L).den = D at *
      have h2 : (L * t - 2 * (m * m) + m * m) * D = L * N := by grind
      rw [Int.mul_assoc L L N, Int.mul_assoc L _ D, h2]
theorem lt_of_sq {a b : Int} (ha : 0 ≤ a) (hb : 0 ≤ b) (h : a * a < b * b) : a < b := by
  rcases Int.lt_or_le a b with h' | h'
  · exact h'
  · have := Int.mul_le_mul h' h' hb ha; omega
theorem step_num {L N D N' D' uu vv ud dd x y s : Int} (hL : 1 ≤ L) (hD : 1 ≤ D) (hD' : 1 ≤ D') (h1 : L * L * N = uu * D) (h2 : L * L * N' ≤ vv * D') (h3 : vv = uu + 2 * (L * ud) + L * L * dd) (h4 : ud * ud ≤ uu * dd)
    (huu : 0 ≤ uu) (hdd : 0 ≤ dd) (hx0 : 0 ≤ x) (hx : x * x * D' ≤ 64 * N') (hy0 : 0 ≤ y) (hy : 64 * N < (y + 1) * (y + 1) * D) (hs0 : 0 ≤ s) (hs : 64 * dd < (s + 1) * (s + 1)) : x ≤ y + s + 1 := by
  have hLL : 0 < L * L := Int.mul_pos (by omega) (by omega)
  have a : 64 * uu < (y + 1) * (y + 1) * (L * L) := by
    have q := Int.mul_lt_mul_of_pos_left hy hLL
    have e1 : L * L * (64 * N) = 64 * uu * D := by grind
    have e2 : L * L * ((y + 1) * (y + 1) * D) = (y + 1) * (y + 1) * (L * L) * D := by grind
    rw [e1, e2] at q
    exact Int.lt_of_mul_lt_mul_right q (by omega)
  have b : x * x * (L * L) ≤ 64 * vv := by
    have q := Int.mul_le_mul_of_nonneg_left hx (Int.le_of_lt hLL)
    refine le_of_mul (c := D') (by omega) ?_
    have e1 : x * x * (L * L) * D' = L * L * (x * x * D') := by grind
    have e2 : L * L * (64 * N') = 64 * (L * L * N') := by grind
    rw [e1]
    rw [e2] at q
    have e3 : 64 * vv * D' = 64 * (vv * D') := by grind
    rw [e3]
    omega
  have c : 64 * ud ≤ (y + 1) * L * (s + 1) := by
    rcases Int.lt_or_le ((y + 1) * L * (s + 1)) (64 * ud) with h | h
    · exfalso
      have hP : 0 < (y + 1) * L * (s + 1) := Int.mul_pos (Int.mul_pos (by omega) (by omega)) (by omega)
      have q1 : (64 * uu) * (64 * dd) ≤ ((y + 1) * (y + 1) * (L * L)) * ((s + 1) * (s + 1)) := Int.mul_le_mul (Int.le_of_lt a) (Int.le_of_lt hs) (by omega) (by have := sq_nonneg (y + 1); exact Int.mul_nonneg this (Int.le_of_lt hLL))
      have e1 : (64 * uu) * (64 * dd) = 4096 * (uu * dd) := by grind
      have e2 : ((y + 1) * (y + 1) * (L * L)) * ((s + 1) * (s + 1)) = (y + 1) * L * (s + 1) * ((y + 1) * L * (s + 1)) := by grind
      have e3 : (64 * ud) * (64 * ud) = 4096 * (ud * ud) := by grind
      have q2 : (y + 1) * L * (s + 1) * ((y + 1) * L * (s + 1)) < (64 * ud) * (64 * ud) := Int.mul_lt_mul h (Int.le_of_lt h) hP (by omega)
      omega
    · exact h
  have d : 64 * vv < (y + s + 2) * (y + s + 2) * (L * L) := by
    have q1 := Int.mul_le_mul_of_nonneg_left c (show 0 ≤ 2 * L by omega)
    have q2 := Int.mul_le_mul_of_nonneg_left (Int.le_of_lt hs) (Int.le_of_lt hLL)
    have e1 : 64 * vv = 64 * uu + 2 * L * (64 * ud) + L * L * (64 * dd) := by rw [h3]; grind
    have e2 : (y + s + 2) * (y + s + 2) * (L * L) = (y + 1) * (y + 1) * (L * L) + 2 * L * ((y + 1) * L * (s + 1)) + L * L * ((s + 1) * (s + 1)) := by grind
    omega
  have f : x * x < (y + s + 2) * (y + s + 2) := Int.lt_of_mul_lt_mul_right (Int.lt_of_le_of_lt b d) (Int.le_of_lt hLL)
  have := lt_of_sq hx0 (by omega) f
  omega
theorem edge_step {e : Ed} {a b : Pt} (he : edIn 8192 e) (hne : e.a ≠ e.b) (ha : ptIn 33000 a) (hb : ptIn 33000 b) {s : Int} (hs0 : 0 ≤ s) (hs : 64 * dt (way a b) (way a b) < (s + 1) * (s + 1)) : eightF (sqN e a) ≤ eightF (sqN e b) + s + 1 := by
  have fa := sqN_in he ha
  have fb := sqN_in he hb
  obtain ⟨x0, x1, _⟩ := eightF_ok fa
  obtain ⟨y0, _, y1⟩ := eightF_ok fb
  have hL : 1 ≤ dt (way e.b e.a) (way e.b e.a) := by
    have := dt_pos (a := way e.b e.a) (by
      unfold way; dsimp only
      rcases Int.lt_trichotomy e.a.x e.b.x with h | h | h
      · left; omega
      · rcases Int.lt_trichotomy e.a.y e.b.y with h' | h' | h'
        · right; omega
        · exact absurd (by rcases e with ⟨⟨_, _⟩, ⟨_, _⟩⟩; simp only at h h'; subst h; subst h'; rfl) hne
        · right; omega
      · left; omega)
    omega
  obtain ⟨k, k0, k1, k2⟩ := ft_ex (e := e) (p := b) hL
  have k3 := ft_le (e := e) (p := a) hL k0 k1
  unfold frIn at fa fb
  refine step_num (ud := dt (ft (way e.b e.a) (way b e.a) k) (way a b)) hL fb.2.2.1 fa.2.2.1 k2 k3 ?_ ?_ (dt_nonneg _) (dt_nonneg _) x0 x1 y0 y1 hs0 hs
  · generalize hl : dt (way e.b e.a) (way e.b e.a) = L
    unfold ft
    rw [hl]
    unfold dt way; dsimp only; grind
  · rw [lagrange]
    have := sq_nonneg (crs (ft (way e.b e.a) (way b e.a) k) (way a b))
    omega
theorem eight_step {es : List Ed} {a b : Pt} (h : edsIn es) (hne : ∀ e ∈ es, e.a ≠ e.b) (ha : ptIn 33000 a) (hb : ptIn 33000 b) {s : Int} (hs0 : 0 ≤ s) (hs : 64 * dt (way a b) (way a b) < (s + 1) * (s + 1)) : eight es a ≤ eight es b + s + 1 := by
  rcases Nat.eq_zero_or_pos es.length with h' | h'
  · obtain rfl := List.eq_nil_of_length_eq_zero h'
    show (-1 : Int) ≤ -1 + s + 1
    omega
  · obtain ⟨e, he, q⟩ := eight_in h hb h'
    rw [q]
    exact Int.le_trans (eight_le h ha he) (edge_step (h.1 e he) (hne e he) ha hb hs0 hs)
end Go.Proofs.Ytbfdpdbdkcekfaa
