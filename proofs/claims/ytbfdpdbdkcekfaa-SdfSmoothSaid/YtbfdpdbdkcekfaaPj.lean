/- Points side by side: if edges go round one alone, the two distances are no more than the way between. Plain. -/
import Derived.Test.YtbfdpdbdkcekfaaPs
import Derived.Test.YtbfdpdbdkcekfaaPo
namespace Go.Proofs.Ytbfdpdbdkcekfaa
open Go SX
set_option linter.unusedVariables false
set_option maxRecDepth 100000
set_option maxHeartbeats 1000000

theorem gen_le {e : Ed} {p : Pt} (hL : 1 ≤ dt (way e.b e.a) (way e.b e.a)) {s D K : Int} (h0 : 0 ≤ s) (h1 : s ≤ D) (hD : 0 < D)
    (hK : D * D * dt (way p e.a) (way p e.a) - 2 * (s * D * dt (way e.b e.a) (way p e.a)) + s * s * dt (way e.b e.a) (way e.b e.a) = K) :
    D * D * (sqN e p).num ≤ K * (sqN e p).den := by
  have hg := lagrange (way e.b e.a) (way p e.a)
  have hb := way_b e p
  subst hK
  unfold sqN
  split
  · rename_i hm
    dsimp only
    generalize dt (way e.b e.a) (way p e.a) = m at *
    generalize dt (way e.b e.a) (way e.b e.a) = L at *
    generalize dt (way p e.a) (way p e.a) = t at *
    rw [Int.mul_one]
    have a1 := Int.mul_nonpos_of_nonneg_of_nonpos (Int.mul_nonneg h0 (Int.le_of_lt hD)) hm
    have a2 := Int.mul_nonneg (sq_nonneg s) (show 0 ≤ L by omega)
    omega
  · split
    · rename_i _ hm
      dsimp only
      rw [hb]
      generalize dt (way e.b e.a) (way p e.a) = m at *
      generalize dt (way e.b e.a) (way e.b e.a) = L at *
      generalize dt (way p e.a) (way p e.a) = t at *
      rw [Int.mul_one]
      have a1 := Int.mul_nonneg (show 0 ≤ D - s by omega) (Int.mul_nonneg (show 0 ≤ 2 * D by omega) (show 0 ≤ m - L by omega))
      have a2 := Int.mul_nonneg (sq_nonneg (D - s)) (show 0 ≤ L by omega)
      have e1 : D * D * t - 2 * (s * D * m) + s * s * L - D * D * (t - 2 * m + L) = (D - s) * (2 * D * (m - L)) + (D - s) * (D - s) * L := by grind
      omega
    · obtain ⟨r1, r2, r3, r4, r5⟩ := redF_in (sq_nonneg (crs (way e.b e.a) (way p e.a))) hL
      generalize crs (way e.b e.a) (way p e.a) * crs (way e.b e.a) (way p e.a) = c2 at *
      generalize dt (way e.b e.a) (way p e.a) = m at *
      generalize dt (way e.b e.a) (way e.b e.a) = L at *
      generalize dt (way p e.a) (way p e.a) = t at *
      generalize (redF c2 L).num = N at *
      generalize (redF c2 L).den = Q at *
      refine le_of_mul (c := L) (by omega) ?_
      have a1 := Int.mul_nonneg (sq_nonneg (D * m - s * L)) (show 0 ≤ Q by omega)
      have e1 : (D * D * t - 2 * (s * D * m) + s * s * L) * Q * L = D * D * (c2 * Q) + (D * m - s * L) * (D * m - s * L) * Q := by grind
      have e2 : D * D * N * L = D * D * (c2 * Q) := by grind
      omega
theorem eightF_le {e : Ed} {p : Pt} (he : edIn 8192 e) (hp : ptIn 33000 p) {D c : Int} (hD : 0 < D) (hc : 0 ≤ c) (h : D * D * (sqN e p).num ≤ c * c * (sqN e p).den) : eightF (sqN e p) * D ≤ 8 * c := by
  have hf := sqN_in he hp
  obtain ⟨x0, x1, _⟩ := eightF_ok hf
  unfold frIn at hf
  generalize eightF (sqN e p) = x at *
  generalize (sqN e p).num = N at *
  generalize (sqN e p).den = Q at *
  rcases Int.lt_or_le (8 * c) (x * D) with h' | h'
  · exfalso
    have a1 := Int.mul_le_mul (show 8 * c + 1 ≤ x * D by omega) (show 8 * c + 1 ≤ x * D by omega) (by omega) (by omega)
    have a2 := Int.mul_le_mul_of_nonneg_left x1 (sq_nonneg D)
    have a3 : x * D * (x * D) * Q ≤ 64 * (c * c) * Q := by
      have e1 : x * D * (x * D) * Q = D * D * (x * x * Q) := by grind
      have e2 : D * D * (64 * N) = 64 * (D * D * N) := by grind
      have e3 : 64 * (c * c) * Q = 64 * (c * c * Q) := by grind
      omega
    have a4 := le_of_mul (c := Q) (by omega) a3
    have e4 : (8 * c + 1) * (8 * c + 1) = 64 * (c * c) + 16 * c + 1 := by grind
    omega
  · exact h'
theorem two_le {e : Ed} {p q : Pt} (he : edIn 8192 e) (hp : ptIn 33000 p) (hq : ptIn 33000 q) (hL : 1 ≤ dt (way e.b e.a) (way e.b e.a)) {s s' D d cp cq : Int} (h0 : 0 ≤ s) (h1 : s ≤ D) (h0' : 0 ≤ s') (h1' : s' ≤ D) (hD : 0 < D) (hd : 0 ≤ d)
    (hp' : D * D * dt (way p e.a) (way p e.a) - 2 * (s * D * dt (way e.b e.a) (way p e.a)) + s * s * dt (way e.b e.a) (way e.b e.a) = cp * cp)
    (hq' : D * D * dt (way q e.a) (way q e.a) - 2 * (s' * D * dt (way e.b e.a) (way q e.a)) + s' * s' * dt (way e.b e.a) (way e.b e.a) = cq * cq)
    (hc : (0 ≤ cp ∧ cq ≤ 0) ∨ (cp ≤ 0 ∧ 0 ≤ cq)) (hm : cp - cq = D * d ∨ cq - cp = D * d) : eightF (sqN e p) + eightF (sqN e q) ≤ 8 * d := by
  have a := gen_le hL h0 h1 hD hp'
  have b := gen_le hL h0' h1' hD hq'
  have hDd := Int.mul_nonneg (Int.le_of_lt hD) hd
  refine le_of_mul (c := D) hD ?_
  have e1 : (eightF (sqN e p) + eightF (sqN e q)) * D = eightF (sqN e p) * D + eightF (sqN e q) * D := by grind
  have e2 : 8 * d * D = 8 * (D * d) := by grind
  rw [e1, e2]
  rcases hc with ⟨c1, c2⟩ | ⟨c1, c2⟩
  · have a' := eightF_le he hp hD c1 a
    have b' := eightF_le he hq hD (c := -cq) (by omega) (by rw [Int.neg_mul_neg]; exact b)
    omega
  · have a' := eightF_le he hp hD (c := -cp) (by omega) (by rw [Int.neg_mul_neg]; exact a)
    have b' := eightF_le he hq hD c2 b
    omega
theorem len_pos {e : Ed} (hne : e.a ≠ e.b) : 1 ≤ dt (way e.b e.a) (way e.b e.a) := by
  have := dt_pos (a := way e.b e.a) (by
    unfold way; dsimp only
    rcases Int.lt_trichotomy e.a.x e.b.x with h | h | h
    · left; omega
    · rcases Int.lt_trichotomy e.a.y e.b.y with h' | h' | h'
      · right; omega
      · exact absurd (by rcases e with ⟨⟨_, _⟩, ⟨_, _⟩⟩; simp only at h h'; subst h; subst h'; rfl) hne
      · right; omega
    · left; omega)
  omega
theorem line_h {e : Ed} {p q : Pt} (he : edIn 8192 e) (hne : e.a ≠ e.b) (hp : ptIn 33000 p) (hq : ptIn 33000 q) {d : Int} (hd : 0 ≤ d) (hx : q.x = p.x + d) (hy : q.y = p.y)
    (hs : (e.a.y ≤ p.y ∧ p.y ≤ e.b.y ∧ e.a.y < e.b.y) ∨ (e.b.y ≤ p.y ∧ p.y ≤ e.a.y ∧ e.b.y < e.a.y))
    (hc : (0 ≤ crs (way e.b e.a) (way p e.a) ∧ crs (way e.b e.a) (way q e.a) ≤ 0) ∨ (crs (way e.b e.a) (way p e.a) ≤ 0 ∧ 0 ≤ crs (way e.b e.a) (way q e.a))) : eightF (sqN e p) + eightF (sqN e q) ≤ 8 * d := by
  rcases hs with ⟨h1, h2, h3⟩ | ⟨h1, h2, h3⟩
  · refine two_le he hp hq (len_pos hne) (s := p.y - e.a.y) (s' := p.y - e.a.y) (D := e.b.y - e.a.y) (by omega) (by omega) (by omega) (by omega) (by omega) hd ?_ ?_ hc (.inl ?_)
    · unfold dt crs way; dsimp only; grind
    · rw [← hy]; unfold dt crs way; dsimp only; grind
    · unfold crs way; dsimp only; rw [hx, hy]; grind
  · refine two_le he hp hq (len_pos hne) (s := e.a.y - p.y) (s' := e.a.y - p.y) (D := e.a.y - e.b.y) (by omega) (by omega) (by omega) (by omega) (by omega) hd ?_ ?_ hc (.inr ?_)
    · unfold dt crs way; dsimp only; grind
    · rw [← hy]; unfold dt crs way; dsimp only; grind
    · unfold crs way; dsimp only; rw [hx, hy]; grind
theorem line_v {e : Ed} {p q : Pt} (he : edIn 8192 e) (hne : e.a ≠ e.b) (hp : ptIn 33000 p) (hq : ptIn 33000 q) {d : Int} (hd : 0 ≤ d) (hx : q.x = p.x) (hy : q.y = p.y + d)
    (hs : (e.a.x ≤ p.x ∧ p.x ≤ e.b.x ∧ e.a.x < e.b.x) ∨ (e.b.x ≤ p.x ∧ p.x ≤ e.a.x ∧ e.b.x < e.a.x))
    (hc : (0 ≤ crs (way e.b e.a) (way p e.a) ∧ crs (way e.b e.a) (way q e.a) ≤ 0) ∨ (crs (way e.b e.a) (way p e.a) ≤ 0 ∧ 0 ≤ crs (way e.b e.a) (way q e.a))) : eightF (sqN e p) + eightF (sqN e q) ≤ 8 * d := by
  rcases hs with ⟨h1, h2, h3⟩ | ⟨h1, h2, h3⟩
  · refine two_le he hp hq (len_pos hne) (s := p.x - e.a.x) (s' := p.x - e.a.x) (D := e.b.x - e.a.x) (by omega) (by omega) (by omega) (by omega) (by omega) hd ?_ ?_ hc (.inr ?_)
    · unfold dt crs way; dsimp only; grind
    · rw [← hx]; unfold dt crs way; dsimp only; grind
    · unfold crs way; dsimp only; rw [hx, hy]; grind
  · refine two_le he hp hq (len_pos hne) (s := e.a.x - p.x) (s' := e.a.x - p.x) (D := e.a.x - e.b.x) (by omega) (by omega) (by omega) (by omega) (by omega) hd ?_ ?_ hc (.inl ?_)
    · unfold dt crs way; dsimp only; grind
    · rw [← hx]; unfold dt crs way; dsimp only; grind
    · unfold crs way; dsimp only; rw [hx, hy]; grind
theorem num_h {e : Ed} {p q : Pt} (he : edIn 8192 e) (hp : ptIn 33000 p) (hq : ptIn 33000 q) (hy : q.y = p.y) : numE p e = numE q e ∨
    (((e.a.y ≤ p.y ∧ p.y ≤ e.b.y ∧ e.a.y < e.b.y) ∨ (e.b.y ≤ p.y ∧ p.y ≤ e.a.y ∧ e.b.y < e.a.y)) ∧
    ((0 ≤ crs (way e.b e.a) (way p e.a) ∧ crs (way e.b e.a) (way q e.a) ≤ 0) ∨ (crs (way e.b e.a) (way p e.a) ≤ 0 ∧ 0 ≤ crs (way e.b e.a) (way q e.a)))) := by
  rw [numE_crs he hp, numE_crs he hq, hy]
  generalize crs (way e.b e.a) (way p e.a) = cp
  generalize crs (way e.b e.a) (way q e.a) = cq
  generalize e.a.y = a
  generalize e.b.y = b
  generalize p.y = h
  repeat' split
  all_goals omega
def inS (p q v : Pt) : Int := if p.x < v.x ∧ p.y < v.y ∧ v.y ≤ q.y then 1 else 0
theorem sgn6 (P Q A B : Int) :
    (Q ≤ 0 → 0 < P → 0 < P * A + Q * B → 0 < B → 0 < A) ∧ (Q ≤ 0 → 0 < P → P * A + Q * B < 0 → B ≤ 0 → A < 0) ∧
    (P ≤ 0 → 0 < Q → 0 < P * A + Q * B → 0 ≤ A → 0 < B) ∧ (P ≤ 0 → 0 < Q → P * A + Q * B < 0 → A < 0 → B < 0) ∧
    (P ≤ 0 → Q ≤ 0 → 0 ≤ A → 0 < B → P * A + Q * B ≤ 0) ∧ (P ≤ 0 → Q ≤ 0 → B ≤ 0 → A < 0 → 0 ≤ P * A + Q * B) ∧
    (0 < P → 0 < Q → 0 ≤ A → 0 < B → 0 < P * A + Q * B) ∧ (0 < P → 0 < Q → B ≤ 0 → A < 0 → P * A + Q * B < 0) := by
  have np : ∀ {x y : Int}, 0 ≤ x → y ≤ 0 → x * y ≤ 0 := fun h h' => Int.mul_nonpos_of_nonneg_of_nonpos h h'
  have pn : ∀ {x y : Int}, x ≤ 0 → 0 ≤ y → x * y ≤ 0 := fun h h' => Int.mul_nonpos_of_nonpos_of_nonneg h h'
  have pp : ∀ {x y : Int}, 0 ≤ x → 0 ≤ y → 0 ≤ x * y := fun h h' => Int.mul_nonneg h h'
  have nn : ∀ {x y : Int}, x ≤ 0 → y ≤ 0 → 0 ≤ x * y := fun h h' => Int.mul_nonneg_of_nonpos_of_nonpos h h'
  have sp : ∀ {x y : Int}, 0 < x → 0 < y → 0 < x * y := fun h h' => Int.mul_pos h h'
  have sn : ∀ {x y : Int}, 0 < x → y < 0 → x * y < 0 := fun h h' => Int.mul_neg_of_pos_of_neg h h'
  refine ⟨fun h1 h2 h3 h4 => ?_, fun h1 h2 h3 h4 => ?_, fun h1 h2 h3 h4 => ?_, fun h1 h2 h3 h4 => ?_, fun h1 h2 h3 h4 => ?_, fun h1 h2 h3 h4 => ?_, fun h1 h2 h3 h4 => ?_, fun h1 h2 h3 h4 => ?_⟩
  · rcases Int.lt_or_le 0 A with h | h
    · exact h
    · have := np (Int.le_of_lt h2) h; have := pn h1 (Int.le_of_lt h4); omega
  · rcases Int.lt_or_le A 0 with h | h
    · exact h
    · have := pp (Int.le_of_lt h2) h; have := nn h1 h4; omega
  · rcases Int.lt_or_le 0 B with h | h
    · exact h
    · have := pn h1 h4; have := np (Int.le_of_lt h2) h; omega
  · rcases Int.lt_or_le B 0 with h | h
    · exact h
    · have := nn h1 (Int.le_of_lt h4); have := pp (Int.le_of_lt h2) h; omega
  · have := pn h1 h3; have := pn h2 (Int.le_of_lt h4); omega
  · have := nn h1 (Int.le_of_lt h4); have := nn h2 h3; omega
  · have := pp (Int.le_of_lt h1) h3; have := sp h2 h4; omega
  · have := sn h1 h4; have := np (Int.le_of_lt h2) h3; omega
theorem num_v {e : Ed} {p q : Pt} (he : edIn 8192 e) (hp : ptIn 33000 p) (hq : ptIn 33000 q) {d : Int} (hd : 0 ≤ d) (hx : q.x = p.x) (hy : q.y = p.y + d) : numE p e - numE q e = inS p q e.b - inS p q e.a ∨
    (((e.a.x ≤ p.x ∧ p.x ≤ e.b.x ∧ e.a.x < e.b.x) ∨ (e.b.x ≤ p.x ∧ p.x ≤ e.a.x ∧ e.b.x < e.a.x)) ∧
    ((0 ≤ crs (way e.b e.a) (way p e.a) ∧ crs (way e.b e.a) (way q e.a) ≤ 0) ∨ (crs (way e.b e.a) (way p e.a) ≤ 0 ∧ 0 ≤ crs (way e.b e.a) (way q e.a)))) := by
  rw [numE_crs he hp, numE_crs he hq]
  have ep : crs (way e.b e.a) (way p e.a) = (e.b.x - p.x) * (p.y - e.a.y) + (e.a.x - p.x) * (e.b.y - p.y) := by unfold crs way; dsimp only; grind
  have eq : crs (way e.b e.a) (way q e.a) = (e.b.x - p.x) * (q.y - e.a.y) + (e.a.x - p.x) * (e.b.y - q.y) := by unfold crs way; dsimp only; rw [hx]; grind
  have s1 := sgn6 (e.b.x - p.x) (e.a.x - p.x) (p.y - e.a.y) (e.b.y - p.y)
  have s2 := sgn6 (e.b.x - p.x) (e.a.x - p.x) (q.y - e.a.y) (e.b.y - q.y)
  rw [← ep] at s1
  rw [← eq] at s2
  unfold inS
  generalize crs (way e.b e.a) (way p e.a) = cp at *
  generalize crs (way e.b e.a) (way q e.a) = cq at *
  generalize e.a.y = ay at *
  generalize e.b.y = by' at *
  generalize e.a.x = ax at *
  generalize e.b.x = bx at *
  generalize p.y = h at *
  generalize q.y = h' at *
  generalize p.x = x at *
  clear ep eq
  obtain ⟨a1, a2, a3, a4, a5, a6, a7, a8⟩ := s1
  obtain ⟨b1, b2, b3, b4, b5, b6, b7, b8⟩ := s2
  rcases Int.lt_or_le 0 (bx - x) with hP | hP <;> rcases Int.lt_or_le 0 (ax - x) with hQ | hQ
  · left
    clear a1 a2 a3 a4 a5 a6 b1 b2 b3 b4 b5 b6
    replace a7 := a7 hP hQ
    replace a8 := a8 hP hQ
    replace b7 := b7 hP hQ
    replace b8 := b8 hP hQ
    repeat' split
    all_goals omega
  · by_cases hc : (0 ≤ cp ∧ cq ≤ 0) ∨ (cp ≤ 0 ∧ 0 ≤ cq)
    · right; exact ⟨.inl ⟨by omega, by omega, by omega⟩, hc⟩
    · left
      clear a3 a4 a5 a6 a7 a8 b3 b4 b5 b6 b7 b8
      replace a1 := a1 hQ hP
      replace a2 := a2 hQ hP
      replace b1 := b1 hQ hP
      replace b2 := b2 hQ hP
      repeat' split
      all_goals omega
  · by_cases hc : (0 ≤ cp ∧ cq ≤ 0) ∨ (cp ≤ 0 ∧ 0 ≤ cq)
    · right; exact ⟨.inr ⟨by omega, by omega, by omega⟩, hc⟩
    · left
      clear a1 a2 a5 a6 a7 a8 b1 b2 b5 b6 b7 b8
      replace a3 := a3 hP hQ
      replace a4 := a4 hP hQ
      replace b3 := b3 hP hQ
      replace b4 := b4 hP hQ
      repeat' split
      all_goals omega
  · left
    clear a1 a2 a3 a4 a7 a8 b1 b2 b3 b4 b7 b8
    replace a5 := a5 hP hQ
    replace a6 := a6 hP hQ
    replace b5 := b5 hP hQ
    replace b6 := b6 hP hQ
    repeat' split
    all_goals omega
theorem windN_same {p q : Pt} : ∀ {es : List Ed}, (∀ e ∈ es, numE p e = numE q e) → windN es p = windN es q
  | [], _ => rfl
  | e :: es, h => by rw [windN_cons, windN_cons, h e (by simp), windN_same fun x hx => h x (by simp [hx])]
theorem tele2 {p q : Pt} {f : Pt → Int} : ∀ {es : List Ed} {u v : Pt}, ChE u v es → (∀ e ∈ es, numE p e - numE q e = f e.b - f e.a) → windN es p - windN es q = f v - f u
  | [], u, v, h, _ => by
    have h : u = v := h
    subst h
    show (0 : Int) - 0 = _
    omega
  | e :: es, u, v, h, hn => by
    have h1 := hn e (by simp)
    have h2 := tele2 h.2 fun x hx => hn x (by simp [hx])
    have h3 := h.1
    rw [windN_cons, windN_cons]
    subst h3
    omega
theorem windN_flat {l : List (List Ed)} {p q : Pt} (h : ∀ es ∈ l, windN es p = windN es q) : windN l.flatten p = windN l.flatten q := by
  induction l with
  | nil => rfl
  | cons es l ih => rw [List.flatten_cons, windN_app, windN_app, h es (by simp), ih fun x hx => h x (by simp [hx])]
/-- side by side, and edges go round one alone -/
theorem eight_sum {l : List (List Ed)} (hc : ∀ es ∈ l, closedE es) (hi : edsIn l.flatten) {p q : Pt} (hp : ptIn 33000 p) (hq : ptIn 33000 q) {d : Int} (hd : 0 ≤ d)
    (hpq : (q.x = p.x + d ∧ q.y = p.y) ∨ (q.x = p.x ∧ q.y = p.y + d)) (hw : windN l.flatten p ≠ windN l.flatten q) : eight l.flatten p + eight l.flatten q ≤ 8 * d := by
  have hm : ∀ es ∈ l, ∀ e ∈ es, e ∈ l.flatten := fun es h1 e h2 => List.mem_flatten.2 ⟨es, h1, h2⟩
  have hok : ∀ e ∈ l.flatten, edOK e := fun e he => by
    obtain ⟨es, h1, h2⟩ := List.mem_flatten.1 he
    obtain ⟨b, hb⟩ := hc es h1
    exact hb.2 e h2
  by_cases hx : ∃ e ∈ l.flatten, eightF (sqN e p) + eightF (sqN e q) ≤ 8 * d
  · obtain ⟨e, he, h⟩ := hx
    have a := eight_le hi hp he
    have b := eight_le hi hq he
    omega
  · exfalso
    have hx : ∀ e ∈ l.flatten, ¬ eightF (sqN e p) + eightF (sqN e q) ≤ 8 * d := fun e he h => hx ⟨e, he, h⟩
    rcases hpq with ⟨x1, x2⟩ | ⟨x1, x2⟩
    · refine hw (windN_same fun e he => ?_)
      rcases num_h (hi.1 e he) hp hq x2 with h | ⟨h1, h2⟩
      · exact h
      · exact absurd (line_h (hi.1 e he) (hok e he).2 hp hq hd x1 x2 h1 h2) (hx e he)
    · refine hw (windN_flat fun es h1 => ?_)
      obtain ⟨b, hb, _⟩ := hc es h1
      have := tele2 (f := inS p q) hb fun e he => by
        rcases num_v (hi.1 e (hm es h1 e he)) hp hq hd x1 x2 with h | ⟨h1, h2⟩
        · exact h
        · exact absurd (line_v (hi.1 e (hm es (by assumption) e he)) (hok e (hm es (by assumption) e he)).2 hp hq hd x1 x2 h1 h2) (hx e (hm es (by assumption) e he))
      omega
end Go.Proofs.Ytbfdpdbdkcekfaa
