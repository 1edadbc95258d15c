/- The contract of law07.WindSquare. -/
import Derived.Test.YtgneeaoeafjngaaL7b
namespace Go.Proofs.Ytgneeaoeafjngaa
open Go SX
set_option linter.unusedVariables false
set_option maxRecDepth 100000

/-! ### law07.WindSquare -/
def sqEs (a b m n : Int) : List Ed := [⟨⟨a, b⟩, ⟨a + m, b⟩⟩, ⟨⟨a + m, b⟩, ⟨a + m, b + n⟩⟩, ⟨⟨a + m, b + n⟩, ⟨a, b + n⟩⟩, ⟨⟨a, b + n⟩, ⟨a, b⟩⟩]
section
variable {a b m n u v : Int}
theorem sq_in (ha : -1000 ≤ a ∧ a ≤ 1000) (hb : -1000 ≤ b ∧ b ≤ 1000) (hm : 1 ≤ m ∧ m ≤ 256) (hn : 1 ≤ n ∧ n ≤ 256) : edsIn (sqEs a b m n) ∧ ∀ e ∈ sqEs a b m n, e.a ≠ e.b := by
  refine ⟨⟨fun e he => ?_, Nat.le_of_ble_eq_true rfl⟩, fun e he => ?_⟩
  · simp only [sqEs, List.mem_cons, List.not_mem_nil, or_false] at he
    rcases he with rfl | rfl | rfl | rfl <;> (unfold edIn ptIn; dsimp only; omega)
  · simp only [sqEs, List.mem_cons, List.not_mem_nil, or_false] at he
    rcases he with rfl | rfl | rfl | rfl <;> (intro h; injection h; omega)
theorem mul_pos_iff {n t : Int} (hn : 0 < n) : (0 < n * t ↔ 0 < t) ∧ (n * t < 0 ↔ t < 0) ∧ (n * t = 0 ↔ t = 0) := by
  rcases Int.lt_trichotomy t 0 with h | h | h
  · have := Int.mul_neg_of_pos_of_neg hn h; omega
  · subst h; simp
  · have := Int.mul_pos hn h; omega
theorem sq_wind (ha : -1000 ≤ a ∧ a ≤ 1000) (hb : -1000 ≤ b ∧ b ≤ 1000) (hm : 1 ≤ m ∧ m ≤ 256) (hn : 1 ≤ n ∧ n ≤ 256) (hp : ptIn 33000 ⟨u, v⟩) : windN (sqEs a b m n) ⟨u, v⟩ = if a ≤ u ∧ u < a + m ∧ b ≤ v ∧ v < b + n then 1 else 0 := by
  have hi := (sq_in ha hb hm hn).1.1
  unfold sqEs at hi ⊢
  have e1 : (a + m - (a + m)) * (v - b) - (b + n - b) * (u - (a + m)) = n * (a + m - u) := by grind
  have e2 : (a - a) * (v - (b + n)) - (b - (b + n)) * (u - a) = n * (u - a) := by grind
  obtain ⟨q1, q2, _⟩ := mul_pos_iff (n := n) (t := a + m - u) (by omega)
  obtain ⟨r1, r2, _⟩ := mul_pos_iff (n := n) (t := u - a) (by omega)
  have n1 : numE ⟨u, v⟩ ⟨⟨a, b⟩, ⟨a + m, b⟩⟩ = 0 := by
    unfold numE; dsimp only
    rw [if_neg (by rintro ⟨h1, h2, _⟩; omega), if_neg (by rintro ⟨h1, h2, _⟩; omega)]
  have n3 : numE ⟨u, v⟩ ⟨⟨a + m, b + n⟩, ⟨a, b + n⟩⟩ = 0 := by
    unfold numE; dsimp only
    rw [if_neg (by rintro ⟨h1, h2, _⟩; omega), if_neg (by rintro ⟨h1, h2, _⟩; omega)]
  have n2 : numE ⟨u, v⟩ ⟨⟨a + m, b⟩, ⟨a + m, b + n⟩⟩ = if b ≤ v ∧ v < b + n ∧ u < a + m then 1 else 0 := by
    rw [numE_crs (hi _ (by simp)) hp]
    unfold crs way; dsimp only
    rw [e1]
    by_cases h : b ≤ v ∧ v < b + n ∧ u < a + m
    · rw [if_pos ⟨h.1, h.2.1, q1.2 (by omega)⟩, if_pos h]
    · rw [if_neg (fun g => h ⟨g.1, g.2.1, by have := q1.1 g.2.2; omega⟩), if_neg h, if_neg (by rintro ⟨g1, g2, _⟩; omega)]
  have n4 : numE ⟨u, v⟩ ⟨⟨a, b + n⟩, ⟨a, b⟩⟩ = if b ≤ v ∧ v < b + n ∧ u < a then -1 else 0 := by
    rw [numE_crs (hi _ (by simp)) hp]
    unfold crs way; dsimp only
    rw [e2, if_neg (by rintro ⟨g1, g2, _⟩; omega)]
    by_cases h : b ≤ v ∧ v < b + n ∧ u < a
    · rw [if_pos ⟨h.1, h.2.1, r2.2 (by omega)⟩, if_pos h]
    · rw [if_neg (fun g => h ⟨g.1, g.2.1, by have := r2.1 g.2.2; omega⟩), if_neg h]
  rw [windN_cons, windN_cons, windN_cons, windN_cons, n1, n2, n3, n4]
  show 0 + ((if b ≤ v ∧ v < b + n ∧ u < a + m then (1 : Int) else 0) + (0 + ((if b ≤ v ∧ v < b + n ∧ u < a then (-1 : Int) else 0) + 0))) = _
  repeat' split
  all_goals omega
theorem sq_on (ha : -1000 ≤ a ∧ a ≤ 1000) (hb : -1000 ≤ b ∧ b ≤ 1000) (hm : 1 ≤ m ∧ m ≤ 256) (hn : 1 ≤ n ∧ n ≤ 256) : (sqEs a b m n).any (onE ⟨u, v⟩) = true ↔ (a ≤ u ∧ u ≤ a + m ∧ b ≤ v ∧ v ≤ b + n) ∧ ¬ (a < u ∧ u < a + m ∧ b < v ∧ v < b + n) := by
  have hne := (sq_in ha hb hm hn).2
  have key : (sqEs a b m n).any (onE ⟨u, v⟩) = true ↔ ∃ e ∈ sqEs a b m n, onN ⟨u, v⟩ e := by
    rw [List.any_eq_true]
    constructor
    · rintro ⟨e, he, h⟩; exact ⟨e, he, (onE_iff (hne e he)).1 h⟩
    · rintro ⟨e, he, h⟩; exact ⟨e, he, (onE_iff (hne e he)).2 h⟩
  rw [key]
  unfold sqEs onN crs way btw
  simp only [List.mem_cons, List.not_mem_nil, or_false, exists_eq_or_imp, exists_eq_left]
  have e1 : (a + m - a) * (v - b) - (b - b) * (u - a) = m * (v - b) := by grind
  have e2 : (a + m - (a + m)) * (v - b) - (b + n - b) * (u - (a + m)) = n * (a + m - u) := by grind
  have e3 : (a - (a + m)) * (v - (b + n)) - (b + n - (b + n)) * (u - (a + m)) = m * (b + n - v) := by grind
  have e4 : (a - a) * (v - (b + n)) - (b - (b + n)) * (u - a) = n * (u - a) := by grind
  rw [e1, e2, e3, e4, (mul_pos_iff (n := m) (t := v - b) (by omega)).2.2, (mul_pos_iff (n := n) (t := a + m - u) (by omega)).2.2, (mul_pos_iff (n := m) (t := b + n - v) (by omega)).2.2, (mul_pos_iff (n := n) (t := u - a) (by omega)).2.2]
  omega
theorem sq_area : areaTo (sqEs a b m n) 4 = 2 * m * n := by
  show areaTo (sqEs a b m n) (sqEs a b m n).length = _
  unfold sqEs
  rw [area_cons, area_cons, area_cons, area_cons]
  show crs ⟨a, b⟩ ⟨a + m, b⟩ + (crs ⟨a + m, b⟩ ⟨a + m, b + n⟩ + (crs ⟨a + m, b + n⟩ ⟨a, b + n⟩ + (crs ⟨a, b + n⟩ ⟨a, b⟩ + 0))) = _
  unfold crs
  dsimp only
  grind
end
noncomputable def SSq (a b m n u v : Int) : SS := mkS
  [(11, .o (.p 0 0)), (12, .o (.v (.int .i64 m))), (13, .o (.v (.int .i64 n))), (15, .o (.h 2)), (17, .o (.p 1 0))]
  [(0, 27, [.v (.int .i64 a), .v (.int .i64 b)]), (1, 27, [.v (.int .i64 u), .v (.int .i64 v)])] [(2, ⟨31, 4, (sqEs a b m n).length, rowOf Ed.ls (sqEs a b m n), true⟩)] 3 Try.f3.ntmps
noncomputable def SSq2 (a b m n u v : Int) (i : Bool) : SS := mkS
  [(11, .o (.p 0 0)), (12, .o (.v (.int .i64 m))), (13, .o (.v (.int .i64 n))), (15, .o (.h 2)), (17, .o (.p 1 0)), (18, .o (.v (.bool i)))]
  [(0, 27, [.v (.int .i64 a), .v (.int .i64 b)]), (1, 27, [.v (.int .i64 u), .v (.int .i64 v)])] [(2, ⟨31, 4, (sqEs a b m n).length, rowOf Ed.ls (sqEs a b m n), true⟩)] 3 Try.f3.ntmps
noncomputable def SSq3 (a b m n u v : Int) (i d : Bool) : SS := mkS
  [(11, .o (.p 0 0)), (12, .o (.v (.int .i64 m))), (13, .o (.v (.int .i64 n))), (15, .o (.h 2)), (17, .o (.p 1 0)), (18, .o (.v (.bool i))), (19, .o (.v (.bool d)))]
  [(0, 27, [.v (.int .i64 a), .v (.int .i64 b)]), (1, 27, [.v (.int .i64 u), .v (.int .i64 v)])] [(2, ⟨31, 4, (sqEs a b m n).length, rowOf Ed.ls (sqEs a b m n), true⟩)] 3 Try.f3.ntmps
section
variable {a b m n u v : Int}
def sqI (a b m n u v : Int) : Prop := a < u ∧ u < a + m ∧ b < v ∧ v < b + n
def sqD (a b m n u v : Int) : Prop := ¬ sqI a b m n u v ∧ a ≤ u ∧ u ≤ a + m ∧ b ≤ v ∧ v ≤ b + n
instance : Decidable (sqI a b m n u v) := by unfold sqI; infer_instance
instance : Decidable (sqD a b m n u v) := by unfold sqD; infer_instance
end
theorem edRow {f : Nat → Nat → L} {a : Nat} {e : Ed} (h0 : f a 0 = I e.a.x) (h1 : f a 1 = I e.a.y) (h2 : f a 2 = I e.b.x) (h3 : f a 3 = I e.b.y) : ∀ j, j < 4 → f a j = nth (Ed.ls e) j
  | 0, _ => h0
  | 1, _ => h1
  | 2, _ => h2
  | 3, _ => h3
theorem row4 {T n : Nat} {f : Nat → Nat → L} {e0 e1 e2 e3 : Ed} (hn : n = 4) (h0 : ∀ j, j < 4 → f 0 j = nth (Ed.ls e0) j) (h1 : ∀ j, j < 4 → f 1 j = nth (Ed.ls e1) j) (h2 : ∀ j, j < 4 → f 2 j = nth (Ed.ls e2) j) (h3 : ∀ j, j < 4 → f 3 j = nth (Ed.ls e3) j) : subR ⟨T, 4, n, f, true⟩ ⟨T, 4, 4, rowOf Ed.ls [e0, e1, e2, e3], true⟩ := by
  subst hn
  refine ⟨rfl, rfl, rfl, rfl, fun a ha j hj => .of_eq ?_⟩
  match a, ha with
  | 0, _ => exact h0 j hj
  | 1, _ => exact h1 j hj
  | 2, _ => exact h2 j hj
  | 3, _ => exact h3 j hj
set_option maxRecDepth 1000000 in
set_option maxHeartbeats 4000000 in
theorem windSquare_at {p : Pt} (hp : plIn p) {w h x y : Int} (hw : 0 ≤ w ∧ w ≤ 255) (hh : 0 ≤ h ∧ h ≤ 255) (hx : 0 ≤ x ∧ x ≤ 255) (hy : 0 ≤ y ∧ y ≤ 255) : FnAt Try.prog 3 [aPl p, aU8 w, aU8 h, aU8 x, aU8 y] [aB true] := by
  unfold plIn at hp
  have wp : w64 p.x = p.x := w64_in (by omega)
  have wq : w64 p.y = p.y := w64_in (by omega)
  have ta := tmod_in (w64 p.x) (m := 1000) (by decide)
  have tb := tmod_in (w64 p.y) (m := 1000) (by decide)
  have em : w64 (w64 w + 1) = w + 1 := by rw [w64_in (n := w) (by omega), w64_in (by omega)]
  have en : w64 (w64 h + 1) = h + 1 := by rw [w64_in (n := h) (by omega), w64_in (by omega)]
  have eu : w64 (w64 ((w64 p.x).tmod 1000 - 20) + w64 x) = (w64 p.x).tmod 1000 - 20 + x := by rw [w64_in (n := (w64 p.x).tmod 1000 - 20) (by omega), w64_in (n := x) (by omega), w64_in (by omega)]
  have ev : w64 (w64 ((w64 p.y).tmod 1000 - 20) + w64 y) = (w64 p.y).tmod 1000 - 20 + y := by rw [w64_in (n := (w64 p.y).tmod 1000 - 20) (by omega), w64_in (n := y) (by omega), w64_in (by omega)]
  refine fn_at (E := EE) (fn := Try.f3) (c := Try.f3.body.getD .skip) (rs := Try.f3.results.toList) (nt := Try.f3.ntmps) EE_ok follows (by kernel_rfl) (by kernel_rfl) rfl rfl rfl [13, 14, 15] rfl ?_
  refine ⟨_, awake07_at, ?_⟩
  refine ⟨(fun h => nomatch h), fun _ => ?_⟩
  refine Or.inl ⟨5, ?_⟩
  refine ⟨appN (m := 1) (by decide) (by decide), ?_⟩
  refine ⟨appM (n := 1) (m := 1) (by decide) (by decide), ?_⟩
  refine ⟨appM (n := 2) (m := 1) (by decide) (by decide), ?_⟩
  refine ⟨appM (n := 3) (m := 1) (by decide) (by decide), ?_⟩
  refine ⟨Unit, fun _ => SSq ((w64 p.x).tmod 1000) ((w64 p.y).tmod 1000) (w + 1) (h + 1) ((w64 p.x).tmod 1000 - 20 + x) ((w64 p.y).tmod 1000 - 20 + y), ?_, fun _ => ?_⟩
  · refine ⟨(), ?_⟩
    have ex : w64 ((w64 p.x).tmod 1000 + w64 (w64 w + 1)) = (w64 p.x).tmod 1000 + (w + 1) := by rw [em, w64_in (by omega)]
    have ey : w64 ((w64 p.y).tmod 1000 + w64 (w64 h + 1)) = (w64 p.y).tmod 1000 + (h + 1) := by rw [en, w64_in (by omega)]
    refine ent_of (rl := [(0, 13), (2, 129), (1, 147)]) (nl := []) ⟨rfl, ?_, ?_, ⟨⟨Nat.le_of_ble_eq_true rfl, row4 rfl (edRow rfl rfl (congrArg I ex) rfl) (edRow (congrArg I ex) rfl (congrArg I ex) (congrArg I ey)) (edRow (congrArg I ex) (congrArg I ey) rfl (congrArg I ey)) (edRow rfl (congrArg I ey) rfl rfl)⟩, trivial⟩, rfl, rfl, Nat.zero_le _, trivial, ⟨⟨Nat.zero_le _, Nat.zero_le _⟩, ⟨Nat.zero_le _, Nat.zero_le _⟩, ⟨Nat.zero_le _, Nat.zero_le _⟩, trivial⟩⟩ <;> (repeat' (first | exact trivial | exact SameL.refl _ | exact ep_seal rfl rfl | assumption | exact congrArg (Value.int _) (by assumption) | exact rfl | exact Nat.le_of_ble_eq_true rfl | decide | apply And.intro))
  generalize (w64 p.x).tmod 1000 = a at *
  generalize (w64 p.y).tmod 1000 = b at *
  generalize hm : w + 1 = m
  generalize hn : h + 1 = n
  generalize hu : a - 20 + x = u
  generalize hv : b - 20 + y = v
  refine ⟨Unit, fun _ => SSq2 a b m n u v (decide (sqI a b m n u v)), ?_, fun _ => ?_⟩
  · have em : w64 (a + m) = a + m := w64_in (by omega)
    have en : w64 (b + n) = b + n := w64_in (by omega)
    have key : ∀ c : Bool, c = decide (sqI a b m n u v) → Value.bool c = Value.bool (decide (sqI a b m n u v)) := fun c h => by rw [h]
    refine if_dec (fun h1 => ?_) (fun h1 => ?_)
    · have h1 : u > a := h1
      refine if_dec (fun h2 => ?_) (fun h2 => ?_)
      · have h2 : u < w64 (a + m) := h2
        refine if_dec (fun h3 => ?_) (fun h3 => ?_)
        · have h3 : v > b := h3
          have k1 := key (decide (v < w64 (b + n))) (decide_eq_decide.2 (by unfold sqI; omega))
          refine ⟨(), ?_⟩
          refine ent_of (rl := []) (nl := []) ⟨rfl, ?_, ?_, ⟨⟨Nat.le_of_ble_eq_true rfl, subR.refl _⟩, trivial⟩, rfl, rfl, Nat.zero_le _, trivial, trivial⟩ <;> (repeat' (first | exact trivial | exact SameL.refl _ | exact ep_seal rfl rfl | assumption | exact congrArg (Value.int _) (by assumption) | exact rfl | exact Nat.le_of_ble_eq_true rfl | decide | apply And.intro))
        · have h3 : ¬ v > b := h3
          have k1 := key false (decide_eq_false (by unfold sqI; omega)).symm
          refine ⟨(), ?_⟩
          refine ent_of (rl := []) (nl := []) ⟨rfl, ?_, ?_, ⟨⟨Nat.le_of_ble_eq_true rfl, subR.refl _⟩, trivial⟩, rfl, rfl, Nat.zero_le _, trivial, trivial⟩ <;> (repeat' (first | exact trivial | exact SameL.refl _ | exact ep_seal rfl rfl | assumption | exact congrArg (Value.int _) (by assumption) | exact rfl | exact Nat.le_of_ble_eq_true rfl | decide | apply And.intro))
      · have h2 : ¬ u < w64 (a + m) := h2
        have k1 := key false (decide_eq_false (by unfold sqI; omega)).symm
        refine ⟨(), ?_⟩
        refine ent_of (rl := []) (nl := []) ⟨rfl, ?_, ?_, ⟨⟨Nat.le_of_ble_eq_true rfl, subR.refl _⟩, trivial⟩, rfl, rfl, Nat.zero_le _, trivial, trivial⟩ <;> (repeat' (first | exact trivial | exact SameL.refl _ | exact ep_seal rfl rfl | assumption | exact congrArg (Value.int _) (by assumption) | exact rfl | exact Nat.le_of_ble_eq_true rfl | decide | apply And.intro))
    · have h1 : ¬ u > a := h1
      have k1 := key false (decide_eq_false (by unfold sqI; omega)).symm
      refine ⟨(), ?_⟩
      refine ent_of (rl := []) (nl := []) ⟨rfl, ?_, ?_, ⟨⟨Nat.le_of_ble_eq_true rfl, subR.refl _⟩, trivial⟩, rfl, rfl, Nat.zero_le _, trivial, trivial⟩ <;> (repeat' (first | exact trivial | exact SameL.refl _ | exact ep_seal rfl rfl | assumption | exact congrArg (Value.int _) (by assumption) | exact rfl | exact Nat.le_of_ble_eq_true rfl | decide | apply And.intro))
  refine ⟨Unit, fun _ => SSq3 a b m n u v (decide (sqI a b m n u v)) (decide (sqD a b m n u v)), ?_, fun _ => ?_⟩
  · have em : w64 (a + m) = a + m := w64_in (by omega)
    have en : w64 (b + n) = b + n := w64_in (by omega)
    have key : ∀ c : Bool, c = decide (sqD a b m n u v) → Value.bool c = Value.bool (decide (sqD a b m n u v)) := fun c h => by rw [h]
    by_cases hi : sqI a b m n u v
    · have k0 : decide (sqI a b m n u v) = true := decide_eq_true hi
      have k1 := key false (decide_eq_false (by unfold sqD; intro h; exact h.1 hi)).symm
      refine ⟨fun h => absurd h (by rw [k0]; decide), fun _ => ?_⟩
      refine ⟨(), ?_⟩
      refine ent_of (rl := []) (nl := []) ⟨rfl, ?_, ?_, ⟨⟨Nat.le_of_ble_eq_true rfl, subR.refl _⟩, trivial⟩, rfl, rfl, Nat.zero_le _, trivial, trivial⟩ <;> (repeat' (first | exact trivial | exact SameL.refl _ | exact ep_seal rfl rfl | assumption | exact congrArg (Value.int _) (by assumption) | exact rfl | exact Nat.le_of_ble_eq_true rfl | decide | apply And.intro))
    · have k0 : decide (sqI a b m n u v) = false := decide_eq_false hi
      refine ⟨fun _ => ?_, fun h => absurd h (by rw [k0]; decide)⟩
      refine if_dec (fun h1 => ?_) (fun h1 => ?_)
      · have h1 : u ≥ a := h1
        refine if_dec (fun h2 => ?_) (fun h2 => ?_)
        · have h2 : u ≤ w64 (a + m) := h2
          refine if_dec (fun h3 => ?_) (fun h3 => ?_)
          · have h3 : v ≥ b := h3
            have k1 := key (decide (v ≤ w64 (b + n))) (decide_eq_decide.2 (by unfold sqD; constructor <;> intro h; exact ⟨hi, by omega⟩; omega))
            refine ⟨(), ?_⟩
            refine ent_of (rl := []) (nl := []) ⟨rfl, ?_, ?_, ⟨⟨Nat.le_of_ble_eq_true rfl, subR.refl _⟩, trivial⟩, rfl, rfl, Nat.zero_le _, trivial, trivial⟩ <;> (repeat' (first | exact trivial | exact SameL.refl _ | exact ep_seal rfl rfl | assumption | exact congrArg (Value.int _) (by assumption) | exact rfl | exact Nat.le_of_ble_eq_true rfl | decide | apply And.intro))
          · have h3 : ¬ v ≥ b := h3
            have k1 := key false (decide_eq_false (by unfold sqD; omega)).symm
            refine ⟨(), ?_⟩
            refine ent_of (rl := []) (nl := []) ⟨rfl, ?_, ?_, ⟨⟨Nat.le_of_ble_eq_true rfl, subR.refl _⟩, trivial⟩, rfl, rfl, Nat.zero_le _, trivial, trivial⟩ <;> (repeat' (first | exact trivial | exact SameL.refl _ | exact ep_seal rfl rfl | assumption | exact congrArg (Value.int _) (by assumption) | exact rfl | exact Nat.le_of_ble_eq_true rfl | decide | apply And.intro))
        · have h2 : ¬ u ≤ w64 (a + m) := h2
          have k1 := key false (decide_eq_false (by unfold sqD; omega)).symm
          refine ⟨(), ?_⟩
          refine ent_of (rl := []) (nl := []) ⟨rfl, ?_, ?_, ⟨⟨Nat.le_of_ble_eq_true rfl, subR.refl _⟩, trivial⟩, rfl, rfl, Nat.zero_le _, trivial, trivial⟩ <;> (repeat' (first | exact trivial | exact SameL.refl _ | exact ep_seal rfl rfl | assumption | exact congrArg (Value.int _) (by assumption) | exact rfl | exact Nat.le_of_ble_eq_true rfl | decide | apply And.intro))
      · have h1 : ¬ u ≥ a := h1
        have k1 := key false (decide_eq_false (by unfold sqD; omega)).symm
        refine ⟨(), ?_⟩
        refine ent_of (rl := []) (nl := []) ⟨rfl, ?_, ?_, ⟨⟨Nat.le_of_ble_eq_true rfl, subR.refl _⟩, trivial⟩, rfl, rfl, Nat.zero_le _, trivial, trivial⟩ <;> (repeat' (first | exact trivial | exact SameL.refl _ | exact ep_seal rfl rfl | assumption | exact congrArg (Value.int _) (by assumption) | exact rfl | exact Nat.le_of_ble_eq_true rfl | decide | apply And.intro))
  have ha : -1000 ≤ a ∧ a ≤ 1000 := by omega
  have hb : -1000 ≤ b ∧ b ≤ 1000 := by omega
  have hm1 : 1 ≤ m ∧ m ≤ 256 := by omega
  have hn1 : 1 ≤ n ∧ n ≤ 256 := by omega
  have hz : ptIn 33000 ⟨u, v⟩ := by unfold ptIn; dsimp only; omega
  have hin := (sq_in ha hb hm1 hn1).1
  have hon := sq_on (u := u) (v := v) ha hb hm1 hn1
  have hwd := sq_wind ha hb hm1 hn1 hz
  have hmn : 0 ≤ m * n ∧ m * n ≤ 256 * 256 := ⟨Int.mul_nonneg (by omega) (by omega), Int.mul_le_mul hm1.2 hn1.2 (by omega) (by omega)⟩
  have e2 : w64 (w64 (2 * m) * n) = 2 * m * n := by rw [w64_in (n := 2 * m) (by omega), w64_in (by rw [Int.mul_assoc]; omega)]
  refine ⟨_, area_at hin, ?_⟩
  refine if_eq (fun _ => ?_) (fun h => absurd (sq_area.trans e2.symm) h)
  refine ⟨_, wOn_at hin hz, ?_⟩
  have hedge : (sqEs a b m n).any (onE ⟨u, v⟩) = decide (sqD a b m n u v) := by
    rw [Bool.eq_iff_iff, hon, decide_eq_true_iff]
    unfold sqD sqI
    omega
  refine if_beq (fun _ => ?_) (fun h => absurd hedge h)
  refine ⟨_, wIn_at hin hz, ?_⟩
  by_cases hi : sqI a b m n u v
  · have k0 : decide (sqI a b m n u v) = true := decide_eq_true hi
    have hd : ¬ sqD a b m n u v := fun h => h.1 hi
    have k1 : decide (sqD a b m n u v) = false := decide_eq_false hd
    have hw : windN (sqEs a b m n) ⟨u, v⟩ = 1 := by rw [hwd, if_pos]; unfold sqI at hi; omega
    refine ⟨fun h => absurd (k0.symm.trans h) (by decide), fun _ => ?_⟩
    refine if_beq (fun _ => ?_) (fun h => absurd (by rw [hw]; rfl) h)
    refine ⟨fun _ => ?_, fun h => absurd (k1.symm.trans h) (by decide)⟩
    refine ⟨_, windN_at (p := ⟨u, v⟩) hin.2, ?_⟩
    refine ⟨⟨vB ?_, trivial⟩, trivial⟩
    rw [hw, k0]; rfl
  · have k0 : decide (sqI a b m n u v) = false := decide_eq_false hi
    refine ⟨fun _ => ?_, fun h => absurd (k0.symm.trans h) (by decide)⟩
    refine if_beq (fun _ => ?_) (fun h => absurd ?_ h)
    · by_cases hd : sqD a b m n u v
      · have k1 : decide (sqD a b m n u v) = true := decide_eq_true hd
        refine ⟨fun h => absurd (k1.symm.trans h) (by decide), fun _ => ?_⟩
        exact ⟨⟨kB rfl, trivial⟩, trivial⟩
      · have k1 : decide (sqD a b m n u v) = false := decide_eq_false hd
        refine ⟨fun _ => ?_, fun h => absurd (k1.symm.trans h) (by decide)⟩
        refine ⟨_, windN_at (p := ⟨u, v⟩) hin.2, ?_⟩
        refine ⟨⟨vB ?_, trivial⟩, trivial⟩
        rw [k0, hwd, if_neg (by unfold sqD at hd; unfold sqI at hi hd; omega)]; rfl
    · rw [hedge]
      by_cases hd : sqD a b m n u v
      · rw [decide_eq_true hd]; simp
      · rw [decide_eq_false hd, hwd, if_neg (by unfold sqD at hd; unfold sqI at hi hd; omega)]; rfl
theorem WindSquare_row : ∀ args, TyArgs tt 8 [24, 5, 5, 5, 5] args → FnAt Try.prog 3 args [(false, [.lit (.bool true)])] := by
  intro args h
  obtain ⟨a1, a2, a3, a4, a5, rfl, h1, h2, h3, h4, h5⟩ := tyA5 h
  obtain ⟨p, rfl, hp⟩ := a_pl (k := 6) h1
  obtain ⟨w, rfl, hw⟩ := a_u8 (k := 7) h2
  obtain ⟨q, rfl, hq⟩ := a_u8 (k := 7) h3
  obtain ⟨x, rfl, hx⟩ := a_u8 (k := 7) h4
  obtain ⟨y, rfl, hy⟩ := a_u8 (k := 7) h5
  exact windSquare_at hp hw hq hx hy
end Go.Proofs.Ytgneeaoeafjngaa
