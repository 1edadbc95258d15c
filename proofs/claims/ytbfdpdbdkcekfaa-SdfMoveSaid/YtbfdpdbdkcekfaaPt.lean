/- Edges the other way round: plain. -/
import Derived.Test.YtbfdpdbdkcekfaaPq
import Derived.Test.YtbfdpdbdkcekfaaPn
import Derived.Test.YtbfdpdbdkcekfaaPo
namespace Go.Proofs.Ytbfdpdbdkcekfaa
open Go SX
set_option linter.unusedVariables false
set_option maxRecDepth 100000
set_option maxHeartbeats 1000000

def turnE (e : Ed) : Ed := ⟨e.b, e.a⟩
def backTo (es : List Ed) (i : Nat) : List Ed := ((es.take i).map turnE).reverse
theorem backTo_succ {es : List Ed} {i : Nat} (h : i < es.length) : backTo es (i + 1) = turnE (es.getD i default) :: backTo es i := by
  unfold backTo
  rw [List.take_add_one, List.map_append, List.reverse_append, List.getD_eq_getElem?_getD, List.getElem?_eq_getElem h]
  rfl
theorem backTo_len {es : List Ed} {i : Nat} (h : i ≤ es.length) : (backTo es i).length = i := by unfold backTo; simp; omega
theorem crs_turn (a b p : Pt) : crs (way a b) (way p b) = -crs (way b a) (way p a) := by unfold crs way; dsimp only; grind
theorem num_turn {e : Ed} {p : Pt} (he : edIn 8192 e) (hp : ptIn 33000 p) : numE p (turnE e) = -numE p e := by
  rw [numE_crs he hp, numE_crs (e := turnE e) ⟨he.2, he.1⟩ hp]
  show (if e.b.y ≤ p.y ∧ p.y < e.a.y ∧ 0 < crs (way e.a e.b) (way p e.b) then (1 : Int) else if e.a.y ≤ p.y ∧ p.y < e.b.y ∧ crs (way e.a e.b) (way p e.b) < 0 then -1 else 0) = _
  rw [crs_turn]
  generalize crs (way e.b e.a) (way p e.a) = c
  repeat' split
  all_goals omega
theorem wind_back {p : Pt} (hp : ptIn 33000 p) : ∀ {es : List Ed}, (∀ e ∈ es, edIn 8192 e) → windN (es.map turnE).reverse p = -windN es p
  | [], _ => rfl
  | e :: es, h => by
    rw [List.map_cons, List.reverse_cons, windN_app, wind_back hp (fun x hx => h x (by simp [hx])), windN_cons, windN_cons, num_turn (h e (by simp)) hp]
    show _ + (_ + (0 : Int)) = _
    omega
theorem on_turn {p : Pt} {e : Ed} (h : e.a ≠ e.b) : onE p (turnE e) = onE p e := by
  rw [Bool.eq_iff_iff, onE_iff (e := turnE e) (fun h' => h h'.symm), onE_iff h]
  show (crs (way e.a e.b) (way p e.b) = 0 ∧ btw (way e.a e.b).x (way p e.b).x ∧ btw (way e.a e.b).y (way p e.b).y) ↔ _
  rw [crs_turn]
  unfold onN btw
  have e1 : (way e.a e.b).x = -(way e.b e.a).x := by unfold way; dsimp only; omega
  have e2 : (way e.a e.b).y = -(way e.b e.a).y := by unfold way; dsimp only; omega
  have e3 : (way p e.b).x = (way p e.a).x - (way e.b e.a).x := by unfold way; dsimp only; omega
  have e4 : (way p e.b).y = (way p e.a).y - (way e.b e.a).y := by unfold way; dsimp only; omega
  rw [e1, e2, e3, e4]
  omega
theorem any_back {p : Pt} {es : List Ed} (h : ∀ e ∈ es, e.a ≠ e.b) : (es.map turnE).reverse.any (onE p) = es.any (onE p) := by
  rw [List.any_reverse, List.any_map]
  induction es with
  | nil => rfl
  | cons e es ih =>
    rw [List.any_cons, List.any_cons, ih (fun x hx => h x (by simp [hx]))]
    congr 1
    exact on_turn (h e (by simp))
theorem subR_consE {T : Nat} {es : List Ed} {e : Ed} {f : Nat → Nat → L} (hf : ∀ j, j < 4 → f 0 j = nth (Ed.ls e) j) : subR ⟨T, 4, 1 + es.length, appf f 1 (rowOf Ed.ls es), true⟩ ⟨T, 4, (e :: es).length, rowOf Ed.ls (e :: es), true⟩ := by
  refine ⟨rfl, rfl, by simp; omega, rfl, fun a ha j hj => .of_eq ?_⟩
  match a with
  | 0 => exact hf j hj
  | a + 1 => rfl
theorem four {P : Nat → Prop} (h0 : P 0) (h1 : P 1) (h2 : P 2) (h3 : P 3) : ∀ j, j < 4 → P j
  | 0, _ => h0
  | 1, _ => h1
  | 2, _ => h2
  | 3, _ => h3
/-- the least distance of an edge that is turned -/
theorem sqN_turn {e : Ed} {p : Pt} (he : edIn 8192 e) (hp : ptIn 33000 p) (hne : e.a ≠ e.b) : sqN (turnE e) p = sqN e p := by
  have hL : 1 ≤ dt (way e.b e.a) (way e.b e.a) := by
    have h1 := sq_nonneg (way e.b e.a).x
    have h2 := sq_nonneg (way e.b e.a).y
    unfold dt
    by_cases hx : (way e.b e.a).x = 0
    · by_cases hy : (way e.b e.a).y = 0
      · refine absurd ?_ hne
        unfold way at hx hy; dsimp only at hx hy
        cases ha : e.a; cases hb : e.b
        rw [ha, hb] at hx hy; dsimp only at hx hy
        congr <;> omega
      · have : (way e.b e.a).y * (way e.b e.a).y ≠ 0 := Int.mul_ne_zero hy hy
        omega
    · have : (way e.b e.a).x * (way e.b e.a).x ≠ 0 := Int.mul_ne_zero hx hx
      omega
  have e1 : dt (way e.a e.b) (way e.a e.b) = dt (way e.b e.a) (way e.b e.a) := by unfold dt way; dsimp only; grind
  have e2 : dt (way e.a e.b) (way p e.b) = dt (way e.b e.a) (way e.b e.a) - dt (way e.b e.a) (way p e.a) := by unfold dt way; dsimp only; grind
  have e3 : crs (way e.a e.b) (way p e.b) * crs (way e.a e.b) (way p e.b) = crs (way e.b e.a) (way p e.a) * crs (way e.b e.a) (way p e.a) := by rw [crs_turn]; grind
  unfold sqN
  show (if dt (way e.a e.b) (way p e.b) ≤ 0 then (⟨dt (way p e.b) (way p e.b), 1⟩ : Fr) else if dt (way e.a e.b) (way p e.b) ≥ dt (way e.a e.b) (way e.a e.b) then ⟨dt (way p e.a) (way p e.a), 1⟩ else redF (crs (way e.a e.b) (way p e.b) * crs (way e.a e.b) (way p e.b)) (dt (way e.a e.b) (way e.a e.b))) = _
  rw [e1, e2, e3]
  repeat' split
  all_goals first | rfl | omega
end Go.Proofs.Ytbfdpdbdkcekfaa
