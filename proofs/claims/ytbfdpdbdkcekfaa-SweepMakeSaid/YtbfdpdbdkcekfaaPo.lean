/- How often edges go round a point. Plain. -/
import Derived.Test.YtbfdpdbdkcekfaaPn
import Derived.Test.YtbfdpdbdkcekfaaPk
import Derived.Test.YtbfdpdbdkcekfaaPz
namespace Go.Proofs.Ytbfdpdbdkcekfaa
open Go SX
set_option linter.unusedVariables false
set_option maxRecDepth 100000

theorem sideW_eq {e : Ed} {p : Pt} (he : edIn 8192 e) (hp : ptIn 33000 p) : sideW e p = sgn (crs (way e.b e.a) (way p e.a)) := by
  have w1 := way_in he.2 he.1
  have w2 := way_in hp (he.1.up (m := 33000) (by decide))
  have w1' := w1.up (m := 66000) (by decide)
  unfold sideW
  rw [subP_eq (by decide) he.2 he.1, subP_eq (by decide) hp (he.1.up (m := 33000) (by decide)), crossW_eq (by decide) w1' w2]
theorem sgn_pos {c : Int} : 0 < sgn c ↔ 0 < c := by
  unfold sgn
  repeat' split
  all_goals omega
theorem sgn_neg {c : Int} : sgn c < 0 ↔ c < 0 := by
  unfold sgn
  repeat' split
  all_goals omega
theorem windTo_fold (es : List Ed) (p : Pt) : windN es p = es.foldl (fun n e => n + numE p e) 0 := by unfold windN windTo; rw [List.take_length]
theorem foldl_add {α : Type} (f : α → Int) : ∀ (l : List α) (z : Int), l.foldl (fun n e => n + f e) z = z + l.foldl (fun n e => n + f e) 0
  | [], z => by simp
  | x :: l, z => by
    simp only [List.foldl_cons]
    rw [foldl_add f l (z + f x), foldl_add f l (0 + f x)]; omega
theorem windN_app (a b : List Ed) (p : Pt) : windN (a ++ b) p = windN a p + windN b p := by
  rw [windTo_fold, windTo_fold, windTo_fold, List.foldl_append, foldl_add]
theorem windN_cons (e : Ed) (b : List Ed) (p : Pt) : windN (e :: b) p = numE p e + windN b p := by
  rw [windTo_fold, windTo_fold, List.foldl_cons, foldl_add, Int.zero_add]
theorem areaTo_fold (es : List Ed) : areaTo es es.length = es.foldl (fun n e => n + crs e.a e.b) 0 := by unfold areaTo; rw [List.take_length]
theorem area_app (a b : List Ed) : areaTo (a ++ b) (a ++ b).length = areaTo a a.length + areaTo b b.length := by
  rw [areaTo_fold, areaTo_fold, areaTo_fold, List.foldl_append, foldl_add]
theorem area_cons (e : Ed) (b : List Ed) : areaTo (e :: b) (e :: b).length = crs e.a e.b + areaTo b b.length := by
  rw [areaTo_fold, areaTo_fold, List.foldl_cons, foldl_add, Int.zero_add]
/-- an edge of which none counts -/
theorem windN_zero {es : List Ed} {p : Pt} (h : ∀ e ∈ es, numE p e = 0) : windN es p = 0 := by
  induction es with
  | nil => rfl
  | cons e es ih => rw [windN_cons, h e (by simp), ih fun x hx => h x (by simp [hx])]; rfl
theorem windN_flat0 {l : List (List Ed)} {p : Pt} (h : ∀ es ∈ l, windN es p = 0) : windN l.flatten p = 0 := by
  induction l with
  | nil => rfl
  | cons es l ih => rw [List.flatten_cons, windN_app, h es (by simp), ih fun x hx => h x (by simp [hx])]; rfl
def isUp (p v : Pt) : Int := if p.y < v.y then 1 else 0
theorem tele {p : Pt} : ∀ {es : List Ed} {u v : Pt}, ChE u v es → (∀ e ∈ es, numE p e = isUp p e.b - isUp p e.a) → windN es p = isUp p v - isUp p u
  | [], u, v, h, _ => by
    have h : u = v := h
    subst h
    show (0 : Int) = _
    omega
  | e :: es, u, v, h, hn => by
    rw [windN_cons, hn e (by simp), tele h.2 fun x hx => hn x (by simp [hx]), h.1]; omega
theorem numE_crs {e : Ed} {p : Pt} (he : edIn 8192 e) (hp : ptIn 33000 p) : numE p e = if e.a.y ≤ p.y ∧ p.y < e.b.y ∧ 0 < crs (way e.b e.a) (way p e.a) then 1 else if e.b.y ≤ p.y ∧ p.y < e.a.y ∧ crs (way e.b e.a) (way p e.a) < 0 then -1 else 0 := by
  unfold numE
  rw [sideW_eq he hp]
  simp only [sgn_pos, sgn_neg]
theorem mul_lt' {a b c : Int} (h : a < b) (hc : 0 < c) : a * c < b * c := Int.mul_lt_mul_of_pos_right h hc
/-- right of an edge -/
theorem num_right {e : Ed} {p : Pt} (he : edIn 8192 e) (hp : ptIn 33000 p) (h1 : e.a.x < p.x) (h2 : e.b.x < p.x) : numE p e = 0 := by
  rw [numE_crs he hp]
  unfold crs way
  dsimp only
  generalize hd : e.b.y - e.a.y = dy
  generalize hs : p.y - e.a.y = s
  generalize hdx : e.b.x - e.a.x = dx
  generalize hX : p.x - e.a.x = X
  have key : ∀ D S : Int, 0 < D → 0 ≤ S → S ≤ D → dx * S < D * X := by
    intro D S hD hS hSD
    rcases Int.lt_or_le 0 dx with h | h
    · have q1 := Int.mul_le_mul_of_nonneg_left hSD (show 0 ≤ dx by omega)
      have q2 := mul_lt' (a := dx) (b := X) (c := D) (by omega) hD
      rw [Int.mul_comm D X]; omega
    · have q1 := Int.mul_nonpos_of_nonpos_of_nonneg h hS
      have q2 := Int.mul_pos hD (show 0 < X by omega)
      omega
  rw [if_neg, if_neg]
  · rintro ⟨g1, g2, g3⟩
    have := key (-dy) (-s) (by omega) (by omega) (by omega)
    rw [Int.mul_neg, Int.neg_mul] at this
    omega
  · rintro ⟨g1, g2, g3⟩
    have := key dy s (by omega) (by omega) (by omega)
    omega
/-- left of an edge -/
theorem num_left {e : Ed} {p : Pt} (he : edIn 8192 e) (hp : ptIn 33000 p) (h1 : p.x < e.a.x) (h2 : p.x < e.b.x) : numE p e = isUp p e.b - isUp p e.a := by
  rw [numE_crs he hp]
  unfold crs way isUp
  dsimp only
  generalize hd : e.b.y - e.a.y = dy
  generalize hs : p.y - e.a.y = s
  generalize hdx : e.b.x - e.a.x = dx
  generalize hX : p.x - e.a.x = X
  have key : ∀ D S : Int, 0 < D → 0 ≤ S → S ≤ D → D * X < dx * S := by
    intro D S hD hS hSD
    rcases Int.lt_or_le dx 0 with h | h
    · have q1 := Int.mul_nonneg (show 0 ≤ -dx by omega) (show 0 ≤ D - S by omega)
      rw [Int.neg_mul, Int.mul_sub] at q1
      have q2 := mul_lt' (a := X) (b := dx) (c := D) (by omega) hD
      rw [Int.mul_comm D X]; omega
    · have q1 := Int.mul_nonneg h hS
      have q2 := Int.mul_pos hD (show 0 < -X by omega)
      rw [Int.mul_neg] at q2
      omega
  by_cases g1 : e.a.y ≤ p.y ∧ p.y < e.b.y
  · have := key dy s (by omega) (by omega) (by omega)
    rw [if_pos ⟨g1.1, g1.2, by omega⟩, if_pos (by omega), if_neg (by omega)]; rfl
  · by_cases g2 : e.b.y ≤ p.y ∧ p.y < e.a.y
    · have := key (-dy) (-s) (by omega) (by omega) (by omega)
      rw [Int.mul_neg, Int.neg_mul] at this
      rw [if_neg (by rintro ⟨q1, q2, _⟩; exact g1 ⟨q1, q2⟩), if_pos ⟨g2.1, g2.2, by omega⟩, if_neg (by omega), if_pos (by omega)]; rfl
    · rw [if_neg (by rintro ⟨q1, q2, _⟩; exact g1 ⟨q1, q2⟩), if_neg (by rintro ⟨q1, q2, _⟩; exact g2 ⟨q1, q2⟩)]
      split <;> split <;> omega
/-- out of the box of closed edges -/
theorem wind_out {l : List (List Ed)} (hc : ∀ es ∈ l, closedE es) (h0 : 0 < l.flatten.length) {p : Pt} (hp : ptIn 33000 p)
    (hout : ¬ ((box l.flatten).lo.x ≤ p.x ∧ p.x ≤ (box l.flatten).hi.x ∧ (box l.flatten).lo.y ≤ p.y ∧ p.y ≤ (box l.flatten).hi.y)) : windN l.flatten p = 0 ∧ l.flatten.any (onE p) = false := by
  obtain ⟨hb, _⟩ := box_ok h0
  have hok : ∀ e ∈ l.flatten, edOK e := fun e he => by
    obtain ⟨es, h1, h2⟩ := List.mem_flatten.1 he
    obtain ⟨b, hb⟩ := hc es h1
    exact hb.2 e h2
  have hm : ∀ es ∈ l, ∀ e ∈ es, e ∈ l.flatten := fun es h1 e h2 => List.mem_flatten.2 ⟨es, h1, h2⟩
  generalize box l.flatten = B at *
  constructor
  · by_cases hx : B.hi.x < p.x
    · exact windN_zero fun e he => by
        have := hb e he
        exact num_right ((hok e he).1.up (by decide)) hp (by omega) (by omega)
    · by_cases hx' : p.x < B.lo.x
      · refine windN_flat0 fun es h1 => ?_
        obtain ⟨b, hb1, _⟩ := hc es h1
        rw [tele hb1 fun e he => by
          have := hb e (hm es h1 e he)
          exact num_left ((hok e (hm es h1 e he)).1.up (by decide)) hp (by omega) (by omega)]
        omega
      · refine windN_zero fun e he => ?_
        have := hb e he
        unfold numE
        rw [if_neg, if_neg]
        · rintro ⟨q1, q2, _⟩; omega
        · rintro ⟨q1, q2, _⟩; omega
  · rw [List.any_eq_false]
    intro e he h
    have h := (onE_iff (hok e he).2).1 h
    have := hb e he
    unfold onN btw way at h
    dsimp only at h
    omega
theorem area_nil : areaTo [] 0 = 0 := rfl
end Go.Proofs.Ytbfdpdbdkcekfaa
