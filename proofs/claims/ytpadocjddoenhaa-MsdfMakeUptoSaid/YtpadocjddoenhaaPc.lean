/- The contracts of corner: Is, Corners, colour; of law11: is. -/
import Derived.Test.YtpadocjddoenhaaPb
namespace Go.Proofs.Ytpadocjddoenhaa
open Go SX
set_option linter.unusedVariables false
set_option maxRecDepth 100000

/-! ### numbers -/
theorem tmod_in (x : Int) {m : Int} (hm : 0 < m) : -m < x.tmod m ∧ x.tmod m < m := by
  have h1 := Int.tmod_lt_of_pos x hm
  have h2 := Int.tmod_lt_of_pos (-x) hm
  rw [Int.neg_tmod] at h2
  omega
theorem mul_bd {x y B C : Int} (hx : -B ≤ x ∧ x ≤ B) (hy : -C ≤ y ∧ y ≤ C) : -(B * C) ≤ x * y ∧ x * y ≤ B * C := by
  have h1 : x.natAbs ≤ B.natAbs := by omega
  have h2 : y.natAbs ≤ C.natAbs := by omega
  have h3 : (x * y).natAbs ≤ (B * C).natAbs := by rw [Int.natAbs_mul, Int.natAbs_mul]; exact Nat.mul_le_mul h1 h2
  have h4 : 0 ≤ B * C := Int.mul_nonneg (by omega) (by omega)
  omega
def ptIn (n : Int) (p : Pt) : Prop := -n ≤ p.x ∧ p.x ≤ n ∧ -n ≤ p.y ∧ p.y ≤ n
def edIn (n : Int) (e : Ed) : Prop := ptIn n e.a ∧ ptIn n e.b
theorem ptIn.up {n m : Int} {p : Pt} (h : ptIn n p) (hm : n ≤ m) : ptIn m p := by unfold ptIn at *; omega
theorem edIn.up {n m : Int} {e : Ed} (h : edIn n e) (hm : n ≤ m) : edIn m e := ⟨h.1.up hm, h.2.up hm⟩
/-- the way, the cross product, the dot product, in numbers -/
def way (a b : Pt) : Pt := ⟨a.x - b.x, a.y - b.y⟩
def crs (a b : Pt) : Int := a.x * b.y - a.y * b.x
def dt (a b : Pt) : Int := a.x * b.x + a.y * b.y
theorem subP_eq {n : Int} {a b : Pt} (hn : n ≤ 4000000000000000000) (ha : ptIn n a) (hb : ptIn n b) : subP a b = way a b := by
  unfold ptIn at ha hb
  unfold subP way
  rw [w64_in (by omega), w64_in (by omega)]
theorem way_in {n : Int} {a b : Pt} (ha : ptIn n a) (hb : ptIn n b) : ptIn (2 * n) (way a b) := by
  unfold ptIn way at *; dsimp only; omega
theorem crs_in {n : Int} {a b : Pt} (ha : ptIn n a) (hb : ptIn n b) : -(2 * (n * n)) ≤ crs a b ∧ crs a b ≤ 2 * (n * n) := by
  unfold ptIn at *
  have h1 := mul_bd (x := a.x) (y := b.y) (B := n) (C := n) (by omega) (by omega)
  have h2 := mul_bd (x := a.y) (y := b.x) (B := n) (C := n) (by omega) (by omega)
  unfold crs; omega
theorem dt_in {n : Int} {a b : Pt} (ha : ptIn n a) (hb : ptIn n b) : -(2 * (n * n)) ≤ dt a b ∧ dt a b ≤ 2 * (n * n) := by
  unfold ptIn at *
  have h1 := mul_bd (x := a.x) (y := b.x) (B := n) (C := n) (by omega) (by omega)
  have h2 := mul_bd (x := a.y) (y := b.y) (B := n) (C := n) (by omega) (by omega)
  unfold dt; omega
theorem sqr_le {n m : Int} (h0 : 0 ≤ n) (h : n ≤ m) : n * n ≤ m * m := Int.mul_le_mul h h h0 (by omega)
theorem ptIn.pos {n : Int} {a : Pt} (h : ptIn n a) : 0 ≤ n := by unfold ptIn at h; omega
theorem crossW_eq {n : Int} {a b : Pt} (hn : n ≤ 1000000000) (ha : ptIn n a) (hb : ptIn n b) : crossW a b = crs a b := by
  have hp := ha.pos
  have hq := sqr_le hp hn
  have h3 := crs_in ha hb
  unfold ptIn at *
  have h1 := mul_bd (x := a.x) (y := b.y) (B := n) (C := n) (by omega) (by omega)
  have h2 := mul_bd (x := a.y) (y := b.x) (B := n) (C := n) (by omega) (by omega)
  unfold crs at h3
  unfold crossW crs
  rw [w64_in (n := a.x * b.y) (by omega), w64_in (n := a.y * b.x) (by omega), w64_in (by omega)]
theorem dotW_eq {n : Int} {a b : Pt} (hn : n ≤ 1000000000) (ha : ptIn n a) (hb : ptIn n b) : dotW a b = dt a b := by
  have hp := ha.pos
  have hq := sqr_le hp hn
  have h3 := dt_in ha hb
  unfold ptIn at *
  have h1 := mul_bd (x := a.x) (y := b.x) (B := n) (C := n) (by omega) (by omega)
  have h2 := mul_bd (x := a.y) (y := b.y) (B := n) (C := n) (by omega) (by omega)
  unfold dt at h3
  unfold dotW dt
  rw [w64_in (n := a.x * b.x) (by omega), w64_in (n := a.y * b.y) (by omega), w64_in (by omega)]

/-! ### corner.Is -/
def isC (c d : Int) : Bool := decide (d ≤ 0) || decide (w64 (2 * max2I c (w64 (0 - c))) > d)
def isW (a b : Ed) : Bool := isC (crossW (subP a.b a.a) (subP b.b b.a)) (dotW (subP a.b a.a) (subP b.b b.a))
theorem is_at (a b : Ed) : FnAt Try.prog 65 [aEd a, aEd b] [aB (isW a b)] := by
  refine fn_at (E := EE) (fn := Try.f65) (c := Try.f65.body.getD .skip) (rs := Try.f65.results.toList) (nt := Try.f65.ntmps) EE_ok follows (by kernel_rfl) (by kernel_rfl) rfl rfl rfl [] rfl ?_
  refine ⟨_, sub_at a.b a.a, ?_⟩
  refine ⟨_, sub_at b.b b.a, ?_⟩
  refine ⟨_, cross_at (subP a.b a.a) (subP b.b b.a), ?_⟩
  refine ⟨_, dot_at (subP a.b a.a) (subP b.b b.a), ?_⟩
  refine if_dec_f (fun h => ?_) (fun h => ?_)
  · refine ⟨⟨vB ?_, trivial⟩, trivial⟩
    unfold isW isC
    rw [decide_eq_false h, Bool.false_or]
  · refine ⟨⟨kB ?_, trivial⟩, trivial⟩
    unfold isW isC
    rw [decide_eq_true h, Bool.true_or]
/-- in numbers -/
def isN (a b : Ed) : Bool := decide (dt (way a.b a.a) (way b.b b.a) ≤ 0 ∨ dt (way a.b a.a) (way b.b b.a) < 2 * crs (way a.b a.a) (way b.b b.a) ∨ dt (way a.b a.a) (way b.b b.a) < -2 * crs (way a.b a.a) (way b.b b.a))
theorem isW_eq {a b : Ed} (ha : edIn 100000000 a) (hb : edIn 100000000 b) : isW a b = isN a b := by
  unfold isW isN
  rw [subP_eq (by decide) ha.2 ha.1, subP_eq (by decide) hb.2 hb.1, crossW_eq (by decide) (way_in ha.2 ha.1) (way_in hb.2 hb.1), dotW_eq (by decide) (way_in ha.2 ha.1) (way_in hb.2 hb.1)]
  have h1 := crs_in (way_in ha.2 ha.1) (way_in hb.2 hb.1)
  generalize crs (way a.b a.a) (way b.b b.a) = c at *
  generalize dt (way a.b a.a) (way b.b b.a) = d at *
  unfold isC
  rw [w64_in (n := 0 - c) (by omega)]
  have h2 : max2I c (0 - c) = if 0 - c > c then 0 - c else c := rfl
  rw [h2, w64_in (by split <;> omega), ← Bool.decide_or]
  refine decide_eq_decide.2 ?_
  split <;> omega
/-- law11.is -/
def isL (a b : Ed) : Bool :=
  decide (dotW (subP a.b a.a) (subP b.b b.a) ≤ 0) || (decide (w64 (2 * crossW (subP a.b a.a) (subP b.b b.a)) > dotW (subP a.b a.a) (subP b.b b.a)) || decide (w64 (-2 * crossW (subP a.b a.a) (subP b.b b.a)) > dotW (subP a.b a.a) (subP b.b b.a)))
theorem isL_eq {a b : Ed} (ha : edIn 100000000 a) (hb : edIn 100000000 b) : isL a b = isN a b := by
  unfold isL isN
  rw [subP_eq (by decide) ha.2 ha.1, subP_eq (by decide) hb.2 hb.1, crossW_eq (by decide) (way_in ha.2 ha.1) (way_in hb.2 hb.1), dotW_eq (by decide) (way_in ha.2 ha.1) (way_in hb.2 hb.1)]
  have h1 := crs_in (way_in ha.2 ha.1) (way_in hb.2 hb.1)
  generalize crs (way a.b a.a) (way b.b b.a) = c at *
  generalize dt (way a.b a.a) (way b.b b.a) = d at *
  rw [w64_in (n := 2 * c) (by omega), w64_in (n := -2 * c) (by omega), ← Bool.decide_or, ← Bool.decide_or]

/-! ### corner.Corners -/
@[reducible] def natL (n : Nat) : List L := [I (n : Int)]
@[reducible] def rN (ks : List Nat) : OR := ⟨3, 1, ks.length, rowOf natL ks, true⟩
@[reducible] def aNs (ks : List Nat) : Bool × List L := aSl natL 1 ks
def cornP (es : List Ed) (k : Nat) : Bool := isW (es.getD ((k + es.length - 1) % es.length) default) (es.getD k default)
def cornTo (es : List Ed) (i : Nat) : List Nat := (List.range i).filter (cornP es)
theorem cornTo_succ (es : List Ed) (i : Nat) : cornTo es (i + 1) = if cornP es i = true then cornTo es i ++ [i] else cornTo es i := by
  unfold cornTo
  rw [List.range_succ, List.filter_append]
  by_cases h : cornP es i = true
  · rw [if_pos h]; simp [h]
  · rw [if_neg h]; simp [h]
theorem cornTo_len (es : List Ed) (i : Nat) : (cornTo es i).length ≤ i := by
  unfold cornTo
  exact Nat.le_trans (List.length_filter_le _ _) (by simp)
noncomputable def SCorn (es : List Ed) (i : Nat) : SS := mkS
  [(0, .o (.sl false 4 es.length (rowOf Ed.ls es))), (3, .o (.h 0)), (6, .o (.sl false 4 es.length (rowOf Ed.ls es))), (7, .o (.v (.int .i64 es.length))), (8, .o (.v (.int .i64 i)))] [] [(0, rN (cornTo es i))] 1 Try.f49.ntmps
theorem corners_at (es : List Ed) (h : es.length ≤ 1000000000000) : FnAt Try.prog 49 [aEds es] [aNs (cornTo es es.length)] := by
  refine fn_at (E := EE) (fn := Try.f49) (c := Try.f49.body.getD .skip) (rs := Try.f49.results.toList) (nt := Try.f49.ntmps) EE_ok follows (by kernel_rfl) (by kernel_rfl) rfl rfl rfl [] rfl ?_
  refine loop_nat es.length (SCorn es) ?_ (fun i hi => ?_)
  · refine ent_of (rl := []) (nl := [0]) ⟨rfl, ?_, ?_, ⟨⟨Nat.le_of_ble_eq_true rfl, rfl⟩, trivial⟩, rfl, rfl, Nat.zero_le _, ⟨Nat.zero_le _, trivial⟩, trivial⟩ <;> (repeat' (first | exact trivial | exact SameL.refl _ | exact ep_seal rfl rfl | assumption | exact congrArg (Value.int _) (by assumption) | exact rfl | exact Nat.le_of_ble_eq_true rfl | decide | apply And.intro))
  refine if_dec (fun hlt => ?_) (fun hge => ?_)
  · have hlt : i < es.length := by omega
    have hw := w64_succ hlt (by omega)
    have hcl := cornTo_len es i
    have hix : (w64 (w64 ((i : Int) + (es.length : Int)) - 1)).tmod (es.length : Int) = (((i + es.length - 1) % es.length : Nat) : Int) := by
      rw [w64_in (n := (i : Int) + (es.length : Int)) (by omega), w64_in (by omega), Int.tmod_eq_emod_of_nonneg (by omega)]
      rw [show (i : Int) + (es.length : Int) - 1 = ((i + es.length - 1 : Nat) : Int) by omega]
      exact (Int.natCast_emod _ _).symm
    have hmod : (i + es.length - 1) % es.length < es.length := Nat.mod_lt _ (by omega)
    have hc : isW (es.getD ((w64 (w64 ((i : Int) + (es.length : Int)) - 1)).tmod (es.length : Int)).toNat default) (es.getD i default) = cornP es i := by
      rw [hix, Int.toNat_natCast]; rfl
    refine ⟨⟨by omega, by omega⟩, ?_⟩
    refine ⟨by omega, ?_⟩
    refine ⟨by rw [hix]; omega, ?_⟩
    refine ⟨_, is_at (es.getD ((w64 (w64 ((i : Int) + (es.length : Int)) - 1)).tmod (es.length : Int)).toNat default) (es.getD i default), ?_⟩
    refine if_b (fun hb => ?_) (fun hb => ?_)
    · rw [hc] at hb
      refine ⟨appB (n := (cornTo es i).length) (by omega) (by decide), ?_⟩
      refine ⟨i + 1, ⟨Nat.lt_succ_self _, hlt⟩, ?_⟩
      refine ent_of (rl := [(0, 24)]) (nl := []) ⟨rfl, ?_, ?_, ⟨⟨Nat.le_of_ble_eq_true rfl, subR_snoc (x := i) rfl rfl (fun j _ => elem1 rfl) (by rw [cornTo_succ, if_pos hb]) rfl⟩, trivial⟩, rfl, rfl, Nat.zero_le _, trivial, ⟨⟨Nat.zero_le _, Nat.zero_le _⟩, trivial⟩⟩ <;> (repeat' (first | exact trivial | exact SameL.refl _ | exact ep_seal rfl rfl | assumption | exact congrArg (Value.int _) (by assumption) | exact rfl | exact Nat.le_of_ble_eq_true rfl | decide | apply And.intro))
    · rw [hc] at hb
      refine ⟨i + 1, ⟨Nat.lt_succ_self _, hlt⟩, ?_⟩
      refine ent_of (rl := []) (nl := []) ⟨rfl, ?_, ?_, ⟨⟨Nat.le_of_ble_eq_true rfl, subR_eq (by rw [cornTo_succ, if_neg (by rw [hb]; decide)]) rfl⟩, trivial⟩, rfl, rfl, Nat.zero_le _, trivial, trivial⟩ <;> (repeat' (first | exact trivial | exact SameL.refl _ | exact ep_seal rfl rfl | assumption | exact congrArg (Value.int _) (by assumption) | exact rfl | exact Nat.le_of_ble_eq_true rfl | decide | apply And.intro))
  · have hin : i = es.length := by omega
    subst hin
    exact ⟨⟨row_ret rfl, trivial⟩, trivial⟩

/-! ### corner.colour -/
def colourN (k m : Nat) : Int := if k + 1 = m ∧ m % 3 = 1 then 6 else if k % 3 = 0 then 5 else if k % 3 = 1 then 6 else 3
theorem tab3 (k : Nat) : [(5 : Int), 6, 3].getD (k % 3) 0 = if k % 3 = 0 then 5 else if k % 3 = 1 then 6 else 3 := by
  have h : k % 3 = 0 ∨ k % 3 = 1 ∨ k % 3 = 2 := by omega
  rcases h with h | h | h <;> rw [h] <;> rfl
theorem colour_at (k m : Nat) (hk : k < m) (hm : m ≤ 1000000000000) : FnAt Try.prog 50 [aI k, aI m] [aI (colourN k m)] := by
  have e1 : w64 ((m : Int) - 1) = (m : Int) - 1 := w64_in (by omega)
  have e2 : (m : Int).tmod 3 = ((m % 3 : Nat) : Int) := by rw [Int.tmod_eq_emod_of_nonneg (by omega)]; rfl
  have e3 : (k : Int).tmod 3 = ((k % 3 : Nat) : Int) := by rw [Int.tmod_eq_emod_of_nonneg (by omega)]; rfl
  have rest : ¬ (k + 1 = m ∧ m % 3 = 1) → [(5 : Int), 6, 3].getD ((k : Int).tmod 3).toNat 0 = colourN k m := by
    intro h
    unfold colourN
    rw [if_neg h, e3, Int.toNat_natCast, tab3]
  have hb : 0 ≤ (k : Int).tmod 3 ∧ (k : Int).tmod 3 < 3 := by rw [e3]; omega
  refine fn_at (E := EE) (fn := Try.f50) (c := Try.f50.body.getD .skip) (rs := Try.f50.results.toList) (nt := Try.f50.ntmps) EE_ok follows (by kernel_rfl) (by kernel_rfl) rfl rfl rfl [] rfl ?_
  refine if_eq (fun h => ?_) (fun h => ?_)
  · have h : (k : Int) = w64 ((m : Int) - 1) := h
    rw [e1] at h
    refine if_eq (fun h' => ?_) (fun h' => ?_)
    · have h' : (m : Int).tmod 3 = 1 := h'
      rw [e2] at h'
      refine ⟨⟨kI ?_, trivial⟩, trivial⟩
      unfold colourN
      rw [if_pos (by omega)]
    · have h' : (m : Int).tmod 3 ≠ 1 := h'
      rw [e2] at h'
      exact ⟨hb, ⟨vI (rest (by omega)).symm, trivial⟩, trivial⟩
  · have h : (k : Int) ≠ w64 ((m : Int) - 1) := h
    rw [e1] at h
    exact ⟨hb, ⟨vI (rest (by omega)).symm, trivial⟩, trivial⟩
end Go.Proofs.Ytpadocjddoenhaa
