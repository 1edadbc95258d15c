/- The contracts of law08.DistNear, DistEight, DistSign, DistMore. -/
import Derived.Test.YtgneeaoeafjngaaL8a
import Derived.Test.YtgneeaoeafjngaaPq
namespace Go.Proofs.Ytgneeaoeafjngaa
open Go SX
set_option linter.unusedVariables false
set_option maxRecDepth 100000
set_option maxHeartbeats 2000000

theorem near_nil (p : Pt) : near [] p = ⟨⟨0, 0⟩, -1⟩ := rfl
def frP (f : Fr) : Pt := ⟨f.num, f.den⟩
noncomputable def SDn (es : List Ed) (x : Pt) (i : Nat) : SS := mkS
  [(7, .o (.sl true 4 es.length (rowOf Ed.ls es))), (8, .o (.p 0 0)), (9, .o (.p 1 0)), (10, .o (.v (.int .i64 (near es x).at'))), (56, .o (.sl true 4 es.length (rowOf Ed.ls es))), (57, .o (.v (.int .i64 es.length))), (58, .o (.v (.int .i64 i)))]
  [(0, 27, [.v (.int .i64 x.x), .v (.int .i64 x.y)]), (1, 46, [.v (.int .i64 (near es x).best.num), .v (.int .i64 (near es x).best.den)])] [] 2 Try.f9.ntmps
theorem distNear_at (cs : List (List Vx)) {n : Int} (hn : 0 ≤ n ∧ n ≤ 65535) {p : Pt} (hp : plIn p) : FnAt Try.prog 9 [aSl dsL 1 cs, aU16 n, aPl p] [aB true] := by
  have hi := glyph_in cs
  have hx := plP_in hi hn hp
  refine fn_at (E := EE) (fn := Try.f9) (c := Try.f9.body.getD .skip) (rs := Try.f9.results.toList) (nt := Try.f9.ntmps) EE_ok follows (by kernel_rfl) (by kernel_rfl) rfl rfl rfl [] rfl ?_
  refine ⟨_, awake08_at, ?_⟩
  refine ⟨(fun h => nomatch h), fun _ => ?_⟩
  refine ⟨_, glyph_at cs, ?_⟩
  refine ⟨_, spot_at hi hn hp, ?_⟩
  generalize glyph cs = es at *
  generalize spotX es n p = x at *
  have l1 := hi.2
  refine ⟨_, near_at hi hx, ?_⟩
  refine if_eq (fun h0 => ?_) (fun h0 => ?_)
  · obtain rfl : es = [] := List.eq_nil_of_length_eq_zero (by omega)
    refine if_eq (fun _ => ?_) (fun h => absurd rfl h)
    exact ⟨⟨rfl, trivial⟩, trivial⟩
  have hp0 : 0 < es.length := by omega
  obtain ⟨n1, n2, n3, n4⟩ := near_pos hi hx hp0
  refine if_dec_f (fun h1 => ?_) (fun h1 => absurd h1 (by omega))
  refine if_dec_f (fun h2 => ?_) (fun h2 => absurd h2 (by omega))
  refine ⟨⟨n1, n2⟩, ?_⟩
  refine ⟨_, square_at (hi.1 _ (getD_mem' (l := es) (i := (near es x).at'.toNat) (by omega))) hx, ?_⟩
  refine if_npt (a := frP (sqN (es.getD (near es x).at'.toNat default) x)) (b := frP (near es x).best) (fun h => absurd (by rw [n3]) h) (fun _ => ?_)
  refine loop_nat es.length (SDn es x) ?_ (fun i hi' => ?_)
  · refine ent_of (rl := [(0, 11), (1, 19)]) (nl := []) ⟨rfl, ?_, ?_, trivial, rfl, rfl, Nat.zero_le _, trivial, ⟨⟨Nat.zero_le _, Nat.zero_le _⟩, ⟨Nat.zero_le _, Nat.zero_le _⟩, trivial⟩⟩ <;> (repeat' (first | exact trivial | exact SameL.refl _ | exact ep_seal rfl rfl | assumption | exact congrArg (Value.int _) (by assumption) | exact rfl | exact Nat.le_of_ble_eq_true rfl | decide | apply And.intro))
  refine if_dec (fun hlt => ?_) (fun hge => ?_)
  · have hlt : i < es.length := by omega
    have hw := w64_succ hlt (by omega)
    have he := hi.1 _ (getD_mem' hlt)
    have hfr := sqN_in he hx
    obtain ⟨m1, m2⟩ := near_least hi.1 hx es.length (Nat.le_refl _) i hlt
    have m1 : leF (near es x).best (sqN (es.getD i default) x) := m1
    have m2 : (i : Int) < (near es x).at' → ltF (near es x).best (sqN (es.getD i default) x) := m2
    refine ⟨⟨by omega, by omega⟩, ?_⟩
    refine ⟨_, square_at he hx, ?_⟩
    refine ⟨_, rcmp_at hfr n4, ?_⟩
    have c1 : ¬ cmpF (sqN (es.getD i default) x) (near es x).best < 0 := fun h => by
      have := cmpF_lt.1 h
      unfold leF at m1; omega
    have c2 : (i : Int) < (near es x).at' → ¬ cmpF (sqN (es.getD i default) x) (near es x).best = 0 := fun hik h => by
      have := cmpF_eq.1 h
      have := m2 hik
      unfold ltF at this; omega
    refine if_dec_f (fun _ => ?_) (fun h => absurd h c1)
    refine if_eq (fun hc => ?_) (fun hc => ?_)
    · refine if_dec (fun h => absurd hc (c2 h)) (fun _ => ?_)
      refine ⟨i + 1, ⟨Nat.lt_succ_self _, hlt⟩, ?_⟩
      refine ent_of (rl := []) (nl := []) ⟨rfl, ?_, ?_, trivial, rfl, rfl, Nat.zero_le _, trivial, trivial⟩ <;> (repeat' (first | exact trivial | exact SameL.refl _ | exact ep_seal rfl rfl | assumption | exact congrArg (Value.int _) (by assumption) | exact rfl | exact Nat.le_of_ble_eq_true rfl | decide | apply And.intro))
    · refine ⟨i + 1, ⟨Nat.lt_succ_self _, hlt⟩, ?_⟩
      refine ent_of (rl := []) (nl := []) ⟨rfl, ?_, ?_, trivial, rfl, rfl, Nat.zero_le _, trivial, trivial⟩ <;> (repeat' (first | exact trivial | exact SameL.refl _ | exact ep_seal rfl rfl | assumption | exact congrArg (Value.int _) (by assumption) | exact rfl | exact Nat.le_of_ble_eq_true rfl | decide | apply And.intro))
  · exact ⟨⟨kB rfl, trivial⟩, trivial⟩
theorem distEight_at (cs : List (List Vx)) {n : Int} (hn : 0 ≤ n ∧ n ≤ 65535) {p : Pt} (hp : plIn p) : FnAt Try.prog 11 [aSl dsL 1 cs, aU16 n, aPl p] [aB true] := by
  have hi := glyph_in cs
  have hx := plP_in hi hn hp
  refine fn_at (E := EE) (fn := Try.f11) (c := Try.f11.body.getD .skip) (rs := Try.f11.results.toList) (nt := Try.f11.ntmps) EE_ok follows (by kernel_rfl) (by kernel_rfl) rfl rfl rfl [] rfl ?_
  refine ⟨_, awake08_at, ?_⟩
  refine ⟨(fun h => nomatch h), fun _ => ?_⟩
  refine ⟨_, glyph_at cs, ?_⟩
  refine ⟨_, spot_at hi hn hp, ?_⟩
  generalize glyph cs = es at *
  generalize spotX es n p = x at *
  have l1 := hi.2
  refine ⟨_, eight_at hi hx, ?_⟩
  refine ⟨_, near_at hi hx, ?_⟩
  refine if_dec (fun h0 => ?_) (fun h0 => ?_)
  · have h0 : (near es x).at' < 0 := h0
    have he : es = [] := by
      rcases Nat.eq_zero_or_pos es.length with h' | h'
      · exact List.eq_nil_of_length_eq_zero h'
      · have := (near_pos hi hx h').1; omega
    subst he
    exact ⟨⟨rfl, trivial⟩, trivial⟩
  · have h0 : ¬ (near es x).at' < 0 := h0
    have hpos : 0 < es.length := by
      rcases Nat.eq_zero_or_pos es.length with h' | h'
      · obtain rfl := List.eq_nil_of_length_eq_zero h'
        exact absurd (show (-1 : Int) < 0 by decide) h0
      · exact h'
    obtain ⟨n1, n2, n3, n4⟩ := near_pos hi hx hpos
    have hle := sqN_le (hi.1 _ (getD_mem' (l := es) (i := (near es x).at'.toNat) (by omega))) hx
    rw [← n3] at hle
    have hq := eight_q n4 hle
    have he := eight_pos (p := x) hpos
    obtain ⟨e1, e2, e3⟩ := eightF_ok n4
    rw [← he] at e1 e2 e3
    have eb : eight es x ≤ 800000 := by
      rcases Int.lt_or_le 800000 (eight es x) with h | h
      · have h1 : 800001 * 800001 ≤ eight es x * eight es x := Int.mul_le_mul (by omega) (by omega) (by decide) (by omega)
        have h2 : eight es x * eight es x ≤ (near es x).best.num * 64 / (near es x).best.den := by rw [he]; exact (isq_ok (Int.ediv_nonneg (by unfold frIn at n4; omega) (by unfold frIn at n4; omega))).2.1
        omega
      · exact h
    have b0 : 0 ≤ eight es x * eight es x ∧ eight es x * eight es x ≤ 800000 * 800000 := ⟨Int.mul_nonneg e1 e1, Int.mul_le_mul eb eb e1 (by decide)⟩
    have b1 : 0 ≤ (eight es x + 1) * (eight es x + 1) ∧ (eight es x + 1) * (eight es x + 1) ≤ 800001 * 800001 := ⟨Int.mul_nonneg (by omega) (by omega), Int.mul_le_mul (by omega) (by omega) (by omega) (by decide)⟩
    have w0 : w64 (eight es x * eight es x) = eight es x * eight es x := w64_in (by omega)
    have w1 : w64 (eight es x + 1) = eight es x + 1 := w64_in (by omega)
    have w2 : w64 (w64 (eight es x + 1) * w64 (eight es x + 1)) = (eight es x + 1) * (eight es x + 1) := by rw [w1, w64_in (by omega)]
    unfold frIn at n4
    refine if_dec (fun _ => ?_) (fun h => absurd e1 h)
    refine ⟨_, less_at (a := w64 (eight es x * eight es x)) (b := 64) (c := (near es x).best.num) (d := (near es x).best.den) (by omega) (by omega) (by omega) (by omega), ?_⟩
    refine if_dec (fun _ => ?_) (fun h => absurd ?_ h)
    · refine ⟨_, less_at (a := w64 (w64 (eight es x + 1) * w64 (eight es x + 1))) (b := 64) (c := (near es x).best.num) (d := (near es x).best.den) (by omega) (by omega) (by omega) (by omega), ?_⟩
      refine ⟨⟨vB (decide_eq_true ?_).symm, trivial⟩, trivial⟩
      rw [w2]
      unfold cmpI
      have e3 : (near es x).best.num * 64 < (eight es x + 1) * (eight es x + 1) * (near es x).best.den := by omega
      rw [if_neg (by omega), if_neg (by omega)]
      decide
    · rw [w0]
      have e2 : eight es x * eight es x * (near es x).best.den ≤ (near es x).best.num * 64 := by omega
      show cmpI _ _ ≤ 0
      unfold cmpI
      split
      · decide
      · rw [if_pos (by omega)]; decide
theorem DistNear_row : ∀ args, TyArgs tt 8 [36, 37, 24] args → FnAt Try.prog 9 args [(false, [.lit (.bool true)])] := row_csnp fun cs _ hn _ hp => distNear_at cs hn hp
theorem DistEight_row : ∀ args, TyArgs tt 8 [36, 37, 24] args → FnAt Try.prog 11 args [(false, [.lit (.bool true)])] := row_csnp fun cs _ hn _ hp => distEight_at cs hn hp
theorem distSign_at (cs : List (List Vx)) {n : Int} (hn : 0 ≤ n ∧ n ≤ 65535) {p : Pt} (hp : plIn p) : FnAt Try.prog 12 [aSl dsL 1 cs, aU16 n, aPl p] [aB true] := by
  have hi := glyph_in cs
  have hx := plP_in hi hn hp
  refine fn_at (E := EE) (fn := Try.f12) (c := Try.f12.body.getD .skip) (rs := Try.f12.results.toList) (nt := Try.f12.ntmps) EE_ok follows (by kernel_rfl) (by kernel_rfl) rfl rfl rfl [] rfl ?_
  refine ⟨_, awake08_at, ?_⟩
  refine ⟨(fun h => nomatch h), fun _ => ?_⟩
  refine ⟨_, glyph_at cs, ?_⟩
  refine ⟨_, spot_at hi hn hp, ?_⟩
  generalize glyph cs = es at *
  generalize spotX es n p = x at *
  have l1 := hi.2
  have hw := windN_at (p := x) l1
  have hO := wOn_at hi hx
  have hN := near_at hi hx
  have hS := sign_at hi hx
  -- where a point lies on an edge, the least distance is none, and the other way round
  have hz : es.any (onE x) = true ↔ 0 ≤ (near es x).at' ∧ (near es x).best.num = 0 := by
    constructor
    · intro h
      obtain ⟨e, he, ho⟩ := List.any_eq_true.1 h
      have hp0 : 0 < es.length := List.length_pos_of_mem he
      obtain ⟨n1, n2, n3, n4⟩ := near_pos hi hx hp0
      have hle := near_le hi hx he
      have hfr := sqN_in (hi.1 e he) hx
      have h0 : (sqN e x).num = 0 := by unfold onE at ho; simpa using ho
      refine ⟨n1, ?_⟩
      unfold leF at hle
      unfold frIn at hfr n4
      rw [h0, Int.zero_mul] at hle
      rcases Int.lt_or_le 0 (near es x).best.num with h' | h'
      · have := Int.mul_pos h' (show 0 < (sqN e x).den by omega); omega
      · omega
    · rintro ⟨h1, h2⟩
      rcases Nat.eq_zero_or_pos es.length with h' | h'
      · obtain rfl := List.eq_nil_of_length_eq_zero h'
        exact absurd h1 (show ¬ (0 : Int) ≤ -1 by decide)
      · obtain ⟨e, he, hb⟩ := near_in hi hx h'
        rw [hb] at h2
        exact List.any_eq_true.2 ⟨e, he, by unfold onE; simpa using h2⟩
  refine ⟨_, hw, ?_⟩
  have s0 : es.any (onE x) = true → sign es x = 0 := fun h => by unfold sign; rw [if_pos h]
  have s1 : es.any (onE x) = false → windN es x ≠ 0 → sign es x = 1 := fun h h' => by unfold sign; rw [if_neg (by rw [h]; decide), if_pos h']
  have s2 : es.any (onE x) = false → windN es x = 0 → sign es x = -1 := fun h h' => by unfold sign; rw [if_neg (by rw [h]; decide), if_neg (fun h => h h')]
  have hz' : es.any (onE x) = false → ¬ (0 ≤ (near es x).at' ∧ (near es x).best.num = 0) := fun h h' => by rw [hz.2 h'] at h; cases h
  refine if_ne (fun h1 => ?_) (fun h1 => ?_)
  · refine ⟨_, hO, ?_⟩
    refine if_b (fun h2 => ?_) (fun h2 => ?_)
    · refine ⟨_, hN, ?_⟩
      refine ⟨_, hS, ?_⟩
      refine if_eq (fun _ => ?_) (fun h => absurd (s0 h2) h)
      obtain ⟨q1, q2⟩ := hz.1 h2
      refine if_dec (fun _ => ?_) (fun h => absurd q1 h)
      refine ⟨⟨vB ?_, trivial⟩, trivial⟩
      rw [show ((near es x).best.num == 0) = true from beq_iff_eq.2 q2]; rfl
    · refine ⟨_, hN, ?_⟩
      refine ⟨_, hS, ?_⟩
      refine if_eq (fun _ => ?_) (fun h => absurd (s1 h2 h1) h)
      have q := hz' h2
      refine if_dec (fun q1 => ?_) (fun q1 => ?_)
      · refine ⟨⟨vB ?_, trivial⟩, trivial⟩
        rw [show ((near es x).best.num == 0) = false from beq_eq_false_iff_ne.2 fun h => q ⟨q1, h⟩]; rfl
      · exact ⟨⟨vB rfl, trivial⟩, trivial⟩
  · refine ⟨_, hO, ?_⟩
    refine if_b (fun h2 => ?_) (fun h2 => ?_)
    · refine ⟨_, hN, ?_⟩
      refine ⟨_, hS, ?_⟩
      refine if_eq (fun _ => ?_) (fun h => absurd (s0 h2) h)
      obtain ⟨q1, q2⟩ := hz.1 h2
      refine if_dec (fun _ => ?_) (fun h => absurd q1 h)
      refine ⟨⟨vB ?_, trivial⟩, trivial⟩
      rw [show ((near es x).best.num == 0) = true from beq_iff_eq.2 q2]; rfl
    · refine ⟨_, hN, ?_⟩
      refine ⟨_, hS, ?_⟩
      refine if_eq (fun _ => ?_) (fun h => absurd (s2 h2 h1) h)
      have q := hz' h2
      refine if_dec (fun q1 => ?_) (fun q1 => ?_)
      · refine ⟨⟨vB ?_, trivial⟩, trivial⟩
        rw [show ((near es x).best.num == 0) = false from beq_eq_false_iff_ne.2 fun h => q ⟨q1, h⟩]; rfl
      · exact ⟨⟨vB rfl, trivial⟩, trivial⟩
theorem DistSign_row : ∀ args, TyArgs tt 8 [36, 37, 24] args → FnAt Try.prog 12 args [(false, [.lit (.bool true)])] := row_csnp fun cs _ hn _ hp => distSign_at cs hn hp
end Go.Proofs.Ytgneeaoeafjngaa
