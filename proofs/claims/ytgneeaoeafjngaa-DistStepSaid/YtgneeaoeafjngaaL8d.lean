/- The contract of law08.DistStep. -/
import Derived.Test.YtgneeaoeafjngaaL8c
import Derived.Test.YtgneeaoeafjngaaPs
namespace Go.Proofs.Ytgneeaoeafjngaa
open Go SX
set_option linter.unusedVariables false
set_option maxRecDepth 100000
set_option maxHeartbeats 2000000

theorem eight_bd {es : List Ed} {x : Pt} (hi : edsIn es) (hx : ptIn 33000 x) : -1 ≤ eight es x ∧ eight es x ≤ 800000 := by
  rcases Nat.eq_zero_or_pos es.length with h' | h'
  · obtain rfl := List.eq_nil_of_length_eq_zero h'
    exact ⟨Int.le_refl _, by show (-1 : Int) ≤ 800000; decide⟩
  · have h0 := eight_nn hi hx h'
    obtain ⟨n1, n2, n3, n4⟩ := near_pos hi hx h'
    have hle := sqN_le (hi.1 _ (getD_mem' (l := es) (i := (near es x).at'.toNat) (by omega))) hx
    rw [← n3] at hle
    have hq := eight_q n4 hle
    have he := eight_pos (p := x) h'
    refine ⟨by omega, ?_⟩
    rcases Int.lt_or_le 800000 (eight es x) with h | h
    · have h1 : 800001 * 800001 ≤ eight es x * eight es x := Int.mul_le_mul (by omega) (by omega) (by decide) (by omega)
      have h2 : eight es x * eight es x ≤ (near es x).best.num * 64 / (near es x).best.den := by rw [he]; exact (isq_ok (Int.ediv_nonneg (by unfold frIn at n4; omega) (by unfold frIn at n4; omega))).2.1
      omega
    · exact h
theorem half_in {n : Int} {B : Nat} (h : n.natAbs ≤ B) : -(B : Int) ≤ n.tdiv 2 ∧ n.tdiv 2 ≤ B := by
  have h1 : (n.tdiv 2).natAbs ≤ B := by
    rw [Int.natAbs_tdiv]
    exact Nat.le_trans (Nat.div_le_self _ _) h
  omega
@[reducible] def aI8 (k : Int) : Bool × List L := (false, [.lit (.int .i8 k)])
theorem distStep_at (cs : List (List Vx)) {n : Int} (hn : 0 ≤ n ∧ n ≤ 65535) {p : Pt} (hp : plIn p) {u v : Int} (hu : -128 ≤ u ∧ u ≤ 127) (hv : -128 ≤ v ∧ v ≤ 127) : FnAt Try.prog 13 [aSl dsL 1 cs, aU16 n, aPl p, aI8 u, aI8 v] [aB true] := by
  have hi := glyph_in cs
  have hok := (glyph_ok cs).1
  have hx := spotX_in hi hn hp
  refine fn_at (E := EE) (fn := Try.f13) (c := Try.f13.body.getD .skip) (rs := Try.f13.results.toList) (nt := Try.f13.ntmps) EE_ok follows (by kernel_rfl) (by kernel_rfl) rfl rfl rfl [] rfl ?_
  refine ⟨_, awake08_at, ?_⟩
  refine ⟨(fun h => nomatch h), fun _ => ?_⟩
  refine ⟨_, glyph_at cs, ?_⟩
  refine ⟨_, spot_at hi hn hp, ?_⟩
  generalize glyph cs = es at *
  generalize spotX es n p = x at *
  have hne : ∀ e ∈ es, e.a ≠ e.b := fun e he => (hok e he).2
  unfold ptIn at hx
  have hx2 := half_in (n := x.x) (B := 32769) (by omega)
  have hy2 := half_in (n := x.y) (B := 32769) (by omega)
  have wu : w64 u = u := w64_in (by omega)
  have wv : w64 v = v := w64_in (by omega)
  have ax : w64 (x.x.tdiv 2) = x.x.tdiv 2 := w64_in (by omega)
  have ay : w64 (x.y.tdiv 2) = x.y.tdiv 2 := w64_in (by omega)
  have bx : w64 (w64 (x.x.tdiv 2) + w64 u) = x.x.tdiv 2 + u := by rw [ax, wu, w64_in (by omega)]
  have by' : w64 (w64 (x.y.tdiv 2) + w64 v) = x.y.tdiv 2 + v := by rw [ay, wv, w64_in (by omega)]
  have ha : ptIn 33000 ⟨w64 (x.x.tdiv 2), w64 (x.y.tdiv 2)⟩ := by unfold ptIn; dsimp only; rw [ax, ay]; omega
  have hb : ptIn 33000 ⟨w64 (w64 (x.x.tdiv 2) + w64 u), w64 (w64 (x.y.tdiv 2) + w64 v)⟩ := by unfold ptIn; dsimp only; rw [bx, by']; omega
  refine ⟨_, eight_at hi ha, ?_⟩
  refine ⟨_, eight_at hi hb, ?_⟩
  have uu : 0 ≤ u * u ∧ u * u ≤ 16384 := ⟨sq_nonneg u, by have := mul_bd (x := u) (y := u) (B := 128) (C := 128) (by omega) (by omega); omega⟩
  have vv : 0 ≤ v * v ∧ v * v ≤ 16384 := ⟨sq_nonneg v, by have := mul_bd (x := v) (y := v) (B := 128) (C := 128) (by omega) (by omega); omega⟩
  have q : w64 (64 * w64 (w64 (w64 u * w64 u) + w64 (w64 v * w64 v))) = 64 * (u * u + v * v) := by
    rw [wu, wv, w64_in (n := u * u) (by omega), w64_in (n := v * v) (by omega), w64_in (n := u * u + v * v) (by omega), w64_in (by omega)]
  obtain ⟨s0, s1, s2⟩ := isq_ok (n := 64 * (u * u + v * v)) (by omega)
  have s3 : isq (64 * (u * u + v * v)) ≤ 64 * (u * u + v * v) := by
    rcases Int.lt_or_le 0 (isq (64 * (u * u + v * v))) with h | h
    · have := Int.mul_le_mul_of_nonneg_left (show 1 ≤ isq (64 * (u * u + v * v)) by omega) s0
      omega
    · omega
  refine ⟨_, sqrt_at (w64 (64 * w64 (w64 (w64 u * w64 u) + w64 (w64 v * w64 v)))) (isq (64 * (u * u + v * v))) s0 (by rw [q]; exact s1) (by rw [q]; exact s2) (by rw [q]; omega), ?_⟩
  have d1 : dt (way ⟨w64 (x.x.tdiv 2), w64 (x.y.tdiv 2)⟩ ⟨w64 (w64 (x.x.tdiv 2) + w64 u), w64 (w64 (x.y.tdiv 2) + w64 v)⟩) (way ⟨w64 (x.x.tdiv 2), w64 (x.y.tdiv 2)⟩ ⟨w64 (w64 (x.x.tdiv 2) + w64 u), w64 (w64 (x.y.tdiv 2) + w64 v)⟩) = u * u + v * v := by
    rw [bx, by', ax, ay]; unfold dt way; dsimp only; grind
  have d2 : dt (way ⟨w64 (w64 (x.x.tdiv 2) + w64 u), w64 (w64 (x.y.tdiv 2) + w64 v)⟩ ⟨w64 (x.x.tdiv 2), w64 (x.y.tdiv 2)⟩) (way ⟨w64 (w64 (x.x.tdiv 2) + w64 u), w64 (w64 (x.y.tdiv 2) + w64 v)⟩ ⟨w64 (x.x.tdiv 2), w64 (x.y.tdiv 2)⟩) = u * u + v * v := by
    rw [bx, by', ax, ay]; unfold dt way; dsimp only; grind
  have t1 := eight_step hi hne ha hb s0 (by rw [d1]; exact s2)
  have t2 := eight_step hi hne hb ha s0 (by rw [d2]; exact s2)
  have b1 := eight_bd hi ha
  have b2 := eight_bd hi hb
  generalize isq (64 * (u * u + v * v)) = s at *
  have w1 : w64 (eight es ⟨w64 (x.x.tdiv 2), w64 (x.y.tdiv 2)⟩ - eight es ⟨w64 (w64 (x.x.tdiv 2) + w64 u), w64 (w64 (x.y.tdiv 2) + w64 v)⟩) = eight es ⟨w64 (x.x.tdiv 2), w64 (x.y.tdiv 2)⟩ - eight es ⟨w64 (w64 (x.x.tdiv 2) + w64 u), w64 (w64 (x.y.tdiv 2) + w64 v)⟩ := w64_in (by omega)
  have w2 : w64 (eight es ⟨w64 (w64 (x.x.tdiv 2) + w64 u), w64 (w64 (x.y.tdiv 2) + w64 v)⟩ - eight es ⟨w64 (x.x.tdiv 2), w64 (x.y.tdiv 2)⟩) = eight es ⟨w64 (w64 (x.x.tdiv 2) + w64 u), w64 (w64 (x.y.tdiv 2) + w64 v)⟩ - eight es ⟨w64 (x.x.tdiv 2), w64 (x.y.tdiv 2)⟩ := w64_in (by omega)
  have w3 : w64 (s + 2) = s + 2 := w64_in (by omega)
  generalize eight es ⟨w64 (x.x.tdiv 2), w64 (x.y.tdiv 2)⟩ = y1 at *
  generalize eight es ⟨w64 (w64 (x.x.tdiv 2) + w64 u), w64 (w64 (x.y.tdiv 2) + w64 v)⟩ = y2 at *
  refine if_dec (fun _ => ?_) (fun h => absurd (show w64 (y1 - y2) ≤ w64 (s + 2) by rw [w1, w3]; omega) h)
  refine ⟨⟨vB (decide_eq_true (show w64 (y2 - y1) ≤ w64 (s + 2) by rw [w2, w3]; omega)).symm, trivial⟩, trivial⟩
theorem DistStep_row : ∀ args, TyArgs tt 8 [36, 37, 24, 56, 56] args → FnAt Try.prog 13 args [(false, [.lit (.bool true)])] := by
  intro args h
  obtain ⟨a1, a2, a3, a4, a5, rfl, h1, h2, h3, h4, h5⟩ := tyA5 h
  obtain ⟨l, cs, rfl, hcs⟩ := a_dots (k := 4) h1
  obtain ⟨n, rfl, hn⟩ := a_u16 (k := 7) h2
  obtain ⟨p, rfl, hp⟩ := a_pl (k := 6) h3
  obtain ⟨u, rfl, hu⟩ := a_i8 (k := 7) h4
  obtain ⟨v, rfl, hv⟩ := a_i8 (k := 7) h5
  exact (distStep_at cs hn hp hu hv).args ⟨rfl, hcs, rfl, sameLs_refl _, rfl, sameLs_refl _, rfl, sameLs_refl _, rfl, sameLs_refl _, trivial⟩
end Go.Proofs.Ytgneeaoeafjngaa
