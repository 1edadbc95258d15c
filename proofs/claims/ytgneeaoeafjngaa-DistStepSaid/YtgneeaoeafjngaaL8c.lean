/- The contract of law08.DistMore. -/
import Derived.Test.YtgneeaoeafjngaaL8b
namespace Go.Proofs.Ytgneeaoeafjngaa
open Go SX
set_option linter.unusedVariables false
set_option maxRecDepth 100000
set_option maxHeartbeats 2000000

theorem eight_nn {es : List Ed} {p : Pt} (h : edsIn es) (hp : ptIn 33000 p) (h0 : 0 < es.length) : 0 ≤ eight es p := by
  rw [eight_pos h0]
  exact (eightF_ok (near_pos h hp h0).2.2.2).1
theorem eight_app {a b : List Ed} {p : Pt} (h : edsIn (a ++ b)) (ha : edsIn a) (hb : edsIn b) (hp : ptIn 33000 p) (h1 : 0 < a.length) (h2 : 0 < b.length) : eight (a ++ b) p = min2I (eight a p) (eight b p) := by
  obtain ⟨e, he, q⟩ := eight_in h hp (by rw [List.length_append]; omega)
  obtain ⟨f, hf, qa⟩ := eight_in ha hp h1
  obtain ⟨g, hg, qb⟩ := eight_in hb hp h2
  have la := eight_le h hp (e := f) (List.mem_append_left _ hf)
  have lb := eight_le h hp (e := g) (List.mem_append_right _ hg)
  have lo : eight a p ≤ eight (a ++ b) p ∨ eight b p ≤ eight (a ++ b) p := by
    rcases List.mem_append.1 he with he | he
    · left; rw [q]; exact eight_le ha hp he
    · right; rw [q]; exact eight_le hb hp he
  unfold min2I
  split <;> omega
theorem distMore_at (cs ds : List (List Vx)) {n : Int} (hn : 0 ≤ n ∧ n ≤ 65535) {p : Pt} (hp : plIn p) : FnAt Try.prog 14 [aSl dsL 1 cs, aSl dsL 1 ds, aU16 n, aPl p] [aB true] := by
  have hi := glyph_in cs
  have hj := glyph_in ds
  have hij := glyph_in2 cs ds
  have hx := plP_in hi hn hp
  refine fn_at (E := EE) (fn := Try.f14) (c := Try.f14.body.getD .skip) (rs := Try.f14.results.toList) (nt := Try.f14.ntmps) EE_ok follows (by kernel_rfl) (by kernel_rfl) rfl rfl rfl [] rfl ?_
  refine ⟨_, awake08_at, ?_⟩
  refine ⟨(fun h => nomatch h), fun _ => ?_⟩
  refine ⟨_, glyph_at cs, ?_⟩
  refine ⟨_, glyph_at ds, ?_⟩
  refine ⟨_, spot_at hi hn hp, ?_⟩
  have l1 := hi.2
  have l2 := hj.2
  generalize hes : glyph cs = a at *
  generalize hfs : glyph ds = b at *
  generalize hsx : spotX a n p = x at *
  refine ⟨_, eight_at hi hx, ?_⟩
  refine ⟨_, eight_at hj hx, ?_⟩
  refine ⟨appN (m := a.length) (by omega) (by decide), ?_⟩
  refine ⟨appM (n := a.length) (m := b.length) (by omega) (by decide), ?_⟩
  have hsl : SameL (.sl 4 (a.length + b.length) (appf (rowOf Ed.ls a) a.length (rowOf Ed.ls b))) (.sl 4 (a ++ b).length (rowOf Ed.ls (a ++ b))) := by
    refine ⟨rfl, by simp, fun i hi j hj => .of_eq ?_⟩
    show appf (rowOf Ed.ls a) a.length (rowOf Ed.ls b) i j = nth (Ed.ls ((a ++ b).getD i default)) j
    rw [getD_app]
    unfold appf
    split <;> rfl
  have hall : ∀ {g : Nat} {r : Res} {P : Pt}, FnAt Try.prog g [aEds (a ++ b), aPt P] r → FnAt Try.prog g [(false, [.sl 4 (a.length + b.length) (appf (rowOf Ed.ls a) a.length (rowOf Ed.ls b))]), aPt P] r := fun {g r P} h => h.args ⟨rfl, ⟨hsl, trivial⟩, rfl, sameLs_refl _, trivial⟩
  refine ⟨_, hall (eight_at hij hx), ?_⟩
  have ea : ¬ eight a x < 0 → 0 < a.length := fun h => by
    rcases Nat.eq_zero_or_pos a.length with h' | h'
    · obtain rfl := List.eq_nil_of_length_eq_zero h'
      exact absurd (show (-1 : Int) < 0 by decide) h
    · exact h'
  have eb : ¬ eight b x < 0 → 0 < b.length := fun h => by
    rcases Nat.eq_zero_or_pos b.length with h' | h'
    · obtain rfl := List.eq_nil_of_length_eq_zero h'
      exact absurd (show (-1 : Int) < 0 by decide) h
    · exact h'
  have na : eight a x < 0 → a = [] := fun h => by
    rcases Nat.eq_zero_or_pos a.length with h' | h'
    · exact List.eq_nil_of_length_eq_zero h'
    · have := eight_nn hi hx h'; omega
  have nb : eight b x < 0 → b = [] := fun h => by
    rcases Nat.eq_zero_or_pos b.length with h' | h'
    · exact List.eq_nil_of_length_eq_zero h'
    · have := eight_nn hj hx h'; omega
  refine if_dec_f (fun h1 => ?_) (fun h1 => ?_)
  · have h1 : ¬ eight a x < 0 := h1
    refine if_dec (fun h2 => ?_) (fun h2 => ?_)
    · have h2 : eight b x < 0 := h2
      have e : eight (a ++ b) x = max2I (eight a x) (eight b x) := by
        rw [nb h2, List.append_nil]
        show _ = if (-1 : Int) > eight a x then -1 else eight a x
        rw [if_neg (by omega)]
      refine ⟨⟨vB (beq_iff_eq.2 e).symm, trivial⟩, trivial⟩
    · have h2 : ¬ eight b x < 0 := h2
      exact ⟨⟨vB (beq_iff_eq.2 (eight_app hij hi hj hx (ea h1) (eb h2))).symm, trivial⟩, trivial⟩
  · have h1 : eight a x < 0 := h1
    have e : eight (a ++ b) x = max2I (eight a x) (eight b x) := by
      rw [na h1, List.nil_append]
      show _ = if eight b x > (-1 : Int) then eight b x else -1
      split
      · rfl
      · rename_i h
        rw [nb (by omega)]; rfl
    refine ⟨⟨vB (beq_iff_eq.2 e).symm, trivial⟩, trivial⟩
theorem DistMore_row : ∀ args, TyArgs tt 8 [36, 36, 37, 24] args → FnAt Try.prog 14 args [(false, [.lit (.bool true)])] := by
  intro args h
  obtain ⟨a1, a2, a3, a4, rfl, h1, h2, h3, h4⟩ := tyA4 h
  obtain ⟨l, cs, rfl, hcs⟩ := a_dots (k := 4) h1
  obtain ⟨l', ds, rfl, hds⟩ := a_dots (k := 4) h2
  obtain ⟨n, rfl, hn⟩ := a_u16 (k := 7) h3
  obtain ⟨p, rfl, hp⟩ := a_pl (k := 6) h4
  exact (distMore_at cs ds hn hp).args ⟨rfl, hcs, rfl, hds, rfl, sameLs_refl _, rfl, sameLs_refl _, trivial⟩
end Go.Proofs.Ytgneeaoeafjngaa
