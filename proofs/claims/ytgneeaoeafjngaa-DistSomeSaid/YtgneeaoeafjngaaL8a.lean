/- The contracts of dist.Some (of a function of the text), law08.awake. -/
import Derived.Test.YtgneeaoeafjngaaL7b
namespace Go.Proofs.Ytgneeaoeafjngaa
open Go SX
set_option linter.unusedVariables false
set_option maxRecDepth 100000
set_option maxHeartbeats 1000000

/-! ### dist.Some, in plain words -/
def someTo (tk : Nat → Bool) (es : List Ed) (p : Pt) (i : Nat) : Nr := match i with
  | 0 => ⟨⟨0, 0⟩, -1⟩
  | i + 1 => if tk i = true then nearStep p (someTo tk es p i) (i, es.getD i default) else someTo tk es p i
theorem someTo_ok {tk : Nat → Bool} {es : List Ed} {p : Pt} (hb : ∀ e ∈ es, edIn 8192 e) (hp : ptIn 33000 p) : ∀ i, i ≤ es.length → (someTo tk es p i).at' = -1 ∨ (0 ≤ (someTo tk es p i).at' ∧ (someTo tk es p i).at' < i ∧ (someTo tk es p i).best = sqN (es.getD (someTo tk es p i).at'.toNat default) p ∧ frIn (someTo tk es p i).best)
  | 0, _ => .inl rfl
  | i + 1, hi => by
    have ih := someTo_ok (tk := tk) hb hp i (by omega)
    have hf := sqN_in (hb _ (getD_mem' (show i < es.length by omega))) hp
    unfold someTo
    split
    · unfold nearStep
      split
      · exact .inr ⟨Int.natCast_nonneg _, by show (i : Int) < _; omega, rfl, hf⟩
      · rcases ih with h | ⟨a, b, c, d⟩
        · exact .inl h
        · exact .inr ⟨a, by omega, c, d⟩
    · rcases ih with h | ⟨a, b, c, d⟩
      · exact .inl h
      · exact .inr ⟨a, by omega, c, d⟩
@[reducible] def aFn (g : Nat) : Bool × List L := (false, [.lit (.func (.func g) #[] #[])])
def tk0 (k : Nat) : Bool := decide (k = 0)
theorem tk0_at (k : Nat) : FnAt Try.prog 42 [aI k] [aB (tk0 k)] := by
  refine fn_at (E := EE) (fn := Try.f42) (c := Try.f42.body.getD .skip) (rs := Try.f42.results.toList) (nt := Try.f42.ntmps) EE_ok follows (by kernel_rfl) (by kernel_rfl) rfl rfl rfl [] rfl ?_
  refine ⟨⟨vB ?_, trivial⟩, trivial⟩
  unfold tk0
  rw [Bool.eq_iff_iff]
  simp
noncomputable def SSm (tk : Nat → Bool) (es : List Ed) (p : Pt) (i : Nat) : SS := mkS
  [(2, .o (.v (.func (.func 42) #[] #[]))), (4, .o (.p 0 0)), (6, .o (.p 1 0)), (8, .o (.p 2 0)), (9, .o (.v (.int .i64 (someTo tk es p i).at'))), (14, .o (.sl false 4 es.length (rowOf Ed.ls es))), (15, .o (.v (.int .i64 es.length))), (16, .o (.v (.int .i64 i)))]
  [(0, 27, [.v (.int .i64 p.x), .v (.int .i64 p.y)]), (1, 46, [.any, .any]), (2, 46, [.v (.int .i64 (someTo tk es p i).best.num), .v (.int .i64 (someTo tk es p i).best.den)])] [] 3 Try.f30.ntmps
theorem some0_at {es : List Ed} {p : Pt} (h : edsIn es) (hp : ptIn 33000 p) : FnAt Try.prog 30 [aEds es, aPt p, aFn 42] [aFr (someTo tk0 es p es.length).best, aI (someTo tk0 es p es.length).at'] := by
  obtain ⟨hb, hl⟩ := h
  refine fn_at (E := EE) (fn := Try.f30) (c := Try.f30.body.getD .skip) (rs := Try.f30.results.toList) (nt := Try.f30.ntmps) EE_ok follows (by kernel_rfl) (by kernel_rfl) rfl rfl rfl [] rfl ?_
  refine loop_nat es.length (SSm tk0 es p) ?_ (fun i hi => ?_)
  · refine ent_of (rl := [(2, 4)]) (nl := []) ⟨rfl, ?_, ?_, trivial, rfl, rfl, Nat.zero_le _, trivial, ⟨⟨Nat.zero_le _, Nat.zero_le _⟩, trivial⟩⟩ <;> (repeat' (first | exact trivial | exact SameL.refl _ | exact ep_seal rfl rfl | assumption | exact congrArg (Value.int _) (by assumption) | exact rfl | exact Nat.le_of_ble_eq_true rfl | decide | apply And.intro))
  have k1 := someTo_ok (tk := tk0) hb hp i hi
  refine if_dec (fun hlt => ?_) (fun hge => ?_)
  · have hlt : i < es.length := by omega
    have hw := w64_succ hlt (by omega)
    have hst : someTo tk0 es p (i + 1) = if tk0 i = true then nearStep p (someTo tk0 es p i) (i, es.getD i default) else someTo tk0 es p i := rfl
    have he := hb _ (getD_mem' hlt)
    refine ⟨⟨by omega, by omega⟩, ?_⟩
    refine ⟨_, tk0_at i, ?_⟩
    refine if_nb (fun h0 => ?_) (fun h0 => ?_)
    · refine ⟨i + 1, ⟨Nat.lt_succ_self _, hlt⟩, ?_⟩
      unfold SSm
      rw [hst, if_neg (by rw [h0]; decide)]
      refine ent_of (rl := []) (nl := []) ⟨rfl, ?_, ?_, trivial, rfl, rfl, Nat.zero_le _, trivial, trivial⟩ <;> (repeat' (first | exact trivial | exact SameL.refl _ | exact ep_seal rfl rfl | assumption | exact congrArg (Value.int _) (by assumption) | exact rfl | exact Nat.le_of_ble_eq_true rfl | decide | apply And.intro))
    rw [if_pos h0] at hst
    refine ⟨_, square_at he hp, ?_⟩
    refine if_dec_f (fun h1 => ?_) (fun h1 => ?_)
    · have h1 : ¬ (someTo tk0 es p i).at' < 0 := h1
      have k3 : frIn (someTo tk0 es p i).best := by
        rcases k1 with h | h
        · omega
        · exact h.2.2.2
      refine ⟨_, rcmp_at (sqN_in he hp) k3, ?_⟩
      refine if_dec (fun h2 => ?_) (fun h2 => ?_)
      · have h2 : cmpF (sqN (es.getD i default) p) (someTo tk0 es p i).best < 0 := h2
        refine ⟨i + 1, ⟨Nat.lt_succ_self _, hlt⟩, ?_⟩
        unfold SSm
        rw [hst]
        unfold nearStep
        rw [if_pos (.inr h2)]
        refine ent_of (rl := []) (nl := []) ⟨rfl, ?_, ?_, trivial, rfl, rfl, Nat.zero_le _, trivial, trivial⟩ <;> (repeat' (first | exact trivial | exact SameL.refl _ | exact ep_seal rfl rfl | assumption | exact congrArg (Value.int _) (by assumption) | exact rfl | exact Nat.le_of_ble_eq_true rfl | decide | apply And.intro))
      · have h2 : ¬ cmpF (sqN (es.getD i default) p) (someTo tk0 es p i).best < 0 := h2
        refine ⟨i + 1, ⟨Nat.lt_succ_self _, hlt⟩, ?_⟩
        unfold SSm
        rw [hst]
        unfold nearStep
        rw [if_neg (by rintro (h | h); exact h1 h; exact h2 h)]
        refine ent_of (rl := []) (nl := []) ⟨rfl, ?_, ?_, trivial, rfl, rfl, Nat.zero_le _, trivial, trivial⟩ <;> (repeat' (first | exact trivial | exact SameL.refl _ | exact ep_seal rfl rfl | assumption | exact congrArg (Value.int _) (by assumption) | exact rfl | exact Nat.le_of_ble_eq_true rfl | decide | apply And.intro))
    · have h1 : (someTo tk0 es p i).at' < 0 := h1
      refine ⟨i + 1, ⟨Nat.lt_succ_self _, hlt⟩, ?_⟩
      unfold SSm
      rw [hst]
      unfold nearStep
      rw [if_pos (.inl h1)]
      refine ent_of (rl := []) (nl := []) ⟨rfl, ?_, ?_, trivial, rfl, rfl, Nat.zero_le _, trivial, trivial⟩ <;> (repeat' (first | exact trivial | exact SameL.refl _ | exact ep_seal rfl rfl | assumption | exact congrArg (Value.int _) (by assumption) | exact rfl | exact Nat.le_of_ble_eq_true rfl | decide | apply And.intro))
  · have hin : i = es.length := by omega
    subst hin
    exact ⟨⟨rfl, rfl, trivial⟩, ⟨rfl, trivial⟩, trivial⟩
def l08 : List Ed := [⟨⟨100, 0⟩, ⟨110, 0⟩⟩, ⟨⟨3, 4⟩, ⟨30, 4⟩⟩]
theorem awake08_at : FnAt Try.prog 25 [] [aB true] := by
  have hi : edsIn l08 := by
    refine ⟨fun e he => ?_, by decide⟩
    simp only [l08, List.mem_cons, List.not_mem_nil, or_false] at he
    rcases he with rfl | rfl <;> (unfold edIn ptIn; decide)
  have h0 : ptIn 33000 ⟨0, 0⟩ := by unfold ptIn; decide
  have hn : edsIn [] := ⟨fun e he => (List.not_mem_nil he).elim, by decide⟩
  have n1 := near_at (es := l08) (p := ⟨0, 0⟩) hi h0
  have n2 := near_at (es := []) (p := ⟨0, 0⟩) hn h0
  have n3 := some0_at (es := l08) (p := ⟨0, 0⟩) hi h0
  have n4 := eight_at (es := l08) (p := ⟨0, 0⟩) hi h0
  have n5 := sign_at (es := l08) (p := ⟨0, 0⟩) hi h0
  have n6 := sign_at (es := l08) (p := ⟨5, 4⟩) hi (by unfold ptIn; decide)
  have e1 : (near l08 ⟨0, 0⟩).best = ⟨25, 1⟩ := by decide
  rw [show (near l08 ⟨0, 0⟩).at' = 1 by decide, e1] at n1
  rw [show (someTo tk0 l08 ⟨0, 0⟩ l08.length).at' = 0 by decide, show (someTo tk0 l08 ⟨0, 0⟩ l08.length).best = ⟨10000, 1⟩ by decide] at n3
  rw [show eight l08 ⟨0, 0⟩ = 40 from (by show eightF (near l08 ⟨0, 0⟩).best = 40; rw [e1]; unfold eightF; exact isq_uniq (by decide) (by decide) (by decide) (by decide))] at n4
  rw [show sign l08 ⟨0, 0⟩ = -1 by decide] at n5
  rw [show sign l08 ⟨5, 4⟩ = 0 by decide] at n6
  refine fn_at (E := EE) (fn := Try.f25) (c := Try.f25.body.getD .skip) (rs := Try.f25.results.toList) (nt := Try.f25.ntmps) EE_ok follows (by kernel_rfl) (by kernel_rfl) rfl rfl rfl [] rfl ?_
  refine ⟨_, n1.args ⟨rfl, ⟨lit_same l08 (fun _ => rfl) rfl rfl, trivial⟩, rfl, sameLs_refl _, trivial⟩, ?_⟩
  refine ⟨_, n2.args ⟨rfl, ⟨⟨rfl, rfl⟩, trivial⟩, rfl, sameLs_refl _, trivial⟩, ?_⟩
  refine ⟨_, n3.args ⟨rfl, ⟨lit_same l08 (fun _ => rfl) rfl rfl, trivial⟩, rfl, sameLs_refl _, rfl, sameLs_refl _, trivial⟩, ?_⟩
  refine ⟨fun _ => ?_, fun h => nomatch h⟩
  refine ⟨fun _ => ?_, fun h => nomatch h⟩
  refine ⟨fun _ => ?_, fun h => nomatch h⟩
  refine ⟨fun _ => ?_, fun h => nomatch h⟩
  refine ⟨_, n4.args ⟨rfl, ⟨lit_same l08 (fun _ => rfl) rfl rfl, trivial⟩, rfl, sameLs_refl _, trivial⟩, ?_⟩
  refine ⟨fun _ => ?_, fun h => nomatch h⟩
  refine ⟨_, n5.args ⟨rfl, ⟨lit_same l08 (fun _ => rfl) rfl rfl, trivial⟩, rfl, sameLs_refl _, trivial⟩, ?_⟩
  refine ⟨fun _ => ?_, fun h => nomatch h⟩
  refine ⟨_, n6.args ⟨rfl, ⟨lit_same l08 (fun _ => rfl) rfl rfl, trivial⟩, rfl, sameLs_refl _, trivial⟩, ?_⟩
  exact ⟨⟨rfl, trivial⟩, trivial⟩
end Go.Proofs.Ytgneeaoeafjngaa
