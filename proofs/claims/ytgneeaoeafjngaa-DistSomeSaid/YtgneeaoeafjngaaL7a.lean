/- The contracts of law07: awake, number, on, Spot. -/
import Derived.Test.YtgneeaoeafjngaaPu
import Derived.Test.YtgneeaoeafjngaaPk
import Derived.Test.YtgneeaoeafjngaaPx
namespace Go.Proofs.Ytgneeaoeafjngaa
open Go SX
set_option linter.unusedVariables false
set_option maxRecDepth 100000

theorem glyph_in (cs : List (List Vx)) : edsIn (glyph cs) := by
  obtain ⟨h1, h2⟩ := glyph_ok cs
  exact ⟨fun e he => (h1 e he).1.up (by decide), by omega⟩
@[reducible] def aPl (p : Pt) : Bool × List L := (true, [.lit (.int .i16 p.x), .lit (.int .i16 p.y)])
@[reducible] def aU16 (k : Int) : Bool × List L := (false, [.lit (.int .u16 k)])
def l07 : List Ed := [⟨⟨0, 0⟩, ⟨9, 0⟩⟩, ⟨⟨9, 0⟩, ⟨9, 9⟩⟩, ⟨⟨9, 9⟩, ⟨0, 9⟩⟩, ⟨⟨0, 9⟩, ⟨0, 0⟩⟩]
theorem awake07_at : FnAt Try.prog 15 [] [aB true] := by
  have hi : edsIn l07 := by
    refine ⟨fun e he => ?_, by decide⟩
    simp only [l07, List.mem_cons, List.not_mem_nil, or_false] at he
    rcases he with rfl | rfl | rfl | rfl <;> (unfold edIn ptIn; decide)
  have n1 := windN_at (es := l07) (p := ⟨3, 4⟩) hi.2
  have n2 := windN_at (es := l07) (p := ⟨10, 4⟩) hi.2
  have n3 := wOn_at (es := l07) (p := ⟨9, 4⟩) hi (by unfold ptIn; decide)
  have n4 := wIn_at (es := l07) (p := ⟨1, 1⟩) hi (by unfold ptIn; decide)
  have n5 := area_at (es := l07) hi
  rw [show windN l07 ⟨3, 4⟩ = 1 by decide] at n1
  rw [show windN l07 ⟨10, 4⟩ = 0 by decide] at n2
  rw [show l07.any (onE ⟨9, 4⟩) = true by decide] at n3
  rw [show (decide (windN l07 ⟨1, 1⟩ ≠ 0) || l07.any (onE ⟨1, 1⟩)) = true by decide] at n4
  rw [show areaTo l07 l07.length = 162 by decide] at n5
  refine fn_at (E := EE) (fn := Try.f15) (c := Try.f15.body.getD .skip) (rs := Try.f15.results.toList) (nt := Try.f15.ntmps) EE_ok follows (by kernel_rfl) (by kernel_rfl) rfl rfl rfl [] rfl ?_
  refine ⟨_, n1.args ⟨rfl, ⟨lit_same l07 (fun _ => rfl) rfl rfl, trivial⟩, rfl, sameLs_refl _, trivial⟩, ?_⟩
  refine ⟨fun _ => ?_, fun h => nomatch h⟩
  refine ⟨_, n2.args ⟨rfl, ⟨lit_same l07 (fun _ => rfl) rfl rfl, trivial⟩, rfl, sameLs_refl _, trivial⟩, ?_⟩
  refine ⟨fun _ => ?_, fun h => nomatch h⟩
  refine ⟨_, n3.args ⟨rfl, ⟨lit_same l07 (fun _ => rfl) rfl rfl, trivial⟩, rfl, sameLs_refl _, trivial⟩, ?_⟩
  refine ⟨fun _ => ?_, fun h => nomatch h⟩
  refine ⟨_, n4.args ⟨rfl, ⟨lit_same l07 (fun _ => rfl) rfl rfl, trivial⟩, rfl, sameLs_refl _, trivial⟩, ?_⟩
  refine ⟨fun _ => ?_, fun h => nomatch h⟩
  refine ⟨_, n5.args ⟨rfl, ⟨lit_same l07 (fun _ => rfl) rfl rfl, trivial⟩, trivial⟩, ?_⟩
  exact ⟨⟨rfl, trivial⟩, trivial⟩
theorem sideW_pos {e : Ed} {p : Pt} (h : crossW (subP e.b e.a) (subP p e.a) > 0) : sideW e p > 0 := by unfold sideW sgn; rw [if_pos h]; decide
theorem of_sideW_pos {e : Ed} {p : Pt} (h : sideW e p > 0) : crossW (subP e.b e.a) (subP p e.a) > 0 := by
  unfold sideW sgn at h
  split at h
  · assumption
  · split at h <;> simp at h
theorem sideW_neg {e : Ed} {p : Pt} (h : crossW (subP e.b e.a) (subP p e.a) < 0) : sideW e p < 0 := by unfold sideW sgn; rw [if_neg (by omega), if_pos h]; decide
theorem of_sideW_neg {e : Ed} {p : Pt} (h : sideW e p < 0) : crossW (subP e.b e.a) (subP p e.a) < 0 := by
  unfold sideW sgn at h
  split at h
  · simp at h
  · split at h
    · assumption
    · simp at h
noncomputable def SLn (es : List Ed) (p : Pt) (i : Nat) : SS := mkS
  [(3, .o (.p 0 0)), (5, .o (.v (.int .i64 (windTo es p i)))), (9, .o (.sl false 4 es.length (rowOf Ed.ls es))), (10, .o (.v (.int .i64 es.length))), (11, .o (.v (.int .i64 i)))] [(0, 27, [.v (.int .i64 p.x), .v (.int .i64 p.y)])] [] 1 Try.f22.ntmps
set_option maxHeartbeats 1000000 in
theorem lnum_at {es : List Ed} {p : Pt} (hl : es.length ≤ 1000) : FnAt Try.prog 22 [aEds es, aPt p] [aI (windN es p)] := by
  refine fn_at (E := EE) (fn := Try.f22) (c := Try.f22.body.getD .skip) (rs := Try.f22.results.toList) (nt := Try.f22.ntmps) EE_ok follows (by kernel_rfl) (by kernel_rfl) rfl rfl rfl [] rfl ?_
  refine loop_nat es.length (SLn es p) ?_ (fun i hi => ?_)
  · refine ent_of (rl := []) (nl := []) ⟨rfl, ?_, ?_, trivial, rfl, rfl, Nat.zero_le _, trivial, trivial⟩ <;> (repeat' (first | exact trivial | exact SameL.refl _ | exact ep_seal rfl rfl | assumption | exact congrArg (Value.int _) (by assumption) | exact rfl | exact Nat.le_of_ble_eq_true rfl | decide | apply And.intro))
  refine if_dec (fun hlt => ?_) (fun hge => ?_)
  · have hlt : i < es.length := by omega
    have hw := w64_succ hlt (by omega)
    have hin := windTo_in (p := p) hi
    refine ⟨⟨by omega, by omega⟩, ?_⟩
    refine if_dec (fun h1 => ?_) (fun h1 => ?_)
    · refine if_dec (fun h2 => ?_) (fun h2 => ?_)
      · refine if_dec (fun h3 => ?_) (fun h3 => ?_)
        · have h2 : (es.getD i default).b.y > p.y := h2
          refine if_dec (fun g1 => absurd (show (es.getD i default).b.y ≤ p.y from g1) (by omega)) (fun g1 => ?_)
          have hv : w64 (windTo es p i + 1) = windTo es p (i + 1) := by rw [windTo_succ hlt, show numE p (es.getD i default) = 1 from numE_p h1 h2 (sideW_pos h3), w64_in (by omega)]
          refine ⟨i + 1, ⟨Nat.lt_succ_self _, hlt⟩, ?_⟩
          refine ent_of (rl := []) (nl := []) ⟨rfl, ?_, ?_, trivial, rfl, rfl, Nat.zero_le _, trivial, trivial⟩ <;> (repeat' (first | exact trivial | exact SameL.refl _ | exact ep_seal rfl rfl | assumption | exact congrArg (Value.int _) (by assumption) | exact rfl | exact Nat.le_of_ble_eq_true rfl | decide | apply And.intro))
        · refine if_dec (fun g1 => ?_) (fun g1 => ?_)
          · refine if_dec (fun g2 => ?_) (fun g2 => ?_)
            · refine if_dec (fun g3 => ?_) (fun g3 => ?_)
              · have hv : w64 (windTo es p i - 1) = windTo es p (i + 1) := by rw [windTo_succ hlt, show numE p (es.getD i default) = -1 from numE_m (f3 (fun h => h3 (of_sideW_pos h))) g1 g2 (sideW_neg g3), w64_in (by omega)]; omega
                refine ⟨i + 1, ⟨Nat.lt_succ_self _, hlt⟩, ?_⟩
                refine ent_of (rl := []) (nl := []) ⟨rfl, ?_, ?_, trivial, rfl, rfl, Nat.zero_le _, trivial, trivial⟩ <;> (repeat' (first | exact trivial | exact SameL.refl _ | exact ep_seal rfl rfl | assumption | exact congrArg (Value.int _) (by assumption) | exact rfl | exact Nat.le_of_ble_eq_true rfl | decide | apply And.intro))
              · have hv : windTo es p i = windTo es p (i + 1) := by rw [windTo_succ hlt, show numE p (es.getD i default) = 0 from numE_z (f3 (fun h => h3 (of_sideW_pos h))) (s3 (fun h => g3 (of_sideW_neg h))), Int.add_zero]
                refine ⟨i + 1, ⟨Nat.lt_succ_self _, hlt⟩, ?_⟩
                refine ent_of (rl := []) (nl := []) ⟨rfl, ?_, ?_, trivial, rfl, rfl, Nat.zero_le _, trivial, trivial⟩ <;> (repeat' (first | exact trivial | exact SameL.refl _ | exact ep_seal rfl rfl | assumption | exact congrArg (Value.int _) (by assumption) | exact rfl | exact Nat.le_of_ble_eq_true rfl | decide | apply And.intro))
            · have hv : windTo es p i = windTo es p (i + 1) := by rw [windTo_succ hlt, show numE p (es.getD i default) = 0 from numE_z (f3 (fun h => h3 (of_sideW_pos h))) (s2 g2), Int.add_zero]
              refine ⟨i + 1, ⟨Nat.lt_succ_self _, hlt⟩, ?_⟩
              refine ent_of (rl := []) (nl := []) ⟨rfl, ?_, ?_, trivial, rfl, rfl, Nat.zero_le _, trivial, trivial⟩ <;> (repeat' (first | exact trivial | exact SameL.refl _ | exact ep_seal rfl rfl | assumption | exact congrArg (Value.int _) (by assumption) | exact rfl | exact Nat.le_of_ble_eq_true rfl | decide | apply And.intro))
          · have hv : windTo es p i = windTo es p (i + 1) := by rw [windTo_succ hlt, show numE p (es.getD i default) = 0 from numE_z (f3 (fun h => h3 (of_sideW_pos h))) (s1 g1), Int.add_zero]
            refine ⟨i + 1, ⟨Nat.lt_succ_self _, hlt⟩, ?_⟩
            refine ent_of (rl := []) (nl := []) ⟨rfl, ?_, ?_, trivial, rfl, rfl, Nat.zero_le _, trivial, trivial⟩ <;> (repeat' (first | exact trivial | exact SameL.refl _ | exact ep_seal rfl rfl | assumption | exact congrArg (Value.int _) (by assumption) | exact rfl | exact Nat.le_of_ble_eq_true rfl | decide | apply And.intro))
      · refine if_dec (fun g1 => ?_) (fun g1 => ?_)
        · refine if_dec (fun g2 => ?_) (fun g2 => ?_)
          · refine if_dec (fun g3 => ?_) (fun g3 => ?_)
            · have hv : w64 (windTo es p i - 1) = windTo es p (i + 1) := by rw [windTo_succ hlt, show numE p (es.getD i default) = -1 from numE_m (f2 h2) g1 g2 (sideW_neg g3), w64_in (by omega)]; omega
              refine ⟨i + 1, ⟨Nat.lt_succ_self _, hlt⟩, ?_⟩
              refine ent_of (rl := []) (nl := []) ⟨rfl, ?_, ?_, trivial, rfl, rfl, Nat.zero_le _, trivial, trivial⟩ <;> (repeat' (first | exact trivial | exact SameL.refl _ | exact ep_seal rfl rfl | assumption | exact congrArg (Value.int _) (by assumption) | exact rfl | exact Nat.le_of_ble_eq_true rfl | decide | apply And.intro))
            · have hv : windTo es p i = windTo es p (i + 1) := by rw [windTo_succ hlt, show numE p (es.getD i default) = 0 from numE_z (f2 h2) (s3 (fun h => g3 (of_sideW_neg h))), Int.add_zero]
              refine ⟨i + 1, ⟨Nat.lt_succ_self _, hlt⟩, ?_⟩
              refine ent_of (rl := []) (nl := []) ⟨rfl, ?_, ?_, trivial, rfl, rfl, Nat.zero_le _, trivial, trivial⟩ <;> (repeat' (first | exact trivial | exact SameL.refl _ | exact ep_seal rfl rfl | assumption | exact congrArg (Value.int _) (by assumption) | exact rfl | exact Nat.le_of_ble_eq_true rfl | decide | apply And.intro))
          · have hv : windTo es p i = windTo es p (i + 1) := by rw [windTo_succ hlt, show numE p (es.getD i default) = 0 from numE_z (f2 h2) (s2 g2), Int.add_zero]
            refine ⟨i + 1, ⟨Nat.lt_succ_self _, hlt⟩, ?_⟩
            refine ent_of (rl := []) (nl := []) ⟨rfl, ?_, ?_, trivial, rfl, rfl, Nat.zero_le _, trivial, trivial⟩ <;> (repeat' (first | exact trivial | exact SameL.refl _ | exact ep_seal rfl rfl | assumption | exact congrArg (Value.int _) (by assumption) | exact rfl | exact Nat.le_of_ble_eq_true rfl | decide | apply And.intro))
        · have hv : windTo es p i = windTo es p (i + 1) := by rw [windTo_succ hlt, show numE p (es.getD i default) = 0 from numE_z (f2 h2) (s1 g1), Int.add_zero]
          refine ⟨i + 1, ⟨Nat.lt_succ_self _, hlt⟩, ?_⟩
          refine ent_of (rl := []) (nl := []) ⟨rfl, ?_, ?_, trivial, rfl, rfl, Nat.zero_le _, trivial, trivial⟩ <;> (repeat' (first | exact trivial | exact SameL.refl _ | exact ep_seal rfl rfl | assumption | exact congrArg (Value.int _) (by assumption) | exact rfl | exact Nat.le_of_ble_eq_true rfl | decide | apply And.intro))
    · refine if_dec (fun g1 => ?_) (fun g1 => ?_)
      · refine if_dec (fun g2 => ?_) (fun g2 => ?_)
        · refine if_dec (fun g3 => ?_) (fun g3 => ?_)
          · have hv : w64 (windTo es p i - 1) = windTo es p (i + 1) := by rw [windTo_succ hlt, show numE p (es.getD i default) = -1 from numE_m (f1 h1) g1 g2 (sideW_neg g3), w64_in (by omega)]; omega
            refine ⟨i + 1, ⟨Nat.lt_succ_self _, hlt⟩, ?_⟩
            refine ent_of (rl := []) (nl := []) ⟨rfl, ?_, ?_, trivial, rfl, rfl, Nat.zero_le _, trivial, trivial⟩ <;> (repeat' (first | exact trivial | exact SameL.refl _ | exact ep_seal rfl rfl | assumption | exact congrArg (Value.int _) (by assumption) | exact rfl | exact Nat.le_of_ble_eq_true rfl | decide | apply And.intro))
          · have hv : windTo es p i = windTo es p (i + 1) := by rw [windTo_succ hlt, show numE p (es.getD i default) = 0 from numE_z (f1 h1) (s3 (fun h => g3 (of_sideW_neg h))), Int.add_zero]
            refine ⟨i + 1, ⟨Nat.lt_succ_self _, hlt⟩, ?_⟩
            refine ent_of (rl := []) (nl := []) ⟨rfl, ?_, ?_, trivial, rfl, rfl, Nat.zero_le _, trivial, trivial⟩ <;> (repeat' (first | exact trivial | exact SameL.refl _ | exact ep_seal rfl rfl | assumption | exact congrArg (Value.int _) (by assumption) | exact rfl | exact Nat.le_of_ble_eq_true rfl | decide | apply And.intro))
        · have hv : windTo es p i = windTo es p (i + 1) := by rw [windTo_succ hlt, show numE p (es.getD i default) = 0 from numE_z (f1 h1) (s2 g2), Int.add_zero]
          refine ⟨i + 1, ⟨Nat.lt_succ_self _, hlt⟩, ?_⟩
          refine ent_of (rl := []) (nl := []) ⟨rfl, ?_, ?_, trivial, rfl, rfl, Nat.zero_le _, trivial, trivial⟩ <;> (repeat' (first | exact trivial | exact SameL.refl _ | exact ep_seal rfl rfl | assumption | exact congrArg (Value.int _) (by assumption) | exact rfl | exact Nat.le_of_ble_eq_true rfl | decide | apply And.intro))
      · have hv : windTo es p i = windTo es p (i + 1) := by rw [windTo_succ hlt, show numE p (es.getD i default) = 0 from numE_z (f1 h1) (s1 g1), Int.add_zero]
        refine ⟨i + 1, ⟨Nat.lt_succ_self _, hlt⟩, ?_⟩
        refine ent_of (rl := []) (nl := []) ⟨rfl, ?_, ?_, trivial, rfl, rfl, Nat.zero_le _, trivial, trivial⟩ <;> (repeat' (first | exact trivial | exact SameL.refl _ | exact ep_seal rfl rfl | assumption | exact congrArg (Value.int _) (by assumption) | exact rfl | exact Nat.le_of_ble_eq_true rfl | decide | apply And.intro))
  · have hin : i = es.length := by omega
    subst hin
    exact ⟨⟨rfl, trivial⟩, trivial⟩
def lonE (p : Pt) (e : Ed) : Bool := decide (crossW (subP e.b e.a) (subP p e.a) = 0 ∧ min2I e.a.x e.b.x ≤ p.x ∧ p.x ≤ max2I e.a.x e.b.x ∧ min2I e.a.y e.b.y ≤ p.y ∧ p.y ≤ max2I e.a.y e.b.y)
noncomputable def SLo (es : List Ed) (p : Pt) (i : Nat) : SS := mkS
  [(3, .o (.p 0 0)), (8, .o (.sl false 4 es.length (rowOf Ed.ls es))), (9, .o (.v (.int .i64 es.length))), (10, .o (.v (.int .i64 i)))] [(0, 27, [.v (.int .i64 p.x), .v (.int .i64 p.y)])] [] 1 Try.f23.ntmps
theorem lon7_at {es : List Ed} {p : Pt} (hl : es.length ≤ 1000) : FnAt Try.prog 23 [aEds es, aPt p] [aB (es.any (lonE p))] := by
  refine fn_at (E := EE) (fn := Try.f23) (c := Try.f23.body.getD .skip) (rs := Try.f23.results.toList) (nt := Try.f23.ntmps) EE_ok follows (by kernel_rfl) (by kernel_rfl) rfl rfl rfl [] rfl ?_
  refine loop_natP es.length (fun i => ∀ k, k < i → lonE p (es.getD k default) = false) (SLo es p) (fun k hk => by omega) ?_ (fun i hi hpi => ?_)
  · refine ent_of (rl := []) (nl := []) ⟨rfl, ?_, ?_, trivial, rfl, rfl, Nat.zero_le _, trivial, trivial⟩ <;> (repeat' (first | exact trivial | exact SameL.refl _ | exact ep_seal rfl rfl | assumption | exact congrArg (Value.int _) (by assumption) | exact rfl | exact Nat.le_of_ble_eq_true rfl | decide | apply And.intro))
  refine if_dec (fun hlt => ?_) (fun hge => ?_)
  · have hlt : i < es.length := by omega
    have hw := w64_succ hlt (by omega)
    have no : lonE p (es.getD i default) = false → ∀ k, k < i + 1 → lonE p (es.getD k default) = false := fun hn k hk => by
      by_cases h' : k < i
      · exact hpi k h'
      · obtain rfl : k = i := by omega
        exact hn
    refine ⟨⟨by omega, by omega⟩, ?_⟩
    refine if_eq (fun h1 => ?_) (fun h1 => ?_)
    · refine if_dec (fun h2 => ?_) (fun h2 => ?_)
      · refine if_dec (fun h3 => ?_) (fun h3 => ?_)
        · refine if_dec (fun h4 => ?_) (fun h4 => ?_)
          · refine if_dec (fun h5 => ?_) (fun h5 => ?_)
            · exact ⟨⟨kB (List.any_eq_true.2 ⟨es.getD i default, getD_mem' hlt, decide_eq_true ⟨h1, h2, h3, h4, h5⟩⟩), trivial⟩, trivial⟩
            · refine ⟨i + 1, ⟨Nat.lt_succ_self _, hlt, no (decide_eq_false fun q => h5 q.2.2.2.2)⟩, ?_⟩
              refine ent_of (rl := []) (nl := []) ⟨rfl, ?_, ?_, trivial, rfl, rfl, Nat.zero_le _, trivial, trivial⟩ <;> (repeat' (first | exact trivial | exact SameL.refl _ | exact ep_seal rfl rfl | assumption | exact congrArg (Value.int _) (by assumption) | exact rfl | exact Nat.le_of_ble_eq_true rfl | decide | apply And.intro))
          · refine ⟨i + 1, ⟨Nat.lt_succ_self _, hlt, no (decide_eq_false fun q => h4 q.2.2.2.1)⟩, ?_⟩
            refine ent_of (rl := []) (nl := []) ⟨rfl, ?_, ?_, trivial, rfl, rfl, Nat.zero_le _, trivial, trivial⟩ <;> (repeat' (first | exact trivial | exact SameL.refl _ | exact ep_seal rfl rfl | assumption | exact congrArg (Value.int _) (by assumption) | exact rfl | exact Nat.le_of_ble_eq_true rfl | decide | apply And.intro))
        · refine ⟨i + 1, ⟨Nat.lt_succ_self _, hlt, no (decide_eq_false fun q => h3 q.2.2.1)⟩, ?_⟩
          refine ent_of (rl := []) (nl := []) ⟨rfl, ?_, ?_, trivial, rfl, rfl, Nat.zero_le _, trivial, trivial⟩ <;> (repeat' (first | exact trivial | exact SameL.refl _ | exact ep_seal rfl rfl | assumption | exact congrArg (Value.int _) (by assumption) | exact rfl | exact Nat.le_of_ble_eq_true rfl | decide | apply And.intro))
      · refine ⟨i + 1, ⟨Nat.lt_succ_self _, hlt, no (decide_eq_false fun q => h2 q.2.1)⟩, ?_⟩
        refine ent_of (rl := []) (nl := []) ⟨rfl, ?_, ?_, trivial, rfl, rfl, Nat.zero_le _, trivial, trivial⟩ <;> (repeat' (first | exact trivial | exact SameL.refl _ | exact ep_seal rfl rfl | assumption | exact congrArg (Value.int _) (by assumption) | exact rfl | exact Nat.le_of_ble_eq_true rfl | decide | apply And.intro))
    · refine ⟨i + 1, ⟨Nat.lt_succ_self _, hlt, no (decide_eq_false fun q => h1 q.1)⟩, ?_⟩
      refine ent_of (rl := []) (nl := []) ⟨rfl, ?_, ?_, trivial, rfl, rfl, Nat.zero_le _, trivial, trivial⟩ <;> (repeat' (first | exact trivial | exact SameL.refl _ | exact ep_seal rfl rfl | assumption | exact congrArg (Value.int _) (by assumption) | exact rfl | exact Nat.le_of_ble_eq_true rfl | decide | apply And.intro))
  · have hin : i = es.length := by omega
    subst hin
    refine ⟨⟨kB ?_, trivial⟩, trivial⟩
    rw [List.any_eq_false]
    intro e he
    obtain ⟨k, hk, rfl⟩ := List.getElem_of_mem he
    have := hpi k hk
    rw [List.getD_eq_getElem?_getD, List.getElem?_eq_getElem hk] at this
    simpa using this
theorem tmod_u {n k : Int} (h : 0 ≤ n) (hk : 0 < k) : n.tmod k = n % k := Int.tmod_eq_emod_of_nonneg h
theorem point_at (p : Pt) (hp : plIn p) : FnAt Try.prog 41 [aPl p] [aPt p] := by
  unfold plIn at hp
  refine fn_at (E := EE) (fn := Try.f41) (c := Try.f41.body.getD .skip) (rs := Try.f41.results.toList) (nt := Try.f41.ntmps) EE_ok follows (by kernel_rfl) (by kernel_rfl) rfl rfl rfl [] rfl ?_
  exact ⟨⟨vI (w64_in (by omega)).symm, vI (w64_in (by omega)).symm, trivial⟩, trivial⟩
def spotX (es : List Ed) (n : Int) (p : Pt) : Pt :=
  if es.length = 0 ∨ n.tmod 4 = 0 then p else
    let e := es.getD ((w64 (IntKind.u16.wrap (n.tdiv 4))).tmod (es.length : Int)).toNat default
    let x : Pt := if n.tmod 4 = 1 then e.a else ⟨w64 ((w64 (e.a.x + e.b.x)).tdiv 2), w64 ((w64 (e.a.y + e.b.y)).tdiv 2)⟩
    ⟨w64 (x.x + w64 (p.x.tmod 3)), w64 (x.y + w64 (p.y.tmod 3))⟩
theorem spotI {n : Int} (hn : 0 ≤ n ∧ n ≤ 65535) {l : Nat} (hl : 0 < l) : 0 ≤ (w64 (IntKind.u16.wrap (n.tdiv 4))).tmod (l : Int) ∧ (w64 (IntKind.u16.wrap (n.tdiv 4))).tmod (l : Int) < (l : Int) := by
  have e1 : IntKind.u16.wrap (n.tdiv 4) = n / 4 := by
    rw [Int.tdiv_eq_ediv_of_nonneg hn.1]
    show n / 4 % 65536 = n / 4
    omega
  rw [e1, w64_in (by omega)]
  exact ⟨Int.tmod_nonneg _ (by omega), Int.tmod_lt_of_pos _ (by omega)⟩
theorem tdiv2 {x : Int} : -(x.natAbs : Int) ≤ x.tdiv 2 ∧ x.tdiv 2 ≤ x.natAbs := by
  have h := Int.mul_tdiv_add_tmod x 2
  have h1 := tmod_in x (m := 2) (by decide)
  omega
theorem spotX_in {es : List Ed} (h : edsIn es) {n : Int} (hn : 0 ≤ n ∧ n ≤ 65535) {p : Pt} (hp : plIn p) : ptIn 32769 (spotX es n p) := by
  unfold plIn at hp
  unfold spotX
  split
  · unfold ptIn; omega
  · rename_i h0
    obtain ⟨i1, i2⟩ := spotI hn (l := es.length) (by omega)
    have he := h.1 _ (getD_mem' (l := es) (i := ((w64 (IntKind.u16.wrap (n.tdiv 4))).tmod (es.length : Int)).toNat) (by omega))
    generalize es.getD ((w64 (IntKind.u16.wrap (n.tdiv 4))).tmod (es.length : Int)).toNat default = e at *
    unfold edIn ptIn at he
    have t1 := tmod_in p.x (m := 3) (by decide)
    have t2 := tmod_in p.y (m := 3) (by decide)
    have m1 := tdiv2 (x := e.a.x + e.b.x)
    have m2 := tdiv2 (x := e.a.y + e.b.y)
    dsimp only
    unfold ptIn
    split
    · dsimp only
      rw [w64_in (n := p.x.tmod 3) (by omega), w64_in (n := p.y.tmod 3) (by omega), w64_in (by omega), w64_in (by omega)]
      omega
    · dsimp only
      rw [w64_in (n := e.a.x + e.b.x) (by omega), w64_in (n := e.a.y + e.b.y) (by omega), w64_in (n := (e.a.x + e.b.x).tdiv 2) (by omega), w64_in (n := (e.a.y + e.b.y).tdiv 2) (by omega), w64_in (n := p.x.tmod 3) (by omega), w64_in (n := p.y.tmod 3) (by omega), w64_in (by omega), w64_in (by omega)]
      omega
theorem spot_at {es : List Ed} (h : edsIn es) {n : Int} (hn : 0 ≤ n ∧ n ≤ 65535) {p : Pt} (hp : plIn p) : FnAt Try.prog 21 [aEds es, aU16 n, aPl p] [aPt (spotX es n p)] := by
  refine fn_at (E := EE) (fn := Try.f21) (c := Try.f21.body.getD .skip) (rs := Try.f21.results.toList) (nt := Try.f21.ntmps) EE_ok follows (by kernel_rfl) (by kernel_rfl) rfl rfl rfl [] rfl ?_
  refine if_eq_f (fun h0 => ?_) (fun h0 => ?_)
  · have h0 : (es.length : Int) ≠ 0 := h0
    refine if_eq (fun h1 => ?_) (fun h1 => ?_)
    · refine ⟨_, point_at p hp, ?_⟩
      have hs : spotX es n p = p := by unfold spotX; rw [if_pos (.inr h1)]
      rw [hs]
      exact ⟨⟨rfl, rfl, trivial⟩, trivial⟩
    · have h1 : n.tmod 4 ≠ 0 := h1
      have hi : 0 ≤ (w64 (IntKind.u16.wrap (n.tdiv 4))).tmod (es.length : Int) ∧ (w64 (IntKind.u16.wrap (n.tdiv 4))).tmod (es.length : Int) < (es.length : Int) := spotI hn (by omega)
      refine ⟨h0, ?_⟩
      refine ⟨hi, ?_⟩
      refine if_eq (fun h2 => ?_) (fun h2 => ?_)
      · have h2 : n.tmod 4 = 1 := h2
        have hs : spotX es n p = ⟨w64 ((es.getD ((w64 (IntKind.u16.wrap (n.tdiv 4))).tmod (es.length : Int)).toNat default).a.x + w64 (p.x.tmod 3)), w64 ((es.getD ((w64 (IntKind.u16.wrap (n.tdiv 4))).tmod (es.length : Int)).toNat default).a.y + w64 (p.y.tmod 3))⟩ := by
          unfold spotX
          rw [if_neg (by rintro (h | h); omega; exact h1 h)]
          dsimp only
          rw [if_pos h2]
        rw [hs]
        exact ⟨⟨rfl, rfl, trivial⟩, trivial⟩
      · have h2 : n.tmod 4 ≠ 1 := h2
        have hs : spotX es n p = ⟨w64 (w64 ((w64 ((es.getD ((w64 (IntKind.u16.wrap (n.tdiv 4))).tmod (es.length : Int)).toNat default).a.x + (es.getD ((w64 (IntKind.u16.wrap (n.tdiv 4))).tmod (es.length : Int)).toNat default).b.x)).tdiv 2) + w64 (p.x.tmod 3)), w64 (w64 ((w64 ((es.getD ((w64 (IntKind.u16.wrap (n.tdiv 4))).tmod (es.length : Int)).toNat default).a.y + (es.getD ((w64 (IntKind.u16.wrap (n.tdiv 4))).tmod (es.length : Int)).toNat default).b.y)).tdiv 2) + w64 (p.y.tmod 3))⟩ := by
          unfold spotX
          rw [if_neg (by rintro (h | h); omega; exact h1 h)]
          dsimp only
          rw [if_neg h2]
        rw [hs]
        exact ⟨⟨rfl, rfl, trivial⟩, trivial⟩
  · refine ⟨_, point_at p hp, ?_⟩
    have h0 : (es.length : Int) = 0 := h0
    have hs : spotX es n p = p := by unfold spotX; rw [if_pos (.inl (by omega))]
    rw [hs]
    exact ⟨⟨rfl, rfl, trivial⟩, trivial⟩
end Go.Proofs.Ytgneeaoeafjngaa
