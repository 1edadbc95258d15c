/- Law 22: what ScriptPens answers. -/
import Derived.Test.YtggappbiedkopaaGreatK2k
namespace Go.Proofs.YtggappbiedkopaaGreat
open Go SX
set_option linter.unusedVariables false
set_option maxRecDepth 100000
set_option maxHeartbeats 1000000

theorem if_f1 {b : Bool} {A B : Prop} (hb : b = false) (h : A) : (b = false → A) ∧ (b = true → B) := ⟨fun _ => h, (fun e => by rw [hb] at e; cases e)⟩
theorem key_size {c : Int} (h : uIn c) : (keyS c).size = 1 := fin_of (P := fun c => (keyS c).size = 1) (by decide +kernel) h
/-- an act as it may be -/
structure okA (a : Ac) : Prop where
  key : a.key.size = 1
  k0 : 0 ≤ a.kind
  k3 : a.kind ≤ 3
  pen : a.kind = 3 → (0 < a.num ∧ a.num ≤ 64) ∧ (0 < a.den ∧ a.den ≤ 64) ∧ a.lo < a.hi ∧ a.hi ≤ 255 ∧ -8 ≤ a.x ∧ a.x ≤ 23
theorem actAt_ok (bs : List Int) (hb : ∀ k, uIn (bs.getD k default)) (i : Nat) : okA (actAt bs i) := by
  unfold actAt actF
  have hk := key_size (hb (6 * i + 1))
  obtain ⟨a2, b2⟩ := hb (6 * i + 2)
  obtain ⟨a4, b4⟩ := hb (6 * i + 4)
  obtain ⟨a5, b5⟩ := hb (6 * i + 5)
  split
  · exact ⟨hk, (by dsimp only; decide), (by dsimp only; decide), (fun h => by cases h)⟩
  split
  · exact ⟨hk, (by dsimp only; decide), (by dsimp only; decide), (fun h => by cases h)⟩
  split
  · exact ⟨hk, (by dsimp only; decide), (by dsimp only; decide), (fun h => by cases h)⟩
  · refine ⟨hk, (by show (0 : Int) ≤ 3; decide), (by show (3 : Int) ≤ 3; decide), fun _ => ⟨⟨?_, ?_⟩, ⟨?_, ?_⟩, ?_, ?_, ?_, ?_⟩⟩ <;> dsimp only <;> omega
noncomputable def SLp (bs : List Int) (i : Nat) : SS := mkS
  [(8, .o (.sl true 10 (bs.length / 6) (rowOf acL (actsF bs (bs.length / 6))))), (9, .o (.v (.int .i64 ((bs.length / 6 : Nat) : Int)))), (10, .o (.v (.int .i64 i)))] [] [] 0 Tryz.f4.ntmps
theorem ScriptPens_at (bs : List Int) (hb : ∀ k, uIn (bs.getD k default)) (hl : bs.length ≤ 1048576) : FnAt Tryz.prog 4 [(false, [bSl bs])] [aB true] := by
  refine fn_at (E := EE) (fn := Tryz.f4) (c := Tryz.f4.body.getD .skip) (rs := Tryz.f4.results.toList) (nt := Tryz.f4.ntmps) EE_ok follows (by kernel_rfl) (by kernel_rfl) rfl rfl rfl [] rfl ?_
  refine ⟨_, awake_at, ?_⟩
  refine if_ff rfl ?_
  refine ⟨_, Acts_at bs hb hl, ?_⟩
  refine loop_nat (bs.length / 6) (SLp bs) ?_ (fun i hi => ?_)
  · refine ent_of (rl := []) (nl := []) ⟨rfl, ?_, ?_, trivial, rfl, rfl, Nat.zero_le _, trivial, trivial⟩ <;> (repeat' (first | exact trivial | exact SameL.refl _ | exact ep_seal rfl rfl | assumption | exact congrArg (Value.int _) (by assumption) | exact rfl | exact Nat.le_of_ble_eq_true rfl | decide | apply And.intro))
  refine if_dec (fun hlt => ?_) (fun hge => ?_)
  · have hlt : i < bs.length / 6 := by omega
    have hw := w64_succ hlt (by omega)
    have hA : (actsF bs (bs.length / 6)).getD i default = actAt bs i := actsF_get hlt
    have hok := actAt_ok bs hb i
    rw [← hA] at hok
    refine ⟨⟨by omega, by omega⟩, ?_⟩
    have hsz : ((((actsF bs (bs.length / 6)).getD i default).key.size : Int) != 1) = false := by rw [hok.key]; rfl
    refine if_eq (fun hk => ?_) (fun hk => ?_)
    · obtain ⟨⟨p1, p2⟩, ⟨p3, p4⟩, p5, p6, p7, p8⟩ := hok.pen hk
      refine ⟨_, Right_at _ _ ⟨p1, p2⟩ ⟨p3, p4⟩, ?_⟩
      refine if_f1 rfl ?_
      refine if_f1 (decide_eq_false (Int.not_le.2 p5)) ?_
      refine if_f1 (decide_eq_false (Int.not_lt.2 p6)) ?_
      refine if_f1 (decide_eq_false (Int.not_lt.2 p7)) ?_
      refine if_ff (decide_eq_false (Int.not_lt.2 p8)) ?_
      refine if_f1 hsz ?_
      refine if_f1 (decide_eq_false (Int.not_lt.2 hok.k0)) ?_
      refine if_ff (decide_eq_false (Int.not_lt.2 hok.k3)) ?_
      refine ⟨i + 1, ⟨Nat.lt_succ_self _, hlt⟩, ?_⟩
      refine ent_of (rl := []) (nl := []) ⟨rfl, ?_, ?_, trivial, rfl, rfl, Nat.zero_le _, trivial, trivial⟩ <;> (repeat' (first | exact trivial | exact SameL.refl _ | exact ep_seal rfl rfl | assumption | exact congrArg (Value.int _) (by assumption) | exact rfl | exact Nat.le_of_ble_eq_true rfl | decide | apply And.intro))
    · refine if_f1 hsz ?_
      refine if_f1 (decide_eq_false (Int.not_lt.2 hok.k0)) ?_
      refine if_ff (decide_eq_false (Int.not_lt.2 hok.k3)) ?_
      refine ⟨i + 1, ⟨Nat.lt_succ_self _, hlt⟩, ?_⟩
      refine ent_of (rl := []) (nl := []) ⟨rfl, ?_, ?_, trivial, rfl, rfl, Nat.zero_le _, trivial, trivial⟩ <;> (repeat' (first | exact trivial | exact SameL.refl _ | exact ep_seal rfl rfl | assumption | exact congrArg (Value.int _) (by assumption) | exact rfl | exact Nat.le_of_ble_eq_true rfl | decide | apply And.intro))
  · exact ⟨⟨⟨rfl, rfl⟩, trivial⟩, trivial⟩
end Go.Proofs.YtggappbiedkopaaGreat
