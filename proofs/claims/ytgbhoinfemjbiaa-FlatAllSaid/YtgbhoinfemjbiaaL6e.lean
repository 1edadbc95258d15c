/- The contract of law06.FlatAll. -/
import Derived.Test.YtgbhoinfemjbiaaL6c
import Derived.Test.YtgbhoinfemjbiaaPk
namespace Go.Proofs.Ytgbhoinfemjbiaa
open Go SX
set_option linter.unusedVariables false
set_option maxRecDepth 100000

theorem outlineRow (cs : List (List Vx)) : (pathAll (outline cs)).length ≤ 8 := by
  have := (outline_in cs).1
  unfold pathAll; simpa using this
noncomputable def SFl (l : List (List Sg)) (i : Nat) : SS := mkS
  [(3, .o (.sl true 1 l.length (rowOf sgsL l))), (4, .o (.h 0)), (15, .o (.sl true 1 l.length (rowOf sgsL l))), (16, .o (.v (.int .i64 l.length))), (17, .o (.v (.int .i64 i)))] [] [(0, rE ((l.take i).flatMap edges))] 1 Try.f8.ntmps
noncomputable def SFl2 (l : List (List Sg)) (i : Nat) (es : List Ed) (k : Nat) : SS := mkS
  [(3, .o (.sl true 1 l.length (rowOf sgsL l))), (4, .o (.h 0)), (7, .o (.sl true 4 es.length (rowOf Ed.ls es))), (15, .o (.sl true 1 l.length (rowOf sgsL l))), (16, .o (.v (.int .i64 l.length))), (17, .o (.v (.int .i64 i))), (26, .o (.sl true 4 es.length (rowOf Ed.ls es))), (27, .o (.v (.int .i64 es.length))), (28, .o (.v (.int .i64 k)))] [] [(0, rE ((l.take (i + 1)).flatMap edges))] 1 Try.f8.ntmps
theorem flatAllLaw_at (cs : List (List Vx)) : FnAt Try.prog 8 [aSl dsL 1 cs] [aB true] := by
  have hok := pathAll_ok (cs := cs)
  have hl8 := outlineRow cs
  generalize hl : pathAll (outline cs) = l at *
  have hpa := pathAll_at (outline cs) (by have := (outline_in cs).1; omega) (fun c hc => by have := ((outline_in cs).2 c hc).2.1; omega)
  rw [hl] at hpa
  refine fn_at (E := EE) (fn := Try.f8) (c := Try.f8.body.getD .skip) (rs := Try.f8.results.toList) (nt := Try.f8.ntmps) EE_ok follows (by kernel_rfl) (by kernel_rfl) rfl rfl rfl [] rfl ?_
  refine ⟨_, awake06_at, ?_⟩
  refine ⟨(fun h => nomatch h), fun _ => ?_⟩
  refine ⟨_, outline_at cs, ?_⟩
  refine ⟨_, hpa, ?_⟩
  refine loop_nat l.length (SFl l) ?_ (fun i hi => ?_)
  · refine ent_of (rl := []) (nl := [0]) ⟨rfl, ?_, ?_, ⟨⟨Nat.le_of_ble_eq_true rfl, rfl⟩, trivial⟩, rfl, rfl, Nat.zero_le _, ⟨Nat.zero_le _, trivial⟩, trivial⟩ <;> (repeat' (first | exact trivial | exact SameL.refl _ | exact ep_seal rfl rfl | assumption | exact congrArg (Value.int .i64) (by assumption) | exact rfl | exact Nat.le_of_ble_eq_true rfl | decide | apply And.intro))
  refine if_dec (fun hlt => ?_) (fun hge => ?_)
  · have hlt : i < l.length := by omega
    have hw := w64_succ hlt (by omega)
    refine ⟨⟨by omega, by omega⟩, ?_⟩
    obtain ⟨hcl, hin, hl13⟩ := hok (l.getD i default) (getD_mem hlt)
    have hee : edgesL (l.getD i default) = edges (l.getD i default) := (edges_eq fun s hs => (hin s hs).up).symm
    have hel := edges_len (l.getD i default)
    have hfl := flatAll_len (l := l.take i) (m := 13) fun c hc => (hok c (List.mem_of_mem_take hc)).2.2
    have hti : (l.take i).length ≤ 8 := by simp; omega
    have hb : (flatAll (l.take i)).length ≤ 8 * (4 * 13) := Nat.le_trans hfl (Nat.mul_le_mul_right _ hti)
    unfold flatAll at hb
    have hE := edgesL_at (l.getD i default) (by omega)
    rw [hee] at hE
    refine ⟨_, hE, ?_⟩
    refine ⟨appM (n := ((l.take i).flatMap edges).length) (m := (edges (l.getD i default)).length) (by omega) (by decide), ?_⟩
    refine loop_nat (edges (l.getD i default)).length (SFl2 l i (edges (l.getD i default))) ?_ (fun k hk => ?_)
    · refine ent_of (rl := [(0, 10)]) (nl := []) ⟨rfl, ?_, ?_, ⟨⟨Nat.le_of_ble_eq_true rfl, subR_app rfl rfl rfl rfl (flatMap_take_succ edges l hlt) rfl⟩, trivial⟩, rfl, rfl, Nat.zero_le _, trivial, ⟨⟨Nat.zero_le _, Nat.zero_le _⟩, trivial⟩⟩ <;> (repeat' (first | exact trivial | exact SameL.refl _ | exact ep_seal rfl rfl | assumption | exact congrArg (Value.int .i64) (by assumption) | exact rfl | exact Nat.le_of_ble_eq_true rfl | decide | apply And.intro))
    refine if_dec (fun hlt' => ?_) (fun hge' => ?_)
    · have hlt' : k < (edges (l.getD i default)).length := by omega
      have hw' := w64_succ hlt' (by omega)
      refine ⟨⟨by omega, by omega⟩, ?_⟩
      obtain ⟨b, hb1, hb2⟩ := hcl
      have hne := (hb2 _ (getD_mem hlt')).2
      have hnx := closed_next ⟨b, hb1, hb2⟩ hlt'
      have hix : (w64 ((k : Int) + 1)).tmod ((edges (l.getD i default)).length : Int) = (((k + 1) % (edges (l.getD i default)).length : Nat) : Int) := by
        rw [hw']; exact rem_nat (by omega)
      have hmd : (k + 1) % (edges (l.getD i default)).length < (edges (l.getD i default)).length := Nat.mod_lt _ (by omega)
      have hnx' : ((edges (l.getD i default)).getD (k : Int).toNat default).b = ((edges (l.getD i default)).getD ((w64 ((k : Int) + 1)).tmod ((edges (l.getD i default)).length : Int)).toNat default).a := by
        rw [hix, Int.toNat_natCast, Int.toNat_natCast]; exact hnx
      refine if_pt_f (fun _ => ?_) (fun h => absurd h hne)
      refine ⟨by omega, by show 0 ≤ (w64 ((k : Int) + 1)).tmod ((edges (l.getD i default)).length : Int) ∧ _; rw [hix]; omega, ?_⟩
      refine if_npt (fun h => absurd hnx' h) (fun _ => ?_)
      refine ⟨k + 1, ⟨Nat.lt_succ_self _, hlt'⟩, ?_⟩
      refine ent_of (rl := []) (nl := []) ⟨rfl, ?_, ?_, ⟨⟨Nat.le_of_ble_eq_true rfl, subR.refl _⟩, trivial⟩, rfl, rfl, Nat.zero_le _, trivial, trivial⟩ <;> (repeat' (first | exact trivial | exact SameL.refl _ | exact ep_seal rfl rfl | assumption | exact congrArg (Value.int .i64) (by assumption) | exact rfl | exact Nat.le_of_ble_eq_true rfl | decide | apply And.intro))
    · have hkn : k = (edges (l.getD i default)).length := by omega
      subst hkn
      refine ⟨i + 1, ⟨Nat.lt_succ_self _, hlt⟩, ?_⟩
      refine ent_of (rl := []) (nl := []) ⟨rfl, ?_, ?_, ⟨⟨Nat.le_of_ble_eq_true rfl, subR.refl _⟩, trivial⟩, rfl, rfl, Nat.zero_le _, trivial, trivial⟩ <;> (repeat' (first | exact trivial | exact SameL.refl _ | exact ep_seal rfl rfl | assumption | exact congrArg (Value.int .i64) (by assumption) | exact rfl | exact Nat.le_of_ble_eq_true rfl | decide | apply And.intro))
  · have hin : i = l.length := by omega
    subst hin
    have hfa := flatAll_len (l := l) (m := 13) fun c hc => (hok c hc).2.2
    have hbb : (flatAll l).length ≤ 8 * (4 * 13) := Nat.le_trans hfa (Nat.mul_le_mul_right _ hl8)
    refine ⟨_, flatAll_at l (by omega) (fun c hc => by have := (hok c hc).2.2; omega), ?_⟩
    refine ⟨_, same_at (flatAll l) ((l.take l.length).flatMap edges) (by omega), ?_⟩
    exact ⟨⟨vB (decide_eq_true (by rw [List.take_length]; rfl)).symm, trivial⟩, trivial⟩
theorem FlatAll_row : ∀ args, TyArgs tt 8 [46] args → FnAt Try.prog 8 args [(false, [.lit (.bool true)])] := by
  intro args h
  match args, h with
  | [(b, l)], ⟨⟨e, h1⟩, _⟩ =>
    have e : b = false := e
    subst e
    obtain ⟨cs, hcs⟩ := ty_dots (k := 4) h1
    exact (flatAllLaw_at cs).args ⟨rfl, hcs, trivial⟩

end Go.Proofs.Ytgbhoinfemjbiaa
