/- The contracts of law11: Ints, corners, Contours, awake, shared; of corner.All. -/
import Derived.Test.YtpadocjddoenhaaPd
import Derived.Test.YtpadocjddoenhaaPk
namespace Go.Proofs.Ytpadocjddoenhaa
open Go SX
set_option linter.unusedVariables false
set_option maxRecDepth 100000

theorem if_nint {a b : Int} {A B : Prop} (h : a ≠ b → A) (h' : a = b → B) : ((a != b) = true → A) ∧ ((a != b) = false → B) := if_ne h h'
/-! ### law11.Ints -/

/-! ### law11.corners -/

/-! ### law11.shared -/

/-! ### law11.Contours -/
noncomputable def SCt (cs : List (List Vx)) (i : Nat) : SS := mkS
  [(3, .o (.h 0)), (13, .o (.sl false 1 (cs.take 3).length (rowOf dsL (cs.take 3)))), (14, .o (.v (.int .i64 (cs.take 3).length))), (15, .o (.v (.int .i64 i)))] [] [(0, rDs (((cs.take 3).take i).map fun c : List Vx => c.take 6))] 1 Try.f14.ntmps
@[reducible] def rEs (ss : List (List Ed)) : OR := ⟨38, 1, ss.length, rowOf edsL ss, true⟩
noncomputable def SCt2 (l : List (List Sg)) (i : Nat) : SS := mkS
  [(6, .o (.h 0)), (30, .o (.sl true 1 l.length (rowOf sgsL l))), (31, .o (.v (.int .i64 l.length))), (32, .o (.v (.int .i64 i)))] [] [(0, rEs ((l.take i).map edges))] 1 Try.f14.ntmps
theorem contours_at (cs : List (List Vx)) : FnAt Try.prog 14 [aSl dsL 1 cs] [aSl edsL 1 (contours cs)] := by
  refine fn_at (E := EE) (fn := Try.f14) (c := Try.f14.body.getD .skip) (rs := Try.f14.results.toList) (nt := Try.f14.ntmps) EE_ok follows (by kernel_rfl) (by kernel_rfl) rfl rfl rfl [] rfl ?_
  have hm3 : (min2I (cs.length : Int) 3).toNat = min 3 cs.length := min2_nat cs.length 3
  have h3 : SameL (.sl 1 ((min2I (cs.length : Int) 3).toNat - Int.toNat 0) fun a b => rowOf dsL cs (Int.toNat 0 + a) b) (.sl 1 (cs.take 3).length (rowOf dsL (cs.take 3))) := sl_take hm3
  have h3n : (((min2I (cs.length : Int) 3).toNat - Int.toNat 0 : Nat) : Int) = (((cs.take 3).length : Nat) : Int) := by rw [hm3, List.length_take]; rfl
  refine ⟨⟨by decide, by show 0 ≤ min2I _ _; unfold min2I; split <;> omega, by show min2I _ _ ≤ _; unfold min2I; split <;> omega⟩, ?_⟩
  refine loop_nat (cs.take 3).length (SCt cs) ?_ (fun i hi => ?_)
  · refine ent_of (rl := []) (nl := [0]) ⟨rfl, ?_, ?_, ⟨⟨Nat.le_of_ble_eq_true rfl, rfl⟩, trivial⟩, rfl, rfl, Nat.zero_le _, ⟨Nat.zero_le _, trivial⟩, trivial⟩ <;> (repeat' (first | exact trivial | exact SameL.refl _ | exact ep_seal rfl rfl | assumption | exact congrArg (Value.int _) (by assumption) | exact rfl | exact Nat.le_of_ble_eq_true rfl | decide | apply And.intro))
  refine if_dec (fun hlt => ?_) (fun hge => ?_)
  · have hlt : i < (cs.take 3).length := by omega
    have hl3 : (cs.take 3).length ≤ 3 := by simp; omega
    have hw := w64_succ hlt (by omega)
    refine ⟨⟨by omega, by omega⟩, ?_⟩
    have hm6 : (min2I (((cs.take 3).getD i default).length : Int) 6).toNat = min 6 ((cs.take 3).getD i default).length := min2_nat _ 6
    have h6 : SameL (.sl 3 ((min2I (((cs.take 3).getD i default).length : Int) 6).toNat - Int.toNat 0) fun a b => rowOf Vx.ds ((cs.take 3).getD i default) (Int.toNat 0 + a) b) (.sl 3 (((cs.take 3).getD i default).take 6).length (rowOf Vx.ds (((cs.take 3).getD i default).take 6))) := sl_take hm6
    refine ⟨⟨by decide, by show 0 ≤ min2I _ _; unfold min2I; split <;> omega, by show min2I _ _ ≤ _; unfold min2I; split <;> omega⟩, ?_⟩
    refine ⟨appC (n := (((cs.take 3).take i).map fun c : List Vx => c.take 6).length) (by simp; omega) (by decide), ?_⟩
    refine ⟨i + 1, ⟨Nat.lt_succ_self _, hlt⟩, ?_⟩
    refine ent_of (rl := [(0, 12)]) (nl := []) ⟨rfl, ?_, ?_, ⟨⟨Nat.le_of_ble_eq_true rfl, subR_snoc (x := ((cs.take 3).getD i default).take 6) rfl rfl (fun j hj => by
      have hj : j < 1 := hj
      obtain rfl : j = 0 := by omega
      exact h6) (map_take_succ (fun c : List Vx => c.take 6) _ hlt) rfl⟩, trivial⟩, rfl, rfl, Nat.zero_le _, trivial, ⟨⟨Nat.zero_le _, Nat.zero_le _⟩, trivial⟩⟩ <;> (repeat' (first | exact trivial | exact SameL.refl _ | exact ep_seal rfl rfl | assumption | exact congrArg (Value.int _) (by assumption) | exact rfl | exact Nat.le_of_ble_eq_true rfl | decide | apply And.intro))
  · have hin : i = (cs.take 3).length := by omega
    subst hin
    have hf : ((cs.take 3).take (cs.take 3).length).map (fun c : List Vx => c.take 6) = fewC cs := by rw [List.take_length]; rfl
    obtain ⟨o1, o2⟩ := outline_in (((cs.take 3).take (cs.take 3).length).map fun c : List Vx => c.take 6)
    obtain ⟨p1, p2⟩ := outlines_in cs
    have hO := outline_at (((cs.take 3).take (cs.take 3).length).map fun c : List Vx => c.take 6)
    have hP := pathAll_at (outline (((cs.take 3).take (cs.take 3).length).map fun c : List Vx => c.take 6)) (by omega) (fun c hc => by have := (o2 c hc).2.1; omega)
    have hl : pathAll (outline (((cs.take 3).take (cs.take 3).length).map fun c : List Vx => c.take 6)) = outlines cs := by rw [hf]; rfl
    rw [hl] at hP
    refine ⟨_, hO, ?_⟩
    refine ⟨_, hP, ?_⟩
    have hct : contours cs = (outlines cs).map edges := rfl
    generalize outlines cs = l at *
    refine loop_nat l.length (SCt2 l) ?_ (fun i hi => ?_)
    · refine ent_of (rl := []) (nl := [0]) ⟨rfl, ?_, ?_, ⟨⟨Nat.le_of_ble_eq_true rfl, rfl⟩, trivial⟩, rfl, rfl, Nat.zero_le _, ⟨Nat.zero_le _, trivial⟩, trivial⟩ <;> (repeat' (first | exact trivial | exact SameL.refl _ | exact ep_seal rfl rfl | assumption | exact congrArg (Value.int _) (by assumption) | exact rfl | exact Nat.le_of_ble_eq_true rfl | decide | apply And.intro))
    refine if_dec (fun hlt => ?_) (fun hge => ?_)
    · have hlt : i < l.length := by omega
      have hw := w64_succ hlt (by omega)
      have hc13 := p2 _ (getD_mem hlt)
      refine ⟨⟨by omega, by omega⟩, ?_⟩
      refine ⟨_, edges_at (l.getD i default) (by omega), ?_⟩
      refine ⟨appC (n := ((l.take i).map edges).length) (by simp; omega) (by decide), ?_⟩
      refine ⟨i + 1, ⟨Nat.lt_succ_self _, hlt⟩, ?_⟩
      refine ent_of (rl := [(0, 9)]) (nl := []) ⟨rfl, ?_, ?_, ⟨⟨Nat.le_of_ble_eq_true rfl, subR_snoc (x := edges (l.getD i default)) rfl rfl (fun j _ => elem1 rfl) (map_take_succ edges l hlt) rfl⟩, trivial⟩, rfl, rfl, Nat.zero_le _, trivial, ⟨⟨Nat.zero_le _, Nat.zero_le _⟩, trivial⟩⟩ <;> (repeat' (first | exact trivial | exact SameL.refl _ | exact ep_seal rfl rfl | assumption | exact congrArg (Value.int _) (by assumption) | exact rfl | exact Nat.le_of_ble_eq_true rfl | decide | apply And.intro))
    · have hin : i = l.length := by omega
      subst hin
      exact ⟨⟨row_ret (by rw [List.take_length, hct]), trivial⟩, trivial⟩

/-! ### corner.All -/
@[reducible] def rEf (es : List Ed) : OR := ⟨70, 4, es.length, rowOf Ed.ls es, false⟩
noncomputable def SCa (cs : List (List Ed)) (i : Nat) : SS := mkS
  [(4, .o (.h 0)), (5, .o (.h 1)), (8, .o (.sl false 1 cs.length (rowOf edsL cs))), (9, .o (.v (.int .i64 cs.length))), (10, .o (.v (.int .i64 i)))] [] [(0, rEf ((cs.take i).flatMap id)), (1, rI ((cs.take i).flatMap colours))] 2 Try.f13.ntmps
theorem ed_ret {es es' : List Ed} (h : es = es') : 4 = 4 ∧ es.length = es'.length ∧ ∀ a, a < es'.length → ∀ j, j < 4 → (false || isLit (rowOf Ed.ls es' a j)) = true ∧ SameL (rowOf Ed.ls es a j) (rowOf Ed.ls es' a j) := by
  subst h
  refine ⟨rfl, rfl, fun a _ j hj => ⟨?_, SameL.refl _⟩⟩
  match j, hj with
  | 0, _ => rfl
  | 1, _ => rfl
  | 2, _ => rfl
  | 3, _ => rfl
theorem flat_len {α β : Type} {f : α → List β} {m : Nat} : ∀ {l : List α}, (∀ c ∈ l, (f c).length ≤ m) → (l.flatMap f).length ≤ l.length * m
  | [], _ => by simp
  | c :: l, h => by
    have h1 := flat_len (l := l) fun x hx => h x (by simp [hx])
    have h2 := h c (by simp)
    rw [List.flatMap_cons, List.length_append, List.length_cons, Nat.add_mul]
    omega
theorem cornerAll_at (cs : List (List Ed)) (hl : cs.length ≤ 1000) (h : ∀ c ∈ cs, c.length ≤ 1000) : FnAt Try.prog 13 [aSl edsL 1 cs] [aEds (cs.flatMap id), aInts (cs.flatMap colours)] := by
  refine fn_at (E := EE) (fn := Try.f13) (c := Try.f13.body.getD .skip) (rs := Try.f13.results.toList) (nt := Try.f13.ntmps) EE_ok follows (by kernel_rfl) (by kernel_rfl) rfl rfl rfl [] rfl ?_
  refine loop_nat cs.length (SCa cs) ?_ (fun i hi => ?_)
  · refine ent_of (rl := []) (nl := [0, 1]) ⟨rfl, ?_, ?_, ⟨⟨Nat.le_of_ble_eq_true rfl, rfl⟩, ⟨Nat.le_of_ble_eq_true rfl, rfl⟩, trivial⟩, rfl, rfl, Nat.zero_le _, ⟨Nat.zero_le _, Nat.zero_le _, trivial⟩, trivial⟩ <;> (repeat' (first | exact trivial | exact SameL.refl _ | exact ep_seal rfl rfl | assumption | exact congrArg (Value.int _) (by assumption) | exact rfl | exact Nat.le_of_ble_eq_true rfl | decide | apply And.intro))
  refine if_dec (fun hlt => ?_) (fun hge => ?_)
  · have hlt : i < cs.length := by omega
    have hw := w64_succ hlt (by omega)
    have hc := h _ (getD_mem hlt)
    have hti : (cs.take i).length ≤ 1000 := by simp; omega
    have b1 : ((cs.take i).flatMap id).length ≤ 1000 * 1000 := Nat.le_trans (flat_len (m := 1000) fun c hc => h c (List.mem_of_mem_take hc)) (Nat.mul_le_mul_right _ hti)
    have b2 : ((cs.take i).flatMap colours).length ≤ 1000 * 1000 := Nat.le_trans (flat_len (m := 1000) fun c hc => by rw [colours_len]; exact h c (List.mem_of_mem_take hc)) (Nat.mul_le_mul_right _ hti)
    have b3 := colours_len (cs.getD i default)
    refine ⟨⟨by omega, by omega⟩, ?_⟩
    refine ⟨appM (n := ((cs.take i).flatMap id).length) (m := (cs.getD i default).length) (by omega) (by decide), ?_⟩
    refine ⟨_, colours_at (cs.getD i default) (by omega), ?_⟩
    refine ⟨appM (n := ((cs.take i).flatMap colours).length) (m := (colours (cs.getD i default)).length) (by omega) (by decide), ?_⟩
    refine ⟨i + 1, ⟨Nat.lt_succ_self _, hlt⟩, ?_⟩
    refine ent_of (rl := [(0, 8), (1, 12)]) (nl := []) ⟨rfl, ?_, ?_, ⟨⟨Nat.le_of_ble_eq_true rfl, subR_app rfl rfl rfl rfl (flatMap_take_succ id cs hlt) rfl⟩, ⟨Nat.le_of_ble_eq_true rfl, subR_app rfl rfl rfl rfl (flatMap_take_succ colours cs hlt) rfl⟩, trivial⟩, rfl, rfl, Nat.zero_le _, trivial, ⟨⟨Nat.zero_le _, Nat.zero_le _⟩, ⟨Nat.zero_le _, Nat.zero_le _⟩, trivial⟩⟩ <;> (repeat' (first | exact trivial | exact SameL.refl _ | exact ep_seal rfl rfl | assumption | exact congrArg (Value.int _) (by assumption) | exact rfl | exact Nat.le_of_ble_eq_true rfl | decide | apply And.intro))
  · have hin : i = cs.length := by omega
    subst hin
    exact ⟨⟨ed_ret (by rw [List.take_length]), trivial⟩, ⟨row_ret (by rw [List.take_length]), trivial⟩, trivial⟩
end Go.Proofs.Ytpadocjddoenhaa
