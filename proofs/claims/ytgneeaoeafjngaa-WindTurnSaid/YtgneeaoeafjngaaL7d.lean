/- The contract of law07.WindTurn. -/
import Derived.Test.YtgneeaoeafjngaaL7c
namespace Go.Proofs.Ytgneeaoeafjngaa
open Go SX
set_option linter.unusedVariables false
set_option maxRecDepth 100000
set_option maxHeartbeats 2000000

def turnE (e : Ed) : Ed := ⟨e.b, e.a⟩
def backTo (es : List Ed) (i : Nat) : List Ed := ((es.take i).map turnE).reverse
theorem backTo_succ {es : List Ed} {i : Nat} (h : i < es.length) : backTo es (i + 1) = turnE (es.getD i default) :: backTo es i := by
  unfold backTo
  rw [List.take_add_one, List.map_append, List.reverse_append, List.getD_eq_getElem?_getD, List.getElem?_eq_getElem h]
  rfl
theorem backTo_len {es : List Ed} {i : Nat} (h : i ≤ es.length) : (backTo es i).length = i := by unfold backTo; simp; omega
theorem crs_turn (a b p : Pt) : crs (way a b) (way p b) = -crs (way b a) (way p a) := by unfold crs way; dsimp only; grind
theorem num_turn {e : Ed} {p : Pt} (he : edIn 8192 e) (hp : ptIn 33000 p) : numE p (turnE e) = -numE p e := by
  rw [numE_crs he hp, numE_crs (e := turnE e) ⟨he.2, he.1⟩ hp]
  show (if e.b.y ≤ p.y ∧ p.y < e.a.y ∧ 0 < crs (way e.a e.b) (way p e.b) then (1 : Int) else if e.a.y ≤ p.y ∧ p.y < e.b.y ∧ crs (way e.a e.b) (way p e.b) < 0 then -1 else 0) = _
  rw [crs_turn]
  generalize crs (way e.b e.a) (way p e.a) = c
  repeat' split
  all_goals omega
theorem wind_back {p : Pt} (hp : ptIn 33000 p) : ∀ {es : List Ed}, (∀ e ∈ es, edIn 8192 e) → windN (es.map turnE).reverse p = -windN es p
  | [], _ => rfl
  | e :: es, h => by
    rw [List.map_cons, List.reverse_cons, windN_app, wind_back hp (fun x hx => h x (by simp [hx])), windN_cons, windN_cons, num_turn (h e (by simp)) hp]
    show _ + (_ + (0 : Int)) = _
    omega
theorem area_back : ∀ (es : List Ed), areaTo (es.map turnE).reverse (es.map turnE).reverse.length = -areaTo es es.length
  | [] => rfl
  | e :: es => by
    rw [List.map_cons, List.reverse_cons, area_app, area_back es, area_cons, area_cons]
    have : crs (turnE e).a (turnE e).b = -crs e.a e.b := by unfold crs turnE; dsimp only; grind
    rw [this]
    show _ + (_ + (0 : Int)) = _
    omega
theorem on_turn {p : Pt} {e : Ed} (h : e.a ≠ e.b) : onE p (turnE e) = onE p e := by
  rw [Bool.eq_iff_iff, onE_iff (e := turnE e) (fun h' => h h'.symm), onE_iff h]
  show (crs (way e.a e.b) (way p e.b) = 0 ∧ btw (way e.a e.b).x (way p e.b).x ∧ btw (way e.a e.b).y (way p e.b).y) ↔ _
  rw [crs_turn]
  unfold onN btw
  have e1 : (way e.a e.b).x = -(way e.b e.a).x := by unfold way; dsimp only; omega
  have e2 : (way e.a e.b).y = -(way e.b e.a).y := by unfold way; dsimp only; omega
  have e3 : (way p e.b).x = (way p e.a).x - (way e.b e.a).x := by unfold way; dsimp only; omega
  have e4 : (way p e.b).y = (way p e.a).y - (way e.b e.a).y := by unfold way; dsimp only; omega
  rw [e1, e2, e3, e4]
  omega
theorem any_back {p : Pt} {es : List Ed} (h : ∀ e ∈ es, e.a ≠ e.b) : (es.map turnE).reverse.any (onE p) = es.any (onE p) := by
  rw [List.any_reverse, List.any_map]
  induction es with
  | nil => rfl
  | cons e es ih =>
    rw [List.any_cons, List.any_cons, ih (fun x hx => h x (by simp [hx]))]
    congr 1
    exact on_turn (h e (by simp))
theorem subR_consE {T : Nat} {es : List Ed} {e : Ed} {f : Nat → Nat → L} (hf : ∀ j, j < 4 → f 0 j = nth (Ed.ls e) j) : subR ⟨T, 4, 1 + es.length, appf f 1 (rowOf Ed.ls es), true⟩ ⟨T, 4, (e :: es).length, rowOf Ed.ls (e :: es), true⟩ := by
  refine ⟨rfl, rfl, by simp; omega, rfl, fun a ha j hj => .of_eq ?_⟩
  match a with
  | 0 => exact hf j hj
  | a + 1 => rfl
theorem four {P : Nat → Prop} (h0 : P 0) (h1 : P 1) (h2 : P 2) (h3 : P 3) : ∀ j, j < 4 → P j
  | 0, _ => h0
  | 1, _ => h1
  | 2, _ => h2
  | 3, _ => h3
noncomputable def SWt (es : List Ed) (x : Pt) (i : Nat) : SS := mkS
  [(7, .o (.sl true 4 es.length (rowOf Ed.ls es))), (8, .o (.p 0 0)), (9, .o (.h 1)), (20, .o (.sl true 4 es.length (rowOf Ed.ls es))), (21, .o (.v (.int .i64 es.length))), (22, .o (.v (.int .i64 i)))]
  [(0, 27, [.v (.int .i64 x.x), .v (.int .i64 x.y)])] [(1, ⟨31, 4, (backTo es i).length, rowOf Ed.ls (backTo es i), true⟩)] 2 Try.f6.ntmps
theorem windTurn_at (cs : List (List Vx)) {n : Int} (hn : 0 ≤ n ∧ n ≤ 65535) {p : Pt} (hp : plIn p) : FnAt Try.prog 6 [aSl dsL 1 cs, aU16 n, aPl p] [aB true] := by
  have hi := glyph_in cs
  have hok := (glyph_ok cs).1
  have hx := plP_in hi hn hp
  refine fn_at (E := EE) (fn := Try.f6) (c := Try.f6.body.getD .skip) (rs := Try.f6.results.toList) (nt := Try.f6.ntmps) EE_ok follows (by kernel_rfl) (by kernel_rfl) rfl rfl rfl [] rfl ?_
  refine ⟨_, awake07_at, ?_⟩
  refine ⟨(fun h => nomatch h), fun _ => ?_⟩
  refine ⟨_, glyph_at cs, ?_⟩
  refine ⟨_, spot_at hi hn hp, ?_⟩
  generalize glyph cs = es at *
  generalize spotX es n p = x at *
  have l1 := hi.2
  refine loop_nat es.length (SWt es x) ?_ (fun i hi' => ?_)
  · refine ent_of (rl := [(0, 11)]) (nl := [1]) ⟨rfl, ?_, ?_, ⟨⟨Nat.le_of_ble_eq_true rfl, rfl⟩, trivial⟩, rfl, rfl, Nat.zero_le _, ⟨Nat.zero_le _, trivial⟩, ⟨⟨Nat.zero_le _, Nat.zero_le _⟩, trivial⟩⟩ <;> (repeat' (first | exact trivial | exact SameL.refl _ | exact ep_seal rfl rfl | assumption | exact congrArg (Value.int _) (by assumption) | exact rfl | exact Nat.le_of_ble_eq_true rfl | decide | apply And.intro))
  refine if_dec (fun hlt => ?_) (fun hge => ?_)
  · have hlt : i < es.length := by omega
    have hw := w64_succ hlt (by omega)
    have hbl := backTo_len (es := es) (i := i) (by omega)
    refine ⟨⟨by omega, by omega⟩, ?_⟩
    refine ⟨appM (n := 1) (m := (backTo es i).length) (by omega) (by decide), ?_⟩
    refine ⟨i + 1, ⟨Nat.lt_succ_self _, hlt⟩, ?_⟩
    rw [show SWt es x (i + 1) = _ from rfl]
    unfold SWt
    rw [backTo_succ hlt]
    refine ent_of (rl := [(1, 14)]) (nl := []) ⟨rfl, ?_, ?_, ⟨⟨Nat.le_of_ble_eq_true rfl, subR_consE (e := turnE (es.getD i default)) (four rfl rfl rfl rfl)⟩, trivial⟩, rfl, rfl, Nat.zero_le _, trivial, ⟨⟨Nat.zero_le _, Nat.zero_le _⟩, trivial⟩⟩ <;> (repeat' (first | exact trivial | exact SameL.refl _ | exact ep_seal rfl rfl | assumption | exact congrArg (Value.int _) (by assumption) | exact rfl | exact Nat.le_of_ble_eq_true rfl | decide | apply And.intro))
  · have hin : i = es.length := by omega
    subst hin
    have hbk : backTo es es.length = (es.map turnE).reverse := by unfold backTo; rw [List.take_length]
    have hbl := backTo_len (es := es) (i := es.length) (by omega)
    have hbi : edsIn (backTo es es.length) := by
      refine ⟨fun e he => ?_, by omega⟩
      rw [hbk] at he
      obtain ⟨e', he', rfl⟩ := List.mem_map.1 (List.mem_reverse.1 he)
      have := hi.1 e' he'
      exact ⟨this.2, this.1⟩
    have hA : areaTo (backTo es es.length) (backTo es es.length).length = -areaTo es es.length := by rw [hbk]; exact area_back es
    have hN : windN (backTo es es.length) x = -windN es x := by rw [hbk]; exact wind_back hx hi.1
    have hO : (backTo es es.length).any (onE x) = es.any (onE x) := by rw [hbk]; exact any_back fun e he => (hok e he).2
    have qa := areaTo_in hi.1 (i := es.length) (Nat.le_refl _)
    have qn := windTo_in (es := es) (p := x) (i := es.length) (Nat.le_refl _)
    refine ⟨_, area_at hbi, ?_⟩
    refine ⟨_, area_at hi, ?_⟩
    refine if_eq (fun _ => ?_) (fun h => absurd (show areaTo (backTo es es.length) (backTo es es.length).length = w64 (0 - areaTo es es.length) by rw [hA, w64_in (by omega)]; omega) h)
    refine ⟨_, wIn_at hbi hx, ?_⟩
    refine ⟨_, wIn_at hi hx, ?_⟩
    refine if_beq (fun _ => ?_) (fun h => absurd ?_ h)
    · refine ⟨_, wOn_at hi hx, ?_⟩
      refine if_b_f (fun h1 => ?_) (fun h1 => ?_)
      · refine ⟨_, windN_at (p := x) hbi.2, ?_⟩
        refine ⟨_, windN_at (p := x) hi.2, ?_⟩
        refine ⟨⟨vB ?_, trivial⟩, trivial⟩
        have e : windN (backTo es es.length) x = w64 (0 - windN es x) := by
          unfold windN at hN ⊢
          rw [hN, w64_in (by omega)]; omega
        exact (beq_iff_eq.2 e).symm
      · exact ⟨⟨kB rfl, trivial⟩, trivial⟩
    · rw [hN, hO]
      congr 1
      exact decide_eq_decide.2 (by omega)
theorem WindTurn_row : ∀ args, TyArgs tt 8 [36, 37, 24] args → FnAt Try.prog 6 args [(false, [.lit (.bool true)])] := row_csnp @fun cs n hn p hp => windTurn_at cs hn hp
end Go.Proofs.Ytgneeaoeafjngaa
