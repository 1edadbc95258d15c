/- The contracts of wind, dist. -/
import Derived.Test.YtpadocjddoenhaaPv
namespace Go.Proofs.Ytpadocjddoenhaa
open Go SX
set_option linter.unusedVariables false
set_option maxRecDepth 100000

theorem foldl_take' {α β : Type} [Inhabited β] (f : α → β → α) (z : α) (l : List β) (k : Nat) (h : k < l.length) : (l.take (k + 1)).foldl f z = f ((l.take k).foldl f z) (l.getD k default) := by
  rw [List.take_add_one, List.foldl_append, List.getD_eq_getElem?_getD, List.getElem?_eq_getElem h]
  rfl
theorem getD_mem' {α : Type} [Inhabited α] {l : List α} {i : Nat} (h : i < l.length) : l.getD i default ∈ l := by
  rw [List.getD_eq_getElem?_getD, List.getElem?_eq_getElem h]; exact List.getElem_mem h
/-- edges that may be -/
def edsIn (es : List Ed) : Prop := (∀ e ∈ es, edIn 8192 e) ∧ es.length ≤ 1000
def numE (p : Pt) (e : Ed) : Int := if e.a.y ≤ p.y ∧ p.y < e.b.y ∧ 0 < sideW e p then 1 else if e.b.y ≤ p.y ∧ p.y < e.a.y ∧ sideW e p < 0 then -1 else 0
def windTo (es : List Ed) (p : Pt) (i : Nat) : Int := (es.take i).foldl (fun n e => n + numE p e) 0
def windN (es : List Ed) (p : Pt) : Int := windTo es p es.length
theorem windTo_succ {es : List Ed} {p : Pt} {i : Nat} (h : i < es.length) : windTo es p (i + 1) = windTo es p i + numE p (es.getD i default) := foldl_take' _ _ _ _ h
theorem numE_in (p : Pt) (e : Ed) : -1 ≤ numE p e ∧ numE p e ≤ 1 := by
  unfold numE
  repeat' split
  all_goals decide
theorem windTo_in {es : List Ed} {p : Pt} {i : Nat} (h : i ≤ es.length) : -(i : Int) ≤ windTo es p i ∧ windTo es p i ≤ i := by
  induction i with
  | zero => unfold windTo; simp
  | succ i ih =>
    have := ih (by omega)
    have := numE_in p (es.getD i default)
    rw [windTo_succ (by omega)]
    omega
def nP (p : Pt) (e : Ed) : Prop := ¬ (e.a.y ≤ p.y ∧ p.y < e.b.y ∧ 0 < sideW e p)
def nM (p : Pt) (e : Ed) : Prop := ¬ (e.b.y ≤ p.y ∧ p.y < e.a.y ∧ sideW e p < 0)
section
variable {p : Pt} {e : Ed}
theorem numE_p (h1 : e.a.y ≤ p.y) (h2 : e.b.y > p.y) (h3 : sideW e p > 0) : numE p e = 1 := by unfold numE; rw [if_pos ⟨h1, h2, h3⟩]
theorem numE_m (h : nP p e) (h1 : e.b.y ≤ p.y) (h2 : e.a.y > p.y) (h3 : sideW e p < 0) : numE p e = -1 := by unfold numE; rw [if_neg h, if_pos ⟨h1, h2, h3⟩]
theorem numE_z (h : nP p e) (h' : nM p e) : numE p e = 0 := by unfold numE; rw [if_neg h, if_neg h']
theorem f1 (h : ¬ e.a.y ≤ p.y) : nP p e := fun q => h q.1
theorem f2 (h : ¬ e.b.y > p.y) : nP p e := fun q => h q.2.1
theorem f3 (h : ¬ sideW e p > 0) : nP p e := fun q => h q.2.2
theorem s1 (h : ¬ e.b.y ≤ p.y) : nM p e := fun q => h q.1
theorem s2 (h : ¬ e.a.y > p.y) : nM p e := fun q => h q.2.1
theorem s3 (h : ¬ sideW e p < 0) : nM p e := fun q => h q.2.2
end
noncomputable def SWn (es : List Ed) (p : Pt) (i : Nat) : SS := mkS
  [(3, .o (.p 0 0)), (5, .o (.v (.int .i64 (windTo es p i)))), (8, .o (.sl false 4 es.length (rowOf Ed.ls es))), (9, .o (.v (.int .i64 es.length))), (10, .o (.v (.int .i64 i)))] [(0, 56, [.v (.int .i64 p.x), .v (.int .i64 p.y)])] [] 1 Try.f64.ntmps
set_option maxHeartbeats 1000000 in
theorem windN_at {es : List Ed} {p : Pt} (hl : es.length ≤ 1000) : FnAt Try.prog 64 [aEds es, aPt p] [aI (windN es p)] := by
  refine fn_at (E := EE) (fn := Try.f64) (c := Try.f64.body.getD .skip) (rs := Try.f64.results.toList) (nt := Try.f64.ntmps) EE_ok follows (by kernel_rfl) (by kernel_rfl) rfl rfl rfl [] rfl ?_
  refine loop_nat es.length (SWn es p) ?_ (fun i hi => ?_)
  · refine ent_of (rl := []) (nl := []) ⟨rfl, ?_, ?_, trivial, rfl, rfl, Nat.zero_le _, trivial, trivial⟩ <;> (repeat' (first | exact trivial | exact SameL.refl _ | exact ep_seal rfl rfl | assumption | exact congrArg (Value.int _) (by assumption) | exact rfl | exact Nat.le_of_ble_eq_true rfl | decide | apply And.intro))
  refine if_dec (fun hlt => ?_) (fun hge => ?_)
  · have hlt : i < es.length := by omega
    have hw := w64_succ hlt (by omega)
    have hin := windTo_in (p := p) hi
    refine ⟨⟨by omega, by omega⟩, ?_⟩
    refine if_dec (fun h1 => ?_) (fun h1 => ?_)
    · refine if_dec (fun h2 => ?_) (fun h2 => ?_)
      · refine ⟨_, side_at (es.getD i default) p, ?_⟩
        refine if_dec (fun h3 => ?_) (fun h3 => ?_)
        · have hv : w64 (windTo es p i + 1) = windTo es p (i + 1) := by rw [windTo_succ hlt, show numE p (es.getD i default) = 1 from numE_p h1 h2 h3, w64_in (by omega)]
          refine ⟨i + 1, ⟨Nat.lt_succ_self _, hlt⟩, ?_⟩
          refine ent_of (rl := []) (nl := []) ⟨rfl, ?_, ?_, trivial, rfl, rfl, Nat.zero_le _, trivial, trivial⟩ <;> (repeat' (first | exact trivial | exact SameL.refl _ | exact ep_seal rfl rfl | assumption | exact congrArg (Value.int _) (by assumption) | exact rfl | exact Nat.le_of_ble_eq_true rfl | decide | apply And.intro))
        · refine if_dec (fun g1 => ?_) (fun g1 => ?_)
          · refine if_dec (fun g2 => ?_) (fun g2 => ?_)
            · refine ⟨_, side_at (es.getD i default) p, ?_⟩
              refine if_dec (fun g3 => ?_) (fun g3 => ?_)
              · have hv : w64 (windTo es p i - 1) = windTo es p (i + 1) := by rw [windTo_succ hlt, show numE p (es.getD i default) = -1 from numE_m (f3 h3) g1 g2 g3, w64_in (by omega)]; omega
                refine ⟨i + 1, ⟨Nat.lt_succ_self _, hlt⟩, ?_⟩
                refine ent_of (rl := []) (nl := []) ⟨rfl, ?_, ?_, trivial, rfl, rfl, Nat.zero_le _, trivial, trivial⟩ <;> (repeat' (first | exact trivial | exact SameL.refl _ | exact ep_seal rfl rfl | assumption | exact congrArg (Value.int _) (by assumption) | exact rfl | exact Nat.le_of_ble_eq_true rfl | decide | apply And.intro))
              · have hv : windTo es p i = windTo es p (i + 1) := by rw [windTo_succ hlt, show numE p (es.getD i default) = 0 from numE_z (f3 h3) (s3 g3), Int.add_zero]
                refine ⟨i + 1, ⟨Nat.lt_succ_self _, hlt⟩, ?_⟩
                refine ent_of (rl := []) (nl := []) ⟨rfl, ?_, ?_, trivial, rfl, rfl, Nat.zero_le _, trivial, trivial⟩ <;> (repeat' (first | exact trivial | exact SameL.refl _ | exact ep_seal rfl rfl | assumption | exact congrArg (Value.int _) (by assumption) | exact rfl | exact Nat.le_of_ble_eq_true rfl | decide | apply And.intro))
            · have hv : windTo es p i = windTo es p (i + 1) := by rw [windTo_succ hlt, show numE p (es.getD i default) = 0 from numE_z (f3 h3) (s2 g2), Int.add_zero]
              refine ⟨i + 1, ⟨Nat.lt_succ_self _, hlt⟩, ?_⟩
              refine ent_of (rl := []) (nl := []) ⟨rfl, ?_, ?_, trivial, rfl, rfl, Nat.zero_le _, trivial, trivial⟩ <;> (repeat' (first | exact trivial | exact SameL.refl _ | exact ep_seal rfl rfl | assumption | exact congrArg (Value.int _) (by assumption) | exact rfl | exact Nat.le_of_ble_eq_true rfl | decide | apply And.intro))
          · have hv : windTo es p i = windTo es p (i + 1) := by rw [windTo_succ hlt, show numE p (es.getD i default) = 0 from numE_z (f3 h3) (s1 g1), Int.add_zero]
            refine ⟨i + 1, ⟨Nat.lt_succ_self _, hlt⟩, ?_⟩
            refine ent_of (rl := []) (nl := []) ⟨rfl, ?_, ?_, trivial, rfl, rfl, Nat.zero_le _, trivial, trivial⟩ <;> (repeat' (first | exact trivial | exact SameL.refl _ | exact ep_seal rfl rfl | assumption | exact congrArg (Value.int _) (by assumption) | exact rfl | exact Nat.le_of_ble_eq_true rfl | decide | apply And.intro))
      · refine if_dec (fun g1 => ?_) (fun g1 => ?_)
        · refine if_dec (fun g2 => ?_) (fun g2 => ?_)
          · refine ⟨_, side_at (es.getD i default) p, ?_⟩
            refine if_dec (fun g3 => ?_) (fun g3 => ?_)
            · have hv : w64 (windTo es p i - 1) = windTo es p (i + 1) := by rw [windTo_succ hlt, show numE p (es.getD i default) = -1 from numE_m (f2 h2) g1 g2 g3, w64_in (by omega)]; omega
              refine ⟨i + 1, ⟨Nat.lt_succ_self _, hlt⟩, ?_⟩
              refine ent_of (rl := []) (nl := []) ⟨rfl, ?_, ?_, trivial, rfl, rfl, Nat.zero_le _, trivial, trivial⟩ <;> (repeat' (first | exact trivial | exact SameL.refl _ | exact ep_seal rfl rfl | assumption | exact congrArg (Value.int _) (by assumption) | exact rfl | exact Nat.le_of_ble_eq_true rfl | decide | apply And.intro))
            · have hv : windTo es p i = windTo es p (i + 1) := by rw [windTo_succ hlt, show numE p (es.getD i default) = 0 from numE_z (f2 h2) (s3 g3), Int.add_zero]
              refine ⟨i + 1, ⟨Nat.lt_succ_self _, hlt⟩, ?_⟩
              refine ent_of (rl := []) (nl := []) ⟨rfl, ?_, ?_, trivial, rfl, rfl, Nat.zero_le _, trivial, trivial⟩ <;> (repeat' (first | exact trivial | exact SameL.refl _ | exact ep_seal rfl rfl | assumption | exact congrArg (Value.int _) (by assumption) | exact rfl | exact Nat.le_of_ble_eq_true rfl | decide | apply And.intro))
          · have hv : windTo es p i = windTo es p (i + 1) := by rw [windTo_succ hlt, show numE p (es.getD i default) = 0 from numE_z (f2 h2) (s2 g2), Int.add_zero]
            refine ⟨i + 1, ⟨Nat.lt_succ_self _, hlt⟩, ?_⟩
            refine ent_of (rl := []) (nl := []) ⟨rfl, ?_, ?_, trivial, rfl, rfl, Nat.zero_le _, trivial, trivial⟩ <;> (repeat' (first | exact trivial | exact SameL.refl _ | exact ep_seal rfl rfl | assumption | exact congrArg (Value.int _) (by assumption) | exact rfl | exact Nat.le_of_ble_eq_true rfl | decide | apply And.intro))
        · have hv : windTo es p i = windTo es p (i + 1) := by rw [windTo_succ hlt, show numE p (es.getD i default) = 0 from numE_z (f2 h2) (s1 g1), Int.add_zero]
          refine ⟨i + 1, ⟨Nat.lt_succ_self _, hlt⟩, ?_⟩
          refine ent_of (rl := []) (nl := []) ⟨rfl, ?_, ?_, trivial, rfl, rfl, Nat.zero_le _, trivial, trivial⟩ <;> (repeat' (first | exact trivial | exact SameL.refl _ | exact ep_seal rfl rfl | assumption | exact congrArg (Value.int _) (by assumption) | exact rfl | exact Nat.le_of_ble_eq_true rfl | decide | apply And.intro))
    · refine if_dec (fun g1 => ?_) (fun g1 => ?_)
      · refine if_dec (fun g2 => ?_) (fun g2 => ?_)
        · refine ⟨_, side_at (es.getD i default) p, ?_⟩
          refine if_dec (fun g3 => ?_) (fun g3 => ?_)
          · have hv : w64 (windTo es p i - 1) = windTo es p (i + 1) := by rw [windTo_succ hlt, show numE p (es.getD i default) = -1 from numE_m (f1 h1) g1 g2 g3, w64_in (by omega)]; omega
            refine ⟨i + 1, ⟨Nat.lt_succ_self _, hlt⟩, ?_⟩
            refine ent_of (rl := []) (nl := []) ⟨rfl, ?_, ?_, trivial, rfl, rfl, Nat.zero_le _, trivial, trivial⟩ <;> (repeat' (first | exact trivial | exact SameL.refl _ | exact ep_seal rfl rfl | assumption | exact congrArg (Value.int _) (by assumption) | exact rfl | exact Nat.le_of_ble_eq_true rfl | decide | apply And.intro))
          · have hv : windTo es p i = windTo es p (i + 1) := by rw [windTo_succ hlt, show numE p (es.getD i default) = 0 from numE_z (f1 h1) (s3 g3), Int.add_zero]
            refine ⟨i + 1, ⟨Nat.lt_succ_self _, hlt⟩, ?_⟩
            refine ent_of (rl := []) (nl := []) ⟨rfl, ?_, ?_, trivial, rfl, rfl, Nat.zero_le _, trivial, trivial⟩ <;> (repeat' (first | exact trivial | exact SameL.refl _ | exact ep_seal rfl rfl | assumption | exact congrArg (Value.int _) (by assumption) | exact rfl | exact Nat.le_of_ble_eq_true rfl | decide | apply And.intro))
        · have hv : windTo es p i = windTo es p (i + 1) := by rw [windTo_succ hlt, show numE p (es.getD i default) = 0 from numE_z (f1 h1) (s2 g2), Int.add_zero]
          refine ⟨i + 1, ⟨Nat.lt_succ_self _, hlt⟩, ?_⟩
          refine ent_of (rl := []) (nl := []) ⟨rfl, ?_, ?_, trivial, rfl, rfl, Nat.zero_le _, trivial, trivial⟩ <;> (repeat' (first | exact trivial | exact SameL.refl _ | exact ep_seal rfl rfl | assumption | exact congrArg (Value.int _) (by assumption) | exact rfl | exact Nat.le_of_ble_eq_true rfl | decide | apply And.intro))
      · have hv : windTo es p i = windTo es p (i + 1) := by rw [windTo_succ hlt, show numE p (es.getD i default) = 0 from numE_z (f1 h1) (s1 g1), Int.add_zero]
        refine ⟨i + 1, ⟨Nat.lt_succ_self _, hlt⟩, ?_⟩
        refine ent_of (rl := []) (nl := []) ⟨rfl, ?_, ?_, trivial, rfl, rfl, Nat.zero_le _, trivial, trivial⟩ <;> (repeat' (first | exact trivial | exact SameL.refl _ | exact ep_seal rfl rfl | assumption | exact congrArg (Value.int _) (by assumption) | exact rfl | exact Nat.le_of_ble_eq_true rfl | decide | apply And.intro))
  · have hin : i = es.length := by omega
    subst hin
    exact ⟨⟨rfl, trivial⟩, trivial⟩
def onE (p : Pt) (e : Ed) : Bool := (sqN e p).num == 0
noncomputable def SOn (es : List Ed) (p : Pt) (i : Nat) : SS := mkS
  [(3, .o (.p 0 0)), (7, .o (.sl false 4 es.length (rowOf Ed.ls es))), (8, .o (.v (.int .i64 es.length))), (9, .o (.v (.int .i64 i)))] [(0, 56, [.v (.int .i64 p.x), .v (.int .i64 p.y)])] [] 1 Try.f63.ntmps
theorem wOn_at {es : List Ed} {p : Pt} (h : edsIn es) (hp : ptIn 33000 p) : FnAt Try.prog 63 [aEds es, aPt p] [aB (es.any (onE p))] := by
  obtain ⟨hb, hl⟩ := h
  refine fn_at (E := EE) (fn := Try.f63) (c := Try.f63.body.getD .skip) (rs := Try.f63.results.toList) (nt := Try.f63.ntmps) EE_ok follows (by kernel_rfl) (by kernel_rfl) rfl rfl rfl [] rfl ?_
  refine loop_natP es.length (fun i => ∀ k, k < i → onE p (es.getD k default) = false) (SOn es p) (fun k hk => by omega) ?_ (fun i hi hpi => ?_)
  · refine ent_of (rl := []) (nl := []) ⟨rfl, ?_, ?_, trivial, rfl, rfl, Nat.zero_le _, trivial, trivial⟩ <;> (repeat' (first | exact trivial | exact SameL.refl _ | exact ep_seal rfl rfl | assumption | exact congrArg (Value.int _) (by assumption) | exact rfl | exact Nat.le_of_ble_eq_true rfl | decide | apply And.intro))
  refine if_dec (fun hlt => ?_) (fun hge => ?_)
  · have hlt : i < es.length := by omega
    have hw := w64_succ hlt (by omega)
    refine ⟨⟨by omega, by omega⟩, ?_⟩
    refine ⟨_, square_at (hb _ (getD_mem' hlt)) hp, ?_⟩
    refine if_eq (fun h0 => ?_) (fun h0 => ?_)
    · have h0 : (sqN (es.getD i default) p).num = 0 := h0
      exact ⟨⟨kB (List.any_eq_true.2 ⟨_, getD_mem' hlt, by unfold onE; simpa using h0⟩), trivial⟩, trivial⟩
    · have h0 : (sqN (es.getD i default) p).num ≠ 0 := h0
      refine ⟨i + 1, ⟨Nat.lt_succ_self _, hlt, fun k hk => ?_⟩, ?_⟩
      · by_cases h' : k < i
        · exact hpi k h'
        · obtain rfl : k = i := by omega
          unfold onE; simpa using h0
      · refine ent_of (rl := []) (nl := []) ⟨rfl, ?_, ?_, trivial, rfl, rfl, Nat.zero_le _, trivial, trivial⟩ <;> (repeat' (first | exact trivial | exact SameL.refl _ | exact ep_seal rfl rfl | assumption | exact congrArg (Value.int _) (by assumption) | exact rfl | exact Nat.le_of_ble_eq_true rfl | decide | apply And.intro))
  · have hin : i = es.length := by omega
    subst hin
    refine ⟨⟨kB ?_, trivial⟩, trivial⟩
    rw [List.any_eq_false]
    intro e he
    obtain ⟨k, hk, rfl⟩ := List.getElem_of_mem he
    have := hpi k hk
    rw [List.getD_eq_getElem?_getD, List.getElem?_eq_getElem hk] at this
    simpa using this
def areaTo (es : List Ed) (i : Nat) : Int := (es.take i).foldl (fun n e => n + crs e.a e.b) 0
theorem areaTo_succ {es : List Ed} {i : Nat} (h : i < es.length) : areaTo es (i + 1) = areaTo es i + crs (es.getD i default).a (es.getD i default).b := foldl_take' _ _ _ _ h
theorem areaTo_in {es : List Ed} (hb : ∀ e ∈ es, edIn 8192 e) {i : Nat} (h : i ≤ es.length) : -(134217728 * (i : Int)) ≤ areaTo es i ∧ areaTo es i ≤ 134217728 * (i : Int) := by
  induction i with
  | zero => unfold areaTo; simp
  | succ i ih =>
    have h1 := ih (by omega)
    have he := hb _ (getD_mem' (show i < es.length by omega))
    have h2 := crs_in he.1 he.2
    rw [areaTo_succ (by omega)]
    omega

/-! ### dist -/
structure Nr where
  best : Fr
  at' : Int
def nearStep (p : Pt) (s : Nr) (q : Nat × Ed) : Nr := if s.at' < 0 ∨ cmpF (sqN q.2 p) s.best < 0 then ⟨sqN q.2 p, q.1⟩ else s
def nearTo (es : List Ed) (p : Pt) (i : Nat) : Nr := match i with
  | 0 => ⟨⟨0, 0⟩, -1⟩
  | i + 1 => nearStep p (nearTo es p i) (i, es.getD i default)
def near (es : List Ed) (p : Pt) : Nr := nearTo es p es.length
theorem redF_in {n d : Int} (hn : 0 ≤ n) (hd : 1 ≤ d) : 0 ≤ (redF n d).num ∧ (redF n d).num ≤ n ∧ 1 ≤ (redF n d).den ∧ (redF n d).den ≤ d ∧ n * (redF n d).den = (redF n d).num * d := by
  unfold redF
  dsimp only
  have g0 : 0 < (Int.gcd n d : Int) := by
    have : 0 < Int.gcd n d := Int.gcd_pos_iff.2 (.inr (by omega))
    omega
  have g1 : (Int.gcd n d : Int) ∣ n := Int.gcd_dvd_left ..
  have g2 : (Int.gcd n d : Int) ∣ d := Int.gcd_dvd_right ..
  generalize (Int.gcd n d : Int) = g at *
  obtain ⟨a, rfl⟩ := g1
  obtain ⟨b, rfl⟩ := g2
  rw [Int.mul_ediv_cancel_left _ (by omega), Int.mul_ediv_cancel_left _ (by omega)]
  have ha : 0 ≤ a := by
    rcases Int.lt_or_le a 0 with h | h
    · have := Int.mul_neg_of_pos_of_neg g0 h; omega
    · exact h
  have hb : 1 ≤ b := by
    rcases Int.lt_or_le b 1 with h | h
    · have := Int.mul_nonpos_of_nonneg_of_nonpos (Int.le_of_lt g0) (show b ≤ 0 by omega); omega
    · exact h
  have q1 := Int.mul_nonneg (show 0 ≤ g - 1 by omega) ha
  have q2 := Int.mul_nonneg (show 0 ≤ g - 1 by omega) (show 0 ≤ b by omega)
  rw [Int.sub_mul, Int.one_mul] at q1 q2
  have q1 : a ≤ g * a := by omega
  have q2 : b ≤ g * b := by omega
  exact ⟨ha, q1, hb, q2, by grind⟩
theorem dt_nonneg (a : Pt) : 0 ≤ dt a a := by
  have h1 := sq_nonneg a.x
  have h2 := sq_nonneg a.y
  unfold dt; omega
theorem sqN_in {e : Ed} {p : Pt} (he : edIn 8192 e) (hp : ptIn 33000 p) : frIn (sqN e p) := by
  have w1 := way_in he.2 he.1
  have w2 := way_in hp (he.1.up (m := 33000) (by decide))
  have w3 := way_in hp (he.2.up (m := 33000) (by decide))
  have d2 := dt_in w1 w1
  have d3 := dt_in w2 w2
  have d4 := dt_in w3 w3
  have n3 := dt_nonneg (way p e.a)
  have n4 := dt_nonneg (way p e.b)
  unfold frIn sqN
  split
  · dsimp only; omega
  · split
    · dsimp only; omega
    · rename_i h1 h2
      have hcb : -2162688000 ≤ crs (way e.b e.a) (way p e.a) ∧ crs (way e.b e.a) (way p e.a) ≤ 2162688000 := by
        unfold ptIn at w1 w2
        have m1 := mul_bd (x := (way e.b e.a).x) (y := (way p e.a).y) (B := 16384) (C := 66000) (by omega) (by omega)
        have m2 := mul_bd (x := (way e.b e.a).y) (y := (way p e.a).x) (B := 16384) (C := 66000) (by omega) (by omega)
        unfold crs; omega
      have hsq := mul_bd (x := crs (way e.b e.a) (way p e.a)) (y := crs (way e.b e.a) (way p e.a)) (B := 2162688000) (C := 2162688000) hcb hcb
      obtain ⟨r1, r2, r3, r4, _⟩ := redF_in (sq_nonneg (crs (way e.b e.a) (way p e.a))) (show 1 ≤ dt (way e.b e.a) (way e.b e.a) by omega)
      omega
theorem nearTo_ok {es : List Ed} {p : Pt} (hb : ∀ e ∈ es, edIn 8192 e) (hp : ptIn 33000 p) : ∀ i, i ≤ es.length → (i = 0 → (nearTo es p i).at' = -1) ∧ (0 < i → 0 ≤ (nearTo es p i).at' ∧ (nearTo es p i).at' < i ∧ (nearTo es p i).best = sqN (es.getD (nearTo es p i).at'.toNat default) p ∧ frIn (nearTo es p i).best)
  | 0, _ => ⟨fun _ => rfl, fun h => by omega⟩
  | i + 1, hi => by
    obtain ⟨h1, h2⟩ := nearTo_ok hb hp i (by omega)
    refine ⟨fun h => by omega, fun _ => ?_⟩
    have hf := sqN_in (hb _ (getD_mem' (show i < es.length by omega))) hp
    show 0 ≤ (nearStep p (nearTo es p i) (i, es.getD i default)).at' ∧ (nearStep p (nearTo es p i) (i, es.getD i default)).at' < ((i + 1 : Nat) : Int) ∧ (nearStep p (nearTo es p i) (i, es.getD i default)).best = sqN (es.getD (nearStep p (nearTo es p i) (i, es.getD i default)).at'.toNat default) p ∧ frIn (nearStep p (nearTo es p i) (i, es.getD i default)).best
    unfold nearStep
    split
    · exact ⟨Int.natCast_nonneg _, by show (i : Int) < _; omega, rfl, hf⟩
    · rename_i h
      have h0 : 0 < i := by
        rcases Nat.eq_zero_or_pos i with h' | h'
        · exact absurd (.inl (by rw [h1 h']; decide)) h
        · exact h'
      obtain ⟨a, b, c, d⟩ := h2 h0
      exact ⟨a, by omega, c, d⟩
noncomputable def SNr (es : List Ed) (p : Pt) (i : Nat) : SS := mkS
  [(3, .o (.p 0 0)), (4, .o (.p 1 0)), (6, .o (.p 2 0)), (7, .o (.v (.int .i64 (nearTo es p i).at'))), (12, .o (.sl false 4 es.length (rowOf Ed.ls es))), (13, .o (.v (.int .i64 es.length))), (14, .o (.v (.int .i64 i)))]
  [(0, 56, [.v (.int .i64 p.x), .v (.int .i64 p.y)]), (1, 59, [.any, .any]), (2, 59, [.v (.int .i64 (nearTo es p i).best.num), .v (.int .i64 (nearTo es p i).best.den)])] [] 3 Try.f62.ntmps
theorem near_at {es : List Ed} {p : Pt} (h : edsIn es) (hp : ptIn 33000 p) : FnAt Try.prog 62 [aEds es, aPt p] [aFr (near es p).best, aI (near es p).at'] := by
  obtain ⟨hb, hl⟩ := h
  refine fn_at (E := EE) (fn := Try.f62) (c := Try.f62.body.getD .skip) (rs := Try.f62.results.toList) (nt := Try.f62.ntmps) EE_ok follows (by kernel_rfl) (by kernel_rfl) rfl rfl rfl [] rfl ?_
  refine loop_nat es.length (SNr es p) ?_ (fun i hi => ?_)
  · refine ent_of (rl := [(2, 4)]) (nl := []) ⟨rfl, ?_, ?_, trivial, rfl, rfl, Nat.zero_le _, trivial, ⟨⟨Nat.zero_le _, Nat.zero_le _⟩, trivial⟩⟩ <;> (repeat' (first | exact trivial | exact SameL.refl _ | exact ep_seal rfl rfl | assumption | exact congrArg (Value.int _) (by assumption) | exact rfl | exact Nat.le_of_ble_eq_true rfl | decide | apply And.intro))
  obtain ⟨k1, k2⟩ := nearTo_ok hb hp i hi
  refine if_dec (fun hlt => ?_) (fun hge => ?_)
  · have hlt : i < es.length := by omega
    have hw := w64_succ hlt (by omega)
    have hst : nearTo es p (i + 1) = nearStep p (nearTo es p i) (i, es.getD i default) := rfl
    have he := hb _ (getD_mem' hlt)
    refine ⟨⟨by omega, by omega⟩, ?_⟩
    refine ⟨_, square_at he hp, ?_⟩
    refine if_dec_f (fun h1 => ?_) (fun h1 => ?_)
    · have h1 : ¬ (nearTo es p i).at' < 0 := h1
      obtain ⟨_, _, _, k3⟩ := k2 (by rcases Nat.eq_zero_or_pos i with h' | h'; exact absurd (k1 h') (by omega); exact h')
      refine ⟨_, rcmp_at (sqN_in he hp) k3, ?_⟩
      refine if_dec (fun h2 => ?_) (fun h2 => ?_)
      · have h2 : cmpF (sqN (es.getD i default) p) (nearTo es p i).best < 0 := h2
        refine ⟨i + 1, ⟨Nat.lt_succ_self _, hlt⟩, ?_⟩
        unfold SNr
        rw [hst]
        unfold nearStep
        rw [if_pos (.inr h2)]
        refine ent_of (rl := []) (nl := []) ⟨rfl, ?_, ?_, trivial, rfl, rfl, Nat.zero_le _, trivial, trivial⟩ <;> (repeat' (first | exact trivial | exact SameL.refl _ | exact ep_seal rfl rfl | assumption | exact congrArg (Value.int _) (by assumption) | exact rfl | exact Nat.le_of_ble_eq_true rfl | decide | apply And.intro))
      · have h2 : ¬ cmpF (sqN (es.getD i default) p) (nearTo es p i).best < 0 := h2
        refine ⟨i + 1, ⟨Nat.lt_succ_self _, hlt⟩, ?_⟩
        unfold SNr
        rw [hst]
        unfold nearStep
        rw [if_neg (by rintro (h | h); exact h1 h; exact h2 h)]
        refine ent_of (rl := []) (nl := []) ⟨rfl, ?_, ?_, trivial, rfl, rfl, Nat.zero_le _, trivial, trivial⟩ <;> (repeat' (first | exact trivial | exact SameL.refl _ | exact ep_seal rfl rfl | assumption | exact congrArg (Value.int _) (by assumption) | exact rfl | exact Nat.le_of_ble_eq_true rfl | decide | apply And.intro))
    · have h1 : (nearTo es p i).at' < 0 := h1
      refine ⟨i + 1, ⟨Nat.lt_succ_self _, hlt⟩, ?_⟩
      unfold SNr
      rw [hst]
      unfold nearStep
      rw [if_pos (.inl h1)]
      refine ent_of (rl := []) (nl := []) ⟨rfl, ?_, ?_, trivial, rfl, rfl, Nat.zero_le _, trivial, trivial⟩ <;> (repeat' (first | exact trivial | exact SameL.refl _ | exact ep_seal rfl rfl | assumption | exact congrArg (Value.int _) (by assumption) | exact rfl | exact Nat.le_of_ble_eq_true rfl | decide | apply And.intro))
  · have hin : i = es.length := by omega
    subst hin
    exact ⟨⟨rfl, rfl, trivial⟩, ⟨rfl, trivial⟩, trivial⟩
noncomputable def eight (es : List Ed) (p : Pt) : Int := match es with
  | [] => -1
  | es => eightF (near es p).best
theorem lagrange (a b : Pt) : dt a a * dt b b = dt a b * dt a b + crs a b * crs a b := by
  unfold dt crs; grind
theorem sqN_le {e : Ed} {p : Pt} (he : edIn 8192 e) (hp : ptIn 33000 p) : (sqN e p).num ≤ 10000000000 * (sqN e p).den := by
  have w1 := way_in he.2 he.1
  have w2 := way_in hp (he.1.up (m := 33000) (by decide))
  have w3 := way_in hp (he.2.up (m := 33000) (by decide))
  have d3 := dt_in w2 w2
  have d4 := dt_in w3 w3
  unfold sqN
  split
  · dsimp only; omega
  · split
    · dsimp only; omega
    · rename_i h1 h2
      have hl : 1 ≤ dt (way e.b e.a) (way e.b e.a) := by omega
      obtain ⟨r1, r2, r3, r4, r5⟩ := redF_in (sq_nonneg (crs (way e.b e.a) (way p e.a))) hl
      have hg := lagrange (way e.b e.a) (way p e.a)
      have hsq := sq_nonneg (dt (way e.b e.a) (way p e.a))
      generalize crs (way e.b e.a) (way p e.a) * crs (way e.b e.a) (way p e.a) = c2 at *
      generalize dt (way e.b e.a) (way e.b e.a) = long at *
      generalize dt (way p e.a) (way p e.a) = t2 at *
      generalize (redF c2 long).num = n at *
      generalize (redF c2 long).den = d at *
      have h3 : c2 * d ≤ (long * t2) * d := Int.mul_le_mul_of_nonneg_right (by omega) (by omega)
      have h4 : long * n ≤ long * (t2 * d) := by
        rw [Int.mul_comm long n, ← r5, ← Int.mul_assoc]; exact h3
      have h5 := Int.le_of_mul_le_mul_left h4 (by omega)
      have h6 : t2 * d ≤ 10000000000 * d := Int.mul_le_mul_of_nonneg_right (by omega) (by omega)
      omega
theorem eight_q {f : Fr} (hf : frIn f) (h : f.num ≤ 10000000000 * f.den) : f.num * 64 / f.den ≤ 640000000000 := by
  unfold frIn at hf
  refine Int.ediv_le_of_le_mul (by omega) ?_
  omega
theorem near_pos {es : List Ed} {p : Pt} (h : edsIn es) (hp : ptIn 33000 p) (h0 : 0 < es.length) : 0 ≤ (near es p).at' ∧ (near es p).at' < es.length ∧ (near es p).best = sqN (es.getD (near es p).at'.toNat default) p ∧ frIn (near es p).best := (nearTo_ok h.1 hp es.length (Nat.le_refl _)).2 h0
theorem eight_at {es : List Ed} {p : Pt} (h : edsIn es) (hp : ptIn 33000 p) : FnAt Try.prog 43 [aEds es, aPt p] [aI (eight es p)] := by
  refine fn_at (E := EE) (fn := Try.f43) (c := Try.f43.body.getD .skip) (rs := Try.f43.results.toList) (nt := Try.f43.ntmps) EE_ok follows (by kernel_rfl) (by kernel_rfl) rfl rfl rfl [] rfl ?_
  refine ⟨_, near_at h hp, ?_⟩
  refine if_dec (fun h0 => ?_) (fun h0 => ?_)
  · have h0 : (near es p).at' < 0 := h0
    have he : es = [] := by
      rcases Nat.eq_zero_or_pos es.length with h' | h'
      · exact List.eq_nil_of_length_eq_zero h'
      · have := (near_pos h hp h').1; omega
    subst he
    exact ⟨⟨⟨rfl, rfl⟩, trivial⟩, trivial⟩
  · have h0 : ¬ (near es p).at' < 0 := h0
    have hpos : 0 < es.length := by
      rcases Nat.eq_zero_or_pos es.length with h' | h'
      · obtain rfl := List.eq_nil_of_length_eq_zero h'
        exact absurd (show (-1 : Int) < 0 by decide) h0
      · exact h'
    obtain ⟨n1, n2, n3, n4⟩ := near_pos h hp hpos
    have hle := sqN_le (h.1 _ (getD_mem' (l := es) (i := (near es p).at'.toNat) (by omega))) hp
    rw [← n3] at hle
    have hq := eight_q n4 hle
    have he : eight es p = eightF (near es p).best := by
      cases es with
      | nil => simp at hpos
      | cons e es => rfl
    rw [he]
    refine ⟨_, scaled_at n4 (by omega), ?_⟩
    exact ⟨⟨rfl, trivial⟩, trivial⟩
def sign (es : List Ed) (p : Pt) : Int := if es.any (onE p) = true then 0 else if windN es p ≠ 0 then 1 else -1
theorem sign_at {es : List Ed} {p : Pt} (h : edsIn es) (hp : ptIn 33000 p) : FnAt Try.prog 44 [aEds es, aPt p] [aI (sign es p)] := by
  refine fn_at (E := EE) (fn := Try.f44) (c := Try.f44.body.getD .skip) (rs := Try.f44.results.toList) (nt := Try.f44.ntmps) EE_ok follows (by kernel_rfl) (by kernel_rfl) rfl rfl rfl [] rfl ?_
  refine ⟨_, wOn_at h hp, ?_⟩
  refine if_b (fun h1 => ?_) (fun h1 => ?_)
  · exact ⟨⟨kI (by unfold sign; rw [if_pos h1]), trivial⟩, trivial⟩
  · refine ⟨_, windN_at h.2, ?_⟩
    refine if_ne (fun h2 => ?_) (fun h2 => ?_)
    · exact ⟨⟨kI (by unfold sign; rw [if_neg (by rw [h1]; decide), if_pos h2]), trivial⟩, trivial⟩
    · exact ⟨⟨kI (by unfold sign; rw [if_neg (by rw [h1]; decide), if_neg (fun h => h h2)]), trivial⟩, trivial⟩
end Go.Proofs.Ytpadocjddoenhaa
