/- The contract of law06.FlatBox. -/
import Derived.Test.YtgbhoinfemjbiaaPg
import Derived.Test.YtgbhoinfemjbiaaPk
namespace Go.Proofs.Ytgbhoinfemjbiaa
open Go SX
set_option linter.unusedVariables false
set_option maxRecDepth 100000

/-! ### law06.FlatBox -/
theorem fold_min (u v : Ed → Int) : ∀ (l : List Ed) (m : Int), l.foldl (fun m e => min2I (min2I m (u e)) (v e)) m ≤ m ∧ (∀ e ∈ l, l.foldl (fun m e => min2I (min2I m (u e)) (v e)) m ≤ u e ∧ l.foldl (fun m e => min2I (min2I m (u e)) (v e)) m ≤ v e) ∧
    (l.foldl (fun m e => min2I (min2I m (u e)) (v e)) m = m ∨ ∃ e ∈ l, u e = l.foldl (fun m e => min2I (min2I m (u e)) (v e)) m ∨ v e = l.foldl (fun m e => min2I (min2I m (u e)) (v e)) m)
  | [], m => ⟨Int.le_refl _, by simp, .inl rfl⟩
  | e :: l, m => by
    obtain ⟨h1, h2, h3⟩ := fold_min u v l (min2I (min2I m (u e)) (v e))
    simp only [List.foldl_cons]
    have q : min2I (min2I m (u e)) (v e) ≤ m ∧ min2I (min2I m (u e)) (v e) ≤ u e ∧ min2I (min2I m (u e)) (v e) ≤ v e ∧ (min2I (min2I m (u e)) (v e) = m ∨ min2I (min2I m (u e)) (v e) = u e ∨ min2I (min2I m (u e)) (v e) = v e) := by
      unfold min2I; repeat' split
      all_goals omega
    generalize l.foldl (fun m e => min2I (min2I m (u e)) (v e)) (min2I (min2I m (u e)) (v e)) = r at *
    refine ⟨by omega, fun f hf => ?_, ?_⟩
    · rcases List.mem_cons.1 hf with rfl | hf
      · omega
      · exact h2 f hf
    · rcases h3 with h3 | ⟨f, hf, h3⟩
      · rcases q.2.2.2 with q | q | q
        · exact .inl (by omega)
        · exact .inr ⟨e, by simp, .inl (by omega)⟩
        · exact .inr ⟨e, by simp, .inr (by omega)⟩
      · exact .inr ⟨f, by simp [hf], h3⟩
theorem fold_max (u v : Ed → Int) : ∀ (l : List Ed) (m : Int), m ≤ l.foldl (fun m e => max2I (max2I m (u e)) (v e)) m ∧ (∀ e ∈ l, u e ≤ l.foldl (fun m e => max2I (max2I m (u e)) (v e)) m ∧ v e ≤ l.foldl (fun m e => max2I (max2I m (u e)) (v e)) m) ∧
    (l.foldl (fun m e => max2I (max2I m (u e)) (v e)) m = m ∨ ∃ e ∈ l, u e = l.foldl (fun m e => max2I (max2I m (u e)) (v e)) m ∨ v e = l.foldl (fun m e => max2I (max2I m (u e)) (v e)) m)
  | [], m => ⟨Int.le_refl _, by simp, .inl rfl⟩
  | e :: l, m => by
    obtain ⟨h1, h2, h3⟩ := fold_max u v l (max2I (max2I m (u e)) (v e))
    simp only [List.foldl_cons]
    have q : m ≤ max2I (max2I m (u e)) (v e) ∧ u e ≤ max2I (max2I m (u e)) (v e) ∧ v e ≤ max2I (max2I m (u e)) (v e) ∧ (max2I (max2I m (u e)) (v e) = m ∨ max2I (max2I m (u e)) (v e) = u e ∨ max2I (max2I m (u e)) (v e) = v e) := by
      unfold max2I; repeat' split
      all_goals omega
    generalize l.foldl (fun m e => max2I (max2I m (u e)) (v e)) (max2I (max2I m (u e)) (v e)) = r at *
    refine ⟨by omega, fun f hf => ?_, ?_⟩
    · rcases List.mem_cons.1 hf with rfl | hf
      · omega
      · exact h2 f hf
    · rcases h3 with h3 | ⟨f, hf, h3⟩
      · rcases q.2.2.2 with q | q | q
        · exact .inl (by omega)
        · exact .inr ⟨e, by simp, .inl (by omega)⟩
        · exact .inr ⟨e, by simp, .inr (by omega)⟩
      · exact .inr ⟨f, by simp [hf], h3⟩
theorem fold_box : ∀ (l : List Ed) (b : Bx), l.foldl boxE b = ⟨⟨l.foldl (fun m e => min2I (min2I m e.a.x) e.b.x) b.lo.x, l.foldl (fun m e => min2I (min2I m e.a.y) e.b.y) b.lo.y⟩, ⟨l.foldl (fun m e => max2I (max2I m e.a.x) e.b.x) b.hi.x, l.foldl (fun m e => max2I (max2I m e.a.y) e.b.y) b.hi.y⟩⟩
  | [], b => rfl
  | e :: l, b => by simp only [List.foldl_cons]; rw [fold_box l]; rfl
def hasX (u v : Ed → Int) (x : Int) (es : List Ed) : Bool := es.any fun e => u e == x || v e == x
/-- the box of edges: all ends are in, and each side has one -/
theorem box_ok {es : List Ed} (h : 0 < es.length) : (∀ e ∈ es, (box es).lo.x ≤ e.a.x ∧ (box es).lo.x ≤ e.b.x ∧ e.a.x ≤ (box es).hi.x ∧ e.b.x ≤ (box es).hi.x ∧ (box es).lo.y ≤ e.a.y ∧ (box es).lo.y ≤ e.b.y ∧ e.a.y ≤ (box es).hi.y ∧ e.b.y ≤ (box es).hi.y) ∧
    hasX (·.a.x) (·.b.x) (box es).lo.x es = true ∧ hasX (·.a.x) (·.b.x) (box es).hi.x es = true ∧ hasX (·.a.y) (·.b.y) (box es).lo.y es = true ∧ hasX (·.a.y) (·.b.y) (box es).hi.y es = true := by
  have hb : box es = es.foldl boxE (boxZ es) := by
    obtain ⟨n, hn⟩ : ∃ n, es.length = n + 1 := ⟨es.length - 1, by omega⟩
    unfold box
    rw [hn]
    show (es.take (n + 1)).foldl boxE (boxZ es) = _
    rw [← hn, List.take_length]
  rw [hb, fold_box]
  dsimp only
  have hm : es.getD 0 default ∈ es := by rw [List.getD_eq_getElem?_getD, List.getElem?_eq_getElem h]; exact List.getElem_mem h
  obtain ⟨a1, a2, a3⟩ := fold_min (·.a.x) (·.b.x) es (boxZ es).lo.x
  obtain ⟨b1, b2, b3⟩ := fold_min (·.a.y) (·.b.y) es (boxZ es).lo.y
  obtain ⟨c1, c2, c3⟩ := fold_max (·.a.x) (·.b.x) es (boxZ es).hi.x
  obtain ⟨d1, d2, d3⟩ := fold_max (·.a.y) (·.b.y) es (boxZ es).hi.y
  have hx : ∀ {u v : Ed → Int} {r : Int}, (∃ e ∈ es, u e = r ∨ v e = r) → hasX u v r es = true := by
    rintro u v r ⟨e, he, h⟩
    unfold hasX
    rw [List.any_eq_true]
    exact ⟨e, he, by simpa using h⟩
  refine ⟨fun e he => ⟨(a2 e he).1, (a2 e he).2, (c2 e he).1, (c2 e he).2, (b2 e he).1, (b2 e he).2, (d2 e he).1, (d2 e he).2⟩, hx ?_, hx ?_, hx ?_, hx ?_⟩
  · rcases a3 with h | h
    · exact ⟨_, hm, .inl h.symm⟩
    · exact h
  · rcases c3 with h | h
    · exact ⟨_, hm, .inl h.symm⟩
    · exact h
  · rcases b3 with h | h
    · exact ⟨_, hm, .inl h.symm⟩
    · exact h
  · rcases d3 with h | h
    · exact ⟨_, hm, .inl h.symm⟩
    · exact h
theorem hasX_succ {u v : Ed → Int} {x : Int} {es : List Ed} {i : Nat} (h : i < es.length) : hasX u v x (es.take (i + 1)) = ((hasX u v x (es.take i) || (u (es.getD i default) == x)) || (v (es.getD i default) == x)) := by
  unfold hasX
  rw [List.take_add_one, List.any_append, List.getD_eq_getElem?_getD, List.getElem?_eq_getElem h]
  simp [Bool.or_assoc]
noncomputable def SFb (b : Bx) (es : List Ed) (i : Nat) : SS := mkS
  [(4, .o (.p 0 0)), (5, .o (.p 1 0)), (6, .o (.v (.bool (hasX (·.a.x) (·.b.x) b.lo.x (es.take i))))), (7, .o (.v (.bool (hasX (·.a.x) (·.b.x) b.hi.x (es.take i))))), (8, .o (.v (.bool (hasX (·.a.y) (·.b.y) b.lo.y (es.take i))))), (9, .o (.v (.bool (hasX (·.a.y) (·.b.y) b.hi.y (es.take i))))),
   (34, .o (.sl true 4 es.length (rowOf Ed.ls es))), (35, .o (.v (.int .i64 es.length))), (36, .o (.v (.int .i64 i)))]
  [(0, 23, [.v (.int .i64 b.lo.x), .v (.int .i64 b.lo.y)]), (1, 23, [.v (.int .i64 b.hi.x), .v (.int .i64 b.hi.y)])] [] 2 Try.f9.ntmps
noncomputable def SFb2 (b : Bx) (es : List Ed) (i : Nat) (p q r s : Bool) (e : Ed) (k : Int) : SS := mkS
  [(4, .o (.p 0 0)), (5, .o (.p 1 0)), (6, .o (.v (.bool p))), (7, .o (.v (.bool q))), (8, .o (.v (.bool r))), (9, .o (.v (.bool s))),
   (34, .o (.sl true 4 es.length (rowOf Ed.ls es))), (35, .o (.v (.int .i64 es.length))), (36, .o (.v (.int .i64 i))), (44, .o (.s 2 2)), (45, .o (.k (.int .i64 2))), (46, .o (.k (.int .i64 k)))]
  [(0, 23, [.v (.int .i64 b.lo.x), .v (.int .i64 b.lo.y)]), (1, 23, [.v (.int .i64 b.hi.x), .v (.int .i64 b.hi.y)]), (2, 23, [.v (.int .i64 e.a.x), .v (.int .i64 e.a.y), .v (.int .i64 e.b.x), .v (.int .i64 e.b.y)])] [] 3 Try.f9.ntmps
set_option maxHeartbeats 8000000 in
theorem flatBox_at (cs : List (List Vx)) : FnAt Try.prog 9 [aSl dsL 1 cs] [aB true] := by
  have hg := glyph_at cs
  obtain ⟨hok, hlen⟩ := glyph_ok cs
  generalize glyph cs = es at *
  refine fn_at (E := EE) (fn := Try.f9) (c := Try.f9.body.getD .skip) (rs := Try.f9.results.toList) (nt := Try.f9.ntmps) EE_ok follows (by kernel_rfl) (by kernel_rfl) rfl rfl rfl [17] rfl ?_
  refine ⟨_, awake06_at, ?_⟩
  refine ⟨(fun h => nomatch h), fun _ => ?_⟩
  refine ⟨_, hg, ?_⟩
  refine ⟨_, box_at es (by omega), ?_⟩
  refine if_eq (fun h0 => ?_) (fun h0 => ?_)
  · obtain rfl : es = [] := List.eq_nil_of_length_eq_zero (by omega)
    refine ⟨fun _ => ?_, fun h => nomatch h⟩
    exact ⟨⟨rfl, trivial⟩, trivial⟩
  have hpos : 0 < es.length := by omega
  obtain ⟨hin, x1, x2, x3, x4⟩ := box_ok hpos
  generalize box es = b at *
  refine loop_nat es.length (SFb b es) ?_ (fun i hi => ?_)
  · refine ent_of (rl := [(0, 11), (1, 12)]) (nl := []) ⟨rfl, ?_, ?_, trivial, rfl, rfl, Nat.zero_le _, trivial, ⟨⟨Nat.zero_le _, Nat.zero_le _⟩, ⟨Nat.zero_le _, Nat.zero_le _⟩, trivial⟩⟩ <;> (repeat' (first | exact trivial | exact SameL.refl _ | exact ep_seal rfl rfl | assumption | exact congrArg (Value.int .i64) (by assumption) | exact rfl | exact Nat.le_of_ble_eq_true rfl | decide | apply And.intro))
  refine if_dec (fun hlt => ?_) (fun hge => ?_)
  · have hlt : i < es.length := by omega
    have hw := w64_succ hlt (by omega)
    refine ⟨⟨by omega, by omega⟩, ?_⟩
    obtain ⟨q1, q2, q3, q4, q5, q6, q7, q8⟩ := hin _ (getD_mem hlt)
    have s1 := hasX_succ (u := (·.a.x)) (v := (·.b.x)) (x := b.lo.x) hlt
    have s2 := hasX_succ (u := (·.a.x)) (v := (·.b.x)) (x := b.hi.x) hlt
    have s3 := hasX_succ (u := (·.a.y)) (v := (·.b.y)) (x := b.lo.y) hlt
    have s4 := hasX_succ (u := (·.a.y)) (v := (·.b.y)) (x := b.hi.y) hlt
    refine Or.inl ⟨3, ?_⟩
    refine ⟨Unit, fun _ => SFb2 b es i (hasX (·.a.x) (·.b.x) b.lo.x (es.take i) || (es.getD i default).a.x == b.lo.x) (hasX (·.a.x) (·.b.x) b.hi.x (es.take i) || (es.getD i default).a.x == b.hi.x) (hasX (·.a.y) (·.b.y) b.lo.y (es.take i) || (es.getD i default).a.y == b.lo.y) (hasX (·.a.y) (·.b.y) b.hi.y (es.take i) || (es.getD i default).a.y == b.hi.y) (es.getD i default) 0, ?_, fun _ => ?_⟩
    · refine if_dec_f (fun _ => ?_) (fun h => absurd h (by show ¬ (es.getD i default).a.x < b.lo.x; omega))
      refine if_dec_f (fun _ => ?_) (fun h => absurd h (by show ¬ (es.getD i default).a.x > b.hi.x; omega))
      refine if_dec_f (fun _ => ?_) (fun h => absurd h (by show ¬ (es.getD i default).a.y < b.lo.y; omega))
      refine if_dec (fun h => absurd h (by show ¬ (es.getD i default).a.y > b.hi.y; omega)) (fun _ => ?_)
      refine if_b_f (fun hp => ?_) (fun hp => ?_) <;> refine if_b_f (fun hq => ?_) (fun hq => ?_) <;> refine if_b_f (fun hr => ?_) (fun hr => ?_) <;> refine if_b_f (fun hs => ?_) (fun hs => ?_)
      all_goals
        refine ⟨(), ?_⟩
        rw [hp, hq, hr, hs]
        refine ent_of (rl := [(2, 11)]) (nl := []) ⟨rfl, ?_, ?_, trivial, rfl, rfl, Nat.zero_le _, trivial, ⟨⟨Nat.zero_le _, Nat.zero_le _⟩, trivial⟩⟩ <;> (repeat' (first | exact trivial | exact SameL.refl _ | exact ep_seal rfl rfl | assumption | exact congrArg (Value.int .i64) (by assumption) | exact rfl | exact Nat.le_of_ble_eq_true rfl | decide | apply And.intro))
    refine ⟨Unit, fun _ => SFb2 b es i ((hasX (·.a.x) (·.b.x) b.lo.x (es.take i) || (es.getD i default).a.x == b.lo.x) || (es.getD i default).b.x == b.lo.x) ((hasX (·.a.x) (·.b.x) b.hi.x (es.take i) || (es.getD i default).a.x == b.hi.x) || (es.getD i default).b.x == b.hi.x) ((hasX (·.a.y) (·.b.y) b.lo.y (es.take i) || (es.getD i default).a.y == b.lo.y) || (es.getD i default).b.y == b.lo.y) ((hasX (·.a.y) (·.b.y) b.hi.y (es.take i) || (es.getD i default).a.y == b.hi.y) || (es.getD i default).b.y == b.hi.y) (es.getD i default) 1, ?_, fun _ => ?_⟩
    · refine if_dec_f (fun _ => ?_) (fun h => absurd h (by show ¬ (es.getD i default).b.x < b.lo.x; omega))
      refine if_dec_f (fun _ => ?_) (fun h => absurd h (by show ¬ (es.getD i default).b.x > b.hi.x; omega))
      refine if_dec_f (fun _ => ?_) (fun h => absurd h (by show ¬ (es.getD i default).b.y < b.lo.y; omega))
      refine if_dec (fun h => absurd h (by show ¬ (es.getD i default).b.y > b.hi.y; omega)) (fun _ => ?_)
      refine if_b_f (fun hp => ?_) (fun hp => ?_) <;> refine if_b_f (fun hq => ?_) (fun hq => ?_) <;> refine if_b_f (fun hr => ?_) (fun hr => ?_) <;> refine if_b_f (fun hs => ?_) (fun hs => ?_)
      all_goals
        refine ⟨(), ?_⟩
        rw [hp, hq, hr, hs]
        refine ent_of (rl := []) (nl := []) ⟨rfl, ?_, ?_, trivial, rfl, rfl, Nat.zero_le _, trivial, trivial⟩ <;> (repeat' (first | exact trivial | exact SameL.refl _ | exact ep_seal rfl rfl | assumption | exact congrArg (Value.int .i64) (by assumption) | exact rfl | exact Nat.le_of_ble_eq_true rfl | decide | apply And.intro))
    refine ⟨i + 1, ⟨Nat.lt_succ_self _, hlt⟩, ?_⟩
    unfold SFb
    rw [s1, s2, s3, s4]
    refine ent_of (rl := []) (nl := []) ⟨rfl, ?_, ?_, trivial, rfl, rfl, Nat.zero_le _, trivial, trivial⟩ <;> (repeat' (first | exact trivial | exact SameL.refl _ | exact ep_seal rfl rfl | assumption | exact congrArg (Value.int .i64) (by assumption) | exact rfl | exact Nat.le_of_ble_eq_true rfl | decide | apply And.intro))
  · have hin : i = es.length := by omega
    subst hin
    have y1 : hasX (·.a.x) (·.b.x) b.lo.x (es.take es.length) = true := by rw [List.take_length]; exact x1
    have y2 : hasX (·.a.x) (·.b.x) b.hi.x (es.take es.length) = true := by rw [List.take_length]; exact x2
    have y3 : hasX (·.a.y) (·.b.y) b.lo.y (es.take es.length) = true := by rw [List.take_length]; exact x3
    have y4 : hasX (·.a.y) (·.b.y) b.hi.y (es.take es.length) = true := by rw [List.take_length]; exact x4
    refine if_b (fun _ => ?_) (fun h => absurd (y1.symm.trans h) (by decide))
    refine if_b (fun _ => ?_) (fun h => absurd (y2.symm.trans h) (by decide))
    refine if_b (fun _ => ?_) (fun h => absurd (y3.symm.trans h) (by decide))
    exact ⟨⟨vB y4.symm, trivial⟩, trivial⟩
theorem FlatBox_row : ∀ args, TyArgs tt 8 [46] args → FnAt Try.prog 9 args [(false, [.lit (.bool true)])] := by
  intro args h
  match args, h with
  | [(b, l)], ⟨⟨e, h1⟩, _⟩ =>
    have e : b = false := e
    subst e
    obtain ⟨cs, hcs⟩ := ty_dots (k := 4) h1
    exact (flatBox_at cs).args ⟨rfl, hcs, trivial⟩
end Go.Proofs.Ytgbhoinfemjbiaa
