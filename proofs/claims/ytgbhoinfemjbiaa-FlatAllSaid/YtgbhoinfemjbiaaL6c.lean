/- The contracts of law06.FlatEdges, law06.FlatHull. -/
import Derived.Test.YtgbhoinfemjbiaaL6b
namespace Go.Proofs.Ytgbhoinfemjbiaa
open Go SX
set_option linter.unusedVariables false
set_option maxRecDepth 100000

/-! ### the two ways give the same edges -/
theorem seg_eq {s : Sg} (h : sgIn 1100 s) (es : List Ed) : segE es s = segL es s := by
  have h0 : small s.a = lonP s 0 := by rw [lonP_lin (by decide) h, linP_zero, small_eq (n := 1100) (by decide) h.1]
  have h4 : small s.c = lonP s 4 := by
    rw [lonP_lin (by decide) h, small_eq (n := 1100) (by decide) h.2.2]
    unfold linP lin
    congr 1 <;> omega
  have e : ∀ k, 0 ≤ k ∧ k ≤ 4 → onP s k = lonP s k := fun k hk => by rw [lonP_lin hk h, onP_lin hk h]
  unfold segE segL
  rw [h0, h4, e 1 (by decide), e 2 (by decide), e 3 (by decide), e 4 (by decide)]
  cases s.cv <;> rfl
theorem edges_eq {ss : List Sg} (h : ∀ s ∈ ss, sgIn 1100 s) : edges ss = edgesL ss := by
  unfold edges edgesL
  have key : ∀ (ss : List Sg) (es : List Ed), (∀ s ∈ ss, sgIn 1100 s) → ss.foldl segE es = ss.foldl segL es := by
    intro ss
    induction ss with
    | nil => intro es _; rfl
    | cons s ss ih =>
      intro es h
      rw [List.foldl_cons, List.foldl_cons, seg_eq (h s (by simp)), ih _ fun x hx => h x (by simp [hx])]
  exact key ss [] h

/-! ### law06.FlatEdges -/
@[reducible] def rS (es : List Sg) : OR := ⟨25, 7, es.length, rowOf Sg.ls es, false⟩
def cutTo (ss : List Sg) (i : Nat) : List Sg := (ss.take i).map cutS ++ ss.drop i
theorem cutTo_len (ss : List Sg) (i : Nat) : (cutTo ss i).length = ss.length := by unfold cutTo; simp; omega
theorem cutTo_get {ss : List Sg} {i : Nat} (h : i < ss.length) : (cutTo ss i).getD i default = ss.getD i default := by
  unfold cutTo
  rw [getD_app, if_neg (by simp; omega), List.length_map, List.length_take, Nat.min_eq_left (by omega), Nat.sub_self, List.getD_eq_getElem?_getD, List.getD_eq_getElem?_getD, List.getElem?_drop]
  rfl
theorem cutTo_succ {ss : List Sg} {i : Nat} (h : i < ss.length) : cutTo ss (i + 1) = (cutTo ss i).set i (cutS (ss.getD i default)) := by
  refine list_ext (by simp [cutTo_len]) fun k hk => ?_
  rw [cutTo_len] at hk
  rw [getD_set _ _ _ (by rw [cutTo_len]; exact h)]
  unfold cutTo
  rw [getD_app, getD_app]
  simp only [List.length_map, List.length_take, Nat.min_eq_left (show i ≤ ss.length by omega), Nat.min_eq_left (show i + 1 ≤ ss.length by omega)]
  by_cases h1 : k = i
  · subst h1
    rw [if_pos (by omega), if_pos rfl]
    simp only [List.getD_eq_getElem?_getD, List.getElem?_map, List.getElem?_take]
    rw [if_pos (by omega), List.getElem?_eq_getElem h]
    rfl
  · rw [if_neg h1]
    by_cases h2 : k < i
    · rw [if_pos (by omega), if_pos h2]
      simp only [List.getD_eq_getElem?_getD, List.getElem?_map, List.getElem?_take]
      rw [if_pos (by omega), if_pos h2]
    · rw [if_neg (by omega), if_neg h2]
      simp only [List.getD_eq_getElem?_getD, List.getElem?_drop]
      rw [show i + 1 + (k - (i + 1)) = k by omega, show i + (k - i) = k by omega]
noncomputable def SFe (l : List Sg) (i : Nat) : SS := mkS
  [(0, .o (.h 0)), (15, .o (.v (.int .i64 l.length))), (16, .o (.v (.int .i64 i)))] [] [(0, rS (cutTo l i))] 1 Try.f4.ntmps
def cutA (s : Sg) : Sg := ⟨cutP s.a, s.b, s.c, s.cv⟩
def cutB (s : Sg) : Sg := ⟨s.a, cutP s.b, s.c, s.cv⟩
def cutC (s : Sg) : Sg := ⟨s.a, s.b, cutP s.c, s.cv⟩
theorem cutA_cells (s : Sg) : ∀ j, j < 7 → nth (cutA s).ls j = if j = 0 then I (cutP s.a).x else if j = 0 + 1 then I (cutP s.a).y else nth s.ls j
  | 0, _ => rfl | 1, _ => rfl | 2, _ => rfl | 3, _ => rfl | 4, _ => rfl | 5, _ => rfl | 6, _ => rfl
theorem cutB_cells (s : Sg) : ∀ j, j < 7 → nth (cutB s).ls j = if j = 2 then I (cutP s.b).x else if j = 2 + 1 then I (cutP s.b).y else nth s.ls j
  | 0, _ => rfl | 1, _ => rfl | 2, _ => rfl | 3, _ => rfl | 4, _ => rfl | 5, _ => rfl | 6, _ => rfl
theorem cutC_cells (s : Sg) : ∀ j, j < 7 → nth (cutC s).ls j = if j = 4 then I (cutP s.c).x else if j = 4 + 1 then I (cutP s.c).y else nth s.ls j
  | 0, _ => rfl | 1, _ => rfl | 2, _ => rfl | 3, _ => rfl | 4, _ => rfl | 5, _ => rfl | 6, _ => rfl
theorem min40 (n : Nat) : (min2I (n : Int) 40).toNat - Int.toNat 0 = min 40 n := by unfold min2I; split <;> omega
set_option maxHeartbeats 2000000 in
theorem flatEdges_at (ss : List Sg) (h : ss.length ≤ 9000000000000000000) : FnAt Try.prog 4 [aSgs ss] [aB true] := by
  have hm := min40 ss.length
  have hml : (ss.take 40).length = min 40 ss.length := List.length_take ..
  have hn : (((min2I (ss.length : Int) 40).toNat - Int.toNat 0 : Nat) : Int) = ((ss.take 40).length : Nat) := by rw [hm, hml]
  refine fn_at (E := EE) (fn := Try.f4) (c := Try.f4.body.getD .skip) (rs := Try.f4.results.toList) (nt := Try.f4.ntmps) EE_ok follows (by kernel_rfl) (by kernel_rfl) rfl rfl rfl [1000011] rfl ?_
  refine ⟨_, awake06_at, ?_⟩
  refine ⟨(fun h => nomatch h), fun _ => ?_⟩
  refine ⟨⟨by decide, ?_, ?_⟩, ?_⟩
  · unfold min2I; split <;> omega
  · unfold min2I; split <;> omega
  refine ⟨⟨?_, ?_⟩, ?_⟩
  · show ((min2I (ss.length : Int) 40).toNat - Int.toNat 0) * _ ≤ _
    rw [hm]; exact Nat.le_trans (Nat.mul_le_mul_right _ (Nat.min_le_left _ _)) (by decide)
  · show ((min2I (ss.length : Int) 40).toNat - Int.toNat 0) ≤ maxLen
    rw [hm]; unfold maxLen; omega
  have hrow : subR ⟨25, 7, (min2I (ss.length : Int) 40).toNat - Int.toNat 0, fun a b => rowOf Sg.ls ss (Int.toNat 0 + a) b, false⟩ (rS (cutTo (ss.take 40) 0)) := by
    have hz : cutTo (ss.take 40) 0 = ss.take 40 := by unfold cutTo; simp
    rw [hz]
    refine ⟨rfl, rfl, by rw [← hml] at hm; exact hm, rfl, fun a ha j hj => .of_eq ?_⟩
    have ha : a < (min2I (ss.length : Int) 40).toNat - Int.toNat 0 := ha
    show nth (Sg.ls (ss.getD (Int.toNat 0 + a) default)) j = nth (Sg.ls ((ss.take 40).getD a default)) j
    rw [show Int.toNat 0 + a = a from Nat.zero_add a]
    simp only [List.getD_eq_getElem?_getD, List.getElem?_take]
    rw [if_pos (by omega)]
  generalize hl : ss.take 40 = l at *
  refine loop_nat l.length (SFe l) ?_ (fun i hi => ?_)
  · refine ent_of (rl := [(0, 8)]) (nl := []) ⟨rfl, ?_, ?_, ⟨⟨Nat.le_of_ble_eq_true rfl, hrow⟩, trivial⟩, rfl, rfl, Nat.zero_le _, trivial, ⟨⟨Nat.zero_le _, Nat.zero_le _⟩, trivial⟩⟩ <;> (repeat' (first | exact trivial | exact SameL.refl _ | exact ep_seal rfl rfl | assumption | exact congrArg (Value.int .i64) (by assumption) | exact rfl | exact Nat.le_of_ble_eq_true rfl | decide | apply And.intro))
  refine if_dec (fun hlt => ?_) (fun hge => ?_)
  · have hlt : i < l.length := by omega
    have hw := w64_succ hlt (by omega)
    have hlc : i < (cutTo l i).length := by rw [cutTo_len]; exact hlt
    have hlc' : 0 ≤ (i : Int) ∧ (i : Int) < ((cutTo l i).length : Nat) := by omega
    refine ⟨hlc', hlc', hlc', ?_⟩
    have hl1 : i < ((cutTo l i).set i (cutA ((cutTo l i).getD i default))).length := by simpa using hlc
    have hl2 : i < (((cutTo l i).set i (cutA ((cutTo l i).getD i default))).set i (cutB (((cutTo l i).set i (cutA ((cutTo l i).getD i default))).getD i default))).length := by simpa using hlc
    refine Or.inl ⟨4, ?_⟩
    refine ⟨hlc, hlc, hlc, hlc, ?_⟩
    refine ⟨_, ent_row (i := 0) (r' := rS ((cutTo l i).set i (cutA ((cutTo l i).getD i default)))) rfl (subR_set2 (g := Sg.ls) (x := cutA ((cutTo l i).getD i default)) (o := 0) rfl hlc rfl (cutA_cells _) rfl rfl), ?_⟩
    refine ⟨hl1, hl1, hl1, hl1, ?_⟩
    refine ⟨_, ent_row (i := 0) (r' := rS (((cutTo l i).set i (cutA ((cutTo l i).getD i default))).set i (cutB (((cutTo l i).set i (cutA ((cutTo l i).getD i default))).getD i default)))) rfl (subR_set2 (g := Sg.ls) (x := cutB (((cutTo l i).set i (cutA ((cutTo l i).getD i default))).getD i default)) (o := 2) rfl hl1 rfl (cutB_cells _) rfl rfl), ?_⟩
    refine ⟨hl2, hl2, hl2, hl2, ?_⟩
    refine ⟨_, ent_row (i := 0) (r' := rS ((((cutTo l i).set i (cutA ((cutTo l i).getD i default))).set i (cutB (((cutTo l i).set i (cutA ((cutTo l i).getD i default))).getD i default))).set i (cutC ((((cutTo l i).set i (cutA ((cutTo l i).getD i default))).set i (cutB (((cutTo l i).set i (cutA ((cutTo l i).getD i default))).getD i default))).getD i default)))) rfl (subR_set2 (g := Sg.ls) (x := cutC ((((cutTo l i).set i (cutA ((cutTo l i).getD i default))).set i (cutB (((cutTo l i).set i (cutA ((cutTo l i).getD i default))).getD i default))).getD i default)) (o := 4) rfl hl2 rfl (cutC_cells _) rfl rfl), ?_⟩
    refine ⟨i + 1, ⟨Nat.lt_succ_self _, hlt⟩, ?_⟩
    refine ent_of (rl := []) (nl := []) ⟨rfl, ?_, ?_, ⟨⟨Nat.le_of_ble_eq_true rfl, subR_eq (by
      rw [getD_set _ _ _ hl1, if_pos rfl, getD_set _ _ _ hlc, if_pos rfl, List.set_set, List.set_set, cutTo_succ hlt, cutTo_get hlt]; rfl) rfl⟩, trivial⟩, rfl, rfl, Nat.zero_le _, trivial, trivial⟩ <;> (repeat' (first | exact trivial | exact SameL.refl _ | exact ep_seal rfl rfl | assumption | exact congrArg (Value.int .i64) (by assumption) | exact rfl | exact Nat.le_of_ble_eq_true rfl | decide | apply And.intro))
  · have hin : i = l.length := by omega
    subst hin
    have hc : cutTo l l.length = l.map cutS := by unfold cutTo; simp
    have hll : (cutTo l l.length).length ≤ 40 := by rw [cutTo_len, hml]; omega
    have he : edges (cutTo l l.length) = edgesL (cutTo l l.length) := edges_eq fun s hs => by
      rw [hc] at hs
      obtain ⟨s', _, rfl⟩ := List.mem_map.1 hs
      exact cutS_in s'
    have he1 := edges_len (cutTo l l.length)
    refine ⟨_, edges_at (cutTo l l.length) (by omega), ?_⟩
    refine ⟨_, edgesL_at (cutTo l l.length) (by omega), ?_⟩
    refine ⟨_, same_at _ _ (by omega), ?_⟩
    exact ⟨⟨vB (decide_eq_true he).symm, trivial⟩, trivial⟩
theorem FlatEdges_row : ∀ args, TyArgs tt 8 [31] args → FnAt Try.prog 4 args [(false, [.lit (.bool true)])] := by
  intro args h
  match args, h with
  | [(b, l)], ⟨⟨e, h1⟩, _⟩ =>
    have e : b = false := e
    subst e
    obtain ⟨n, f, rfl, hb, hm, hs⟩ : ∃ n f, l = [.sl 7 n f] ∧ n * 56 ≤ 140737488351232 ∧ n ≤ 9223372036854775807 ∧ ∀ i, i < n → TyL tt 7 25 ((List.range 7).map (f i)) := h1
    obtain ⟨ss, rfl, hss, _⟩ := ty_list (g := Sg.ls) (Q := fun _ => True) hs fun ls hl => by
      obtain ⟨s, rfl⟩ := ty_sg (k := 4) hl
      exact ⟨s, sameLs_refl _, trivial⟩
    exact (flatEdges_at ss (by omega)).args ⟨rfl, ⟨sl_same rfl hss, trivial⟩, trivial⟩

/-! ### law06.FlatHull -/
theorem min3 (a b c : Int) : min2I (min2I a b) c ≤ a ∧ min2I (min2I a b) c ≤ b ∧ min2I (min2I a b) c ≤ c ∧ (min2I (min2I a b) c = a ∨ min2I (min2I a b) c = b ∨ min2I (min2I a b) c = c) := by
  unfold min2I; repeat' split
  all_goals omega
theorem max3 (a b c : Int) : a ≤ max2I (max2I a b) c ∧ b ≤ max2I (max2I a b) c ∧ c ≤ max2I (max2I a b) c ∧ (max2I (max2I a b) c = a ∨ max2I (max2I a b) c = b ∨ max2I (max2I a b) c = c) := by
  unfold max2I; repeat' split
  all_goals omega
theorem hull1 {k x y z : Int} (hk : 0 ≤ k ∧ k ≤ 4) (hx : -510 ≤ x ∧ x ≤ 510) (hy : -510 ≤ y ∧ y ≤ 510) (hz : -510 ≤ z ∧ z ≤ 510) :
    w64 (16 * min2I (min2I x y) z) ≤ lin k x y z ∧ lin k x y z ≤ w64 (16 * max2I (max2I x y) z) := by
  have h1 := min3 x y z
  have h2 := max3 x y z
  have h3 := lin_hull (lo := min2I (min2I x y) z) (hi := max2I (max2I x y) z) hk (x := x) (y := y) (z := z) (by omega) (by omega) (by omega)
  rw [w64_in (by omega), w64_in (by omega)]
  exact h3
theorem flatHull_at (s : Sg) (k : Int) (hk : 0 ≤ k) : FnAt Try.prog 5 [aSg s, aU8 k] [aB true] := by
  obtain ⟨k1, k2, k3⟩ := u8mod hk
  obtain ⟨⟨a1, a2, a3, a4⟩, ⟨b1, b2, b3, b4⟩, c1, c2, c3, c4⟩ : sgIn 510 (cutS s) := ⟨cutP_in _, cutP_in _, cutP_in _⟩
  have hX := hull1 ⟨k2, k3⟩ ⟨a1, a2⟩ ⟨b1, b2⟩ ⟨c1, c2⟩
  have hY := hull1 ⟨k2, k3⟩ ⟨a3, a4⟩ ⟨b3, b4⟩ ⟨c3, c4⟩
  have hO := on_at (cutS s) (w64 (k.tmod 5))
  rw [k1, onP_lin ⟨k2, k3⟩ (cutS_in s)] at hO
  refine fn_at (E := EE) (fn := Try.f5) (c := Try.f5.body.getD .skip) (rs := Try.f5.results.toList) (nt := Try.f5.ntmps) EE_ok follows (by kernel_rfl) (by kernel_rfl) rfl rfl rfl [] rfl ?_
  refine ⟨_, awake06_at, ?_⟩
  refine ⟨(fun h => nomatch h), fun _ => ?_⟩
  refine Or.inl ⟨4, ?_⟩
  refine ⟨_, hO.args ⟨rfl, sameLs_refl _, rfl, ⟨.of_eq (congrArg I k1), trivial⟩, trivial⟩, ?_⟩
  refine if_dec (fun _ => ?_) (fun h => absurd hX.1 h)
  refine if_dec (fun _ => ?_) (fun h => absurd hX.2 h)
  refine if_dec (fun _ => ?_) (fun h => absurd hY.1 h)
  exact ⟨⟨vB (decide_eq_true hY.2).symm, trivial⟩, trivial⟩
theorem FlatHull_row : ∀ args, TyArgs tt 8 [25, 5] args → FnAt Try.prog 5 args [(false, [.lit (.bool true)])] := by
  intro args h
  match args, h with
  | [(b1, l1), (b2, l2)], ⟨⟨e1, h1⟩, ⟨e2, h2⟩, _⟩ =>
    have e1 : b1 = true := e1
    have e2 : b2 = false := e2
    subst e1
    subst e2
    obtain ⟨s, rfl⟩ := ty_sg (k := 5) h1
    obtain ⟨k, rfl, hk, _⟩ := ty_u8 (k := 7) h2
    exact flatHull_at s k hk
end Go.Proofs.Ytgbhoinfemjbiaa
