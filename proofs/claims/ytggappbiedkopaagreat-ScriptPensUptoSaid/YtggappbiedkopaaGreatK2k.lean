/- Law 22: what the laws answer. -/
import Derived.Test.YtggappbiedkopaaGreatK2h
import Derived.Test.YtggappbiedkopaaGreatK2j
namespace Go.Proofs.YtggappbiedkopaaGreat
open Go SX
set_option linter.unusedVariables false
set_option maxRecDepth 100000
set_option maxHeartbeats 1000000

theorem if_ff {b : Bool} {A B : Prop} (hb : b = false) (h : B) : (b = true → A) ∧ (b = false → B) := ⟨(fun e => by rw [hb] at e; cases e), fun _ => h⟩
theorem le_total : ∀ {o : List (List Gv)} {c : List Gv}, c ∈ o → c.length ≤ total o
  | [], c, h => by cases h
  | d :: o, c, h => by
    have e : total (d :: o) = d.length + total o := by unfold total; simp
    rw [e]
    rcases List.mem_cons.1 h with rfl | h
    · omega
    · have := le_total h; omega
theorem glyF_small {a b c : Int} (ha : uIn a) (hb : uIn b) (hc : uIn c) : (glyF a b c).length ≤ 8 ∧ ∀ l ∈ glyF a b c, l.length ≤ 64 := by
  have h := glyF_ok ha hb hc
  refine ⟨h.n, fun l hl => Nat.le_trans (le_total hl) h.t⟩
theorem ScriptGlyph_at (a b c : Int) (ha : uIn a) (hb : uIn b) (hc : uIn c) : FnAt Tryz.prog 5 [aU a, aU b, aU c] [aB true] := by
  obtain ⟨s1, s2⟩ := glyF_small ha hb hc
  refine fn_at (E := EE) (fn := Tryz.f5) (c := Tryz.f5.body.getD .skip) (rs := Tryz.f5.results.toList) (nt := Tryz.f5.ntmps) EE_ok follows (by kernel_rfl) (by kernel_rfl) rfl rfl rfl [] rfl ?_
  refine ⟨_, awake_at, ?_⟩
  refine if_ff rfl ?_
  refine ⟨_, Glyph_at a b c ha hb hc, ?_⟩
  refine ⟨_, glyph_at' ha hb hc, ?_⟩
  refine ⟨_, sameO_at _ s1 s2, ?_⟩
  refine if_tt rfl ?_
  refine ⟨_, checkO_at _ (glyF_ok ha hb hc), ?_⟩
  exact ⟨⟨vB rfl, trivial⟩, trivial⟩
@[reducible] def EKo : Env := { EKf [] with old := fun g => SX.hasN g [9], call := fun g args res => match SX.hasN g [9] with | true => FnOld Tryz.prog g args res | false => FnAt Tryz.prog g args res }
theorem EKo_ok : EnvOK Tryz.prog EKo := ⟨tt_ok, (fun g sp h => by cases h), (fun g sp h => by cases h), (fun g a r h => by
  show match SX.hasN g [9] with | false => _ | true => _
  have h : match SX.hasN g [9] with | true => FnOld Tryz.prog g a r | false => FnAt Tryz.prog g a r := h
  cases hq : SX.hasN g [9] <;> rw [hq] at h <;> exact h), (fun g a c r o h => h), (fun g a c r o h => h), (fun g T gv ι enc full N h => h), (fun g F h => by cases h), (fun g r ls r' h => h)⟩
theorem actsF_get {bs : List Int} {n k : Nat} (h : k < n) : (actsF bs n).getD k default = actAt bs k := by
  unfold actsF
  rw [List.getD_eq_getElem?_getD, List.getElem?_map, List.getElem?_range h]
  rfl
theorem six_len {bs : List Int} {i : Nat} (h : 6 * i + 6 ≤ bs.length) : ((bs.drop (6 * i)).take 6).length = 6 := by
  rw [List.length_take, List.length_drop]; omega
theorem six_get {bs : List Int} {i q : Nat} (h : 6 * i + 6 ≤ bs.length) (hq : q < 6) : bs.getD (6 * i + q) default = ((bs.drop (6 * i)).take 6).getD q default := by
  rw [List.getD_eq_getElem?_getD, List.getD_eq_getElem?_getD, List.getElem?_take, if_pos hq, List.getElem?_drop]
theorem six_act {bs : List Int} {i : Nat} (h : 6 * i + 6 ≤ bs.length) : actL ((bs.drop (6 * i)).take 6) = actAt bs i := by
  unfold actL actAt
  rw [six_get h (q := 0) (by omega), six_get h (q := 1) (by omega), six_get h (q := 2) (by omega), six_get h (q := 3) (by omega), six_get h (q := 4) (by omega), six_get h (q := 5) (by omega)]
theorem six_old (bs : List Int) (hb : ∀ k, uIn (bs.getD k default)) {i : Nat} (h : 6 * i + 6 ≤ bs.length) : FnOld Tryz.prog 9 [(false, [bSl ((bs.drop (6 * i)).take 6)])] [aAc (actL ((bs.drop (6 * i)).take 6))] := by
  refine act_old _ (fun k => ?_) (six_len h)
  by_cases hk : k < 6
  · rw [← six_get h hk]; exact hb _
  · rw [List.getD_eq_getElem?_getD, List.getElem?_eq_none (by rw [six_len h]; omega)]
    exact ⟨by decide, by decide⟩
noncomputable def SLa (bs : List Int) (i : Nat) : SS := mkS
  [(0, .o (.sl false 1 bs.length (rowOf uL bs))), (16, .o (.sl true 10 (bs.length / 6) (rowOf acL (actsF bs (bs.length / 6))))), (17, .o (.v (.int .i64 ((bs.length / 6 : Nat) : Int)))), (18, .o (.v (.int .i64 i)))] [] [] 0 Tryz.f3.ntmps
theorem ScriptActs_at (bs : List Int) (hb : ∀ k, uIn (bs.getD k default)) (hl : bs.length ≤ 1048576) : FnAt Tryz.prog 3 [(false, [bSl bs])] [aB true] := by
  refine fn_at (E := EKo) (fn := Tryz.f3) (c := Tryz.f3.body.getD .skip) (rs := Tryz.f3.results.toList) (nt := Tryz.f3.ntmps) EKo_ok follows (by kernel_rfl) (by kernel_rfl) rfl rfl rfl [] rfl ?_
  refine ⟨_, awake_at, ?_⟩
  refine if_ff rfl ?_
  refine ⟨_, Acts_at bs hb hl, ?_⟩
  refine if_ne (fun h => ?_) (fun h => ?_)
  · exfalso
    have h : ((bs.length / 6 : Nat) : Int) ≠ w64 ((bs.length : Int).tdiv 6) := h
    rw [Int.tdiv_eq_ediv_of_nonneg (by omega), w64_in (by omega)] at h
    omega
  refine loop_nat (bs.length / 6) (SLa bs) ?_ (fun i hi => ?_)
  · refine ent_of (rl := []) (nl := []) ⟨rfl, ?_, ?_, trivial, rfl, rfl, (by first | exact Nat.zero_le _ | exact Nat.le_of_ble_eq_true rfl), trivial, trivial⟩ <;> (repeat' (first | exact trivial | exact SameL.refl _ | exact ep_seal rfl rfl | assumption | exact congrArg (Value.int _) (by assumption) | exact rfl | exact Nat.le_of_ble_eq_true rfl | decide | apply And.intro | apply all1 | apply all2 | apply all3 | apply all4 | apply all5))
  refine if_dec (fun hlt => ?_) (fun hge => ?_)
  · have hlt : i < bs.length / 6 := by omega
    have h6 : 6 * i + 6 ≤ bs.length := by omega
    have hlo : w64 (6 * (i : Int)) = ((6 * i : Nat) : Int) := by rw [w64_in (by omega)]; omega
    have hhi : w64 (w64 (6 * (i : Int)) + 6) = ((6 * i + 6 : Nat) : Int) := by rw [hlo, w64_in (by omega)]; omega
    have hw := w64_succ hlt (by omega)
    refine ⟨⟨by omega, by omega⟩, ?_⟩
    refine ⟨⟨by show 0 ≤ w64 (6 * (i : Int)); omega, by show w64 (6 * (i : Int)) ≤ w64 (w64 (6 * (i : Int)) + 6); omega, by show w64 (w64 (6 * (i : Int)) + 6) ≤ (bs.length : Int); omega⟩, ?_⟩
    have hac := six_old bs hb h6
    refine ⟨_, FnOld.args hac ⟨rfl, ⟨⟨rfl, ?_, fun q hq j hj => .of_eq ?_⟩, trivial⟩, trivial⟩, ?_⟩
    · show (w64 (w64 (6 * (i : Int)) + 6)).toNat - (w64 (6 * (i : Int))).toNat = _
      rw [hhi, hlo, six_len h6]; omega
    · show rowOf uL bs ((w64 (6 * (i : Int))).toNat + q) j = _
      rw [hlo]
      have hq : q < (w64 (w64 (6 * (i : Int)) + 6)).toNat - (w64 (6 * (i : Int))).toNat := hq
      rw [hhi, hlo] at hq
      unfold rowOf
      rw [Int.toNat_natCast, six_get h6 (q := q) (by omega)]
    have hA : (actsF bs (bs.length / 6)).getD i default = actAt bs i := actsF_get hlt
    have hB : actL ((bs.drop (6 * i)).take 6) = actAt bs i := six_act h6
    have hs : FnAt Tryz.prog 8 [aAc ((actsF bs (bs.length / 6)).getD i default), aAc (actL ((bs.drop (6 * i)).take 6))] [aB true] := by rw [hA, hB]; exact same_at _
    refine ⟨_, hs, ?_⟩
    refine if_ff rfl ?_
    refine ⟨i + 1, ⟨Nat.lt_succ_self _, hlt⟩, ?_⟩
    refine ent_of (rl := []) (nl := []) ⟨rfl, ?_, ?_, trivial, rfl, rfl, (by first | exact Nat.zero_le _ | exact Nat.le_of_ble_eq_true rfl), trivial, trivial⟩ <;> (repeat' (first | exact trivial | exact SameL.refl _ | exact ep_seal rfl rfl | assumption | exact congrArg (Value.int _) (by assumption) | exact rfl | exact Nat.le_of_ble_eq_true rfl | decide | apply And.intro | apply all1 | apply all2 | apply all3 | apply all4 | apply all5))
  · exact ⟨⟨⟨rfl, rfl⟩, trivial⟩, trivial⟩
end Go.Proofs.YtggappbiedkopaaGreat
