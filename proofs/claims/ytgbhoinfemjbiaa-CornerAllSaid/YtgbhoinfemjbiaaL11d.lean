/- The contracts of law11.colours, CornerColours, CornerAll. -/
import Derived.Test.YtgbhoinfemjbiaaL11c
namespace Go.Proofs.Ytgbhoinfemjbiaa
open Go SX
set_option linter.unusedVariables false
set_option maxRecDepth 100000
set_option maxHeartbeats 2000000

theorem sorted_last {cs : List Nat} {k : Nat} (hs : cs.Pairwise (· < ·)) {a : Nat} (ha : a ≤ cs.length) (h1 : ∀ b, b < a → cs.getD b default ≤ k) (h2 : ∀ b, a ≤ b → b < cs.length → k < cs.getD b default) : cntLe cs k = a := by
  induction cs generalizing a with
  | nil => simp at ha; subst ha; rfl
  | cons c cs ih =>
    obtain ⟨hc, hs⟩ := List.pairwise_cons.1 hs
    unfold cntLe
    cases a with
    | zero =>
      have h0 := h2 0 (Nat.zero_le _) (by simp)
      have h0 : k < c := h0
      rw [List.length_eq_zero_iff, List.filter_eq_nil_iff]
      intro x hx
      rcases List.mem_cons.1 hx with rfl | hx
      · simp; omega
      · have := hc x hx; simp; omega
    | succ a =>
      have h0 := h1 0 (Nat.succ_pos _)
      have h0 : c ≤ k := h0
      have := ih hs (a := a) (by simpa using ha) (fun b hb => h1 (b + 1) (by omega)) (fun b hb hb' => h2 (b + 1) (by omega) (by simpa using hb'))
      rw [List.filter_cons_of_pos (by simpa using h0), List.length_cons]
      unfold cntLe at this
      rw [this]
/-- the piece that the law's loop has found behind a steps -/
def pieceTo (cs : List Nat) (k a : Nat) : Nat := match a with
  | 0 => cs.length - 1
  | a + 1 => if cs.getD a default ≤ k then a else pieceTo cs k a
theorem pieceTo_le (cs : List Nat) (k a : Nat) (h : a ≤ cs.length) : pieceTo cs k a ≤ cs.length := by
  induction a with
  | zero => show cs.length - 1 ≤ _; omega
  | succ a ih => unfold pieceTo; split; omega; exact ih (by omega)
theorem getD_lt {cs : List Nat} (hs : cs.Pairwise (· < ·)) {a b : Nat} (hab : a < b) (hb : b < cs.length) : cs.getD a default < cs.getD b default := by
  rw [List.getD_eq_getElem?_getD, List.getD_eq_getElem?_getD, List.getElem?_eq_getElem (by omega), List.getElem?_eq_getElem hb]
  exact List.pairwise_iff_getElem.1 hs a b (by omega) hb hab
theorem pieceTo_eq {cs : List Nat} {k : Nat} (hs : cs.Pairwise (· < ·)) (h0 : 0 < cs.length) : pieceTo cs k cs.length = pieceOf cs k := by
  have key : ∀ a, a ≤ cs.length → (∀ b, a ≤ b → b < cs.length → k < cs.getD b default) → pieceTo cs k a = pieceOf cs k := by
    intro a
    induction a with
    | zero =>
      intro ha hb
      have := sorted_last (k := k) hs (a := 0) ha (fun b hb => by omega) hb
      unfold pieceOf pc pieceTo
      rw [this, if_pos rfl]
    | succ a ih =>
      intro ha hb
      unfold pieceTo
      split
      · rename_i hle
        have := sorted_last (k := k) hs (a := a + 1) ha (fun b hb' => by
          rcases Nat.lt_or_ge b a with h | h
          · have := getD_lt hs h (by omega); omega
          · obtain rfl : b = a := by omega
            exact hle) hb
        unfold pieceOf pc
        rw [this, if_neg (by omega)]; rfl
      · rename_i hgt
        refine ih (by omega) fun b hb1 hb2 => ?_
        rcases Nat.lt_or_ge a b with h | h
        · exact hb b h hb2
        · obtain rfl : b = a := by omega
          omega
  exact key _ (Nat.le_refl _) fun b h1 h2 => by omega

theorem setf_setf {f : Nat → Nat → L} {k : Nat} {x y : L} : setf (setf f k 0 [x]) k 0 [y] = setf f k 0 [y] := by
  funext a b
  unfold setf
  by_cases h : a = k ∧ 0 ≤ b ∧ b < 0 + [y].length
  · rw [if_pos h, if_pos h]
  · rw [if_neg h, if_neg h]
    have h' : ¬ (a = k ∧ 0 ≤ b ∧ b < 0 + [x].length) := h
    rw [if_neg h']
theorem subR_setI {es es' : List Int} {x : Int} {T k : Nat} (hk : k < es.length) (he : es' = es.set k x) : subR ⟨T, 1, es.length, setf (rowOf ints es) (k : Int).toNat 0 [I x], true⟩ ⟨T, 1, es'.length, rowOf ints es', true⟩ := subR_set (g := ints) (x := x) rfl (by omega) rfl rfl rfl (by rw [Int.toNat_natCast]; exact he) rfl
theorem subR_setII {es es' : List Int} {x y : Int} {T k : Nat} (hk : k < es.length) (he : es' = es.set k y) : subR ⟨T, 1, es.length, setf (setf (rowOf ints es) (k : Int).toNat 0 [I x]) (k : Int).toNat 0 [I y], true⟩ ⟨T, 1, es'.length, rowOf ints es', true⟩ := by
  rw [setf_setf]; exact subR_setI hk he
noncomputable def SLk (es : List Ed) (cs : List Nat) (out : List Int) (i : Nat) : SS := mkS
  [(0, .o (.sl false 4 es.length (rowOf Ed.ls es))), (3, .o (.h 0)), (4, .o (.sl true 1 cs.length (rowOf natL cs))), (16, .o (.v (.int .i64 es.length))), (17, .o (.v (.int .i64 i)))] [] [(0, rI out)] 1 Try.f37.ntmps
noncomputable def SLk1 (es : List Ed) (cs : List Nat) (out : List Int) (i n : Nat) : SS := mkS
  [(0, .o (.sl false 4 es.length (rowOf Ed.ls es))), (3, .o (.h 0)), (4, .o (.sl true 1 cs.length (rowOf natL cs))), (5, .o (.v (.int .i64 i))), (6, .o (.v (.int .i64 n))), (16, .o (.v (.int .i64 es.length))), (17, .o (.v (.int .i64 i)))] [] [(0, rI out)] 1 Try.f37.ntmps
noncomputable def SLk2 (es : List Ed) (cs : List Nat) (out : List Int) (i a : Nat) : SS := mkS
  [(0, .o (.sl false 4 es.length (rowOf Ed.ls es))), (3, .o (.h 0)), (4, .o (.sl true 1 cs.length (rowOf natL cs))), (5, .o (.v (.int .i64 i))), (7, .o (.v (.int .i64 (pieceTo cs i a)))), (16, .o (.v (.int .i64 es.length))), (17, .o (.v (.int .i64 i))), (54, .o (.sl true 1 cs.length (rowOf natL cs))), (55, .o (.v (.int .i64 cs.length))), (56, .o (.v (.int .i64 a)))] [] [(0, rI out)] 1 Try.f37.ntmps
noncomputable def SLk3 (es : List Ed) (cs : List Nat) (out : List Int) (i p : Nat) : SS := mkS
  [(0, .o (.sl false 4 es.length (rowOf Ed.ls es))), (3, .o (.h 0)), (4, .o (.sl true 1 cs.length (rowOf natL cs))), (5, .o (.v (.int .i64 i))), (7, .o (.v (.int .i64 p))), (16, .o (.v (.int .i64 es.length))), (17, .o (.v (.int .i64 i)))] [] [(0, rI out)] 1 Try.f37.ntmps
theorem lcolours_at (es : List Ed) (h : es.length ≤ 1000000000000) (hb : ∀ e ∈ es, edIn 100000000 e) : FnAt Try.prog 37 [aEds es] [aInts (colours es)] := by
  have hsort := cornTo_sorted es es.length
  have hclt := cornTo_lt es es.length
  have hcl := cornTo_len es es.length
  have hcol : colours es = (List.range es.length).map (colourAt es.length (cornTo es es.length)) := rfl
  have hca := lcorners_at es h hb
  generalize cornTo es es.length = cs at *
  refine fn_at (E := EE) (fn := Try.f37) (c := Try.f37.body.getD .skip) (rs := Try.f37.results.toList) (nt := Try.f37.ntmps) EE_ok follows (by kernel_rfl) (by kernel_rfl) rfl rfl rfl [11, 22, 23] rfl ?_
  refine ⟨⟨by omega, by omega, ?_, by omega⟩, ?_⟩
  · show ((8 : Nat) : Int) * (es.length : Int) ≤ 140737488355328; omega
  refine ⟨_, hca, ?_⟩
  have hfl := fun i => fillTo_len es.length id (colourAt es.length cs) i
  refine loop_nat es.length (fun i => SLk es cs (fillTo es.length id (colourAt es.length cs) i) i) ?_ (fun i hi => ?_)
  · refine ent_of (rl := [(0, 3)]) (nl := []) ⟨rfl, ?_, ?_, ⟨⟨Nat.le_of_ble_eq_true rfl, made_ints⟩, trivial⟩, rfl, rfl, Nat.zero_le _, trivial, ⟨⟨Nat.zero_le _, Nat.zero_le _⟩, trivial⟩⟩ <;> (repeat' (first | exact trivial | exact SameL.refl _ | exact ep_seal rfl rfl | assumption | exact congrArg (Value.int _) (by assumption) | exact rfl | exact Nat.le_of_ble_eq_true rfl | decide | apply And.intro))
  refine if_dec (fun hlt => ?_) (fun hge => ?_)
  · have hlt : i < es.length := by omega
    have hw := w64_succ hlt (by omega)
    have hz := hfl i
    have hst : fillTo es.length id (colourAt es.length cs) (i + 1) = (fillTo es.length id (colourAt es.length cs) i).set i (colourAt es.length cs i) := rfl
    generalize fillTo es.length id (colourAt es.length cs) i = o at *
    refine ⟨⟨by omega, by show (i : Int) < (o.length : Int); omega⟩, by show (i : Int).toNat < o.length; omega, ?_⟩
    refine if_eq (fun h1 => ?_) (fun h1 => ?_)
    · obtain ⟨c, rfl⟩ : ∃ c, cs = [c] := List.length_eq_one_iff.1 (by omega)
      have hc0 : c < es.length := hclt c (by simp)
      refine ⟨⟨by decide, by show (0 : Int) < 1; decide⟩, ?_⟩
      have hmod : (i + es.length - c) % es.length < es.length := Nat.mod_lt _ (by omega)
      have hl7 : (o.set i 7).length = es.length := by simpa using hz
      have hl5 : ((o.set i 7).set i 5).length = es.length := by simpa using hz
      have hca1 : colourAt es.length [c] i = if es.length ≤ 2 * ((i + es.length - c) % es.length) then 6 else 5 := colourAt_one
      have hs7 : subR ⟨3, 1, o.length, setf (rowOf ints o) (i : Int).toNat 0 [I 7], true⟩ (rI (o.set i 7)) := subR_set (g := ints) (x := 7) rfl (by omega) rfl rfl rfl rfl rfl
      have e0 : w64 ((i : Int) - (c : Int)) = (i : Int) - (c : Int) := w64_in (by omega)
      refine ⟨Unit, fun _ => SLk1 es [c] (o.set i 7) i ((i + es.length - c) % es.length), ?_, fun _ => ?_⟩
      · refine if_dec (fun hn => ?_) (fun hn => ?_)
        · have hn : w64 ((i : Int) - (c : Int)) < 0 := hn
          rw [e0] at hn
          have e1 : w64 (w64 ((i : Int) - (c : Int)) + (es.length : Int)) = (((i + es.length - c) % es.length : Nat) : Int) := by
            rw [e0, w64_in (by omega), Nat.mod_eq_of_lt (by omega)]; omega
          refine ⟨(), ?_⟩
          refine ent_of (rl := []) (nl := []) ⟨rfl, ?_, ?_, ⟨⟨Nat.le_of_ble_eq_true rfl, hs7⟩, trivial⟩, rfl, rfl, Nat.zero_le _, trivial, trivial⟩ <;> (repeat' (first | exact trivial | exact SameL.refl _ | exact ep_seal rfl rfl | assumption | exact congrArg (Value.int _) (by assumption) | exact rfl | exact Nat.le_of_ble_eq_true rfl | decide | apply And.intro))
        · have hn : ¬ w64 ((i : Int) - (c : Int)) < 0 := hn
          rw [e0] at hn
          have e1 : w64 ((i : Int) - (c : Int)) = (((i + es.length - c) % es.length : Nat) : Int) := by
            rw [e0, show i + es.length - c = (i - c) + es.length by omega, Nat.add_mod_right, Nat.mod_eq_of_lt (by omega)]; omega
          refine ⟨(), ?_⟩
          refine ent_of (rl := []) (nl := []) ⟨rfl, ?_, ?_, ⟨⟨Nat.le_of_ble_eq_true rfl, hs7⟩, trivial⟩, rfl, rfl, Nat.zero_le _, trivial, trivial⟩ <;> (repeat' (first | exact trivial | exact SameL.refl _ | exact ep_seal rfl rfl | assumption | exact congrArg (Value.int _) (by assumption) | exact rfl | exact Nat.le_of_ble_eq_true rfl | decide | apply And.intro))
      generalize (i + es.length - c) % es.length = n at *
      have h2n : w64 (2 * (n : Int)) = 2 * (n : Int) := w64_in (by omega)
      refine ⟨⟨by omega, by show (i : Int) < ((o.set i 7).length : Int); omega⟩, by show (i : Int).toNat < (o.set i 7).length; omega, ?_⟩
      refine if_dec (fun h2 => ?_) (fun h2 => ?_)
      · have h2 : w64 (2 * (n : Int)) ≥ (es.length : Int) := h2
        rw [h2n] at h2
        refine ⟨⟨by omega, by show (i : Int) < ((o.set i 7).length : Int); omega⟩, by show (i : Int).toNat < (o.set i 7).length; omega, ?_⟩
        refine if_dec (fun h => absurd h (by show ¬ ((1 : Int) > 1); decide)) (fun _ => ?_)
        refine ⟨i + 1, ⟨Nat.lt_succ_self _, hlt⟩, ?_⟩
        rw [hst, hca1, if_pos (by omega)]
        refine ent_of (rl := []) (nl := []) ⟨rfl, ?_, ?_, ⟨⟨Nat.le_of_ble_eq_true rfl, subR_setII (by omega) (by rw [List.set_set])⟩, trivial⟩, rfl, rfl, Nat.zero_le _, trivial, trivial⟩ <;> (repeat' (first | exact trivial | exact SameL.refl _ | exact ep_seal rfl rfl | assumption | exact congrArg (Value.int _) (by assumption) | exact rfl | exact Nat.le_of_ble_eq_true rfl | decide | apply And.intro))
      · have h2 : ¬ w64 (2 * (n : Int)) ≥ (es.length : Int) := h2
        rw [h2n] at h2
        refine if_dec (fun h => absurd h (by show ¬ ((1 : Int) > 1); decide)) (fun _ => ?_)
        refine ⟨i + 1, ⟨Nat.lt_succ_self _, hlt⟩, ?_⟩
        rw [hst, hca1, if_neg (by omega)]
        refine ent_of (rl := []) (nl := []) ⟨rfl, ?_, ?_, ⟨⟨Nat.le_of_ble_eq_true rfl, subR_setI (by omega) (by rw [List.set_set])⟩, trivial⟩, rfl, rfl, Nat.zero_le _, trivial, trivial⟩ <;> (repeat' (first | exact trivial | exact SameL.refl _ | exact ep_seal rfl rfl | assumption | exact congrArg (Value.int _) (by assumption) | exact rfl | exact Nat.le_of_ble_eq_true rfl | decide | apply And.intro))
    · refine if_dec (fun hm => ?_) (fun hm => ?_)
      · have hm : (cs.length : Int) > 1 := hm
        have hp0 : 0 < cs.length := by omega
        have hcm : colourAt es.length cs i = colourN (pieceOf cs i) cs.length := colourAt_many (by omega)
        have hpe := pieceTo_eq (k := i) hsort hp0
        have hpl := piece_lt (k := i) hp0
        have hl7 : (o.set i 7).length = es.length := by simpa using hz
        have hs7 : subR ⟨3, 1, o.length, setf (rowOf ints o) (i : Int).toNat 0 [I 7], true⟩ (rI (o.set i 7)) := subR_setI (by omega) rfl
        have e0 : w64 ((cs.length : Int) - 1) = ((pieceTo cs i 0 : Nat) : Int) := by rw [w64_in (by omega)]; show _ = ((cs.length - 1 : Nat) : Int); omega
        refine ⟨Unit, fun _ => SLk3 es cs (o.set i 7) i (pieceOf cs i), ?_, fun _ => ?_⟩
        · refine loop_nat cs.length (SLk2 es cs (o.set i 7) i) ?_ (fun a ha => ?_)
          · refine ent_of (rl := []) (nl := []) ⟨rfl, ?_, ?_, ⟨⟨Nat.le_of_ble_eq_true rfl, hs7⟩, trivial⟩, rfl, rfl, Nat.zero_le _, trivial, trivial⟩ <;> (repeat' (first | exact trivial | exact SameL.refl _ | exact ep_seal rfl rfl | assumption | exact congrArg (Value.int _) (by assumption) | exact rfl | exact Nat.le_of_ble_eq_true rfl | decide | apply And.intro))
          refine if_dec (fun hla => ?_) (fun hga => ?_)
          · have hla : a < cs.length := by omega
            have hwa := w64_succ hla (by omega)
            refine ⟨⟨by omega, by show (a : Int) < (cs.length : Int); omega⟩, ?_⟩
            refine if_dec (fun hc => ?_) (fun hc => ?_)
            · have hc : ((cs.getD a default : Nat) : Int) ≤ (i : Int) := hc
              have e2 : (a : Int) = ((pieceTo cs i (a + 1) : Nat) : Int) := by unfold pieceTo; rw [if_pos (by omega)]
              refine ⟨a + 1, ⟨Nat.lt_succ_self _, hla⟩, ?_⟩
              refine ent_of (rl := []) (nl := []) ⟨rfl, ?_, ?_, ⟨⟨Nat.le_of_ble_eq_true rfl, subR.refl _⟩, trivial⟩, rfl, rfl, Nat.zero_le _, trivial, trivial⟩ <;> (repeat' (first | exact trivial | exact SameL.refl _ | exact ep_seal rfl rfl | assumption | exact congrArg (Value.int _) (by assumption) | exact rfl | exact Nat.le_of_ble_eq_true rfl | decide | apply And.intro))
            · have hc : ¬ ((cs.getD a default : Nat) : Int) ≤ (i : Int) := hc
              have e2 : ((pieceTo cs i a : Nat) : Int) = ((pieceTo cs i (a + 1) : Nat) : Int) := by rw [show pieceTo cs i (a + 1) = if cs.getD a default ≤ i then a else pieceTo cs i a from rfl, if_neg (by omega)]
              refine ⟨a + 1, ⟨Nat.lt_succ_self _, hla⟩, ?_⟩
              refine ent_of (rl := []) (nl := []) ⟨rfl, ?_, ?_, ⟨⟨Nat.le_of_ble_eq_true rfl, subR.refl _⟩, trivial⟩, rfl, rfl, Nat.zero_le _, trivial, trivial⟩ <;> (repeat' (first | exact trivial | exact SameL.refl _ | exact ep_seal rfl rfl | assumption | exact congrArg (Value.int _) (by assumption) | exact rfl | exact Nat.le_of_ble_eq_true rfl | decide | apply And.intro))
          · have hia : a = cs.length := by omega
            subst hia
            have e3 : ((pieceTo cs i cs.length : Nat) : Int) = ((pieceOf cs i : Nat) : Int) := by rw [hpe]
            refine ⟨(), ?_⟩
            refine ent_of (rl := []) (nl := []) ⟨rfl, ?_, ?_, ⟨⟨Nat.le_of_ble_eq_true rfl, subR.refl _⟩, trivial⟩, rfl, rfl, Nat.zero_le _, trivial, trivial⟩ <;> (repeat' (first | exact trivial | exact SameL.refl _ | exact ep_seal rfl rfl | assumption | exact congrArg (Value.int _) (by assumption) | exact rfl | exact Nat.le_of_ble_eq_true rfl | decide | apply And.intro))
        generalize pieceOf cs i = p at *
        have e3 : (p : Int).tmod 3 = ((p % 3 : Nat) : Int) := by rw [Int.tmod_eq_emod_of_nonneg (by omega)]; rfl
        have em : (cs.length : Int).tmod 3 = ((cs.length % 3 : Nat) : Int) := by rw [Int.tmod_eq_emod_of_nonneg (by omega)]; rfl
        have e1 : w64 ((cs.length : Int) - 1) = (cs.length : Int) - 1 := w64_in (by omega)
        refine ⟨Unit, fun _ => SLk3 es cs (o.set i (if p % 3 = 0 then 5 else if p % 3 = 1 then 6 else 3)) i p, ?_, fun _ => ?_⟩
        · have hp3 : p % 3 = 0 ∨ p % 3 = 1 ∨ p % 3 = 2 := by omega
          rcases hp3 with hp3 | hp3 | hp3
          · refine ⟨0, by rw [e3, hp3], ?_⟩
            refine ⟨⟨by omega, by show (i : Int) < ((o.set i 7).length : Int); omega⟩, by show (i : Int).toNat < (o.set i 7).length; omega, ?_⟩
            refine ⟨(), ?_⟩
            rw [if_pos hp3]
            refine ent_of (rl := []) (nl := []) ⟨rfl, ?_, ?_, ⟨⟨Nat.le_of_ble_eq_true rfl, subR_setI (by omega) (by rw [List.set_set])⟩, trivial⟩, rfl, rfl, Nat.zero_le _, trivial, trivial⟩ <;> (repeat' (first | exact trivial | exact SameL.refl _ | exact ep_seal rfl rfl | assumption | exact congrArg (Value.int _) (by assumption) | exact rfl | exact Nat.le_of_ble_eq_true rfl | decide | apply And.intro))
          · refine ⟨1, by rw [e3, hp3], ?_⟩
            refine ⟨⟨by omega, by show (i : Int) < ((o.set i 7).length : Int); omega⟩, by show (i : Int).toNat < (o.set i 7).length; omega, ?_⟩
            refine ⟨(), ?_⟩
            rw [if_neg (by omega), if_pos hp3]
            refine ent_of (rl := []) (nl := []) ⟨rfl, ?_, ?_, ⟨⟨Nat.le_of_ble_eq_true rfl, subR_setI (by omega) (by rw [List.set_set])⟩, trivial⟩, rfl, rfl, Nat.zero_le _, trivial, trivial⟩ <;> (repeat' (first | exact trivial | exact SameL.refl _ | exact ep_seal rfl rfl | assumption | exact congrArg (Value.int _) (by assumption) | exact rfl | exact Nat.le_of_ble_eq_true rfl | decide | apply And.intro))
          · refine ⟨2, by rw [e3, hp3], ?_⟩
            refine ⟨⟨by omega, by show (i : Int) < ((o.set i 7).length : Int); omega⟩, by show (i : Int).toNat < (o.set i 7).length; omega, ?_⟩
            refine ⟨(), ?_⟩
            rw [if_neg (by omega), if_neg (by omega)]
            refine ent_of (rl := []) (nl := []) ⟨rfl, ?_, ?_, ⟨⟨Nat.le_of_ble_eq_true rfl, subR_setI (by omega) (by rw [List.set_set])⟩, trivial⟩, rfl, rfl, Nat.zero_le _, trivial, trivial⟩ <;> (repeat' (first | exact trivial | exact SameL.refl _ | exact ep_seal rfl rfl | assumption | exact congrArg (Value.int _) (by assumption) | exact rfl | exact Nat.le_of_ble_eq_true rfl | decide | apply And.intro))
        have hsp : ∀ v, (o.set i v).length = es.length := fun v => by simpa using hz
        have hcn : colourN p cs.length = if p + 1 = cs.length ∧ cs.length % 3 = 1 then 6 else if p % 3 = 0 then 5 else if p % 3 = 1 then 6 else 3 := rfl
        generalize (if p % 3 = 0 then (5 : Int) else if p % 3 = 1 then 6 else 3) = v at *
        have hsv := hsp v
        refine if_eq (fun hq => ?_) (fun hq => ?_)
        · have hq : (p : Int) = w64 ((cs.length : Int) - 1) := hq
          rw [e1] at hq
          refine if_eq (fun hr => ?_) (fun hr => ?_)
          · have hr : (cs.length : Int).tmod 3 = 1 := hr
            rw [em] at hr
            refine ⟨⟨by omega, by show (i : Int) < ((o.set i v).length : Int); omega⟩, by show (i : Int).toNat < (o.set i v).length; omega, ?_⟩
            refine ⟨i + 1, ⟨Nat.lt_succ_self _, hlt⟩, ?_⟩
            rw [hst, hcm, hcn, if_pos (by omega)]
            refine ent_of (rl := []) (nl := []) ⟨rfl, ?_, ?_, ⟨⟨Nat.le_of_ble_eq_true rfl, subR_setI (by omega) (by rw [List.set_set])⟩, trivial⟩, rfl, rfl, Nat.zero_le _, trivial, trivial⟩ <;> (repeat' (first | exact trivial | exact SameL.refl _ | exact ep_seal rfl rfl | assumption | exact congrArg (Value.int _) (by assumption) | exact rfl | exact Nat.le_of_ble_eq_true rfl | decide | apply And.intro))
          · have hr : ¬ (cs.length : Int).tmod 3 = 1 := hr
            rw [em] at hr
            refine ⟨i + 1, ⟨Nat.lt_succ_self _, hlt⟩, ?_⟩
            rw [hst, hcm, hcn, if_neg (by omega)]
            refine ent_of (rl := []) (nl := []) ⟨rfl, ?_, ?_, ⟨⟨Nat.le_of_ble_eq_true rfl, subR.refl _⟩, trivial⟩, rfl, rfl, Nat.zero_le _, trivial, trivial⟩ <;> (repeat' (first | exact trivial | exact SameL.refl _ | exact ep_seal rfl rfl | assumption | exact congrArg (Value.int _) (by assumption) | exact rfl | exact Nat.le_of_ble_eq_true rfl | decide | apply And.intro))
        · have hq : ¬ (p : Int) = w64 ((cs.length : Int) - 1) := hq
          rw [e1] at hq
          refine ⟨i + 1, ⟨Nat.lt_succ_self _, hlt⟩, ?_⟩
          rw [hst, hcm, hcn, if_neg (by omega)]
          refine ent_of (rl := []) (nl := []) ⟨rfl, ?_, ?_, ⟨⟨Nat.le_of_ble_eq_true rfl, subR.refl _⟩, trivial⟩, rfl, rfl, Nat.zero_le _, trivial, trivial⟩ <;> (repeat' (first | exact trivial | exact SameL.refl _ | exact ep_seal rfl rfl | assumption | exact congrArg (Value.int _) (by assumption) | exact rfl | exact Nat.le_of_ble_eq_true rfl | decide | apply And.intro))
      · have hm : ¬ (cs.length : Int) > 1 := hm
        obtain rfl : cs = [] := List.eq_nil_of_length_eq_zero (by omega)
        refine ⟨i + 1, ⟨Nat.lt_succ_self _, hlt⟩, ?_⟩
        rw [hst, show colourAt es.length [] i = 7 from rfl]
        refine ent_of (rl := []) (nl := []) ⟨rfl, ?_, ?_, ⟨⟨Nat.le_of_ble_eq_true rfl, subR_setI (by omega) rfl⟩, trivial⟩, rfl, rfl, Nat.zero_le _, trivial, trivial⟩ <;> (repeat' (first | exact trivial | exact SameL.refl _ | exact ep_seal rfl rfl | assumption | exact congrArg (Value.int _) (by assumption) | exact rfl | exact Nat.le_of_ble_eq_true rfl | decide | apply And.intro))
  · have hin : i = es.length := by omega
    subst hin
    refine ⟨⟨row_ret ?_, trivial⟩, trivial⟩
    rw [hcol, fillTo_done (pos := id) (fun i hi => hi) (fun k hk => ⟨k, hk, rfl⟩)]

/-! ### law11.CornerColours -/
noncomputable def SCD (l : List (List Ed)) (i : Nat) : SS := mkS [(8, .o (.sl true 1 l.length (rowOf edsL l))), (9, .o (.v (.int .i64 l.length))), (10, .o (.v (.int .i64 i)))] [] [] 0 Try.f11.ntmps
theorem cornerColours_at (cs : List (List Vx)) : FnAt Try.prog 11 [aSl dsL 1 cs] [aB true] := by
  have hct := contours_at cs
  have hin := fun c => cont_in (cs := cs) (c := c)
  have hok := fun c => contours_ok (cs := cs) c
  have hl8 := contours_len cs
  generalize contours cs = l at *
  refine fn_at (E := EE) (fn := Try.f11) (c := Try.f11.body.getD .skip) (rs := Try.f11.results.toList) (nt := Try.f11.ntmps) EE_ok follows (by kernel_rfl) (by kernel_rfl) rfl rfl rfl [] rfl ?_
  refine ⟨_, awake11_at, ?_⟩
  refine ⟨(fun h => nomatch h), fun _ => ?_⟩
  refine ⟨_, hct, ?_⟩
  refine loop_nat l.length (SCD l) ?_ (fun i hi => ?_)
  · refine ent_of (rl := []) (nl := []) ⟨rfl, ?_, ?_, trivial, rfl, rfl, Nat.zero_le _, trivial, trivial⟩ <;> (repeat' (first | exact trivial | exact SameL.refl _ | exact ep_seal rfl rfl | assumption | exact congrArg (Value.int _) (by assumption) | exact rfl | exact Nat.le_of_ble_eq_true rfl | decide | apply And.intro))
  refine if_dec (fun hlt => ?_) (fun hge => ?_)
  · have hlt : i < l.length := by omega
    have hw := w64_succ hlt (by omega)
    have hm := getD_mem hlt
    have h52 := (hok _ hm).2
    have hcl := colours_len (l.getD i default)
    refine ⟨⟨by omega, by omega⟩, ?_⟩
    refine ⟨_, colours_at (l.getD i default) (by omega), ?_⟩
    refine ⟨_, lcolours_at (l.getD i default) (by omega) (hin _ hm), ?_⟩
    refine ⟨_, ints_at (colours (l.getD i default)) (colours (l.getD i default)) (by omega), ?_⟩
    refine if_nb (fun h => absurd h (by simp)) (fun _ => ?_)
    refine ⟨i + 1, ⟨Nat.lt_succ_self _, hlt⟩, ?_⟩
    refine ent_of (rl := []) (nl := []) ⟨rfl, ?_, ?_, trivial, rfl, rfl, Nat.zero_le _, trivial, trivial⟩ <;> (repeat' (first | exact trivial | exact SameL.refl _ | exact ep_seal rfl rfl | assumption | exact congrArg (Value.int _) (by assumption) | exact rfl | exact Nat.le_of_ble_eq_true rfl | decide | apply And.intro))
  · refine ⟨_, (colours_at [] (by decide)).args ⟨rfl, ⟨⟨rfl, rfl⟩, trivial⟩, trivial⟩, ?_⟩
    exact ⟨⟨rfl, trivial⟩, trivial⟩
theorem CornerColours_row : ∀ args, TyArgs tt 8 [46] args → FnAt Try.prog 11 args [(false, [.lit (.bool true)])] := by
  intro args h
  match args, h with
  | [(b, l)], ⟨⟨e, h1⟩, _⟩ =>
    have e : b = false := e
    subst e
    obtain ⟨cs, hcs⟩ := ty_dots (k := 4) h1
    exact (cornerColours_at cs).args ⟨rfl, hcs, trivial⟩

/-! ### law11.CornerAll -/
def sumLen (l : List (List Ed)) : Nat := (l.flatMap id).length
noncomputable def SCA (l : List (List Ed)) (i : Nat) : SS := mkS [(3, .o (.sl true 1 l.length (rowOf edsL l))), (4, .o (.h 0)), (5, .o (.v (.int .i64 (sumLen (l.take i))))), (19, .o (.sl true 1 l.length (rowOf edsL l))), (20, .o (.v (.int .i64 l.length))), (21, .o (.v (.int .i64 i)))] [] [(0, rI ((l.take i).flatMap colours))] 1 Try.f14.ntmps
noncomputable def SCA2 (l : List (List Ed)) (i : Nat) : SS := mkS [(8, .o (.sl true 4 (l.flatMap id).length (rowOf Ed.ls (l.flatMap id)))), (10, .o (.v (.int .i64 (sumLen (l.take i))))), (49, .o (.sl true 1 l.length (rowOf edsL l))), (50, .o (.v (.int .i64 l.length))), (51, .o (.v (.int .i64 i)))] [] [] 0 Try.f14.ntmps
noncomputable def SCA3 (l : List (List Ed)) (i : Nat) (c : List Ed) (j : Nat) : SS := mkS [(8, .o (.sl true 4 (l.flatMap id).length (rowOf Ed.ls (l.flatMap id)))), (10, .o (.v (.int .i64 ((sumLen (l.take i) + j : Nat) : Int)))), (49, .o (.sl true 1 l.length (rowOf edsL l))), (50, .o (.v (.int .i64 l.length))), (51, .o (.v (.int .i64 i))), (55, .o (.sl true 4 c.length (rowOf Ed.ls c))), (56, .o (.v (.int .i64 c.length))), (57, .o (.v (.int .i64 j)))] [] [] 0 Try.f14.ntmps
theorem sumLen_succ {l : List (List Ed)} {i : Nat} (h : i < l.length) : sumLen (l.take (i + 1)) = sumLen (l.take i) + (l.getD i default).length := by
  unfold sumLen
  rw [flatMap_take_succ id l h, List.length_append]; rfl
theorem flat_get {l : List (List Ed)} {i j : Nat} (hi : i < l.length) (hj : j < (l.getD i default).length) : sumLen (l.take i) + j < (l.flatMap id).length ∧ (l.flatMap id).getD (sumLen (l.take i) + j) default = (l.getD i default).getD j default := by
  have e : l.flatMap id = (l.take i).flatMap id ++ (l.getD i default ++ (l.drop (i + 1)).flatMap id) := by
    conv => lhs; rw [← List.take_append_drop i l]
    rw [List.flatMap_append, List.drop_eq_getElem_cons hi, List.flatMap_cons, List.getD_eq_getElem?_getD, List.getElem?_eq_getElem hi]
    rfl
  unfold sumLen
  rw [e]
  refine ⟨by simp only [List.length_append]; omega, ?_⟩
  rw [List.getD_eq_getElem?_getD, List.getElem?_append_right (by omega), List.getElem?_append_left (by omega), List.getD_eq_getElem?_getD]
  congr 2; omega
theorem cornerAllL_at (cs : List (List Vx)) : FnAt Try.prog 14 [aSl dsL 1 cs] [aB true] := by
  have hct := contours_at cs
  have hin := fun c => cont_in (cs := cs) (c := c)
  have hok := fun c => contours_ok (cs := cs) c
  have hl8 := contours_len cs
  generalize contours cs = l at *
  have hsum : ∀ i, sumLen (l.take i) ≤ 1000 * 1000 := fun i => by
    have := flat_len (f := id) (m := 1000) (l := l.take i) fun c hc => by have := (hok _ (List.mem_of_mem_take hc)).2; show c.length ≤ 1000; omega
    have h2 : (l.take i).length ≤ 1000 := by rw [List.length_take]; omega
    exact Nat.le_trans this (Nat.mul_le_mul_right _ h2)
  refine fn_at (E := EE) (fn := Try.f14) (c := Try.f14.body.getD .skip) (rs := Try.f14.results.toList) (nt := Try.f14.ntmps) EE_ok follows (by kernel_rfl) (by kernel_rfl) rfl rfl rfl [] rfl ?_
  refine ⟨_, awake11_at, ?_⟩
  refine ⟨(fun h => nomatch h), fun _ => ?_⟩
  refine ⟨_, hct, ?_⟩
  refine loop_nat l.length (SCA l) ?_ (fun i hi => ?_)
  · refine ent_of (rl := []) (nl := [0]) ⟨rfl, ?_, ?_, ⟨⟨Nat.le_of_ble_eq_true rfl, rfl⟩, trivial⟩, rfl, rfl, Nat.zero_le _, ⟨Nat.zero_le _, trivial⟩, trivial⟩ <;> (repeat' (first | exact trivial | exact SameL.refl _ | exact ep_seal rfl rfl | assumption | exact congrArg (Value.int _) (by assumption) | exact rfl | exact Nat.le_of_ble_eq_true rfl | decide | apply And.intro))
  refine if_dec (fun hlt => ?_) (fun hge => ?_)
  · have hlt : i < l.length := by omega
    have hw := w64_succ hlt (by omega)
    have hm := getD_mem hlt
    have h52 := (hok _ hm).2
    have hcl := colours_len (l.getD i default)
    have hs0 := hsum i
    have hti : ((l.take i).flatMap colours).length = sumLen (l.take i) := by
      unfold sumLen
      generalize l.take i = q
      induction q with
      | nil => rfl
      | cons c q ih => rw [List.flatMap_cons, List.flatMap_cons, List.length_append, List.length_append, ih, colours_len]; rfl
    have hs1 := sumLen_succ hlt
    have e1 : w64 (((sumLen (l.take i) : Nat) : Int) + ((l.getD i default).length : Int)) = ((sumLen (l.take (i + 1)) : Nat) : Int) := by rw [w64_in (by omega), hs1]; omega
    refine ⟨⟨by omega, by omega⟩, ?_⟩
    refine ⟨_, lcolours_at (l.getD i default) (by omega) (hin _ hm), ?_⟩
    refine ⟨appM (n := ((l.take i).flatMap colours).length) (m := (colours (l.getD i default)).length) (by omega) (by decide), ?_⟩
    refine ⟨i + 1, ⟨Nat.lt_succ_self _, hlt⟩, ?_⟩
    refine ent_of (rl := [(0, 8)]) (nl := []) ⟨rfl, ?_, ?_, ⟨⟨Nat.le_of_ble_eq_true rfl, subR_app rfl rfl rfl rfl (flatMap_take_succ colours l hlt) rfl⟩, trivial⟩, rfl, rfl, Nat.zero_le _, trivial, ⟨⟨Nat.zero_le _, Nat.zero_le _⟩, trivial⟩⟩ <;> (repeat' (first | exact trivial | exact SameL.refl _ | exact ep_seal rfl rfl | assumption | exact congrArg (Value.int _) (by assumption) | exact rfl | exact Nat.le_of_ble_eq_true rfl | decide | apply And.intro))
  have hin' : i = l.length := by omega
  subst hin'
  have hsl : sumLen (l.take l.length) = (l.flatMap id).length := by rw [List.take_length]; rfl
  have hfc : ((l.take l.length).flatMap colours) = l.flatMap colours := by rw [List.take_length]
  have hs0 := hsum l.length
  have hcl : (l.flatMap colours).length = (l.flatMap id).length := by
    clear hct hin hok hl8 hsum hsl hfc hs0 hi hge
    induction l with
    | nil => rfl
    | cons c q ih => rw [List.flatMap_cons, List.flatMap_cons, List.length_append, List.length_append, ih, colours_len]; rfl
  refine ⟨_, cornerAll_at l (by omega) (fun c hc => by have := (hok _ hc).2; omega), ?_⟩
  refine ⟨fun _ => ?_, fun h => absurd h (by rw [hsl]; simp)⟩
  refine ⟨_, ints_at (l.flatMap colours) ((l.take l.length).flatMap colours) (by omega), ?_⟩
  refine if_nb (fun h => absurd h (by simp)) (fun _ => ?_)
  have e00 : (0 : Int) = ((sumLen (l.take 0) : Nat) : Int) := rfl
  refine loop_nat l.length (SCA2 l) ?_ (fun i hi => ?_)
  · refine ent_of (rl := []) (nl := []) ⟨rfl, ?_, ?_, trivial, rfl, rfl, Nat.zero_le _, trivial, trivial⟩ <;> (repeat' (first | exact trivial | exact SameL.refl _ | exact ep_seal rfl rfl | assumption | exact congrArg (Value.int _) (by assumption) | exact rfl | exact Nat.le_of_ble_eq_true rfl | decide | apply And.intro))
  refine if_dec (fun hlt => ?_) (fun hge => ?_)
  · have hlt : i < l.length := by omega
    have hw := w64_succ hlt (by omega)
    have hm := getD_mem hlt
    have h52 := (hok _ hm).2
    have hs1 := sumLen_succ hlt
    have hsi := hsum i
    have hg := fun j => flat_get (j := j) hlt
    refine ⟨⟨by omega, by omega⟩, ?_⟩
    have e0 : (((sumLen (l.take i) : Nat)) : Int) = ((sumLen (l.take i) + 0 : Nat) : Int) := by omega
    refine loop_nat (l.getD i default).length (SCA3 l i (l.getD i default)) ?_ (fun j hj => ?_)
    · refine ent_of (rl := []) (nl := []) ⟨rfl, ?_, ?_, trivial, rfl, rfl, Nat.zero_le _, trivial, trivial⟩ <;> (repeat' (first | exact trivial | exact SameL.refl _ | exact ep_seal rfl rfl | assumption | exact congrArg (Value.int _) (by assumption) | exact rfl | exact Nat.le_of_ble_eq_true rfl | decide | apply And.intro))
    refine if_dec (fun hlj => ?_) (fun hgj => ?_)
    · have hlj : j < (l.getD i default).length := by omega
      have hwj := w64_succ hlj (by omega)
      obtain ⟨hg1, hg2⟩ := hg j hlj
      have e1 : w64 (((sumLen (l.take i) + j : Nat) : Int) + 1) = ((sumLen (l.take i) + (j + 1) : Nat) : Int) := by rw [w64_in (by omega)]; omega
      refine ⟨⟨by omega, by omega⟩, ?_⟩
      refine ⟨⟨by omega, by omega⟩, ?_⟩
      refine if_ned (a := (l.flatMap id).getD (((sumLen (l.take i) + j : Nat) : Int)).toNat default) (b := (l.getD i default).getD (j : Int).toNat default) (fun h => absurd hg2 h) (fun _ => ?_)
      refine ⟨j + 1, ⟨Nat.lt_succ_self _, hlj⟩, ?_⟩
      refine ent_of (rl := []) (nl := []) ⟨rfl, ?_, ?_, trivial, rfl, rfl, Nat.zero_le _, trivial, trivial⟩ <;> (repeat' (first | exact trivial | exact SameL.refl _ | exact ep_seal rfl rfl | assumption | exact congrArg (Value.int _) (by assumption) | exact rfl | exact Nat.le_of_ble_eq_true rfl | decide | apply And.intro))
    · have hjn : j = (l.getD i default).length := by omega
      subst hjn
      have e1 : (((sumLen (l.take i) + (l.getD i default).length : Nat)) : Int) = ((sumLen (l.take (i + 1)) : Nat) : Int) := by rw [hs1]
      refine ⟨i + 1, ⟨Nat.lt_succ_self _, hlt⟩, ?_⟩
      refine ent_of (rl := []) (nl := []) ⟨rfl, ?_, ?_, trivial, rfl, rfl, Nat.zero_le _, trivial, trivial⟩ <;> (repeat' (first | exact trivial | exact SameL.refl _ | exact ep_seal rfl rfl | assumption | exact congrArg (Value.int _) (by assumption) | exact rfl | exact Nat.le_of_ble_eq_true rfl | decide | apply And.intro))
  · exact ⟨⟨kB rfl, trivial⟩, trivial⟩
theorem CornerAll_row : ∀ args, TyArgs tt 8 [46] args → FnAt Try.prog 14 args [(false, [.lit (.bool true)])] := by
  intro args h
  match args, h with
  | [(b, l)], ⟨⟨e, h1⟩, _⟩ =>
    have e : b = false := e
    subst e
    obtain ⟨cs, hcs⟩ := ty_dots (k := 4) h1
    exact (cornerAllL_at cs).args ⟨rfl, hcs, trivial⟩
end Go.Proofs.Ytgbhoinfemjbiaa
