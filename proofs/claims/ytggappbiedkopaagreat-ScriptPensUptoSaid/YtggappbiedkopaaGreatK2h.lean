/- Law 22: contracts of act, same, frame.Right. -/
import Derived.Test.YtggappbiedkopaaGreatK2g
namespace Go.Proofs.YtggappbiedkopaaGreat
open Go SX
set_option linter.unusedVariables false
set_option maxRecDepth 100000
set_option maxHeartbeats 1000000

theorem ofL_den {base : Nat} {cx : Cx} {w : World} {fr : Bool} {l : L} {y : Value} (h : crel base cx w (ofL fr l) y) (h1 : one y = true) : Den w (cx.SB base fr) l y := by
  cases l with
  | lit x => exact ⟨h, by rw [← show y = x from h]; exact h1⟩
  | sl sz n f => exact h
  | pt m g => exact h
theorem ofL_dens {base : Nat} {cx : Cx} {w : World} {fr : Bool} : ∀ {ls : List L} {ys : List Value}, crels base cx w (ls.map (ofL fr)) ys → Dens w (cx.SB base fr) ls ys
  | [], [], _ => trivial
  | l :: ls, y :: ys, h => ⟨ofL_den h.1 h.2.1, ofL_dens h.2.2⟩
  | [], _ :: _, h => h.elim
  | _ :: _, [], h => h.elim
theorem args_sv {base : Nat} {cx : Cx} {w : World} : ∀ {args : Res} {vs : List Value}, (∀ q ∈ args, q.1 = false → ∃ l, q.2 = [l]) → ArgsD w cx.S args vs → svrels base cx w (args.map litSV) vs
  | [], [], _, _ => trivial
  | (b, ls) :: r, y :: ys, hq, h => by
    refine ⟨?_, args_sv (fun q hm => hq q (List.mem_cons_of_mem _ hm)) h.2⟩
    have hS : ∀ b, cx.S b → cx.SB base false b := fun b hb => ⟨hb, fun h => by cases h⟩
    have h1 := h.1
    cases b with
    | true => obtain ⟨zs, rfl, h2⟩ := h1; exact ⟨zs, rfl, (Dens.lt hS h2).crels⟩
    | false =>
      obtain ⟨l, e⟩ := hq (false, ls) (by simp) rfl
      have e : ls = [l] := e
      subst e
      have h1 : Dens w cx.S [l] [y] := h1
      exact sv_of (h1.1.lt hS).crel h1.1.one
  | [], _ :: _, _, h => h.elim
  | (_, _) :: _, [], _, h => h.elim
/-- a call told by its memory, where it turns none: its result may lead to what was there -/
theorem old_of_hv {P : Program} {g : Nat} {args : Res} {ls : List L} {M' : LM} (hq : ∀ q ∈ args, q.1 = false → ∃ l, q.2 = [l]) (h : HvAt P g (args.map litSV) ⟨[], [], 0⟩ (.a (ls.map (ofL false))) M') : FnOld P g args [(true, ls)] := by
  refine ⟨h.1, fun S w vs hS hargs => ?_⟩
  let cx : Cx := ⟨fun _ => False, fun _ => 0, fun _ => .slice none 0 0, S⟩
  have hm : Mem w.heap.size cx w (LM.ss ⟨[], [], 0⟩) := ⟨fun i T cs h => (by cases h), fun i j ⟨b, h⟩ _ _ => (by cases h), fun i r h => (by cases h), fun i r g h _ => (by cases h), fun i j r r' g h _ _ _ => (by cases h)⟩
  refine (h.2.2 w.heap.size cx w vs (Nat.le_refl _) hS (fun i => ⟨False.elim, fun h => absurd h (Nat.not_lt_zero _)⟩) hm (args_sv hq hargs)).mono ?_
  rintro e w' ⟨v, cx', rfl, hx, hF, hS', hm'⟩
  obtain ⟨ys, rfl, hc⟩ := hx
  refine ⟨⟨_, rfl, ys, rfl, (ofL_dens hc).lt fun b hb => hF.S' b hb.1⟩, ?_⟩
  have hW : ∀ b, ¬ An.W ⟨w.heap.size, cx, w⟩ b := by rintro b (⟨i, h, _⟩ | ⟨i, h, _⟩) <;> exact h
  exact ⟨hF.os, hF.tape, hF.output, hF.size, fun b hb => hF.blk b hb (hW b)⟩
theorem crels_nil {base : Nat} {cx : Cx} {w : World} {c0 c1 : C} {cs : List C} {fr : Bool} {sz : Nat} {f : Nat → Nat → L} : ∀ {ys : List Value}, crels base cx w (c0 :: c1 :: .k (.slice none 0 0) :: cs) ys → crels base cx w (c0 :: c1 :: .sl fr sz 0 f :: cs) ys
  | y0 :: y1 :: y2 :: ys, h => ⟨h.1, h.2.1, h.2.2.1, h.2.2.2.1, ⟨none, 0, h.2.2.2.2.1, Nat.le_refl _, by simp [maxLen], fun h => absurd h (Nat.lt_irrefl _)⟩, h.2.2.2.2.2.1, h.2.2.2.2.2.2⟩
  | [], h => h.elim
  | [_], h => h.2.2.elim
  | [_, _], h => h.2.2.2.2.elim
theorem keyT {c : Int} (h : uIn c) : bytesOf 1 (fun a b => nth [U (IntKind.u8.wrap (97 + c.tmod 8))] (a * 1 + b)) = keyS c := fin_of (P := fun c => bytesOf 1 (fun a b => nth [U (IntKind.u8.wrap (97 + c.tmod 8))] (a * 1 + b)) = keyS c) (by decide +kernel) h
@[reducible] def acD (a : Ac) : List C := (acL a).map (ofL false)
/-- an act without a text: nil told as a slice of none -/
theorem ent_acN {k x y nu de lo hi ink : Int} {key : ByteArray} {s : SS} (h : Ent 0 s (mkS [(0, .a (acN ⟨k, key, [], x, y, nu, de, lo, hi, ink⟩))] [] [] 0 1)) : Ent 0 s (mkS [(0, .a (acD ⟨k, key, [], x, y, nu, de, lo, hi, ink⟩))] [] [] 0 1) := by
  refine Ent.trans h (Ent.trans (ent_tm (t := 0) (x := .a (acD ⟨k, key, [], x, y, nu, de, lo, hi, ink⟩)) ?_) ?_)
  · rintro base cx w v ⟨ys, rfl, hc⟩
    exact ⟨ys, rfl, crels_nil hc⟩
  · refine ent_of (rl := []) (nl := []) ⟨rfl, ?_, ?_, trivial, rfl, rfl, (by first | exact Nat.zero_le _ | exact Nat.le_of_ble_eq_true rfl), trivial, trivial⟩ <;> (repeat' (first | exact trivial | exact SameL.refl _ | exact ep_seal rfl rfl | assumption | exact congrArg (Value.int _) (by assumption) | exact rfl | exact Nat.le_of_ble_eq_true rfl | decide | apply And.intro | apply all1 | apply all2 | apply all3 | apply all4 | apply all5))
def actL (l : List Int) : Ac := actF (l.getD 0 default) (l.getD 1 default) (l.getD 2 default) (l.getD 3 default) (l.getD 4 default) (l.getD 5 default)
theorem penX' {n : Int} (h : uIn n) : w64 ((w64 n).tmod 32 - 8) = n % 32 - 8 := by have h0 := h.1; have h1 := h.2; rw [w64_in (n := n) (by omega), tmod_pos h.1, w64_in (by omega)]
theorem penN' {n : Int} (h : uIn n) : w64 ((w64 n).tmod 8 + 1) = 1 + n % 8 := by have h0 := h.1; have h1 := h.2; rw [w64_in (n := n) (by omega), tmod_pos h.1, w64_in (by omega)]; omega
theorem penD' {n : Int} (h : uIn n) : w64 ((w64 ((w64 n).tdiv 8)).tmod 8 + 1) = 1 + n / 8 % 8 := by
  have h0 := h.1
  have h1 := h.2
  have h2 : 0 ≤ n / 8 := by omega
  rw [w64_in (n := n) (by omega), Int.tdiv_eq_ediv_of_nonneg h0, w64_in (n := n / 8) (by omega), tmod_pos h2, w64_in (by omega)]; omega
theorem penH' {n : Int} (h : uIn n) : w64 ((w64 n).tmod 128 + 97) = 97 + n % 128 := by have h0 := h.1; have h1 := h.2; rw [w64_in (n := n) (by omega), tmod_pos h.1, w64_in (by omega)]; omega
theorem w64_u {n : Int} (h : uIn n) : w64 n = n := w64_in (by have h0 := h.1; have h1 := h.2; omega)
theorem glyph_at' {a b c : Int} (ha : uIn a) (hb : uIn b) (hc : uIn c) : FnAt Tryz.prog 13 [aI (w64 a), aI (w64 b), aI (w64 c)] [aO (glyF a b c)] := by rw [w64_u ha, w64_u hb, w64_u hc]; exact glyph_at a b c ha hb hc
theorem act_hv (l : List Int) (hb : ∀ k, uIn (l.getD k default)) (hl : l.length = 6) :
    HvAt Tryz.prog 9 [.o (.sl false 1 l.length (rowOf uL l))] ⟨[], [], 0⟩ (.a (acD (actL l))) ⟨[], [], 0⟩ := by
  have h0 : w64 ((l.getD 0 default).tmod 8) = l.getD 0 default % 8 := by have := hb 0; rw [tmod_pos this.1, w64_in (by omega)]
  have h5 : ((l.getD 5 default).tmod 16) = l.getD 5 default % 16 := tmod_pos (hb 5).1
  have hk := keyT (hb 1)
  have hB0 := (hb 0).1
  refine hv_at (E := EH) (fn := Tryz.f9) (c := Tryz.f9.body.getD .skip) (rs := Tryz.f9.results.toList) (nt := Tryz.f9.ntmps) EH_ok follows (by kernel_rfl) (by kernel_rfl) rfl rfl rfl [] rfl ?_
  refine ⟨⟨by omega, by show (1 : Int) < (l.length : Int); omega⟩, ?_⟩
  refine ⟨fun i hi => by rw [Nat.lt_one_iff.1 hi]; trivial, ?_⟩
  refine ⟨⟨by omega, by show (0 : Int) < (l.length : Int); omega⟩, ?_⟩
  refine if_dec (fun hp => ?_) (fun hp => ?_)
  · have hp : w64 ((l.getD 0 default).tmod 8) < 3 := hp
    rw [h0] at hp
    refine ⟨⟨by omega, by show (2 : Int) < (l.length : Int); omega⟩, ?_⟩
    refine ⟨⟨by omega, by show (3 : Int) < (l.length : Int); omega⟩, ?_⟩
    refine ⟨⟨by omega, by show (4 : Int) < (l.length : Int); omega⟩, ?_⟩
    refine ⟨_, glyph_at' (hb 2) (hb 3) (hb 4), ?_⟩
    refine ⟨_, encode_at _ (glyF_ok (hb 2) (hb 3) (hb 4)), ?_⟩
    refine ⟨⟨by omega, by show (5 : Int) < (l.length : Int); omega⟩, ?_⟩
    refine if_eq (fun e5 => ?_) (fun e5 => ?_)
    · have e5 : (l.getD 5 default).tmod 16 = 0 := e5
      rw [h5] at e5
      have hA : actL l = ⟨0, keyS (l.getD 1 default), [l.getD 2 default, l.getD 3 default, l.getD 4 default], 0, 0, 0, 0, 0, 0, 0⟩ := by
        unfold actL actF textF
        rw [if_pos hp, if_pos e5]
      refine ⟨⟨by omega, by omega, by show (5 : Int) ≤ (l.length : Int); omega⟩, ?_⟩
      show Ent 0 _ (mkS [(0, .a (acD (actL l)))] [] [] 0 1)
      rw [hA]
      refine ent_of (rl := []) (nl := []) ⟨rfl, ?_, ?_, trivial, rfl, rfl, (by first | exact Nat.zero_le _ | exact Nat.le_of_ble_eq_true rfl), trivial, trivial⟩ <;> (repeat' (first | exact trivial | exact SameL.refl _ | exact ep_seal rfl rfl | assumption | exact congrArg (Value.int _) (by assumption) | exact rfl | exact Nat.le_of_ble_eq_true rfl | decide | apply And.intro | apply all1 | apply all2 | apply all3 | apply all4 | apply all5))
      · exact congrArg Value.string hk
      · intro i hi j hj
        have hj : j = 0 := Nat.lt_one_iff.1 hj
        subst hj
        have hi : i = 0 ∨ i = 1 ∨ i = 2 := by have h : i < 3 := hi; omega
        rcases hi with rfl | rfl | rfl <;> exact SameL.refl _
    · have e5 : ¬ (l.getD 5 default).tmod 16 = 0 := e5
      rw [h5] at e5
      have hA : actL l = ⟨0, keyS (l.getD 1 default), encF (glyF (l.getD 2 default) (l.getD 3 default) (l.getD 4 default)), 0, 0, 0, 0, 0, 0, 0⟩ := by
        unfold actL actF textF
        rw [if_pos hp, if_neg e5]
      show Ent 0 _ (mkS [(0, .a (acD (actL l)))] [] [] 0 1)
      rw [hA]
      refine ent_of (rl := []) (nl := []) ⟨rfl, ?_, ?_, trivial, rfl, rfl, (by first | exact Nat.zero_le _ | exact Nat.le_of_ble_eq_true rfl), trivial, trivial⟩ <;> (repeat' (first | exact trivial | exact SameL.refl _ | exact ep_seal rfl rfl | assumption | exact congrArg (Value.int _) (by assumption) | exact rfl | exact Nat.le_of_ble_eq_true rfl | decide | apply And.intro | apply all1 | apply all2 | apply all3 | apply all4 | apply all5))
      exact congrArg Value.string hk
  · have hp : ¬ w64 ((l.getD 0 default).tmod 8) < 3 := hp
    refine if_dec (fun hq => ?_) (fun hq => ?_)
    · have hq : w64 ((l.getD 0 default).tmod 8) < 5 := hq
      have hA : actL l = ⟨w64 (1 + w64 (w64 ((l.getD 0 default).tmod 8) - 3)), keyS (l.getD 1 default), [], 0, 0, 0, 0, 0, 0, 0⟩ := by
        rw [h0] at hp hq ⊢
        unfold actL actF
        rw [if_neg hp]
        by_cases h3 : l.getD 0 default % 8 = 3
        · rw [if_pos h3, h3]; rfl
        · have h4 : l.getD 0 default % 8 = 4 := by omega
          rw [if_neg h3, if_pos h4, h4]; rfl
      show Ent 0 _ (mkS [(0, .a (acD (actL l)))] [] [] 0 1)
      rw [hA]
      refine ent_acN ?_
      refine ent_of (rl := []) (nl := []) ⟨rfl, ?_, ?_, trivial, rfl, rfl, (by first | exact Nat.zero_le _ | exact Nat.le_of_ble_eq_true rfl), trivial, trivial⟩ <;> (repeat' (first | exact trivial | exact SameL.refl _ | exact ep_seal rfl rfl | assumption | exact congrArg (Value.int _) (by assumption) | exact rfl | exact Nat.le_of_ble_eq_true rfl | decide | apply And.intro | apply all1 | apply all2 | apply all3 | apply all4 | apply all5))
      exact congrArg Value.string hk
    · have hq : ¬ w64 ((l.getD 0 default).tmod 8) < 5 := hq
      refine ⟨⟨by omega, by show (2 : Int) < (l.length : Int); omega⟩, ?_⟩
      refine ⟨⟨by omega, by show (3 : Int) < (l.length : Int); omega⟩, ?_⟩
      refine ⟨⟨by omega, by show (4 : Int) < (l.length : Int); omega⟩, ?_⟩
      refine ⟨⟨by omega, by show (4 : Int) < (l.length : Int); omega⟩, ?_⟩
      refine ⟨⟨by omega, by show (5 : Int) < (l.length : Int); omega⟩, ?_⟩
      refine ⟨⟨by omega, by show (5 : Int) < (l.length : Int); omega⟩, ?_⟩
      have hA : actL l = ⟨3, keyS (l.getD 1 default), [], l.getD 2 default % 32 - 8, l.getD 3 default % 32 - 8, 1 + l.getD 4 default % 8, 1 + l.getD 4 default / 8 % 8, 96, 97 + l.getD 5 default % 128, 255 - l.getD 5 default⟩ := by
        rw [h0] at hp hq
        unfold actL actF
        rw [if_neg hp, if_neg (by omega), if_neg (by omega)]
      have q2 := penX' (hb 2)
      have q3 := penX' (hb 3)
      have q4 := penN' (hb 4)
      have q5 := penD' (hb 4)
      have q6 := penH' (hb 5)
      have q7 := penI (hb 5)
      show Ent 0 _ (mkS [(0, .a (acD (actL l)))] [] [] 0 1)
      rw [hA]
      refine ent_acN ?_
      refine ent_of (rl := []) (nl := []) ⟨rfl, ?_, ?_, trivial, rfl, rfl, (by first | exact Nat.zero_le _ | exact Nat.le_of_ble_eq_true rfl), trivial, trivial⟩ <;> (repeat' (first | exact trivial | exact SameL.refl _ | exact ep_seal rfl rfl | assumption | exact congrArg (Value.int _) (by assumption) | exact rfl | exact Nat.le_of_ble_eq_true rfl | decide | apply And.intro | apply all1 | apply all2 | apply all3 | apply all4 | apply all5))
      exact congrArg Value.string hk
theorem act_old (l : List Int) (hb : ∀ k, uIn (l.getD k default)) (hl : l.length = 6) : FnOld Tryz.prog 9 [(false, [bSl l])] [aAc (actL l)] :=
  old_of_hv (fun q hq _ => by have e := List.mem_singleton.1 hq; subst e; exact ⟨_, rfl⟩) (act_hv l hb hl)
theorem FnOld.args {P : Program} {g : Nat} {args args' res : Res} (h : FnOld P g args' res) (ha : sameRes args args') : FnOld P g args res :=
  ⟨h.1, fun S w vs hS hargs => h.2 S w vs hS (sameRes_args ha hargs)⟩
end Go.Proofs.YtggappbiedkopaaGreat
