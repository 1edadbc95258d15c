/- The symbolic executor, part e: arithmetic, comparisons, aggregates, addresses. -/
import Derived.Test.YtggappbiedkopaaGreatSd
namespace Go.Proofs.YtggappbiedkopaaGreat.SX
open Go Go.RowKit
set_option linter.unusedVariables false
set_option linter.unusedSimpArgs false

section
variable {P : Program} {E : Env} {base : Nat} {cx : Cx} {w w' : World} {s : SS} {a : Act} {o : Oper} {next : Act → World → Prop} {Q : Exit → Act → World → Prop}

theorem normI_eq (n : Int) : normI n = n := by cases n <;> rfl
theorem litV_eq (x : Value) : litV x = x := by
  cases x <;> simp only [litV, normI_eq]
  rename_i b; cases b <;> rfl

/-! ### integers -/
theorem intOp_ok {op : BinOp} {k k' : IntKind} {m n : Int} {ob : Option Prop} {x : Value} (h : intOp op k m n = some (ob, x)) (hk : k = k' ∨ isShift op = true) (hob : ∀ p, ob = some p → p) {T : Nat} {px py : Operand} :
    (do eqGuard op T px py (.int k m) (.int k' n); binOp op T (.int k m) (.int k' n) : Sem Value).run P w = .ok x w ∧ one x = true := by
  have hg : (eqGuard op T px py (.int k m) (.int k' n)).run P w = .ok () w := by
    unfold eqGuard
    split <;> simp
  simp only [Sem.run_bind, hg, Result.andThen_ok]
  cases op <;> simp only [intOp, Option.some.injEq, Prod.mk.injEq] at h <;> first | (cases h; done) | (obtain ⟨rfl, rfl⟩ := h)
  case shl =>
    have hb : 0 ≤ n ∧ n ≤ k.bits := hob _ rfl
    refine ⟨?_, rfl⟩
    show (Op.shift .shl k m k' n).run P w = _
    unfold Op.shift
    rw [if_neg (by omega)]
    have : min n.toNat k.bits = n.toNat := Nat.min_eq_left (by omega)
    simp [this]
  case shr =>
    have hb : 0 ≤ n ∧ n ≤ k.bits := hob _ rfl
    refine ⟨?_, rfl⟩
    show (Op.shift .shr k m k' n).run P w = _
    unfold Op.shift
    rw [if_neg (by omega)]
    have : min n.toNat k.bits = n.toNat := Nat.min_eq_left (by omega)
    simp [this]
  all_goals
    have hk' : k = k' := by
      rcases hk with hk | hk
      · exact hk
      · cases hk
    subst hk'
    refine ⟨?_, rfl⟩
    simp only [binOp, ne_eq, not_true_eq_false, if_false]
    first
      | (simp [Op.intArith]; done)
      | (have hb : n ≠ 0 := hob _ rfl; simp [Op.intDiv, hb]; done)
      | (simp [Op.intBits]; done)
      | (simp [Op.intCmp]; done)

theorem binInt_ok {op : BinOp} {lx ly : Bool} {k k' : IntKind} {m n : Int} {ob : Option Prop} {c : C} (h : binInt op lx ly k k' m n = some (ob, c)) (hob : ∀ p, ob = some p → p) {T : Nat} {px py : Operand} :
    ∃ x, (do eqGuard op T px py (.int k m) (.int k' n); binOp op T (.int k m) (.int k' n) : Sem Value).run P w = .ok x w ∧ crel base cx w c x ∧ one x = true := by
  unfold binInt at h
  split at h
  · rename_i hk
    split at h
    · rename_i ob' x hx
      simp only [Option.some.injEq, Prod.mk.injEq] at h
      obtain ⟨h1, h2⟩ := h
      have hob' : ∀ p, ob' = some p → p := by
        intro p hp
        subst hp
        split at h1
        · rename_i hl
          simp only [Bool.and_eq_true] at hl
          have hl2 := hl.2
          cases op <;> simp only [litOb] at hl2 <;> simp only [intOp, Option.some.injEq, Prod.mk.injEq, reduceCtorEq, false_and, and_false] at hx
          · rw [← hx.1]; simpa using hl2
          · rw [← hx.1]; simpa using hl2
          · rw [← hx.1]
            simp only [decide_eq_true_eq] at hl2
            refine ⟨hl2.1, Int.le_trans hl2.2 ?_⟩
            cases k <;> simp [IntKind.bits]
          · rw [← hx.1]
            simp only [decide_eq_true_eq] at hl2
            refine ⟨hl2.1, Int.le_trans hl2.2 ?_⟩
            cases k <;> simp [IntKind.bits]
        · exact hob p h1.symm
      obtain ⟨h3, h4⟩ := intOp_ok (P := P) (w := w) (T := T) (px := px) (py := py) hx hk hob'
      refine ⟨x, h3, ?_, h4⟩
      subst h2
      split
      · exact (litV_eq x).symm
      · rfl
    · cases h
  · cases h

theorem guard_plain {op : BinOp} {T : Nat} {px py : Operand} {x y : Value} (h : (∀ cs, x ≠ .agg cs) ∧ x ≠ .nilIface) : (eqGuard op T px py x y).run P w = .ok () w := by
  cases x <;> first | exact absurd rfl (h.1 _) | exact absurd rfl h.2 | (cases op <;> rfl)

theorem beqStr (a b : ByteArray) : (a == b) = (a.toList == b.toList) := beq_toListBytes a b
theorem run_equal {T : Nat} {x y : Value} {b : Bool} (h : ∀ d, (Op.equalIn (d + 1) T x y).run P w = .ok b w) : (Op.equal T x y).run P w = .ok b w := h 9999
theorem run_eqB {T : Nat} (h : P.underlying T = some .bool) (x y : Bool) : (Op.equal T (.bool x) (.bool y)).run P w = .ok (x == y) w := run_equal fun d => run_equalIn_bool' w d T x y h
theorem run_eqP {T e : Nat} (h : P.underlying T = some (.pointer e)) (ad : Option Addr) : (Op.equal T (.pointer ad) (.pointer none)).run P w = .ok ad.isNone w := run_equal fun d => by
  cases ad <;> simp [Op.equalIn, run_underlying h]
theorem run_eqB' {op : BinOp} {T : Nat} {px py : Operand} (h : P.underlying T = some .bool) (x y : Bool) :
    (op = .eql → (do eqGuard op T px py (.bool x) (.bool y); binOp op T (.bool x) (.bool y) : Sem Value).run P w = .ok (.bool (x == y)) w) ∧
    (op = .neq → (do eqGuard op T px py (.bool x) (.bool y); binOp op T (.bool x) (.bool y) : Sem Value).run P w = .ok (.bool (!(x == y))) w) := by
  have hg : (eqGuard op T px py (.bool x) (.bool y)).run P w = .ok () w := guard_plain ⟨fun _ => by simp, by simp⟩
  constructor
  · rintro rfl
    simp only [Sem.run_bind, hg, Result.andThen_ok]
    show (do pure (.bool (← Op.equal T (.bool x) (.bool y))) : Sem Value).run P w = _
    simp only [Sem.run_bind, run_eqB h, Result.andThen_ok, Sem.run_pure]
  · rintro rfl
    simp only [Sem.run_bind, hg, Result.andThen_ok]
    show (do pure (.bool (!(← Op.equal T (.bool x) (.bool y)))) : Sem Value).run P w = _
    simp only [Sem.run_bind, run_eqB h, Result.andThen_ok, Sem.run_pure]
theorem run_eqP' {op : BinOp} {T e : Nat} {px py : Operand} (h : P.underlying T = some (.pointer e)) (ad : Option Addr) :
    (op = .eql → (do eqGuard op T px py (.pointer ad) (.pointer none); binOp op T (.pointer ad) (.pointer none) : Sem Value).run P w = .ok (.bool ad.isNone) w) ∧
    (op = .neq → (do eqGuard op T px py (.pointer ad) (.pointer none); binOp op T (.pointer ad) (.pointer none) : Sem Value).run P w = .ok (.bool (!ad.isNone)) w) := by
  have hg : (eqGuard op T px py (.pointer ad) (.pointer none)).run P w = .ok () w := guard_plain ⟨fun _ => by simp, by simp⟩
  constructor
  · rintro rfl
    simp only [Sem.run_bind, hg, Result.andThen_ok]
    show (do pure (.bool (← Op.equal T (.pointer ad) (.pointer none))) : Sem Value).run P w = _
    simp only [Sem.run_bind, run_eqP h, Result.andThen_ok, Sem.run_pure]
  · rintro rfl
    simp only [Sem.run_bind, hg, Result.andThen_ok]
    show (do pure (.bool (!(← Op.equal T (.pointer ad) (.pointer none)))) : Sem Value).run P w = _
    simp only [Sem.run_bind, run_eqP h, Result.andThen_ok, Sem.run_pure]
theorem run_eqS' {op : BinOp} {T : Nat} {px py : Operand} (x y : ByteArray) :
    (op = .eql → (do eqGuard op T px py (.string x) (.string y); binOp op T (.string x) (.string y) : Sem Value).run P w = .ok (.bool (x.toList == y.toList)) w) ∧
    (op = .neq → (do eqGuard op T px py (.string x) (.string y); binOp op T (.string x) (.string y) : Sem Value).run P w = .ok (.bool (!(x.toList == y.toList))) w) := by
  have hg : (eqGuard op T px py (.string x) (.string y)).run P w = .ok () w := guard_plain ⟨fun _ => by simp, by simp⟩
  constructor
  · rintro rfl
    simp only [Sem.run_bind, hg, Result.andThen_ok]
    show (Op.stringOp .eql x y).run P w = _
    simp [Op.stringOp, beqStr]
  · rintro rfl
    simp only [Sem.run_bind, hg, Result.andThen_ok]
    show (Op.stringOp .neq x y).run P w = _
    simp [Op.stringOp, beqStr, bne]

theorem two {α : Type} {op : BinOp} {f g : α} {ob : Option Prop} {r : α} (h : (match op with | .eql => some ((none : Option Prop), f) | .neq => some (none, g) | _ => none) = some (ob, r)) : (op = .eql ∧ r = f) ∨ (op = .neq ∧ r = g) := by
  split at h
  · simp only [Option.some.injEq, Prod.mk.injEq] at h; exact .inl ⟨rfl, h.2.symm⟩
  · simp only [Option.some.injEq, Prod.mk.injEq] at h; exact .inr ⟨rfl, h.2.symm⟩
  · cases h

theorem bin_ok (hE : EnvOK P E) {op : BinOp} {c d : C} {ob : Option Prop} {r : C} (h : bin op c d = some (ob, r)) (hob : ∀ p, ob = some p → p) {T : Nat} {px py : Operand} {x y : Value} (hx : svrel base cx w (.o c) x) (hy : svrel base cx w (.o d) y)
    (hT : ∀ i off, c = .p i off → ∃ e, P.underlying T = some (.pointer e)) (hTe : ∀ fr m g, c = .ep fr m g → ∃ e, P.underlying T = some (.pointer e)) (hTk : c = .k (.pointer none) ∨ c = .v (.pointer none) → ∃ e, P.underlying T = some (.pointer e)) (hTb : ∀ b, c = .v (.bool b) ∨ c = .k (.bool b) → P.underlying T = some .bool) :
    ∃ z, (do eqGuard op T px py x y; binOp op T x y : Sem Value).run P w = .ok z w ∧ crel base cx w r z ∧ one z = true := by
  unfold bin at h
  split at h
  · rename_i k m
    obtain rfl := rel_k hx
    split at h
    · obtain rfl := rel_k hy; exact binInt_ok h hob
    · obtain ⟨rfl, _⟩ := rel_v hy; exact binInt_ok h hob
    · cases h
  · rename_i k m
    obtain ⟨rfl, _⟩ := rel_v hx
    split at h
    · obtain rfl := rel_k hy; exact binInt_ok h hob
    · obtain ⟨rfl, _⟩ := rel_v hy; exact binInt_ok h hob
    · cases h
  · rename_i b
    obtain ⟨rfl, _⟩ := rel_v hx
    have hT := hTb b (.inl rfl)
    split at h
    · obtain ⟨rfl, _⟩ := rel_v hy
      rcases two h with ⟨rfl, rfl⟩ | ⟨rfl, rfl⟩
      · exact ⟨_, (run_eqB' hT _ _).1 rfl, rfl, rfl⟩
      · exact ⟨_, (run_eqB' hT _ _).2 rfl, rfl, rfl⟩
    · obtain rfl := rel_k hy
      rcases two h with ⟨rfl, rfl⟩ | ⟨rfl, rfl⟩
      · exact ⟨_, (run_eqB' hT _ _).1 rfl, rfl, rfl⟩
      · exact ⟨_, (run_eqB' hT _ _).2 rfl, rfl, rfl⟩
    · cases h
  · rename_i b
    obtain rfl := rel_k hx
    have hT := hTb b (.inr rfl)
    split at h
    · obtain ⟨rfl, _⟩ := rel_v hy
      rcases two h with ⟨rfl, rfl⟩ | ⟨rfl, rfl⟩
      · exact ⟨_, (run_eqB' hT _ _).1 rfl, rfl, rfl⟩
      · exact ⟨_, (run_eqB' hT _ _).2 rfl, rfl, rfl⟩
    · obtain rfl := rel_k hy
      rcases two h with ⟨rfl, rfl⟩ | ⟨rfl, rfl⟩
      · exact ⟨_, (run_eqB' hT _ _).1 rfl, rfl, rfl⟩
      · exact ⟨_, (run_eqB' hT _ _).2 rfl, rfl, rfl⟩
    · cases h
  · rename_i b
    obtain ⟨rfl, _⟩ := rel_v hx
    split at h
    · obtain ⟨rfl, _⟩ := rel_v hy
      rcases two h with ⟨rfl, rfl⟩ | ⟨rfl, rfl⟩
      · exact ⟨_, (run_eqS' _ _).1 rfl, rfl, rfl⟩
      · exact ⟨_, (run_eqS' _ _).2 rfl, rfl, rfl⟩
    · obtain rfl := rel_k hy
      rcases two h with ⟨rfl, rfl⟩ | ⟨rfl, rfl⟩
      · exact ⟨_, (run_eqS' _ _).1 rfl, rfl, rfl⟩
      · exact ⟨_, (run_eqS' _ _).2 rfl, rfl, rfl⟩
    · cases h
  · rename_i b
    obtain rfl := rel_k hx
    split at h
    · obtain ⟨rfl, _⟩ := rel_v hy
      rcases two h with ⟨rfl, rfl⟩ | ⟨rfl, rfl⟩
      · exact ⟨_, (run_eqS' _ _).1 rfl, rfl, rfl⟩
      · exact ⟨_, (run_eqS' _ _).2 rfl, rfl, rfl⟩
    · obtain rfl := rel_k hy
      rcases two h with ⟨rfl, rfl⟩ | ⟨rfl, rfl⟩
      · exact ⟨_, (run_eqS' _ _).1 rfl, rfl, rfl⟩
      · exact ⟨_, (run_eqS' _ _).2 rfl, rfl, rfl⟩
    · cases h
  · rename_i i off
    obtain ⟨e, hT⟩ := hT i off rfl
    obtain ⟨⟨_, rfl⟩, _⟩ := hx
    split at h
    · obtain rfl := rel_k hy
      rcases two h with ⟨rfl, rfl⟩ | ⟨rfl, rfl⟩
      · exact ⟨_, (run_eqP' hT _).1 rfl, rfl, rfl⟩
      · exact ⟨_, (run_eqP' hT _).2 rfl, rfl, rfl⟩
    · cases h
  · rename_i fr m g
    obtain ⟨e, hT⟩ := hTe fr m g rfl
    obtain ⟨⟨ad, rfl, _⟩, _⟩ := hx
    split at h
    · obtain rfl := rel_k hy
      rcases two h with ⟨rfl, rfl⟩ | ⟨rfl, rfl⟩
      · exact ⟨_, (run_eqP' hT _).1 rfl, rfl, rfl⟩
      · exact ⟨_, (run_eqP' hT _).2 rfl, rfl, rfl⟩
    · cases h
  · obtain ⟨e, hT⟩ := hTk (.inr rfl)
    obtain ⟨rfl, _⟩ := rel_v hx
    split at h
    · obtain rfl := rel_k hy
      rcases two h with ⟨rfl, rfl⟩ | ⟨rfl, rfl⟩
      · exact ⟨_, (run_eqP' hT _).1 rfl, rfl, rfl⟩
      · exact ⟨_, (run_eqP' hT _).2 rfl, rfl, rfl⟩
    · cases h
  · obtain ⟨e, hT⟩ := hTk (.inl rfl)
    obtain rfl := rel_k hx
    split at h
    · obtain rfl := rel_k hy
      rcases two h with ⟨rfl, rfl⟩ | ⟨rfl, rfl⟩
      · exact ⟨_, (run_eqP' hT _).1 rfl, rfl, rfl⟩
      · exact ⟨_, (run_eqP' hT _).2 rfl, rfl, rfl⟩
    · cases h
  · cases h

theorem valOf_ok {c : C} {y x : Value} (h : crel base cx w c y) (hv : valOf c = some x) : y = x := by
  cases c <;> simp [valOf] at hv
  · subst hv; exact h
  · subst hv; exact h
theorem valsOf_ok : ∀ {cs : List C} {ys xs : List Value}, crels base cx w cs ys → valsOf cs = some xs → ys = xs
  | [], [], xs, _, h => by simp [valsOf] at h; exact h.symm ▸ rfl
  | c :: cs, y :: ys, xs, hc, h => by
    unfold valsOf at h
    split at h
    · rename_i x hx
      split at h
      · rename_i xs' hxs
        simp only [Option.some.injEq] at h
        subst h
        rw [valOf_ok hc.1 hx, valsOf_ok hc.2.2 hxs]
      · cases h
    · cases h
  | [], _ :: _, _, hc, _ => hc.elim
  | _ :: _, [], _, hc, _ => hc.elim

theorem binAgg_ok (hE : EnvOK P E) {T : Nat} {ti : TI} (ht : E.tt T = some ti) {op : BinOp} {cs ds : List C} {ob : Option Prop} {r : C} (h : binAgg ti op cs ds = some (ob, r)) {px py : Operand} {x y : Value} (hx : svrel base cx w (.a cs) x) (hy : svrel base cx w (.a ds) y) :
    ∃ z, (do eqGuard op T px py x y; binOp op T x y : Sem Value).run P w = .ok z w ∧ crel base cx w r z ∧ one z = true := by
  obtain ⟨xs, rfl, hx⟩ := hx
  obtain ⟨ys, rfl, hy⟩ := hy
  unfold binAgg at h
  split at h
  · rename_i es hes
    split at h
    · rename_i vx hvx
      obtain rfl := valsOf_ok hx hvx
      split at h
      · rename_i vy hvy
        obtain rfl := valsOf_ok hy hvy
        split at h
        · rename_i h1
          split at h
          · rename_i h2
            obtain ⟨h3, h4⟩ := (hE.tt T ti ht).eq es hes _ _ h1 h2 px py w
            split at h
            · simp only [Option.some.injEq, Prod.mk.injEq] at h; obtain ⟨_, rfl⟩ := h; exact ⟨_, h3, rfl, rfl⟩
            · simp only [Option.some.injEq, Prod.mk.injEq] at h; obtain ⟨_, rfl⟩ := h; exact ⟨_, h4, rfl, rfl⟩
            · cases h
          · cases h
        · cases h
      · cases h
    · cases h
  · cases h

/-! ### aggregates built -/
theorem partsC_ok (hv : ∀ x, svrel base cx w (opv s x) (a.eval x)) : ∀ {ps : List (Nat × Operand)} {qs : List (Nat × List C)}, partsC s ps = some qs →
    ∃ vs : List (Nat × List Value), (ps.map fun p => (p.1, a.eval p.2)).map (fun p => (p.1, p.2.cells.toList)) = vs ∧ vs.map (·.1) = qs.map (·.1) ∧ vs.length = qs.length ∧ ∀ (j : Nat) (p : Nat × List Value) (q : Nat × List C), vs[j]? = some p → qs[j]? = some q → crels base cx w q.2 p.2
  | [], qs, h => by simp [partsC] at h; subst h; exact ⟨[], rfl, rfl, rfl, fun j p q hj => by simp at hj⟩
  | (i, x) :: ps, qs, h => by
    unfold partsC at h
    split at h
    · rename_i xs hxs
      split at h
      · rename_i r hr
        simp only [Option.some.injEq] at h
        subst h
        obtain ⟨vs, h1, h2, h3, h4⟩ := partsC_ok hv hr
        obtain ⟨ys, h5, h6⟩ := cells_ok (hv x) hxs
        refine ⟨(i, ys) :: vs, by simp only [List.map_cons, h1, h5], by simp [h2], by simp [h3], ?_⟩
        intro j p q hp hq
        cases j with
        | zero => simp at hp hq; subst hp; subst hq; exact h6
        | succ j => simp at hp hq; exact h4 j p q hp hq
      · cases h
    · cases h

theorem foldl_lay : ∀ (xs : List Value) (off : Nat) (cs : List Value), off + xs.length ≤ cs.length →
    ((xs.toArray.zipIdx.foldl (fun (c : Array Value) (p : Value × Nat) => c.setIfInBounds (off + p.2) p.1) cs.toArray)) = (cs.take off ++ (xs ++ cs.drop (off + xs.length))).toArray := by
  have key : ∀ (xs : List Value) (k off : Nat) (cs : List Value), off + k + xs.length ≤ cs.length →
      (xs.zipIdx k).foldl (fun (c : Array Value) (p : Value × Nat) => c.setIfInBounds (off + p.2) p.1) cs.toArray = (cs.take (off + k) ++ (xs ++ cs.drop (off + k + xs.length))).toArray := by
    intro xs
    induction xs with
    | nil => intro k off cs _; simp
    | cons x xs ih =>
      intro k off cs h
      simp only [List.length_cons] at h
      simp only [List.zipIdx_cons, List.foldl_cons, List.setIfInBounds_toArray]
      rw [ih (k + 1) off (cs.set (off + k) x) (by simp; omega)]
      congr 1
      apply List.ext_getElem?
      intro j
      by_cases h1 : j < off + k
      · rw [List.getElem?_append_left (by simp; omega), List.getElem?_append_left (by simp; omega), List.getElem?_take, List.getElem?_take, if_pos (by omega), if_pos h1, List.getElem?_set_ne (by omega)]
      · have hl1 : ((cs.set (off + k) x).take (off + (k + 1))).length = off + k + 1 := by rw [List.length_take, List.length_set]; omega
        have hl2 : (cs.take (off + k)).length = off + k := by rw [List.length_take]; omega
        by_cases h2 : j = off + k
        · subst h2
          rw [List.getElem?_append_left (by omega), List.getElem?_append_right (by omega), hl2, List.getElem?_take, if_pos (by omega), List.getElem?_set_self (by omega)]
          simp
        · obtain ⟨d, rfl⟩ : ∃ d, j = off + k + 1 + d := ⟨j - (off + k + 1), by omega⟩
          rw [List.getElem?_append, hl1, if_neg (by omega), List.getElem?_append (l₁ := cs.take (off + k)), hl2, if_neg (by omega), show off + k + 1 + d - (off + k + 1) = d by omega, show off + k + 1 + d - (off + k) = d + 1 by omega, List.cons_append, List.getElem?_cons_succ]
          by_cases h3 : d < xs.length
          · rw [List.getElem?_append_left h3, List.getElem?_append_left h3]
          · rw [List.getElem?_append_right (by omega), List.getElem?_append_right (by omega), List.getElem?_drop, List.getElem?_drop, List.getElem?_set_ne (by omega)]
            congr 1
            simp only [List.length_cons]
            omega
  intro xs off cs h
  have := key xs 0 off cs (by simpa using h)
  simp only [Nat.add_zero] at this
  rw [← this, ← Array.foldl_toList]
  simp

theorem fillC_ok {place place' : Nat → Option (Nat × Nat)} (hpl : ∀ i r, place i = some r → place' i = some r) : ∀ {ps : List (Nat × List C)} {cs ds : List C} {vs : List (Nat × Value)} {ys : List Value}, fillC place cs ps = some ds → crels base cx w cs ys →
    vs.length = ps.length → (∀ (j : Nat) (p : Nat × Value) (q : Nat × List C), vs[j]? = some p → ps[j]? = some q → p.1 = q.1 ∧ crels base cx w q.2 p.2.cells.toList) → ∃ zs, Instr.fill place' ys.toArray vs = some zs.toArray ∧ crels base cx w ds zs
  | [], cs, ds, vs, ys, h, hc, hl, _ => by
    simp only [fillC, Option.some.injEq] at h
    subst h
    match vs, hl with
    | [], _ => exact ⟨ys, rfl, hc⟩
  | (i, xs) :: ps, cs, ds, vs, ys, h, hc, hl, hr => by
    match vs, hl with
    | (i', v) :: vs, hl =>
      obtain ⟨rfl, h1⟩ := hr 0 (i', v) (i, xs) rfl rfl
      unfold fillC at h
      split at h
      · rename_i off sz hp
        split at h
        · rename_i h2
          split at h
          · rename_i h3
            have h2 := beq_eq h2
            have h3 := ble_le h3
            have hvl : v.cells.toList.length = sz := by rw [← h1.length]; exact h2
            have hin : off + v.cells.toList.length ≤ ys.length := by rw [hvl, ← hc.length]; exact h3
            have hlay := hc.lay off h1
            obtain ⟨zs, hz, hcz⟩ := fillC_ok hpl h hlay (by simpa using hl) (fun j p q hj hq => hr (j + 1) p q (by simpa using hj) (by simpa using hq))
            refine ⟨zs, ?_, hcz⟩
            have hf := foldl_lay v.cells.toList off ys hin
            rw [Array.toArray_toList] at hf
            rw [Instr.fill]
            simp only [hpl _ _ hp]
            rw [if_neg (by
              have : v.cells.size = sz := by simpa using hvl
              have h6 : off + v.cells.size ≤ ys.length := by simpa using hin
              simp [this]; omega)]
            rw [← hz]
            exact congrArg (fun z => Instr.fill place' z vs) hf
          · cases h
        · cases h
      · cases h
end
end Go.Proofs.YtggappbiedkopaaGreat.SX
