/- The symbolic executor, part o: rows of the type table. -/
import Derived.Test.YtggappbiedkopaaGreatSn
import Derived.Laws.StructEq
import Derived.KernelRfl
namespace Go.Proofs.YtggappbiedkopaaGreat.SX
open Go Go.RowKit
set_option linter.unusedVariables false
set_option linter.unusedSimpArgs false

section
variable {P : Program}

def EqOK (P : Program) (ti : TI) (T : Nat) (es : List EK) (m : Nat) : Prop := ∀ (d : Nat) (w : World) (xs ys : List Value) (x y : Value), eksOK es xs = true → eksOK es ys = true →
  ((ti.agg = true ∧ x = .agg xs.toArray ∧ y = .agg ys.toArray) ∨ (ti.agg = false ∧ xs = [x] ∧ ys = [y])) → (Op.equalIn (d + m) T x y).run P w = .ok (eqL xs ys) w

theorem eks_length : ∀ {es : List EK} {xs : List Value}, eksOK es xs = true → es.length = xs.length
  | [], [], _ => rfl
  | e :: es, x :: xs, h => by
    unfold eksOK at h
    split at h
    · simp [eks_length h]
    · cases h
  | [], _ :: _, h => by cases h
  | _ :: _, [], h => by cases h
theorem eks_split : ∀ {es es' : List EK} {xs : List Value}, eksOK (es ++ es') xs = true → eksOK es (xs.take es.length) = true ∧ eksOK es' (xs.drop es.length) = true
  | [], es', xs, h => ⟨by cases xs <;> rfl, by simpa using h⟩
  | e :: es, es', [], h => by cases h
  | e :: es, es', x :: xs, h => by
    simp only [List.cons_append] at h
    unfold eksOK at h
    split at h
    · rename_i he
      obtain ⟨h1, h2⟩ := eks_split h
      refine ⟨?_, by simpa using h2⟩
      simp only [List.length_cons, List.take_succ_cons]
      unfold eksOK
      rw [he]
      exact h1
    · cases h
theorem eqL_split : ∀ {n : Nat} {xs ys : List Value}, xs.length = ys.length → eqL xs ys = (eqL (xs.take n) (ys.take n) && eqL (xs.drop n) (ys.drop n))
  | 0, xs, ys, _ => by simp [eqL]
  | n + 1, [], [], _ => by simp [eqL]
  | n + 1, x :: xs, y :: ys, h => by
    simp only [List.take_succ_cons, List.drop_succ_cons, eqL]
    rw [eqL_split (n := n) (by simpa using h), Bool.and_assoc]
  | _ + 1, [], _ :: _, h => by simp at h
  | _ + 1, _ :: _, [], h => by simp at h

theorem eq_int {ti : TI} {T : Nat} {k : IntKind} (hu : P.underlying T = some (.int k)) (ha : ti.agg = false) : EqOK P ti T [.int k] 1 := by
  intro d w xs ys x y hx hy h
  rcases h with ⟨h, _⟩ | ⟨_, rfl, rfl⟩
  · rw [ha] at h; cases h
  · cases x <;> simp only [eksOK, ekOK] at hx <;> first | cases hx | skip
    cases y <;> simp only [eksOK, ekOK] at hy <;> first | cases hy | skip
    rename_i k1 a k2 b
    have h1 : k = k1 := by
      by_cases h : k = k1
      · exact h
      · simp [h] at hx
    have h2 : k = k2 := by
      by_cases h : k = k2
      · exact h
      · simp [h] at hy
    subst h1
    subst h2
    rw [run_equalIn_int w d T _ _ _ _ hu]
    simp [eqL, eq1]
theorem eq_bool {ti : TI} {T : Nat} (hu : P.underlying T = some .bool) (ha : ti.agg = false) : EqOK P ti T [.bool] 1 := by
  intro d w xs ys x y hx hy h
  rcases h with ⟨h, _⟩ | ⟨_, rfl, rfl⟩
  · rw [ha] at h; cases h
  · cases x <;> simp only [eksOK, ekOK] at hx <;> first | cases hx | skip
    cases y <;> simp only [eksOK, ekOK] at hy <;> first | cases hy | skip
    rw [run_equalIn_bool' w d T _ _ hu]
    simp [eqL, eq1]

/-- a struct's fields, one behind another -/
inductive FOK (P : Program) (m : Nat) : Nat → List Field → List EK → Prop
  | nil (off : Nat) : FOK P m off [] []
  | cons {off : Nat} {f : Field} {fs : List Field} {es es' : List EK} {fi : TI} : f.name ≠ "_" → f.offset = off → TIok P f.type fi → EqOK P fi f.type es m → fi.sz = es.length → (fi.agg = true ∨ fi.sz = 1) → FOK P m (off + fi.sz) fs es' → FOK P m off (f :: fs) (es ++ es')

theorem eqFields_ok {m : Nat} : ∀ {off : Nat} {fs : List Field} {es : List EK}, FOK P m off fs es → ∀ (d : Nat) (w : World) (xs ys : List Value), eksOK es (xs.drop off) = true → eksOK es (ys.drop off) = true →
    (Op.eqFields (d + m) xs.toArray ys.toArray fs).run P w = .ok (eqL (xs.drop off) (ys.drop off)) w := by
  intro off fs es h
  induction h with
  | nil off =>
    intro d w xs ys hx hy
    have h1 := eks_length hx
    have h2 := eks_length hy
    have h3 : xs.drop off = [] := List.length_eq_zero_iff.1 h1.symm
    have h4 : ys.drop off = [] := List.length_eq_zero_iff.1 h2.symm
    rw [h3, h4]
    simp [Op.eqFields, eqL]
  | @cons off f fs es es' fi hn ho ht he hs h1s hr ih =>
    intro d w xs ys hx hy
    obtain ⟨hx1, hx2⟩ := eks_split hx
    obtain ⟨hy1, hy2⟩ := eks_split hy
    rw [← hs] at hx1 hy1 hx2 hy2
    have hlx : ((xs.drop off).take fi.sz).length = fi.sz := by rw [← eks_length hx1, hs]
    have hly : ((ys.drop off).take fi.sz).length = fi.sz := by rw [← eks_length hy1, hs]
    have hlen : (xs.drop off).length = (ys.drop off).length := by rw [← eks_length hx, ← eks_length hy]
    have key : ∃ a b, (part f.type xs.toArray off).run P w = .ok a w ∧ (part f.type ys.toArray off).run P w = .ok b w ∧ (Op.equalIn (d + m) f.type a b).run P w = .ok (eqL ((xs.drop off).take fi.sz) ((ys.drop off).take fi.sz)) w := by
      cases ha : fi.agg with
      | true => exact ⟨_, _, run_part ht hlx (.inl ⟨ha, rfl⟩), run_part ht hly (.inl ⟨ha, rfl⟩), he d w _ _ _ _ hx1 hy1 (.inl ⟨ha, rfl, rfl⟩)⟩
      | false =>
        have h1 : fi.sz = 1 := h1s.resolve_left (by rw [ha]; simp)
        obtain ⟨a, ha'⟩ := List.length_eq_one_iff.1 (hlx.trans h1)
        obtain ⟨b, hb'⟩ := List.length_eq_one_iff.1 (hly.trans h1)
        exact ⟨a, b, run_part ht hlx (.inr ⟨ha, ha'⟩), run_part ht hly (.inr ⟨ha, hb'⟩), he d w _ _ _ _ hx1 hy1 (.inr ⟨ha, ha', hb'⟩)⟩
    obtain ⟨a, b, h1, h2, h3⟩ := key
    have h4 := ih d w xs ys (by rw [← List.drop_drop]; exact hx2) (by rw [← List.drop_drop]; exact hy2)
    rw [eqL_split (n := fi.sz) hlen, List.drop_drop, List.drop_drop]
    rw [Op.eqFields]
    simp only [if_pos hn, Sem.run_bind, ho, h1, h2, h3, Result.andThen_ok]
    cases eqL ((xs.drop off).take fi.sz) ((ys.drop off).take fi.sz)
    · simp
    · simpa using h4

theorem eq_struct {ti : TI} {T m : Nat} {fs : Array Field} {es : List EK} (hu : P.underlying T = some (.struct fs)) (hp : P.stoodInHeld T = false) (ha : ti.agg = true) (h : FOK P m 0 fs.toList es) : EqOK P ti T es (m + 1) := by
  intro d w xs ys x y hx hy hc
  rcases hc with ⟨_, rfl, rfl⟩ | ⟨hc, _⟩
  · have hf : P.fieldsOf T = fs := by simp [Program.fieldsOf, hu]
    rw [← Nat.add_assoc, run_equalIn_struct w (d + m) T _ _ (by rw [hf]; exact hu) hp, hf]
    simpa using eqFields_ok h d w xs ys (by simpa using hx) (by simpa using hy)
  · rw [ha] at hc; cases hc

/-- '==' and '!=' of a struct, from what its fields are -/
theorem eq_of {ti : TI} {T m : Nat} {es : List EK} (hm : m ≤ 10000) (ha : ti.agg = true) (hg : P.eqGuardType P.depth T = false) (h : EqOK P ti T es m) (xs ys : List Value) (hx : eksOK es xs = true) (hy : eksOK es ys = true) (x y : Operand) (w : World) :
    (do eqGuard .eql T x y (.agg xs.toArray) (.agg ys.toArray); binOp .eql T (.agg xs.toArray) (.agg ys.toArray) : Sem Value).run P w = .ok (.bool (eqL xs ys)) w ∧
    (do eqGuard .neq T x y (.agg xs.toArray) (.agg ys.toArray); binOp .neq T (.agg xs.toArray) (.agg ys.toArray) : Sem Value).run P w = .ok (.bool (!(eqL xs ys))) w := by
  have he : (Op.equal T (.agg xs.toArray) (.agg ys.toArray)).run P w = .ok (eqL xs ys) w := by
    have := h (10000 - m) w xs ys _ _ hx hy (.inl ⟨ha, rfl, rfl⟩)
    rw [show 10000 - m + m = 10000 from by omega] at this
    exact this
  have g1 : (eqGuard .eql T x y (.agg xs.toArray) (.agg ys.toArray)).run P w = .ok () w := by
    simp [eqGuard, hg, Sem.run_bind, run_program]
  have g2 : (eqGuard .neq T x y (.agg xs.toArray) (.agg ys.toArray)).run P w = .ok () w := by
    simp [eqGuard, hg, Sem.run_bind, run_program]
  constructor
  · simp only [Sem.run_bind, g1, Result.andThen_ok]
    show (do pure (.bool (← Op.equal T (.agg xs.toArray) (.agg ys.toArray))) : Sem Value).run P w = _
    simp only [Sem.run_bind, he, Result.andThen_ok, Sem.run_pure]
  · simp only [Sem.run_bind, g2, Result.andThen_ok]
    show (do pure (.bool (!(← Op.equal T (.agg xs.toArray) (.agg ys.toArray)))) : Sem Value).run P w = _
    simp only [Sem.run_bind, he, Result.andThen_ok, Sem.run_pure]

theorem EqOK.up {ti : TI} {T m : Nat} {es : List EK} (h : EqOK P ti T es m) : EqOK P ti T es (m + 1) := fun d w xs ys x y hx hy hc => by
  have := h (d + 1) w xs ys x y hx hy hc
  rw [show d + (m + 1) = d + 1 + m from by omega]
  exact this
theorem FOK.c {m off T : Nat} {f : Field} {fs : List Field} {es es' : List EK} {fi : TI} (hn : (f.name == "_") = false) (ho : f.offset = off) (hT : f.type = T) (ht : TIok P T fi) (he : EqOK P fi T es m) (hs : fi.sz = es.length) (h1 : fi.agg = true ∨ fi.sz = 1) (hr : FOK P m (off + fi.sz) fs es') : FOK P m off (f :: fs) (es ++ es') :=
  .cons (by simpa using hn) ho (hT ▸ ht) (hT ▸ he) hs h1 hr
theorem FOK.of {m off : Nat} {fs fs' : List Field} {es : List EK} (h : fs = fs') (h' : FOK P m off fs' es) : FOK P m off fs es := h ▸ h'
end
end Go.Proofs.YtggappbiedkopaaGreat.SX
