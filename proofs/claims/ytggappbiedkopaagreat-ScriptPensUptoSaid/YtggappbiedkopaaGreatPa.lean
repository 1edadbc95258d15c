/- Words for the contracts: the environment, what data look like, small laws. -/
import Derived.Test.YtggappbiedkopaaGreatTy
import Derived.Test.YtggappbiedkopaaGreatSr
import Derived.IntWalk
namespace Go.Proofs.YtggappbiedkopaaGreat
open Go SX
set_option linter.unusedVariables false
set_option maxRecDepth 100000

@[reducible] def I (n : Int) : L := .lit (.int .i64 n)
@[reducible] def Bo (b : Bool) : L := .lit (.bool b)
@[reducible] def w64 (n : Int) : Int := IntKind.i64.wrap n
@[reducible] def aI (n : Int) : Bool × List L := (false, [I n])
@[reducible] def aB (b : Bool) : Bool × List L := (false, [Bo b])

/-- which closures write what they captured -/
def kdT : Nat → Option (List CK) := SX.look [
  (88, [.row 179 4]),
  (93, [.dat, .row 195 7, .dat]),
  (1000000, [])]
/-- which functions turn the caller's memory -/
def hvT : Nat → Bool := fun g => SX.hasN g [
  1000000]
@[reducible] def EE : Env := { tt := tt, ct := fun _ => none, cl := fun _ => none, call := FnAt Tryz.prog, kd := kdT, clo := ClAt Tryz.prog, isHv := hvT, hv := HvAt Tryz.prog }
theorem EE_ok : EnvOK Tryz.prog EE := ⟨tt_ok, (fun g sp h => by cases h), (fun g sp h => by cases h), (fun g a r h => h), (fun g a c r o h => h), (fun g a c r o h => h), (fun g T gv ι enc full N h => h.elim), (fun g F h => by cases h), (fun g r ls r' h => h.elim)⟩

theorem if_dec {p : Prop} [Decidable p] {A B : Prop} (h : p → A) (h' : ¬ p → B) : (decide p = true → A) ∧ (decide p = false → B) := ⟨fun e => h (of_decide_eq_true e), fun e => h' (of_decide_eq_false e)⟩
theorem if_eq {a b : Int} {A B : Prop} (h : a = b → A) (h' : a ≠ b → B) : ((a == b) = true → A) ∧ ((a == b) = false → B) := ⟨fun e => h (by simpa using e), fun e => h' (by simpa using e)⟩
theorem if_ne {a b : Int} {A B : Prop} (h : a ≠ b → A) (h' : a = b → B) : ((a != b) = true → A) ∧ ((a != b) = false → B) := ⟨fun e => h (by simpa using e), fun e => h' (by simpa using e)⟩
theorem if_b {b : Bool} {A B : Prop} (h : b = true → A) (h' : b = false → B) : (b = true → A) ∧ (b = false → B) := ⟨h, h'⟩
theorem if_nb {b : Bool} {A B : Prop} (h : b = false → A) (h' : b = true → B) : ((!b) = true → A) ∧ ((!b) = false → B) := ⟨fun e => h (by simpa using e), fun e => h' (by simpa using e)⟩
theorem w64_in {n : Int} (h : -9223372036854775808 ≤ n ∧ n ≤ 9223372036854775807) : w64 n = n := IntWalk.i64_in n h
theorem rem_nat {a n : Nat} (h : 0 < n) : (a : Int).tmod (n : Int) = ((a % n : Nat) : Int) := by
  rw [Int.tmod_eq_emod_of_nonneg (by omega)]; exact (Int.natCast_emod _ _).symm
theorem w64_succ {i n : Nat} (h : i < n) (hn : n ≤ 9223372036854775807) : w64 ((i : Int) + 1) = ((i + 1 : Nat) : Int) := by
  rw [w64_in (by omega)]; rfl

/-! ### rows -/
def rowOf {α : Type} [Inhabited α] (g : α → List L) (es : List α) (i j : Nat) : L := nth (g (es.getD i default)) j
@[reducible] def aSl {α : Type} [Inhabited α] (g : α → List L) (sz : Nat) (es : List α) : Bool × List L := (false, [.sl sz es.length (rowOf g es)])
theorem getD_snoc {α : Type} [Inhabited α] (es : List α) (x : α) (a : Nat) : (es ++ [x]).getD a default = if a < es.length then es.getD a default else if a = es.length then x else default := by
  rw [List.getD_eq_getElem?_getD, List.getD_eq_getElem?_getD]
  split
  · rename_i h; rw [List.getElem?_append_left h]
  · rename_i h
    rw [List.getElem?_append_right (by omega)]
    split
    · rename_i h'; subst h'; simp
    · rename_i h'
      obtain ⟨k, hk⟩ : ∃ k, a - es.length = k + 1 := ⟨a - es.length - 1, by omega⟩
      rw [hk]; simp
theorem getD_app {α : Type} [Inhabited α] (es fs : List α) (a : Nat) : (es ++ fs).getD a default = if a < es.length then es.getD a default else fs.getD (a - es.length) default := by
  rw [List.getD_eq_getElem?_getD, List.getD_eq_getElem?_getD, List.getD_eq_getElem?_getD]
  split
  · rename_i h; rw [List.getElem?_append_left h]
  · rename_i h; rw [List.getElem?_append_right (by omega)]
theorem getD_set {α : Type} [Inhabited α] (es : List α) (k : Nat) (x : α) (hk : k < es.length) (a : Nat) : (es.set k x).getD a default = if a = k then x else es.getD a default := by
  rw [List.getD_eq_getElem?_getD, List.getD_eq_getElem?_getD, List.getElem?_set]
  by_cases h : k = a
  · subst h; simp [hk]
  · rw [if_neg h, if_neg (Ne.symm h)]
theorem subR.refl (r : OR) : subR r r := ⟨rfl, rfl, rfl, by cases r.fr <;> rfl, fun a _ j _ => SameL.refl _⟩
theorem ep_seal {ls ls' : List L} {m m' : Nat} (h : ls = ls') (hm : m = m') : SameL (.pt m fun k => nth ls (0 + k)) (.pt m' (nth ls')) := by
  subst h; subst hm
  exact ⟨rfl, fun j _ => .of_eq (by show nth ls (0 + j) = nth ls j; rw [Nat.zero_add])⟩
theorem boolLe_refl (b : Bool) : boolLe b b = true := by cases b <;> rfl
/-- an element more -/
theorem subR_snoc {α : Type} [Inhabited α] {g : α → List L} {es es' : List α} {x : α} {T sz n : Nat} {f h : Nat → Nat → L} {fr fr' : Bool} (hn : n = es.length) (hf : f = rowOf g es) (hh : ∀ j, j < sz → SameL (h 0 j) (nth (g x) j)) (he : es' = es ++ [x]) (hfr : boolLe fr' fr = true) :
    subR ⟨T, sz, n + 1, appf f n h, fr⟩ ⟨T, sz, es'.length, rowOf g es', fr'⟩ := by
  subst hn; subst hf; subst he
  refine ⟨rfl, rfl, by simp, hfr, fun a ha j hj => ?_⟩
  have ha : a < es.length + 1 := ha
  show SameL (appf (rowOf g es) es.length h a j) (nth (g ((es ++ [x]).getD a default)) j)
  rw [getD_snoc]
  unfold appf
  by_cases h1 : a < es.length
  · rw [if_pos h1, if_pos h1]; exact SameL.refl _
  · have h2 : a = es.length := by omega
    subst h2
    rw [if_neg h1, if_neg h1, if_pos rfl, Nat.sub_self]
    exact hh j hj
/-- the element as 'append' has it -/
theorem elem1 {ls ls' : List L} {sz j : Nat} (h : ls = ls') : SameL (nth ls (0 * sz + j)) (nth ls' j) := by
  rw [Nat.zero_mul, Nat.zero_add, h]; exact SameL.refl _
/-- elements more -/
theorem subR_app {α : Type} [Inhabited α] {g : α → List L} {es fs es' : List α} {T sz n m : Nat} {f h : Nat → Nat → L} {fr fr' : Bool} (hn : n = es.length) (hm : m = fs.length) (hf : f = rowOf g es) (hh : h = rowOf g fs) (he : es' = es ++ fs) (hfr : boolLe fr' fr = true) :
    subR ⟨T, sz, n + m, appf f n h, fr⟩ ⟨T, sz, es'.length, rowOf g es', fr'⟩ := by
  subst hn; subst hm; subst hf; subst hh; subst he
  refine ⟨rfl, rfl, by simp, hfr, fun a ha j hj => ?_⟩
  show SameL (appf (rowOf g es) es.length (rowOf g fs) a j) (nth (g ((es ++ fs).getD a default)) j)
  rw [getD_app]
  unfold appf
  split
  · exact SameL.refl _
  · exact SameL.refl _
/-- an element set -/
theorem subR_set {α : Type} [Inhabited α] {g : α → List L} {es es' : List α} {x : α} {T sz n k : Nat} {f : Nat → Nat → L} {ls : List L} {fr fr' : Bool} (hn : n = es.length) (hk : k < es.length) (hf : f = rowOf g es) (hl : ls = g x) (hs : (g x).length = sz) (he : es' = es.set k x) (hfr : boolLe fr' fr = true) :
    subR ⟨T, sz, n, setf f k 0 ls, fr⟩ ⟨T, sz, es'.length, rowOf g es', fr'⟩ := by
  subst hn; subst hf; subst he; subst hl
  refine ⟨rfl, rfl, by simp, hfr, fun a ha j hj => ?_⟩
  have hj : j < sz := hj
  show SameL (setf (rowOf g es) k 0 (g x) a j) (nth (g ((es.set k x).getD a default)) j)
  rw [getD_set es k x hk]
  unfold setf
  by_cases h : a = k
  · subst h; rw [if_pos ⟨rfl, by omega, by omega⟩, if_pos rfl]; exact SameL.refl _
  · rw [if_neg (fun e => h e.1), if_neg h]; exact SameL.refl _
/-- two cells of an element set, one behind the other -/
theorem subR_set2 {α : Type} [Inhabited α] {g : α → List L} {es es' : List α} {x : α} {T sz n k o : Nat} {f : Nat → Nat → L} {v w : L} {fr fr' : Bool} (hn : n = es.length) (hk : k < es.length) (hf : f = rowOf g es)
    (hg : ∀ j, j < sz → nth (g x) j = if j = o then v else if j = o + 1 then w else nth (g (es.getD k default)) j) (he : es' = es.set k x) (hfr : boolLe fr' fr = true) :
    subR ⟨T, sz, n, setf (setf f k o [v]) k (o + 1) [w], fr⟩ ⟨T, sz, es'.length, rowOf g es', fr'⟩ := by
  subst hn; subst hf; subst he
  refine ⟨rfl, rfl, by simp, hfr, fun a ha j hj => .of_eq ?_⟩
  have hj : j < sz := hj
  show setf (setf (rowOf g es) k o [v]) k (o + 1) [w] a j = nth (g ((es.set k x).getD a default)) j
  rw [getD_set es k x hk]
  unfold setf
  by_cases h : a = k
  · subst h
    rw [if_pos rfl, hg j hj]
    by_cases h1 : j = o + 1
    · subst h1
      rw [if_pos ⟨rfl, by omega, by simp⟩, if_neg (by omega), if_pos rfl, Nat.sub_self]; rfl
    · rw [if_neg (by simp; omega)]
      by_cases h2 : j = o
      · subst h2; rw [if_pos ⟨rfl, by omega, by simp⟩, if_pos rfl, Nat.sub_self]; rfl
      · rw [if_neg (by simp; omega), if_neg h2, if_neg h1]; rfl
  · rw [if_neg (fun e => h e.1), if_neg (fun e => h e.1), if_neg h]; rfl
/-- the whole of a row as data -/
theorem sl_same {α : Type} [Inhabited α] {g : α → List L} {es : List α} {sz n : Nat} {f : Nat → Nat → L} (hn : n = es.length) (hf : ∀ i, i < n → ∀ j, j < sz → SameL (f i j) (rowOf g es i j)) : SameL (.sl sz n f) (.sl sz es.length (rowOf g es)) := ⟨rfl, hn, hf⟩

theorem sl_eq {α : Type} [Inhabited α] {g : α → List L} {es es' : List α} {sz : Nat} (h : es = es') : SameL (.sl sz es.length (rowOf g es)) (.sl sz es'.length (rowOf g es')) := by subst h; exact SameL.refl _
theorem subR_eq {α : Type} [Inhabited α] {g : α → List L} {es es' : List α} {T sz : Nat} {fr fr' : Bool} (h : es' = es) (hfr : boolLe fr' fr = true) : subR ⟨T, sz, es.length, rowOf g es, fr⟩ ⟨T, sz, es'.length, rowOf g es', fr'⟩ := by
  subst h
  exact ⟨rfl, rfl, rfl, hfr, fun a _ j _ => SameL.refl _⟩

/-- a list that stands in the text, as data -/
theorem flat_nth {α : Type} [Inhabited α] {g : α → List L} {sz : Nat} (hg : ∀ x, (g x).length = sz) : ∀ (es : List α) (i j : Nat), i < es.length → j < sz → nth (es.flatMap g) (i * sz + j) = rowOf g es i j
  | [], i, j, h, _ => by simp at h
  | e :: es, 0, j, _, hj => by
    have key : ∀ (a b : List L) (j : Nat), j < a.length → nth (a ++ b) j = nth a j := by
      intro a
      induction a with
      | nil => intro b j h; simp at h
      | cons x a ih =>
        intro b j h
        cases j with
        | zero => rfl
        | succ j => exact ih b j (by simpa using h)
    rw [Nat.zero_mul, Nat.zero_add, List.flatMap_cons, key _ _ j (by rw [hg]; exact hj)]
    rfl
  | e :: es, i + 1, j, h, hj => by
    have key : ∀ (a b : List L) (j : Nat), nth (a ++ b) (a.length + j) = nth b j := by
      intro a
      induction a with
      | nil => intro b j; simp
      | cons x a ih =>
        intro b j
        show nth (x :: (a ++ b)) ((a.length + 1) + j) = _
        rw [show a.length + 1 + j = (a.length + j) + 1 from by omega]
        exact ih b j
    have := key (g e) (es.flatMap g) (i * sz + j)
    rw [hg] at this
    rw [List.flatMap_cons, show (i + 1) * sz + j = sz + (i * sz + j) from by rw [Nat.add_mul]; omega, this, flat_nth hg es i j (by simpa using h) hj]
    rfl
/-- an argument that is a list of the text's -/
theorem lit_same {α : Type} [Inhabited α] {g : α → List L} {sz n : Nat} {ls : List L} (es : List α) (hg : ∀ x, (g x).length = sz) (hn : n = es.length) (hl : ls = es.flatMap g) : SameL (.sl sz n fun a b => nth ls (a * sz + b)) (.sl sz es.length (rowOf g es)) := by
  subst hn; subst hl
  exact ⟨rfl, rfl, fun i hi j hj => .of_eq (flat_nth hg es i j hi hj)⟩

/-- a row that is returned -/
theorem row_ret {α : Type} [Inhabited α] {g : α → List L} {es es' : List α} {sz : Nat} (h : es = es') : sz = sz ∧ es.length = es'.length ∧ ∀ a, a < es'.length → ∀ j, j < sz → (true || isLit (rowOf g es' a j)) = true ∧ SameL (rowOf g es a j) (rowOf g es' a j) := by
  subst h
  exact ⟨rfl, rfl, fun a _ j _ => ⟨rfl, SameL.refl _⟩⟩

/-- the first of a slice -/
theorem sl_take {α : Type} [Inhabited α] {g : α → List L} {cs : List α} {sz m : Nat} {k : Int} (hk : k.toNat = min m cs.length) : SameL (.sl sz (k.toNat - Int.toNat 0) fun a b => rowOf g cs (Int.toNat 0 + a) b) (.sl sz (cs.take m).length (rowOf g (cs.take m))) := by
  refine ⟨rfl, by rw [List.length_take, hk]; exact Nat.sub_zero _, fun i hi j hj => .of_eq ?_⟩
  have hi : i < k.toNat - Int.toNat 0 := hi
  have hi : i < min m cs.length := by rw [hk] at hi; exact Nat.lt_of_lt_of_le hi (Nat.sub_le _ _)
  show nth (g (cs.getD (Int.toNat 0 + i) default)) j = nth (g ((cs.take m).getD i default)) j
  rw [show Int.toNat 0 + i = i from Nat.zero_add i]
  simp only [List.getD_eq_getElem?_getD, List.getElem?_take]
  rw [if_pos (by omega)]
theorem min2_nat (n m : Nat) : (min2I (n : Int) (m : Int)).toNat = min m n := by unfold min2I; split <;> omega
theorem kB {b b' : Bool} (h : b' = b) : Value.bool b = Value.bool b' ∧ one (Value.bool b) = true := ⟨congrArg Value.bool h.symm, rfl⟩
theorem vB {b b' : Bool} (h : b' = b) : Value.bool b = Value.bool b' := congrArg Value.bool h.symm
theorem kI {k : IntKind} {b b' : Int} (h : b' = b) : Value.int k b = Value.int k b' ∧ one (Value.int k b) = true := ⟨congrArg (Value.int k) h.symm, rfl⟩
theorem vI {k : IntKind} {b b' : Int} (h : b' = b) : Value.int k b = Value.int k b' := congrArg (Value.int k) h.symm

/-- room for one more -/
theorem appB {n b : Nat} (hn : n ≤ 4000000000000) (hb : b ≤ 35) : (n + 1) * b ≤ 140737488355328 ∧ n + 1 ≤ maxLen := by
  refine ⟨Nat.le_trans (Nat.mul_le_mul (Nat.add_le_add_right hn 1) hb) (by decide), ?_⟩
  unfold maxLen; omega
theorem appC {n b : Nat} (hn : n ≤ 2000000000000) (hb : b ≤ 64) : (n + 1) * b ≤ 140737488355328 ∧ n + 1 ≤ maxLen := by
  refine ⟨Nat.le_trans (Nat.mul_le_mul (Nat.add_le_add_right hn 1) hb) (by decide), ?_⟩
  unfold maxLen; omega
/-- room for m more -/
theorem appM {n m b : Nat} (hn : n + m ≤ 4000000000000) (hb : b ≤ 35) : (n + m) * b ≤ 140737488355328 ∧ n + m ≤ maxLen := by
  refine ⟨Nat.le_trans (Nat.mul_le_mul hn hb) (by decide), ?_⟩
  unfold maxLen; omega

/-! ### loops -/
/-- a loop with a counter and what holds at its head -/
theorem loop_natP {E : Env} {nt k : Nat} {J : List Nat} {x : Code} {K : Exit → SS → Prop} {s : SS} (N : Nat) (P : Nat → Prop) (S : Nat → SS) (hP : P 0) (h0 : Ent k s (S 0))
    (h : ∀ i, i ≤ N → P i → vc E nt k J x (fun e s' => match e with
      | .normal => ∃ j, (i < j ∧ j ≤ N ∧ P j) ∧ Ent k s' (S j)
      | e => K e s') (S i)) :
    (∃ n, unrollK (fun K s => vc E nt k J x K s) K n s) ∨ ∃ (ι : Type) (S : ι → SS) (μ : ι → Nat) (i : ι), Ent k s (S i) ∧ ∀ i, vc E nt k J x (fun e s' => match e with
      | .normal => ∃ j, μ j < μ i ∧ Ent k s' (S j)
      | e => K e s') (S i) := by
  refine Or.inr ⟨{ i : Nat // i ≤ N ∧ P i }, fun i => S i.1, fun i => N - i.1, ⟨0, Nat.zero_le _, hP⟩, h0, fun ⟨i, hi, hp⟩ => ?_⟩
  refine vc_mono ?_ (h i hi hp)
  intro e s' h'
  cases e with
  | normal =>
    obtain ⟨j, ⟨h1, h2, h3⟩, h4⟩ := h'
    exact ⟨⟨j, h2, h3⟩, by show N - j < N - i; omega, h4⟩
  | _ => exact h'
/-- a loop whose states are told by whatever: α, with a measure and what holds -/
theorem loop_inv {α : Type} {E : Env} {nt k : Nat} {J : List Nat} {x : Code} {K : Exit → SS → Prop} {s : SS} (P : α → Prop) (μ : α → Nat) (S : α → SS) (a : α) (hP : P a) (h0 : Ent k s (S a))
    (h : ∀ a, P a → vc E nt k J x (fun e s' => match e with
      | .normal => ∃ b, (μ b < μ a ∧ P b) ∧ Ent k s' (S b)
      | e => K e s') (S a)) :
    (∃ n, unrollK (fun K s => vc E nt k J x K s) K n s) ∨ ∃ (ι : Type) (S : ι → SS) (μ : ι → Nat) (i : ι), Ent k s (S i) ∧ ∀ i, vc E nt k J x (fun e s' => match e with
      | .normal => ∃ j, μ j < μ i ∧ Ent k s' (S j)
      | e => K e s') (S i) := by
  refine Or.inr ⟨{ i : α // P i }, fun i => S i.1, fun i => μ i.1, ⟨a, hP⟩, h0, fun ⟨i, hp⟩ => ?_⟩
  refine vc_mono ?_ (h i hp)
  intro e s' h'
  cases e with
  | normal =>
    obtain ⟨j, ⟨h1, h3⟩, h4⟩ := h'
    exact ⟨⟨j, h3⟩, h1, h4⟩
  | _ => exact h'
/-- a loop with a counter: states S 0 .. S N, each round goes on to a later one -/
theorem loop_nat {E : Env} {nt k : Nat} {J : List Nat} {x : Code} {K : Exit → SS → Prop} {s : SS} (N : Nat) (S : Nat → SS) (h0 : Ent k s (S 0))
    (h : ∀ i, i ≤ N → vc E nt k J x (fun e s' => match e with
      | .normal => ∃ j, (i < j ∧ j ≤ N) ∧ Ent k s' (S j)
      | e => K e s') (S i)) :
    (∃ n, unrollK (fun K s => vc E nt k J x K s) K n s) ∨ ∃ (ι : Type) (S : ι → SS) (μ : ι → Nat) (i : ι), Ent k s (S i) ∧ ∀ i, vc E nt k J x (fun e s' => match e with
      | .normal => ∃ j, μ j < μ i ∧ Ent k s' (S j)
      | e => K e s') (S i) := by
  refine Or.inr ⟨{ i : Nat // i ≤ N }, fun i => S i.1, fun i => N - i.1, ⟨0, Nat.zero_le _⟩, h0, fun ⟨i, hi⟩ => ?_⟩
  refine vc_mono ?_ (h i hi)
  intro e s' h'
  cases e with
  | normal =>
    obtain ⟨j, ⟨h1, h2⟩, h3⟩ := h'
    exact ⟨⟨j, h2⟩, by show N - j < N - i; omega, h3⟩
  | _ => exact h'

/-! ### the program's plain data -/
structure Pt where
  x : Int
  y : Int
deriving DecidableEq, Inhabited
structure Ed where
  a : Pt
  b : Pt
deriving DecidableEq, Inhabited
structure Sg where
  a : Pt
  b : Pt
  c : Pt
  cv : Bool
deriving DecidableEq, Inhabited
structure Vx where
  x : Int
  y : Int
  on : Bool
deriving DecidableEq, Inhabited
@[reducible] def Pt.ls (p : Pt) : List L := [I p.x, I p.y]
@[reducible] def Ed.ls (e : Ed) : List L := [I e.a.x, I e.a.y, I e.b.x, I e.b.y]
@[reducible] def Sg.ls (s : Sg) : List L := [I s.a.x, I s.a.y, I s.b.x, I s.b.y, I s.c.x, I s.c.y, Bo s.cv]
@[reducible] def Vx.ls (v : Vx) : List L := [I v.x, I v.y, Bo v.on]
/-- a vertex of the statements' own -/
@[reducible] def Vx.ds (v : Vx) : List L := [.lit (.int .i16 v.x), .lit (.int .i16 v.y), Bo v.on]
@[reducible] def aPt (p : Pt) : Bool × List L := (true, p.ls)
@[reducible] def aEd (e : Ed) : Bool × List L := (true, e.ls)
@[reducible] def aSg (s : Sg) : Bool × List L := (true, s.ls)
@[reducible] def aVx (s : Vx) : Bool × List L := (true, s.ls)
@[reducible] def aEds (es : List Ed) : Bool × List L := aSl Ed.ls 4 es
@[reducible] def aSgs (es : List Sg) : Bool × List L := aSl Sg.ls 7 es
@[reducible] def ints (n : Int) : List L := [I n]
@[reducible] def aInts (es : List Int) : Bool × List L := aSl ints 1 es

theorem pt_eq (a b : Pt) : eqL [.int .i64 a.x, .int .i64 a.y] [.int .i64 b.x, .int .i64 b.y] = decide (a = b) := by
  obtain ⟨ax, ay⟩ := a
  obtain ⟨bx, cy⟩ := b
  simp [eqL, eq1, Bool.decide_and]
  rfl
theorem if_pt {a b : Pt} {A B : Prop} (h : a = b → A) (h' : a ≠ b → B) : (eqL [.int .i64 a.x, .int .i64 a.y] [.int .i64 b.x, .int .i64 b.y] = true → A) ∧ (eqL [.int .i64 a.x, .int .i64 a.y] [.int .i64 b.x, .int .i64 b.y] = false → B) := by
  rw [pt_eq]; exact if_dec h h'
theorem if_pt_f {a b : Pt} {A B : Prop} (h : a ≠ b → A) (h' : a = b → B) : (eqL [.int .i64 a.x, .int .i64 a.y] [.int .i64 b.x, .int .i64 b.y] = false → A) ∧ (eqL [.int .i64 a.x, .int .i64 a.y] [.int .i64 b.x, .int .i64 b.y] = true → B) := by
  rw [pt_eq]; exact ⟨fun e => h (by simpa using e), fun e => h' (by simpa using e)⟩
theorem if_npt {a b : Pt} {A B : Prop} (h : a ≠ b → A) (h' : a = b → B) : ((!(eqL [.int .i64 a.x, .int .i64 a.y] [.int .i64 b.x, .int .i64 b.y])) = true → A) ∧ ((!(eqL [.int .i64 a.x, .int .i64 a.y] [.int .i64 b.x, .int .i64 b.y])) = false → B) := by
  rw [pt_eq]
  exact ⟨fun e => h (by simpa using e), fun e => h' (by simpa using e)⟩
theorem if_npt_f {a b : Pt} {A B : Prop} (h : a = b → A) (h' : a ≠ b → B) : ((!(eqL [.int .i64 a.x, .int .i64 a.y] [.int .i64 b.x, .int .i64 b.y])) = false → A) ∧ ((!(eqL [.int .i64 a.x, .int .i64 a.y] [.int .i64 b.x, .int .i64 b.y])) = true → B) := by
  rw [pt_eq]
  exact ⟨fun e => h (by simpa using e), fun e => h' (by simpa using e)⟩
theorem if_dec_f {p : Prop} [Decidable p] {A B : Prop} (h : ¬ p → A) (h' : p → B) : (decide p = false → A) ∧ (decide p = true → B) := ⟨fun e => h (of_decide_eq_false e), fun e => h' (of_decide_eq_true e)⟩
theorem if_eq_f {a b : Int} {A B : Prop} (h : a ≠ b → A) (h' : a = b → B) : ((a == b) = false → A) ∧ ((a == b) = true → B) := ⟨fun e => h (by simpa using e), fun e => h' (by simpa using e)⟩
theorem if_ne_f {a b : Int} {A B : Prop} (h : a = b → A) (h' : a ≠ b → B) : ((a != b) = false → A) ∧ ((a != b) = true → B) := ⟨fun e => h (by simpa using e), fun e => h' (by simpa using e)⟩
theorem if_b_f {b : Bool} {A B : Prop} (h : b = false → A) (h' : b = true → B) : (b = false → A) ∧ (b = true → B) := ⟨h, h'⟩
theorem ed_eq (a b : Ed) : eqL [.int .i64 a.a.x, .int .i64 a.a.y, .int .i64 a.b.x, .int .i64 a.b.y] [.int .i64 b.a.x, .int .i64 b.a.y, .int .i64 b.b.x, .int .i64 b.b.y] = decide (a = b) := by
  obtain ⟨⟨ax, ay⟩, ⟨az, aw⟩⟩ := a
  obtain ⟨⟨bx, cy⟩, ⟨bz, bw⟩⟩ := b
  simp only [eqL, eq1, Ed.mk.injEq, Pt.mk.injEq, Bool.decide_and, Bool.and_true, Bool.and_assoc]
  rfl
theorem if_ned {a b : Ed} {A B : Prop} (h : a ≠ b → A) (h' : a = b → B) : ((!(eqL [.int .i64 a.a.x, .int .i64 a.a.y, .int .i64 a.b.x, .int .i64 a.b.y] [.int .i64 b.a.x, .int .i64 b.a.y, .int .i64 b.b.x, .int .i64 b.b.y])) = true → A) ∧
    ((!(eqL [.int .i64 a.a.x, .int .i64 a.a.y, .int .i64 a.b.x, .int .i64 a.b.y] [.int .i64 b.a.x, .int .i64 b.a.y, .int .i64 b.b.x, .int .i64 b.b.y])) = false → B) := by
  rw [ed_eq]
  exact ⟨fun e => h (by simpa using e), fun e => h' (by simpa using e)⟩
end Go.Proofs.YtggappbiedkopaaGreat
