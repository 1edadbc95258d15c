/- The symbolic executor, part ka: calls that turn the caller's memory. -/
import Derived.Test.YtggappbiedkopaaGreatSj
namespace Go.Proofs.YtggappbiedkopaaGreat.SX
open Go Go.RowKit
set_option linter.unusedVariables false
set_option linter.unusedSimpArgs false

theorem All.mem {α : Type} {p : α → Prop} : ∀ {xs : List α}, All p xs → ∀ x ∈ xs, p x
  | [], _, _, h => by cases h
  | y :: ys, h, x, hx => by
    rcases List.mem_cons.1 hx with rfl | hx
    · exact h.1
    · exact All.mem h.2 x hx
theorem SameL.denK {w : World} {S : Nat → Prop} : ∀ {l l' : L} {y : Value}, SameL l l' → Den w S l y → Den w S l' y := by
  intro l
  induction l with
  | lit x =>
    intro l' y h hd
    cases l' with
    | lit z => have h : x = z := h; exact h ▸ hd
    | sl sz n f =>
      obtain ⟨rfl, rfl⟩ := h
      obtain ⟨rfl, _⟩ := hd
      exact ⟨none, 0, rfl, Nat.le_refl _, by simp [maxLen], fun h => absurd h (Nat.lt_irrefl _)⟩
    | _ => exact h.elim
  | sl sz n f ih =>
    intro l' y h hd
    cases l' with
    | sl sz' n' g =>
      obtain ⟨rfl, rfl, h⟩ := h
      obtain ⟨A, cap, h1, h2, h3, h4⟩ := hd
      refine ⟨A, cap, h1, h2, h3, fun h0 => ?_⟩
      obtain ⟨ad, h5, h6, h7⟩ := h4 h0
      refine ⟨ad, h5, h6, fun i hi j hj => ?_⟩
      obtain ⟨z, hz, hd⟩ := h7 i hi j hj
      exact ⟨z, hz, ih i j (h i hi j hj) hd⟩
    | _ => exact h.elim
  | pt m f ih =>
    intro l' y h hd
    cases l' with
    | pt m' g =>
      obtain ⟨rfl, h⟩ := h
      obtain ⟨ad, h1, h2, h3⟩ := hd
      refine ⟨ad, h1, h2, fun j hj => ?_⟩
      obtain ⟨z, hz, hd⟩ := h3 j hj
      exact ⟨z, hz, ih j (h j hj) hd⟩
    | _ => exact h.elim
theorem SBK_le {base : Nat} {cx : Cx} {fr fr' : Bool} (h : boolLe fr fr' = true) : ∀ b, cx.SB base fr' b → cx.SB base fr b := fun b hb => ⟨hb.1, fun h1 => hb.2 (by subst h1; exact h)⟩

theorem look_in {α : Type} {xs : List (Nat × α)} {i : Nat} {x : α} (h : look xs i = some x) : (i, x) ∈ xs := look_mem h
theorem lookIs_iff {xs : List (Nat × Nat)} {i j : Nat} (h : lookIs xs i j = true) : look xs i = some j := by
  unfold lookIs at h
  split at h
  · rename_i q hq; rw [hq, Nat.eq_of_beq_eq_true h]
  · cases h
theorem noneOf_iff {xs : List (Nat × Nat)} {i : Nat} (h : noneOf xs i = true) : look xs i = none := by
  unfold noneOf at h
  split at h
  · cases h
  · rename_i hq; exact hq
theorem distinct_snd {xs : List (Nat × Nat)} (h : distinctN (xs.map (·.2)) = true) : ∀ p ∈ xs, ∀ q ∈ xs, p.2 = q.2 → p = q := by
  induction xs with
  | nil => intro p hp; cases hp
  | cons x xs ih =>
    unfold distinctN at h
    simp only [List.map_cons] at h
    split at h
    · cases h
    rename_i hn
    have hn : x.2 ∉ xs.map (·.2) := fun e => by rw [hasN_iff.2 e] at hn; cases hn
    intro p hp q hq he
    rcases List.mem_cons.1 hp with h1 | h1 <;> rcases List.mem_cons.1 hq with h2 | h2
    · rw [h1, h2]
    · subst h1; exact absurd (List.mem_map.2 ⟨q, h2, he.symm⟩) hn
    · subst h2; exact absurd (List.mem_map.2 ⟨p, h1, he⟩) hn
    · exact ih h p h1 q h2 he

/-- the callee's names -/
def cxL (cx : Cx) (w : World) (bsl rsl : List (Nat × Nat)) (nx : Nat) : Cx :=
  { D := fun i => i < nx
    β := fun i => match look bsl i with
      | some j => cx.β j
      | none => w.heap.size
    η := fun i => match look rsl i with
      | some j => cx.η j
      | none => .slice none 0 0
    S := cx.S }
/-- the blocks that the callee may turn -/
def WH (cx : Cx) (bsl rsl : List (Nat × Nat)) : Nat → Prop := fun b => (∃ q ∈ bsl, cx.β q.2 = b) ∨ ∃ q ∈ rsl, (cx.η q.2).ownBlock = some b

section
variable {P : Program} {E : Env} {base : Nat} {cx cx1 : Cx} {w w' : World} {s s1 : SS} {caps : List Nat} {a : Act} {o : Oper} {next : Act → World → Prop} {Q : Exit → Act → World → Prop} {bsl rsl : List (Nat × Nat)} {M M' : LM} {xs ys : List SV}

theorem inC_ok {nx : Nat} {c c' : C} {y : Value} (h : inC bsl rsl nx c c') (hc : crel base cx w c y) (h1 : one y = true) : crel base (cxL cx w bsl rsl nx) w c' y := by
  cases c' with
  | any => trivial
  | k x =>
    cases c with
    | k z => have h : z = x := h; exact h ▸ hc
    | v z => have h : z = x := h; exact h ▸ hc
    | _ => exact h.elim
  | v x =>
    cases c with
    | k z => obtain ⟨rfl, _⟩ := h; exact hc
    | v z => have h : z = x := h; exact h ▸ hc
    | _ => exact h.elim
  | p i off =>
    cases c with
    | p i' off' =>
      have h : (lookIs bsl i i' && (Nat.beq off' off && Nat.blt i nx)) = true := h
      simp only [Bool.and_eq_true] at h
      obtain ⟨h2, h3, h4⟩ := h
      have h3 := Nat.eq_of_beq_eq_true h3
      subst h3
      refine ⟨blt_lt h4, ?_⟩
      show y = .pointer (some ⟨match look bsl i with | some j => cx.β j | none => w.heap.size, off', none⟩)
      rw [lookIs_iff h2]; exact hc.2
    | _ => exact h.elim
  | s i off =>
    cases c with
    | s i' off' =>
      have h : (lookIs bsl i i' && (Nat.beq off' off && Nat.blt i nx)) = true := h
      simp only [Bool.and_eq_true] at h
      obtain ⟨h2, h3, h4⟩ := h
      have h3 := Nat.eq_of_beq_eq_true h3
      subst h3
      refine ⟨blt_lt h4, ?_⟩
      show y = .slice (some ⟨match look bsl i with | some j => cx.β j | none => w.heap.size, 0, none⟩) off' off'
      rw [lookIs_iff h2]; exact hc.2
    | _ => exact h.elim
  | h i =>
    have h : inH rsl nx i c := h
    unfold inH at h
    split at h
    · rename_i i'
      simp only [Bool.and_eq_true] at h
      refine ⟨blt_lt h.2, ?_⟩
      show y = match look rsl i with | some j => cx.η j | none => .slice none 0 0
      rw [lookIs_iff h.1]; exact hc.2
    · simp only [Bool.and_eq_true] at h
      refine ⟨blt_lt h.2, ?_⟩
      show y = match look rsl i with | some j => cx.η j | none => .slice none 0 0
      rw [noneOf_iff h.1]; exact hc
    · exact h.elim
  | sl fr sz n f =>
    cases c with
    | sl fr' sz' n' f' => exact (h.2.denK hc).lt (SBK_le (cx := cx) h.1)
    | _ => exact h.elim
  | ep fr m g =>
    cases c with
    | ep fr' m' g' =>
      have hc : Den w (cx.SB base fr') (.pt m' g') y := hc
      exact (h.2.denK hc).lt (SBK_le (cx := cx) h.1)
    | _ => exact h.elim
  | eh i sz idx j =>
    cases c with
    | eh i' sz' idx' j' =>
      obtain ⟨h, rfl, rfl, rfl⟩ := h
      simp only [Bool.and_eq_true] at h
      refine ⟨blt_lt h.2, ?_⟩
      show ∃ g n cap, (match look rsl i with | some j => cx.η j | none => Value.slice none 0 0) = _ ∧ _
      rw [lookIs_iff h.1]; exact hc.2
    | _ => exact h.elim
  | f g caps =>
    cases c with
    | f g' caps' =>
      have h : (Nat.beq g' g && inCaps bsl nx caps' caps) = true := h
      simp only [Bool.and_eq_true] at h
      obtain ⟨h2, h3⟩ := h
      have h2 := Nat.eq_of_beq_eq_true h2
      subst h2
      have key : ∀ {caps' caps : List Nat}, inCaps bsl nx caps' caps = true → (∀ i ∈ caps, i < nx) ∧ (caps'.map fun i => Value.pointer (some ⟨cx.β i, 0, none⟩)) = caps.map fun i => Value.pointer (some ⟨(cxL cx w bsl rsl nx).β i, 0, none⟩) := by
        intro caps'
        induction caps' with
        | nil => intro caps h; cases caps with
          | nil => exact ⟨(fun i hi => by cases hi), rfl⟩
          | cons _ _ => simp [inCaps] at h
        | cons i' caps' ih =>
          intro caps h
          cases caps with
          | nil => simp [inCaps] at h
          | cons i caps =>
            unfold inCaps at h
            simp only [Bool.and_eq_true] at h
            obtain ⟨k1, k2, k3⟩ := h
            obtain ⟨k4, k5⟩ := ih k3
            refine ⟨fun m hm => ?_, ?_⟩
            · rcases List.mem_cons.1 hm with rfl | hm
              · exact blt_lt k2
              · exact k4 m hm
            · rw [List.map_cons, List.map_cons, k5]
              congr 4
              show cx.β i' = match look bsl i with | some j => cx.β j | none => w.heap.size
              rw [lookIs_iff k1]
      obtain ⟨k1, k2⟩ := key h3
      refine ⟨k1, ?_⟩
      rw [← k2]; exact hc.2
    | _ => exact h.elim
theorem inCs_ok {nx : Nat} : ∀ {cs cs' : List C} {ys : List Value}, inCs bsl rsl nx cs cs' → crels base cx w cs ys → crels base (cxL cx w bsl rsl nx) w cs' ys
  | [], [], [], _, _ => trivial
  | c :: cs, c' :: cs', y :: ys, h, hc => ⟨inC_ok h.1 hc.1 hc.2.1, hc.2.1, inCs_ok h.2 hc.2.2⟩
  | [], [], _ :: _, _, hc => hc.elim
  | [], _ :: _, _, h, _ => h.elim
  | _ :: _, [], _, h, _ => h.elim
  | _ :: _, _ :: _, [], _, hc => hc.elim
theorem inH_k {nx i : Nat} {z : Value} (h : inH rsl nx i (.k z)) : z = .slice none 0 0 := by
  unfold inH at h
  split at h
  · rename_i heq; cases heq
  · rename_i heq; cases heq; rfl
  · exact h.elim
theorem inSV_ok {nx : Nat} {x x' : SV} {y : Value} (h : inSV bsl rsl nx x x') (hc : svrel base cx w x y) : svrel base (cxL cx w bsl rsl nx) w x' y := by
  cases x' with
  | t vs => exact h.elim
  | a cs' =>
    cases x with
    | a cs => obtain ⟨ys, rfl, h2⟩ := hc; exact ⟨ys, rfl, inCs_ok h h2⟩
    | _ => exact h.elim
  | o c' =>
    by_cases hany : c' = .any
    · subst hany; exact ⟨trivial, trivial⟩
    · have key : ∃ c, x = .o c ∧ inC bsl rsl nx c c' := by
        cases x with
        | o c => refine ⟨c, rfl, ?_⟩; cases c' <;> first | exact absurd rfl hany | exact h
        | a cs => cases c' <;> first | exact absurd rfl hany | exact h.elim
        | t vs => cases c' <;> first | exact absurd rfl hany | exact h.elim
      obtain ⟨c, rfl, h⟩ := key
      have hk : ∀ z, c' = .k z → svrel base (cxL cx w bsl rsl nx) w (.o c') y := by
        rintro z rfl
        have : y = z := by
          cases c with
          | k u => have h : u = z := h; exact h ▸ hc.1
          | v u => have h : u = z := h; exact h ▸ hc.1
          | _ => exact h.elim
        exact ⟨this, this⟩
      have h1 : (∀ z, c' ≠ .k z) → one y = true := by
        intro hne
        have h2 := hc.2
        cases c with
        | any => cases c' <;> first | exact absurd rfl hany | exact h.elim
        | k u =>
          have h2 : y = u := h2
          cases c' with
          | any => exact absurd rfl hany
          | k z => exact absurd rfl (hne z)
          | v z => obtain ⟨h3, h4⟩ := h; rw [h2, h3]; exact h4
          | h i => rw [h2, inH_k h]; rfl
          | _ => exact h.elim
        | _ => exact h2
      cases c' with
      | any => exact absurd rfl hany
      | k z => exact hk z rfl
      | _ => exact ⟨inC_ok h hc.1 (h1 fun z h => by cases h), h1 fun z h => by cases h⟩
theorem inSVs_ok {nx : Nat} : ∀ {xs xs' : List SV} {ys : List Value}, inSVs bsl rsl nx xs xs' → svrels base cx w xs ys → svrels base (cxL cx w bsl rsl nx) w xs' ys
  | [], [], [], _, _ => trivial
  | x :: xs, x' :: xs', y :: ys, h, hc => ⟨inSV_ok h.1 hc.1, inSVs_ok h.2 hc.2⟩
  | [], [], _ :: _, _, hc => hc.elim
  | [], _ :: _, _, h, _ => h.elim
  | _ :: _, [], _, h, _ => h.elim
  | _ :: _, _ :: _, [], _, hc => hc.elim

theorem HvIn.bt (h : HvIn s xs ys M bsl rsl) {q : Nat × Nat} (hq : q ∈ bsl) : q.1 < M.nx ∧ ∃ b, s.bl q.2 = some b := by
  obtain ⟨h1, h2⟩ := h.lb.mem q hq
  refine ⟨h1, ?_⟩
  split at h2
  · rename_i b hb; exact ⟨b, hb⟩
  · exact h2.elim
theorem HvIn.rt (h : HvIn s xs ys M bsl rsl) {q : Nat × Nat} (hq : q ∈ rsl) : q.1 < M.nx ∧ ∃ b, s.ow q.2 = some b := by
  obtain ⟨h1, h2⟩ := h.lr.mem q hq
  refine ⟨h1, ?_⟩
  split at h2
  · rename_i b hb; exact ⟨b, hb⟩
  · exact h2.elim
theorem HvIn.db (h : HvIn s xs ys M bsl rsl) : ∀ p ∈ bsl, ∀ q ∈ bsl, p.2 = q.2 → p = q := by
  have := h.inj
  simp only [Bool.and_eq_true] at this
  exact distinct_snd this.1
theorem HvIn.dr (h : HvIn s xs ys M bsl rsl) : ∀ p ∈ rsl, ∀ q ∈ rsl, p.2 = q.2 → p = q := by
  have := h.inj
  simp only [Bool.and_eq_true] at this
  exact distinct_snd this.2
theorem WH_S (hm : Mem base cx w s) (h : HvIn s xs ys M bsl rsl) {b : Nat} (hb : cx.S b) : ¬ WH cx bsl rsl b := by
  rintro (⟨q, hq, rfl⟩ | ⟨q, hq, hg⟩)
  · obtain ⟨_, c, hc⟩ := h.bt hq
    exact (hm.bl _ c.1 c.2 hc).2.2.1 hb
  · obtain ⟨_, c, hc⟩ := h.rt hq
    exact (hm.owS _ c b hc hg).1 hb
theorem WH_A {A : An} {n : Nat} (hf : Fr A.cx cx A.w w A.W 0 n) (hm : Mem base cx w s) (h : HvIn s xs ys M bsl rsl) : ∀ b, WH cx bsl rsl b → A.W b ∨ A.w.heap.size ≤ b := by
  have kβ : ∀ i, cx.D i → A.W (cx.β i) ∨ A.w.heap.size ≤ cx.β i := fun i hi => by
    by_cases h1 : A.cx.D i
    · exact .inl (.inl ⟨i, h1, (hf.β i h1).symm⟩)
    · exact .inr (hf.nβ i hi h1)
  have kη : ∀ i b, cx.D i → (cx.η i).ownBlock = some b → A.W b ∨ A.w.heap.size ≤ b := fun i b hi hb => by
    by_cases h1 : A.cx.D i
    · exact .inl (.inr ⟨i, h1, by rw [← hf.η i h1]; exact hb⟩)
    · exact (hf.nη i b hi h1 hb).symm
  rintro b (⟨q, hq, rfl⟩ | ⟨q, hq, hg⟩)
  · obtain ⟨_, c, hc⟩ := h.bt hq
    exact kβ _ (hm.bl _ c.1 c.2 hc).1
  · obtain ⟨_, c, hc⟩ := h.rt hq
    exact kη _ b (hm.ow _ c hc).1 hg

/-- the callee's memory at the call -/
theorem hv_mem (hm : Mem base cx w s) (hS : ∀ b, cx.S b → b < w.heap.size) (h : HvIn s xs ys M bsl rsl) : Mem base (cxL cx w bsl rsl M.nx) w M.ss := by
  have hb : ∀ i T cs, look M.bs i = some (T, cs) → ∃ j cs', look bsl i = some j ∧ s.bl j = some (T, cs') ∧ inCs bsl rsl M.nx cs' cs := by
    intro i T cs hi
    have h2 := h.bl.mem _ (look_mem hi)
    dsimp only at h2
    split at h2
    · rename_i j hj
      split at h2
      · rename_i T' cs' h3; obtain ⟨rfl, h4⟩ := h2; exact ⟨j, cs', hj, h3, h4⟩
      · exact h2.elim
    · exact h2.elim
  have ho : ∀ i r, look M.os i = some r → i < M.nx ∧ ((look rsl i = none ∧ r.n = 0) ∨ ∃ j r', look rsl i = some j ∧ s.ow j = some r' ∧ subR r' r) := by
    intro i r hi
    have h2 := h.ow.mem _ (look_mem hi)
    dsimp only at h2
    split at h2
    · rename_i hn; exact ⟨h2.1, .inl ⟨hn, h2.2⟩⟩
    · rename_i j hj
      split at h2
      · rename_i r' h3; exact ⟨(h.rt (look_mem hj)).1, .inr ⟨j, r', hj, h3, h2⟩⟩
      · exact h2.elim
  have eβ : ∀ {i j : Nat}, look bsl i = some j → (cxL cx w bsl rsl M.nx).β i = cx.β j := fun {i j} h => by
    show (match look bsl i with | some j => cx.β j | none => w.heap.size) = _; rw [h]
  have eη : ∀ {i j : Nat}, look rsl i = some j → (cxL cx w bsl rsl M.nx).η i = cx.η j := fun {i j} h => by
    show (match look rsl i with | some j => cx.η j | none => Value.slice none 0 0) = _; rw [h]
  have eη0 : ∀ {i : Nat}, look rsl i = none → (cxL cx w bsl rsl M.nx).η i = .slice none 0 0 := fun {i} h => by
    show (match look rsl i with | some j => cx.η j | none => Value.slice none 0 0) = _; rw [h]
  have hown : ∀ i r g, look M.os i = some r → ((cxL cx w bsl rsl M.nx).η i).ownBlock = some g → ∃ j r', look rsl i = some j ∧ (cx.η j).ownBlock = some g ∧ s.ow j = some r' := by
    intro i r g hi hg
    rcases (ho i r hi).2 with ⟨hn, _⟩ | ⟨j, r', h2, h3, _⟩
    · rw [eη0 hn] at hg; cases hg
    · rw [eη h2] at hg; exact ⟨j, r', h2, hg, h3⟩
  refine ⟨?_, ?_, ?_, ?_, ?_⟩
  · intro i T cs hi
    obtain ⟨j, cs', h1, h2, h3⟩ := hb i T cs hi
    obtain ⟨m1, m2, m3, ys, m4, m5⟩ := hm.bl _ _ _ h2
    refine ⟨(h.bt (look_mem h1)).1, ?_⟩
    rw [eβ h1]
    exact ⟨m2, m3, ys, m4, inCs_ok h3 m5⟩
  · rintro i i' ⟨b, hi⟩ ⟨b', hi'⟩ he
    obtain ⟨j, cs, h1, h2, _⟩ := hb i b.1 b.2 hi
    obtain ⟨j', cs', h1', h2', _⟩ := hb i' b'.1 b'.2 hi'
    rw [eβ h1, eβ h1'] at he
    have := hm.inj _ _ ⟨_, h2⟩ ⟨_, h2'⟩ he
    have := h.db _ (look_mem h1) _ (look_mem h1') this
    exact congrArg Prod.fst this
  · intro i r hi
    obtain ⟨hlt, h1⟩ := ho i r hi
    rcases h1 with ⟨hn, h0⟩ | ⟨j, r', hj, h2, h3, h4, h5, hfr, h6⟩
    · refine ⟨hlt, [], ?_, fun x hx => by omega⟩
      rw [eη0 hn, h0]
      exact World.ownsRow_nil ..
    · obtain ⟨m1, cells, m2, m3⟩ := hm.ow _ _ h2
      refine ⟨hlt, cells, by rw [eη hj, ← h3, ← h4, ← h5]; exact m2, fun x hx q hq => ?_⟩
      rw [← h5] at hx
      rw [← h4] at hq ⊢
      obtain ⟨z, hz, hd⟩ := m3 x hx q hq
      exact ⟨z, hz, ((h6 x hx q hq).denK hd).lt (SBK_le hfr)⟩
  · intro i r g hi hg
    obtain ⟨j, r', h1, hg, h2⟩ := hown i r g hi hg
    obtain ⟨m1, m2⟩ := hm.owS _ _ g h2 hg
    refine ⟨m1, fun i' hj => ?_⟩
    obtain ⟨b, hj⟩ := hj
    obtain ⟨j', cs, h3, h4, _⟩ := hb i' b.1 b.2 hj
    rw [eβ h3]
    exact m2 _ ⟨_, h4⟩
  · intro i i' r r' g hi hj hg hg'
    obtain ⟨j, q, h1, hg, h2⟩ := hown i r g hi hg
    obtain ⟨j', q', h1', hg', h2'⟩ := hown i' r' g hj hg'
    have := hm.owi _ _ _ _ g h2 h2' hg hg'
    have := h.dr _ (look_mem h1) _ (look_mem h1') this
    exact congrArg Prod.fst this

/-- the caller's names behind the call; n: the call's own -/
def cxO (cx cx1 : Cx) (w : World) (bsl rsl : List (Nat × Nat)) (n m : Nat) : Cx :=
  { D := fun j => cx.D j ∨ (n + 1 ≤ j ∧ j < n + 1 + m ∧ cx1.D (j - (n + 1)))
    β := fun j => match Nat.ble j n with
      | true => cx.β j
      | false => match look bsl (j - (n + 1)) with
        | some _ => w.heap.size
        | none => cx1.β (j - (n + 1))
    η := fun j => match Nat.ble j n with
      | true => cx.η j
      | false => match look rsl (j - (n + 1)) with
        | some _ => .slice none 0 0
        | none => cx1.η (j - (n + 1))
    S := cx1.S }
theorem look_outMB {n : Nat} : ∀ {bs : List (Nat × Nat × List C)} {j T : Nat} {cs : List C}, look (outMB bsl rsl n bs) j = some (T, cs) → ∃ i cs', look bs i = some (T, cs') ∧ nmOf bsl n i = j ∧ cs = cs'.map (outC bsl rsl n)
  | [], j, T, cs, h => by simp [outMB, look] at h
  | (i0, T0, c0) :: bs, j, T, cs, h => by
    unfold outMB look at h
    split at h
    · rename_i hb
      simp only [Option.some.injEq, Prod.mk.injEq] at h
      obtain ⟨rfl, rfl⟩ := h
      exact ⟨i0, c0, by unfold look; rw [Nat.beq_refl], (Nat.eq_of_beq_eq_true hb).symm, rfl⟩
    · rename_i hb
      obtain ⟨i, cs', h1, h2, h3⟩ := look_outMB h
      refine ⟨i, cs', ?_, h2, h3⟩
      have hne : Nat.beq i i0 = false := by
        cases hbb : Nat.beq i i0
        · rfl
        · have := Nat.eq_of_beq_eq_true hbb
          subst this
          rw [← h2, Nat.beq_refl] at hb
          cases hb
      unfold look
      rw [hne]; exact h1
theorem look_outMO {n : Nat} : ∀ {os : List (Nat × OR)} {j : Nat} {r : OR}, look (outMO rsl n os) j = some r → ∃ i, look os i = some r ∧ nmOf rsl n i = j
  | [], j, r, h => by simp [outMO, look] at h
  | (i0, r0) :: os, j, r, h => by
    unfold outMO look at h
    split at h
    · rename_i hb
      simp only [Option.some.injEq] at h
      subst h
      exact ⟨i0, by unfold look; rw [Nat.beq_refl], (Nat.eq_of_beq_eq_true hb).symm⟩
    · rename_i hb
      obtain ⟨i, h1, h2⟩ := look_outMO h
      refine ⟨i, ?_, h2⟩
      have hne : Nat.beq i i0 = false := by
        cases hbb : Nat.beq i i0
        · rfl
        · have := Nat.eq_of_beq_eq_true hbb
          subst this
          rw [← h2, Nat.beq_refl] at hb
          cases hb
      unfold look
      rw [hne]; exact h1
theorem without_some {α : Type} {ks : List (Nat × Nat)} {g : Nat → Option α} {i : Nat} {x : α} (h : without ks g i = some x) : g i = some x ∧ ∀ q ∈ ks, q.2 ≠ i := by
  unfold without at h
  split at h
  · cases h
  · rename_i hn
    refine ⟨h, fun q hq e => ?_⟩
    rw [hasN_iff.2 (List.mem_map.2 ⟨q, hq, e⟩)] at hn
    cases hn

theorem args_rel (hv : ∀ x, svrel base cx w (opv s x) (a.eval x)) : ∀ xs : List Operand, svrels base cx w (xs.map (opv s)) (xs.map a.eval)
  | [] => trivial
  | x :: xs => ⟨hv x, args_rel hv xs⟩
theorem caps_rel (h : ∀ i ∈ caps, cx.D i) : svrels base cx w (caps.map fun i => SV.o (.p i 0)) (caps.map fun i => Value.pointer (some ⟨cx.β i, 0, none⟩)) := by
  induction caps with
  | nil => trivial
  | cons i is ih => exact ⟨⟨⟨h i (by simp), rfl⟩, rfl⟩, ih fun j hj => h j (by simp [hj])⟩
theorem svrels_app : ∀ {xs zs : List SV} {ys us : List Value}, svrels base cx w xs ys → svrels base cx w zs us → svrels base cx w (xs ++ zs) (ys ++ us)
  | [], _, [], _, _, h => h
  | x :: xs, _, y :: ys, _, h, h' => ⟨h.1, svrels_app h.2 h'⟩
  | [], _, _ :: _, _, h, _ => h.elim
  | _ :: _, _, [], _, h, _ => h.elim

theorem hv_ok (hE : EnvOK P E) (hb : base ≤ w.heap.size) (hm : Mem base cx w s) (hS : ∀ b, cx.S b → b < w.heap.size) (hD : ∀ i, cx.D i → i < s.nx) (ht : ∀ t, svrel base cx w (s1.tm t) (a.tmps.getD t undef)) {g : Nat} {x : SV} (ho : hvOf E s1 o = some (g, xs)) (hc : E.hv g ys M x M') (hin : HvIn s xs ys M bsl rsl)
    (hp : ∀ y w' cx', Fr cx cx' w w' (WH cx bsl rsl) s.nx (s.nx + 1 + M'.nx) → svrel base cx' w' (outSV bsl rsl s.nx x) y → Mem base cx' w' (hvSt s bsl rsl (outMB bsl rsl s.nx M'.bs) (outMO rsl s.nx M'.os) (s.nx + 1 + M'.nx)) → (∀ b, cx'.S b → b < w'.heap.size) → next (a.put o.dst y) w') : o.wp P a w next Q := by
  have hv := fun x => opv_ok (s := s1) (a := a) ht x
  unfold hvOf at ho
  split at ho
  rotate_left
  · cases ho
  rename_i c hop
  split at ho
  rotate_left
  · cases ho
  rename_i f hcal
  split at ho
  rotate_left
  · cases ho
  rename_i g' caps hf
  split at ho
  rotate_left
  · cases ho
  simp only [Option.some.injEq, Prod.mk.injEq] at ho
  obtain ⟨rfl, rfl⟩ := ho
  have hfv := normF_ok (hv f)
  rw [hf] at hfv
  obtain ⟨⟨hcD, hfv⟩, _⟩ := hfv
  obtain ⟨hen, hle, hcall⟩ := hE.hv _ _ _ _ _ hc
  have hargs := svrels_app (args_rel hv c.args.toList) (caps_rel (w := w) (base := base) hcD)
  have hM1 := hv_mem hm hS hin
  have hcl := hcall base (cxL cx w bsl rsl M.nx) w _ hb hS (fun i => Iff.rfl) hM1 (inSVs_ok hin.args hargs)
  have hrun : (execOp a.eval o).run P w = .ok (.enter g' (c.args.toList.map a.eval ++ caps.map fun i => Value.pointer (some ⟨cx.β i, 0, none⟩)).toArray) w := by
    have h1 := hen ((#[] ++ c.args.map a.eval) ++ (caps.map fun i => Value.pointer (some ⟨cx.β i, 0, none⟩)).toArray) w
    have h2 : (c.args.toList.map a.eval ++ caps.map fun i => Value.pointer (some ⟨cx.β i, 0, none⟩)).toArray = (#[] ++ c.args.map a.eval) ++ (caps.map fun i => Value.pointer (some ⟨cx.β i, 0, none⟩)).toArray := by simp [← List.map_toArray]
    rw [h2, ← h1]
    obtain ⟨cal, xs, ts⟩ := c
    have hcal : cal = .value f := hcal
    subst hcal
    simp [execOp, hop, resolve, hfv, Deferred.ofValue, invoke]
  unfold Oper.wp
  rw [hrun, Oper.upon_enter]
  refine hcl.mono ?_
  rintro e w' ⟨v, cx1, rfl, hres, hF, hSf, hMf⟩
  have h1n : ∀ i, cx.D i → Nat.ble i s.nx = true := fun i hi => Nat.ble_eq_true_of_le (Nat.le_of_lt (hD i hi))
  have hnb : ∀ i, Nat.ble (s.nx + 1 + i) s.nx = false := fun i => by
    cases hb : Nat.ble (s.nx + 1 + i) s.nx
    · rfl
    · have := Nat.le_of_ble_eq_true hb; omega
  have hsub : ∀ i, s.nx + 1 + i - (s.nx + 1) = i := fun i => by omega
  have eβ : ∀ {i j : Nat}, look bsl i = some j → (cxL cx w bsl rsl M.nx).β i = cx.β j := fun {i j} h => by
    show (match look bsl i with | some j => cx.β j | none => w.heap.size) = _; rw [h]
  have eβ0 : ∀ {i : Nat}, look bsl i = none → (cxL cx w bsl rsl M.nx).β i = w.heap.size := fun {i} h => by
    show (match look bsl i with | some j => cx.β j | none => w.heap.size) = _; rw [h]
  have eη : ∀ {i j : Nat}, look rsl i = some j → (cxL cx w bsl rsl M.nx).η i = cx.η j := fun {i j} h => by
    show (match look rsl i with | some j => cx.η j | none => Value.slice none 0 0) = _; rw [h]
  have eη0 : ∀ {i : Nat}, look rsl i = none → (cxL cx w bsl rsl M.nx).η i = .slice none 0 0 := fun {i} h => by
    show (match look rsl i with | some j => cx.η j | none => Value.slice none 0 0) = _; rw [h]
  -- what the names of the callee are behind the call
  have f1 : ∀ {i j : Nat}, look bsl i = some j → cx1.β i = cx.β j := fun {i j} h => by
    rw [hF.β i (hin.bt (look_mem h)).1, eβ h]
  have f2 : ∀ {i j : Nat}, look rsl i = some j → cx1.η i = cx.η j := fun {i j} h => by
    rw [hF.η i (hin.rt (look_mem h)).1, eη h]
  have hlt1 : ∀ i, cx1.D i → i < M'.nx := fun i hi => by
    rcases hF.D' i hi with h | h
    · exact Nat.lt_of_lt_of_le h hle
    · exact h.2
  have f3 : ∀ {i : Nat}, cx1.D i → look bsl i = none → w.heap.size ≤ cx1.β i := fun {i} hd h => by
    by_cases hi : i < M.nx
    · rw [hF.β i hi, eβ0 h]; exact Nat.le_refl _
    · exact hF.nβ i hd hi
  have hWloc : ∀ b, (An.W ⟨base, cxL cx w bsl rsl M.nx, w⟩) b → WH cx bsl rsl b ∨ w.heap.size ≤ b := by
    rintro b (⟨i, hi, h⟩ | ⟨i, hi, h⟩)
    · have h : (cxL cx w bsl rsl M.nx).β i = b := h
      cases hl : look bsl i with
      | some j => rw [eβ hl] at h; exact .inl (.inl ⟨_, look_mem hl, h⟩)
      | none => rw [eβ0 hl] at h; exact .inr (Nat.le_of_eq h)
    · have h : ((cxL cx w bsl rsl M.nx).η i).ownBlock = some b := h
      cases hl : look rsl i with
      | some j => rw [eη hl] at h; exact .inl (.inr ⟨_, look_mem hl, h⟩)
      | none => rw [eη0 hl] at h; cases h
  have f4 : ∀ {i g : Nat}, cx1.D i → look rsl i = none → (cx1.η i).ownBlock = some g → w.heap.size ≤ g ∨ WH cx bsl rsl g := fun {i g} hd h hg => by
    by_cases hi : i < M.nx
    · rw [hF.η i hi, eη0 h] at hg; cases hg
    · rcases hF.nη i g hd hi hg with h' | h'
      · exact .inl h'
      · exact (hWloc g h').symm
  have hbt : ∀ {i j : Nat}, look bsl i = some j → ∃ b, s.bl j = some b := fun h => (hin.bt (look_mem h)).2
  have hrt : ∀ {i j : Nat}, look rsl i = some j → ∃ b, s.ow j = some b := fun h => (hin.rt (look_mem h)).2
  let cx2 : Cx := cxO cx cx1 w bsl rsl s.nx M'.nx
  have gβ : ∀ i, cx.D i → cx2.β i = cx.β i := fun i hi => by
    show (match Nat.ble i s.nx with | true => cx.β i | false => _) = _
    rw [h1n i hi]
  have gη : ∀ i, cx.D i → cx2.η i = cx.η i := fun i hi => by
    show (match Nat.ble i s.nx with | true => cx.η i | false => _) = _
    rw [h1n i hi]
  have nβ : ∀ i, cx1.D i → cx2.D (nmOf bsl s.nx i) ∧ cx2.β (nmOf bsl s.nx i) = cx1.β i := by
    intro i hi
    unfold nmOf
    split
    · rename_i j hj
      obtain ⟨b, hb⟩ := hbt hj
      have hd := (hm.bl _ b.1 b.2 hb).1
      exact ⟨.inl hd, by rw [gβ _ hd, f1 hj]⟩
    · rename_i hj
      refine ⟨.inr ⟨by omega, by have := hlt1 i hi; omega, by rw [hsub]; exact hi⟩, ?_⟩
      show (match Nat.ble (s.nx + 1 + i) s.nx with | true => cx.β _ | false => (match look bsl (s.nx + 1 + i - (s.nx + 1)) with | some _ => w.heap.size | none => cx1.β (s.nx + 1 + i - (s.nx + 1)))) = _
      rw [hnb, hsub, hj]
  have nη : ∀ i, cx1.D i → cx2.D (nmOf rsl s.nx i) ∧ cx2.η (nmOf rsl s.nx i) = cx1.η i := by
    intro i hi
    unfold nmOf
    split
    · rename_i j hj
      obtain ⟨b, hb⟩ := hrt hj
      have hd := (hm.ow _ b hb).1
      exact ⟨.inl hd, by rw [gη _ hd, f2 hj]⟩
    · rename_i hj
      refine ⟨.inr ⟨by omega, by have := hlt1 i hi; omega, by rw [hsub]; exact hi⟩, ?_⟩
      show (match Nat.ble (s.nx + 1 + i) s.nx with | true => cx.η _ | false => (match look rsl (s.nx + 1 + i - (s.nx + 1)) with | some _ => Value.slice none 0 0 | none => cx1.η (s.nx + 1 + i - (s.nx + 1)))) = _
      rw [hnb, hsub, hj]
  have oc : ∀ {c : C} {y : Value}, crel base cx1 w' c y → crel base cx2 w' (outC bsl rsl s.nx c) y := by
    intro c y hc
    cases c with
    | any => trivial
    | k x => exact hc
    | v x => exact hc
    | p i off => obtain ⟨h1, h2⟩ := nβ i hc.1; exact ⟨h1, by rw [h2]; exact hc.2⟩
    | s i cnt => obtain ⟨h1, h2⟩ := nβ i hc.1; exact ⟨h1, by rw [h2]; exact hc.2⟩
    | h i => obtain ⟨h1, h2⟩ := nη i hc.1; exact ⟨h1, by rw [h2]; exact hc.2⟩
    | sl fr sz n f => exact hc
    | ep fr m g => exact hc
    | eh i sz idx j => obtain ⟨h1, h2⟩ := nη i hc.1; exact ⟨h1, by rw [h2]; exact hc.2⟩
    | f g caps =>
      refine ⟨fun i hi => ?_, ?_⟩
      · obtain ⟨j, hj, rfl⟩ := List.mem_map.1 hi
        exact (nβ j (hc.1 j hj)).1
      · rw [hc.2, List.map_map]
        congr 2
        exact List.map_congr_left fun i hi => by show _ = Value.pointer (some ⟨cx2.β (nmOf bsl s.nx i), 0, none⟩); rw [(nβ i (hc.1 i hi)).2]
  have ocs : ∀ {cs : List C} {ys : List Value}, crels base cx1 w' cs ys → crels base cx2 w' (cs.map (outC bsl rsl s.nx)) ys := by
    intro cs
    induction cs with
    | nil => intro ys h; cases ys with
      | nil => trivial
      | cons _ _ => exact h.elim
    | cons c cs ih => intro ys h; cases ys with
      | nil => exact h.elim
      | cons y ys => exact ⟨oc h.1, h.2.1, ih h.2.2⟩
  have oct : ∀ {vs : List (Bool × List C)} {ys : List Value}, trel base cx1 w' vs ys → trel base cx2 w' (outT bsl rsl s.nx vs) ys := by
    intro vs
    induction vs with
    | nil => intro ys h; cases ys with
      | nil => trivial
      | cons _ _ => exact h.elim
    | cons q vs ih =>
      obtain ⟨b, cs⟩ := q
      intro ys h; cases ys with
      | nil => exact h.elim
      | cons y ys =>
        refine ⟨?_, ih h.2⟩
        have h1 := h.1
        cases b with
        | true => obtain ⟨zs, e, h2⟩ := h1; exact ⟨zs, e, ocs h2⟩
        | false => obtain ⟨z, e, h2⟩ := h1; exact ⟨z, e, ocs h2⟩
  have osv : ∀ {x : SV} {y : Value}, svrel base cx1 w' x y → svrel base cx2 w' (outSV bsl rsl s.nx x) y := by
    intro x y h
    cases x with
    | o c =>
      refine ⟨oc h.1, ?_⟩
      have h2 := h.2
      cases c <;> exact h2
    | a cs => obtain ⟨ys, e, h2⟩ := h; exact ⟨ys, e, ocs h2⟩
    | t vs => obtain ⟨ys, e, h2⟩ := h; exact ⟨ys, e, oct h2⟩
  have hFr : Fr cx cx2 w w' (WH cx bsl rsl) s.nx (s.nx + 1 + M'.nx) := by
    refine ⟨fun i h => .inl h, ?_, gβ, gη, fun b h => hF.S b h, fun b h => hF.S' b h, hF.size, hF.os, hF.tape, hF.output, ?_, ?_, ?_⟩
    · rintro i (h | h)
      · exact .inl h
      · exact .inr ⟨by omega, by omega⟩
    · intro b hlt hw
      exact hF.blk b hlt fun h => (hWloc b h).elim hw fun h => by omega
    · rintro j (h | ⟨h1, h2, h3⟩) h'
      · exact absurd h h'
      · obtain ⟨i, rfl⟩ : ∃ i, j = s.nx + 1 + i := ⟨j - (s.nx + 1), by omega⟩
        rw [hsub] at h3
        show _ ≤ (match Nat.ble (s.nx + 1 + i) s.nx with | true => cx.β _ | false => (match look bsl (s.nx + 1 + i - (s.nx + 1)) with | some _ => w.heap.size | none => cx1.β (s.nx + 1 + i - (s.nx + 1))))
        rw [hnb, hsub]
        dsimp only
        split
        · exact Nat.le_refl _
        · rename_i hl; exact f3 h3 hl
    · rintro j g (h | ⟨h1, h2, h3⟩) h' hg
      · exact absurd h h'
      · obtain ⟨i, rfl⟩ : ∃ i, j = s.nx + 1 + i := ⟨j - (s.nx + 1), by omega⟩
        rw [hsub] at h3
        have hg : (match Nat.ble (s.nx + 1 + i) s.nx with | true => cx.η (s.nx + 1 + i) | false => (match look rsl (s.nx + 1 + i - (s.nx + 1)) with | some _ => Value.slice none 0 0 | none => cx1.η (s.nx + 1 + i - (s.nx + 1)))).ownBlock = some g := hg
        rw [hnb, hsub] at hg
        dsimp only at hg
        split at hg
        · cases hg
        · rename_i hl; exact f4 h3 hl hg
  have hsW : ∀ b, cx.S b → b < w.heap.size ∧ ¬ WH cx bsl rsl b := fun b hb => ⟨hS b hb, WH_S hm hin hb⟩
  -- the state behind the call
  have kb : ∀ {j T : Nat} {cs : List C}, (hvSt s bsl rsl (outMB bsl rsl s.nx M'.bs) (outMO rsl s.nx M'.os) (s.nx + 1 + M'.nx)).bl j = some (T, cs) →
      (∃ i cs', look M'.bs i = some (T, cs') ∧ nmOf bsl s.nx i = j ∧ cs = cs'.map (outC bsl rsl s.nx)) ∨ (s.bl j = some (T, cs) ∧ ∀ q ∈ bsl, q.2 ≠ j) := by
    intro j T cs h
    rcases over_some h with h | ⟨_, h⟩
    · exact .inl (look_outMB h)
    · exact .inr (without_some h)
  have ko : ∀ {j : Nat} {r : OR}, (hvSt s bsl rsl (outMB bsl rsl s.nx M'.bs) (outMO rsl s.nx M'.os) (s.nx + 1 + M'.nx)).ow j = some r →
      (∃ i, look M'.os i = some r ∧ nmOf rsl s.nx i = j) ∨ (s.ow j = some r ∧ ∀ q ∈ rsl, q.2 ≠ j) := by
    intro j r h
    rcases over_some h with h | ⟨_, h⟩
    · exact .inl (look_outMO h)
    · exact .inr (without_some h)
  have hltb : ∀ i b, s.bl i = some b → cx.β i < w.heap.size := fun i b h => by
    obtain ⟨_, _, _, ys, h4, _⟩ := hm.bl i b.1 b.2 h
    exact (Array.getElem?_eq_some_iff.1 h4).1
  have hlto : ∀ i r g, s.ow i = some r → (cx.η i).ownBlock = some g → g < w.heap.size := fun i r g h hg => by
    obtain ⟨_, cells, h2, _⟩ := hm.ow i r h
    exact (h2.lt g hg).2
  have nW : ∀ {j : Nat} {b : Nat × List C}, s.bl j = some b → (∀ q ∈ bsl, q.2 ≠ j) → ¬ WH cx bsl rsl (cx.β j) := by
    rintro j b hj hn (⟨q, hq, he⟩ | ⟨q, hq, hg⟩)
    · obtain ⟨_, c, hc⟩ := hin.bt hq
      exact hn q hq (hm.inj _ _ ⟨_, hc⟩ ⟨_, hj⟩ he)
    · obtain ⟨_, c, hc⟩ := hin.rt hq
      exact (hm.owS _ c _ hc hg).2 j ⟨_, hj⟩ rfl
  have nWo : ∀ {j g : Nat} {r : OR}, s.ow j = some r → (cx.η j).ownBlock = some g → (∀ q ∈ rsl, q.2 ≠ j) → ¬ WH cx bsl rsl g := by
    rintro j g r hj hgj hn (⟨q, hq, he⟩ | ⟨q, hq, hg⟩)
    · obtain ⟨_, c, hc⟩ := hin.bt hq
      exact (hm.owS _ _ _ hj hgj).2 _ ⟨_, hc⟩ he
    · obtain ⟨_, c, hc⟩ := hin.rt hq
      exact hn q hq (hm.owi _ _ _ _ g hc hj hg hgj)
  -- a block of the callee's and one that it does not see
  have sepB : ∀ {i j : Nat} {b c : Nat × List C}, look M'.bs i = some b → s.bl j = some c → (∀ q ∈ bsl, q.2 ≠ j) → cx1.β i ≠ cx.β j := by
    intro i j b c hi hj hn he
    have hd := (hMf.bl i b.1 b.2 hi).1
    cases hl : look bsl i with
    | some j' =>
      rw [f1 hl] at he
      obtain ⟨b', hb'⟩ := hbt hl
      exact hn _ (look_mem hl) (hm.inj _ _ ⟨_, hb'⟩ ⟨_, hj⟩ he)
    | none =>
      have h1 := f3 hd hl
      have h2 := hltb j c hj
      omega
  have sepO : ∀ {i j g : Nat} {r : OR} {c : Nat × List C}, look M'.os i = some r → (cx1.η i).ownBlock = some g → s.bl j = some c → (∀ q ∈ bsl, q.2 ≠ j) → cx.β j ≠ g := by
    intro i j g r c hi hg hj hn he
    have hd := (hMf.ow i r hi).1
    cases hl : look rsl i with
    | some j' =>
      rw [f2 hl] at hg
      obtain ⟨b', hb'⟩ := hrt hl
      exact (hm.owS _ _ _ hb' hg).2 j ⟨_, hj⟩ he
    | none =>
      rcases f4 hd hl hg with h1 | h1
      · have := hltb j c hj; omega
      · exact nW hj hn (he ▸ h1)
  have sepOO : ∀ {i j g : Nat} {r r' : OR}, look M'.os i = some r → (cx1.η i).ownBlock = some g → s.ow j = some r' → (cx.η j).ownBlock = some g → (∀ q ∈ rsl, q.2 ≠ j) → False := by
    intro i j g r r' hi hg hj hgj hn
    have hd := (hMf.ow i r hi).1
    cases hl : look rsl i with
    | some j' =>
      rw [f2 hl] at hg
      obtain ⟨b', hb'⟩ := hrt hl
      exact hn _ (look_mem hl) (hm.owi _ _ _ _ g hb' hj hg hgj)
    | none =>
      rcases f4 hd hl hg with h1 | h1
      · have := hlto j r' g hj hgj; omega
      · exact nWo hj hgj hn h1
  have sepBO : ∀ {i j g : Nat} {b : Nat × List C} {r' : OR}, look M'.bs i = some b → s.ow j = some r' → (cx.η j).ownBlock = some g → cx1.β i ≠ g := by
    intro i j g b r' hi hj hgj he
    have hd := (hMf.bl i b.1 b.2 hi).1
    cases hl : look bsl i with
    | some j' =>
      rw [f1 hl] at he
      obtain ⟨b', hb'⟩ := hbt hl
      exact (hm.owS _ _ _ hj hgj).2 _ ⟨_, hb'⟩ he
    | none =>
      have h1 := f3 hd hl
      have := hlto j r' g hj hgj
      omega
  refine hp v w' cx2 hFr (osv hres) ⟨?_, ?_, ?_, ?_, ?_⟩ hSf
  · intro j T cs h
    rcases kb h with ⟨i, cs', h1, rfl, rfl⟩ | ⟨h1, hn⟩
    · obtain ⟨p1, p2, p3, ys, p4, p5⟩ := hMf.bl i T cs' h1
      obtain ⟨q1, q2⟩ := nβ i p1
      rw [q2]
      exact ⟨q1, p2, p3, ys, p4, ocs p5⟩
    · obtain ⟨m1, m2, m3, ys, m4, m5⟩ := hm.bl j T cs h1
      rw [gβ j m1]
      have hl := hltb j _ h1
      refine ⟨.inl m1, m2, ?_, ys, ?_, hFr.crels hsW m5⟩
      · intro h'
        rcases hF.S' _ h' with h' | h'
        · exact m3 h'
        · have : w.heap.size ≤ cx.β j := h'.1
          omega
      · rw [hFr.blk _ hl (nW h1 hn)]; exact m4
  · rintro j j' ⟨b, hj⟩ ⟨b', hj'⟩ he
    rcases kb hj with ⟨i, cs, h1, rfl, _⟩ | ⟨h1, hn⟩ <;> rcases kb hj' with ⟨i', cs', h1', rfl, _⟩ | ⟨h1', hn'⟩
    · rw [(nβ i (hMf.bl i _ _ h1).1).2, (nβ i' (hMf.bl i' _ _ h1').1).2] at he
      rw [hMf.inj i i' ⟨_, h1⟩ ⟨_, h1'⟩ he]
    · rw [(nβ i (hMf.bl i _ _ h1).1).2, gβ _ (hm.bl _ _ _ h1').1] at he
      exact absurd he (sepB h1 h1' hn')
    · rw [gβ _ (hm.bl _ _ _ h1).1, (nβ i' (hMf.bl i' _ _ h1').1).2] at he
      exact absurd he.symm (sepB h1' h1 hn)
    · rw [gβ _ (hm.bl _ _ _ h1).1, gβ _ (hm.bl _ _ _ h1').1] at he
      exact hm.inj _ _ ⟨_, h1⟩ ⟨_, h1'⟩ he
  · intro j r h
    rcases ko h with ⟨i, h1, rfl⟩ | ⟨h1, hn⟩
    · obtain ⟨p1, cells, p2, p3⟩ := hMf.ow i r h1
      obtain ⟨q1, q2⟩ := nη i p1
      refine ⟨q1, cells, by rw [q2]; exact p2, fun x hx k hk => p3 x hx k hk⟩
    · obtain ⟨p1, cells, p2, p3⟩ := hm.ow j r h1
      refine ⟨.inl p1, cells, ?_, fun x hx k hk => ?_⟩
      · rw [gη j p1]
        exact own_same p2 fun g hg => hFr.blk g (p2.lt g hg).2 (nWo h1 hg hn)
      · obtain ⟨z, hz, hd⟩ := p3 x hx k hk
        exact ⟨z, hz, hFr.den hsW hd⟩
  · intro j r g h hg
    rcases ko h with ⟨i, h1, rfl⟩ | ⟨h1, hn⟩
    · rw [(nη i (hMf.ow i r h1).1).2] at hg
      obtain ⟨k1, k2⟩ := hMf.owS i r g h1 hg
      refine ⟨k1, ?_⟩
      rintro j' ⟨b, hj'⟩
      rcases kb hj' with ⟨i', cs', h1', rfl, _⟩ | ⟨h1', hn'⟩
      · rw [(nβ i' (hMf.bl i' _ _ h1').1).2]; exact k2 i' ⟨_, h1'⟩
      · rw [gβ _ (hm.bl _ _ _ h1').1]; exact sepO h1 hg h1' hn'
    · rw [gη j (hm.ow j r h1).1] at hg
      obtain ⟨k1, k2⟩ := hm.owS j r g h1 hg
      refine ⟨?_, ?_⟩
      · intro h'
        rcases hF.S' _ h' with h' | h'
        · exact k1 h'
        · have := hlto j r g h1 hg
          have : w.heap.size ≤ g := h'.1
          omega
      · rintro j' ⟨b, hj'⟩
        rcases kb hj' with ⟨i', cs', h1', rfl, _⟩ | ⟨h1', hn'⟩
        · rw [(nβ i' (hMf.bl i' _ _ h1').1).2]; exact sepBO h1' h1 hg
        · rw [gβ _ (hm.bl _ _ _ h1').1]; exact k2 j' ⟨_, h1'⟩
  · intro j j' r r' g h h' hg hg'
    rcases ko h with ⟨i, h1, rfl⟩ | ⟨h1, hn⟩ <;> rcases ko h' with ⟨i', h1', rfl⟩ | ⟨h1', hn'⟩
    · rw [(nη i (hMf.ow i r h1).1).2] at hg
      rw [(nη i' (hMf.ow i' r' h1').1).2] at hg'
      rw [hMf.owi i i' r r' g h1 h1' hg hg']
    · rw [(nη i (hMf.ow i r h1).1).2] at hg
      rw [gη j' (hm.ow j' r' h1').1] at hg'
      exact (sepOO h1 hg h1' hg' hn').elim
    · rw [gη j (hm.ow j r h1).1] at hg
      rw [(nη i' (hMf.ow i' r' h1').1).2] at hg'
      exact (sepOO h1' hg' h1 hg hn).elim
    · rw [gη j (hm.ow j r h1).1] at hg
      rw [gη j' (hm.ow j' r' h1').1] at hg'
      exact hm.owi _ _ _ _ g h1 h1' hg hg'
end
end Go.Proofs.YtggappbiedkopaaGreat.SX
