/- The symbolic executor, part m: states that say less, code. -/
import Derived.Test.YtggappbiedkopaaGreatSlb
import Derived.Deep.LoopGhost
import Derived.Scope
namespace Go.Proofs.YtggappbiedkopaaGreat.SX
open Go Go.RowKit
set_option linter.unusedVariables false
set_option linter.unusedSimpArgs false

theorem SameL.refl : ∀ l, SameL l l
  | .lit x => rfl
  | .sl sz n f => ⟨rfl, rfl, fun i _ j _ => SameL.refl (f i j)⟩
  | .pt m f => ⟨rfl, fun j _ => SameL.refl (f j)⟩
theorem SameL.of_eq {l l' : L} (h : l = l') : SameL l l' := h ▸ SameL.refl l
theorem SameL.den {w : World} {S : Nat → Prop} : ∀ {l l' : L} {y : Value}, SameL l l' → Den w S l y → Den w S l' y := by
  intro l
  induction l with
  | lit x =>
    intro l' y h hd
    cases l' with
    | lit z => have h : x = z := h; exact h ▸ hd
    | sl sz n f =>
      obtain ⟨rfl, rfl⟩ := h
      obtain ⟨rfl, _⟩ := hd
      exact ⟨none, 0, rfl, Nat.le_refl _, by simp [maxLen], fun h => absurd h (Nat.lt_irrefl _)⟩
    | _ => exact h.elim
  | sl sz n f ih =>
    intro l' y h hd
    cases l' with
    | sl sz' n' g =>
      obtain ⟨rfl, rfl, h⟩ := h
      obtain ⟨A, cap, h1, h2, h3, h4⟩ := hd
      refine ⟨A, cap, h1, h2, h3, fun h0 => ?_⟩
      obtain ⟨ad, h5, h6, h7⟩ := h4 h0
      refine ⟨ad, h5, h6, fun i hi j hj => ?_⟩
      obtain ⟨z, hz, hd⟩ := h7 i hi j hj
      exact ⟨z, hz, ih i j (h i hi j hj) hd⟩
    | _ => exact h.elim
  | pt m f ih =>
    intro l' y h hd
    cases l' with
    | pt m' g =>
      obtain ⟨rfl, h⟩ := h
      obtain ⟨ad, h1, h2, h3⟩ := hd
      refine ⟨ad, h1, h2, fun j hj => ?_⟩
      obtain ⟨z, hz, hd⟩ := h3 j hj
      exact ⟨z, hz, ih j (h j hj) hd⟩
    | _ => exact h.elim

/-! ### states that say less -/
def subH (ρ : Nat → Nat) (nl : List Nat) (nx i : Nat) (c : C) : Prop := match c with
  | .h i' => i' = ρ i ∧ i < nx ∧ hasN i nl = false
  | .k (.slice none 0 0) => i < nx ∧ hasN i nl = true
  | _ => False
theorem subH_k {ρ : Nat → Nat} {nl : List Nat} {nx i : Nat} {z : Value} (h : subH ρ nl nx i (.k z)) : z = .slice none 0 0 ∧ i < nx ∧ hasN i nl = true := by
  unfold subH at h
  split at h
  · rename_i heq; cases heq
  · rename_i heq; cases heq; exact ⟨rfl, h⟩
  · exact h.elim
/-- c' says no more than c; ρ leads from its names to those of c; nl are its names of rows that are nil; nx is its next name -/
def subC (ρ : Nat → Nat) (nl : List Nat) (nx : Nat) (c c' : C) : Prop := match c' with
  | .any => True
  | .k x => match c with
    | .k y => y = x
    | .v y => y = x
    | _ => False
  | .v x => match c with
    | .k y => y = x ∧ one x = true
    | .v y => y = x
    | _ => False
  | .p i off => match c with
    | .p i' off' => i' = ρ i ∧ off' = off ∧ i < nx ∧ hasN i nl = false
    | _ => False
  | .s i cnt => match c with
    | .s i' cnt' => i' = ρ i ∧ cnt' = cnt ∧ i < nx ∧ hasN i nl = false
    | _ => False
  | .h i => subH ρ nl nx i c
  | .sl fr sz n f => match c with
    | .sl fr' sz' n' f' => boolLe fr fr' = true ∧ SameL (.sl sz' n' f') (.sl sz n f)
    | _ => False
  | .ep fr m g => match c with
    | .ep fr' m' g' => boolLe fr fr' = true ∧ SameL (.pt m' g') (.pt m g)
    | _ => False
  | .eh i sz idx j => match c with
    | .eh i' sz' idx' j' => i' = ρ i ∧ sz' = sz ∧ idx' = idx ∧ j' = j ∧ i < nx ∧ hasN i nl = false
    | _ => False
  | .f g caps => match c with
    | .f g' caps' => g' = g ∧ caps' = caps.map ρ ∧ ∀ i ∈ caps, i < nx ∧ hasN i nl = false
    | _ => False
def subCs (ρ : Nat → Nat) (nl : List Nat) (nx : Nat) (cs cs' : List C) : Prop := match cs, cs' with
  | [], [] => True
  | c :: cs, c' :: cs' => subC ρ nl nx c c' ∧ subCs ρ nl nx cs cs'
  | _, _ => False
def subT (ρ : Nat → Nat) (nl : List Nat) (nx : Nat) (vs vs' : List (Bool × List C)) : Prop := match vs, vs' with
  | [], [] => True
  | (b, cs) :: vs, (b', cs') :: vs' => b = b' ∧ subCs ρ nl nx cs cs' ∧ subT ρ nl nx vs vs'
  | _, _ => False
def subSV (ρ : Nat → Nat) (nl : List Nat) (nx : Nat) (x x' : SV) : Prop := match x' with
  | .o .any => True
  | .o c' => match x with
    | .o c => subC ρ nl nx c c'
    | _ => False
  | .a cs' => match x with
    | .a cs => subCs ρ nl nx cs cs'
    | _ => False
  | .t vs' => match x with
    | .t vs => subT ρ nl nx vs vs'
    | _ => False

/-- names as seen through ρ -/
def Cx.via (cx : Cx) (w : World) (ρ : Nat → Nat) (nl : List Nat) (nx : Nat) : Cx := { D := fun i => i < nx ∧ (hasN i nl = true ∨ cx.D (ρ i)), β := fun i => bif hasN i nl then w.heap.size else cx.β (ρ i), η := fun i => bif hasN i nl then .slice none 0 0 else cx.η (ρ i), S := cx.S }
theorem Cx.via_β {cx : Cx} {w : World} {ρ : Nat → Nat} {nl : List Nat} {nx i : Nat} (h : hasN i nl = false) : (cx.via w ρ nl nx).β i = cx.β (ρ i) := by
  show (bif hasN i nl then w.heap.size else cx.β (ρ i)) = _; rw [h]; rfl
theorem Cx.via_η {cx : Cx} {w : World} {ρ : Nat → Nat} {nl : List Nat} {nx i : Nat} (h : hasN i nl = false) : (cx.via w ρ nl nx).η i = cx.η (ρ i) := by
  show (bif hasN i nl then .slice none 0 0 else cx.η (ρ i)) = _; rw [h]; rfl
theorem Cx.via_nil {cx : Cx} {w : World} {ρ : Nat → Nat} {nl : List Nat} {nx i : Nat} (h : hasN i nl = true) : (cx.via w ρ nl nx).η i = .slice none 0 0 := by
  show (bif hasN i nl then .slice none 0 0 else cx.η (ρ i)) = _; rw [h]; rfl

section
variable {base : Nat} {cx : Cx} {w : World} {ρ : Nat → Nat} {nl : List Nat} {nx : Nat}
theorem SB_le {fr fr' : Bool} (h : boolLe fr fr' = true) : ∀ b, cx.SB base fr' b → cx.SB base fr b := fun b hb => ⟨hb.1, fun h1 => hb.2 (by subst h1; exact h)⟩
theorem subC_ok {c c' : C} {y : Value} (h : subC ρ nl nx c c') (hc : crel base cx w c y) (h1 : one y = true) : crel base (cx.via w ρ nl nx) w c' y := by
  cases c' with
  | any => trivial
  | k x =>
    cases c with
    | k z => have h : z = x := h; exact h ▸ hc
    | v z => have h : z = x := h; exact h ▸ hc
    | _ => exact h.elim
  | v x =>
    cases c with
    | k z => obtain ⟨rfl, _⟩ := h; exact hc
    | v z => have h : z = x := h; exact h ▸ hc
    | _ => exact h.elim
  | p i off =>
    cases c with
    | p i' off' => obtain ⟨rfl, rfl, h, hn⟩ := h; exact ⟨⟨h, .inr hc.1⟩, by rw [Cx.via_β hn]; exact hc.2⟩
    | _ => exact h.elim
  | s i off =>
    cases c with
    | s i' off' => obtain ⟨rfl, rfl, h, hn⟩ := h; exact ⟨⟨h, .inr hc.1⟩, by rw [Cx.via_β hn]; exact hc.2⟩
    | _ => exact h.elim
  | h i =>
    cases c with
    | h i' => obtain ⟨rfl, h, hn⟩ := h; exact ⟨⟨h, .inr hc.1⟩, by rw [Cx.via_η hn]; exact hc.2⟩
    | k z =>
      obtain ⟨rfl, h1', h2⟩ := subH_k h
      exact ⟨⟨h1', .inl h2⟩, by rw [Cx.via_nil h2]; exact hc⟩
    | _ => exact h.elim
  | sl fr sz n f =>
    cases c with
    | sl fr' sz' n' f' => exact (h.2.den hc).lt (SB_le (cx := cx) h.1)
    | _ => exact h.elim
  | ep fr m g =>
    cases c with
    | ep fr' m' g' =>
      have hc : Den w (cx.SB base fr') (.pt m' g') y := hc
      exact (h.2.den hc).lt (SB_le (cx := cx) h.1)
    | _ => exact h.elim
  | eh i sz idx j =>
    cases c with
    | eh i' sz' idx' j' =>
      obtain ⟨rfl, rfl, rfl, rfl, h, hn⟩ := h
      exact ⟨⟨h, .inr hc.1⟩, by rw [Cx.via_η hn]; exact hc.2⟩
    | _ => exact h.elim
  | f g caps =>
    cases c with
    | f g' caps' =>
      obtain ⟨rfl, rfl, h⟩ := h
      refine ⟨fun i hi => ⟨(h i hi).1, .inr (hc.1 _ (List.mem_map_of_mem hi))⟩, ?_⟩
      rw [hc.2, List.map_map]
      congr 2
      exact List.map_congr_left fun i hi => by rw [Cx.via_β (h i hi).2]; rfl
    | _ => exact h.elim
theorem subCs_ok : ∀ {cs cs' : List C} {ys : List Value}, subCs ρ nl nx cs cs' → crels base cx w cs ys → crels base (cx.via w ρ nl nx) w cs' ys
  | [], [], [], _, _ => trivial
  | c :: cs, c' :: cs', y :: ys, h, hc => ⟨subC_ok h.1 hc.1 hc.2.1, hc.2.1, subCs_ok h.2 hc.2.2⟩
  | [], [], _ :: _, _, hc => hc.elim
  | [], _ :: _, _, h, _ => h.elim
  | _ :: _, [], _, h, _ => h.elim
  | _ :: _, _ :: _, [], _, hc => hc.elim
theorem subSV_ok {x x' : SV} {y : Value} (h : subSV ρ nl nx x x') (hc : svrel base cx w x y) : svrel base (cx.via w ρ nl nx) w x' y := by
  cases x' with
  | t vs' =>
    cases x with
    | t vs =>
      obtain ⟨ys, rfl, h2⟩ := hc
      refine ⟨ys, rfl, ?_⟩
      have key : ∀ {vs vs' : List (Bool × List C)} {ys : List Value}, subT ρ nl nx vs vs' → trel base cx w vs ys → trel base (cx.via w ρ nl nx) w vs' ys := by
        intro vs
        induction vs with
        | nil => intro vs' ys h h2; cases vs' with
          | nil => cases ys with
            | nil => trivial
            | cons _ _ => exact h2.elim
          | cons _ _ => exact h.elim
        | cons q vs ih =>
          intro vs' ys h h2
          cases vs' with
          | nil => exact h.elim
          | cons q' vs' =>
            cases ys with
            | nil => exact h2.elim
            | cons y ys =>
              obtain ⟨b, cs⟩ := q
              obtain ⟨b', cs'⟩ := q'
              obtain ⟨rfl, h3, h4⟩ := h
              refine ⟨?_, ih h4 h2.2⟩
              have h5 := h2.1
              cases b with
              | true => obtain ⟨zs, e, h6⟩ := h5; exact ⟨zs, e, subCs_ok h3 h6⟩
              | false => obtain ⟨z, e, h6⟩ := h5; exact ⟨z, e, subCs_ok h3 h6⟩
      exact key h h2
    | _ => exact h.elim
  | a cs' =>
    cases x with
    | a cs => obtain ⟨ys, rfl, h2⟩ := hc; exact ⟨ys, rfl, subCs_ok h h2⟩
    | _ => exact h.elim
  | o c' =>
    by_cases hany : c' = .any
    · subst hany; exact ⟨trivial, trivial⟩
    · have key : ∃ c, x = .o c ∧ subC ρ nl nx c c' := by
        cases x with
        | o c => refine ⟨c, rfl, ?_⟩; cases c' <;> first | exact absurd rfl hany | exact h
        | a cs => cases c' <;> first | exact absurd rfl hany | exact h.elim
        | t vs => cases c' <;> first | exact absurd rfl hany | exact h.elim
      obtain ⟨c, rfl, h⟩ := key
      have hk : ∀ z, c' = .k z → svrel base (cx.via w ρ nl nx) w (.o c') y := by
        rintro z rfl
        have : y = z := by
          cases c with
          | k u => have h : u = z := h; exact h ▸ hc.1
          | v u => have h : u = z := h; exact h ▸ hc.1
          | _ => exact h.elim
        exact ⟨this, this⟩
      have h1 : (∀ z, c' ≠ .k z) → one y = true := by
        intro hne
        have h2 := hc.2
        cases c with
        | any => cases c' <;> first | exact absurd rfl hany | exact h.elim
        | k u =>
          have h2 : y = u := h2
          cases c' with
          | any => exact absurd rfl hany
          | k z => exact absurd rfl (hne z)
          | v z => obtain ⟨h3, h4⟩ := h; rw [h2, h3]; exact h4
          | h i =>
            rw [h2, (subH_k h).1]; rfl
          | _ => exact h.elim
        | _ => exact h2
      cases c' with
      | any => exact absurd rfl hany
      | k z => exact hk z rfl
      | _ => exact ⟨subC_ok h hc.1 (h1 fun z h => by cases h), h1 fun z h => by cases h⟩
end


theorem distinctN_inj {ρ : Nat → Nat} : ∀ {xs : List Nat}, distinctN (xs.map ρ) = true → ∀ i ∈ xs, ∀ j ∈ xs, ρ i = ρ j → i = j
  | [], _, i, hi, _, _, _ => by cases hi
  | x :: xs, h, i, hi, j, hj, he => by
    unfold distinctN at h
    simp only [List.map_cons] at h
    split at h
    · cases h
    rename_i hn
    have hn : ρ x ∉ xs.map ρ := fun e => by rw [hasN_iff.2 e] at hn; cases hn
    rcases List.mem_cons.1 hi with h1 | h1 <;> rcases List.mem_cons.1 hj with h2 | h2
    · rw [h1, h2]
    · refine absurd ?_ hn
      rw [← h1, he]; exact List.mem_map_of_mem h2
    · refine absurd ?_ hn
      rw [← h2, ← he]; exact List.mem_map_of_mem h1
    · exact distinctN_inj h i h1 j h2 he

/-- whoever holds s holds s', under other names; the names below k stay -/
def Ent (k : Nat) (s s' : SS) : Prop := ∀ (A : An) (cx : Cx) (a : Act) (w : World), (∀ i, A.cx.D i → i < k) → SR A cx a w s → ∃ cx', SR A cx' a w s'

theorem Ent.refl (k : Nat) (s : SS) : Ent k s s := fun A cx a w _ h => ⟨cx, h⟩
theorem Ent.trans {k : Nat} {s s' s'' : SS} (h : Ent k s s') (h' : Ent k s' s'') : Ent k s s'' := fun A cx a w hk hs => let ⟨cx', h1⟩ := h A cx a w hk hs; h' A cx' a w hk h1

/-- the test: ρ as a list (other names stay) -/
def viaL (rl : List (Nat × Nat)) (i : Nat) : Nat := match look rl i with
  | some j => j
  | none => i

structure EntOK (k : Nat) (s : SS) (rl : List (Nat × Nat)) (nl : List Nat) (tl : List (Nat × SV)) (bs : List (Nat × Nat × List C)) (os : List (Nat × OR)) (nx nt : Nat) : Prop where
  nt : s.nt = nt
  tm : All (fun p => subSV (viaL rl) nl nx (s.tm p.1) p.2) tl
  bl : All (fun p => p.1 < nx ∧ hasN p.1 nl = false ∧ match s.bl (viaL rl p.1) with
      | some (T, cs) => T = p.2.1 ∧ subCs (viaL rl) nl nx cs p.2.2
      | none => False) bs
  ow : All (fun p => p.1 < nx ∧ match hasN p.1 nl with
      | true => p.2.n = 0
      | false => match s.ow (viaL rl p.1) with
        | some r => subR r p.2
        | none => False) os
  inj : distinctN ((bs.map (·.1)).map (viaL rl)) = true
  inj' : distinctN ((os.map (·.1)).map (viaL rl)) = true
  kn : k ≤ nx
  kl : All (fun i => k ≤ i) nl
  stay : All (fun p : Nat × Nat => k ≤ p.1 ∧ k ≤ p.2) rl

theorem ent_of {k : Nat} {s : SS} {rl : List (Nat × Nat)} {nl : List Nat} {tl : List (Nat × SV)} {bs : List (Nat × Nat × List C)} {os : List (Nat × OR)} {nx nt : Nat} (h : EntOK k s rl nl tl bs os nx nt) : Ent k s (mkS tl bs os nx nt) := by
  intro A cx a w hA hs
  have hρ : ∀ i, i < k → viaL rl i = i := by
    intro i hi
    unfold viaL
    split
    · rename_i j hj
      have : k ≤ i := (h.stay.mem _ (look_mem hj)).1
      omega
    · rfl
  have hnk : ∀ i, i < k → hasN i nl = false := by
    intro i hi
    cases hb : hasN i nl
    · rfl
    · have := h.kl.mem _ (hasN_iff.1 hb); omega
  have hρ' : ∀ i, k ≤ i → k ≤ viaL rl i := by
    intro i hi
    unfold viaL
    split
    · rename_i j hj; exact (h.stay.mem _ (look_mem hj)).2
    · exact hi
  have hb : ∀ i T cs, look bs i = some (T, cs) → i < nx ∧ hasN i nl = false ∧ ∃ cs', s.bl (viaL rl i) = some (T, cs') ∧ subCs (viaL rl) nl nx cs' cs := by
    intro i T cs hi
    obtain ⟨h1, hn, h2⟩ := h.bl.mem _ (look_mem hi)
    refine ⟨h1, hn, ?_⟩
    dsimp only at h2
    split at h2
    · rename_i T' cs' h3; obtain ⟨rfl, h4⟩ := h2; exact ⟨cs', h3, h4⟩
    · exact h2.elim
  have ho : ∀ i r, look os i = some r → i < nx ∧ ((hasN i nl = true ∧ r.n = 0) ∨ (hasN i nl = false ∧ ∃ r', s.ow (viaL rl i) = some r' ∧ subR r' r)) := by
    intro i r hi
    obtain ⟨h1, h2⟩ := h.ow.mem _ (look_mem hi)
    refine ⟨h1, ?_⟩
    dsimp only at h2
    split at h2
    · rename_i hn; exact .inl ⟨hn, h2⟩
    · rename_i hn
      right
      refine ⟨hn, ?_⟩
      split at h2
      · rename_i r' h3; exact ⟨r', h3, h2⟩
      · exact h2.elim
  have hown : ∀ i r g, look os i = some r → ((cx.via w (viaL rl) nl nx).η i).ownBlock = some g → hasN i nl = false ∧ (cx.η (viaL rl i)).ownBlock = some g ∧ ∃ r', s.ow (viaL rl i) = some r' := by
    intro i r g hi hg
    rcases (ho i r hi).2 with ⟨hn, _⟩ | ⟨hn, r', h2, _⟩
    · rw [Cx.via_nil hn] at hg; cases hg
    · rw [Cx.via_η hn] at hg; exact ⟨hn, hg, r', h2⟩
  refine ⟨cx.via w (viaL rl) nl nx, Marks.mono (cx := cx) (cx' := cx.via w (viaL rl) nl nx) (fun b h => h) hs.df, hs.sz.trans h.nt, ?_, ⟨?_, ?_, ?_, ?_, ?_⟩, hs.S, fun i hi => hi.1, ?_, hs.hb⟩
  · intro t
    show svrel _ _ _ (match look tl t with | some x => x | none => .o .any) _
    split
    · rename_i x hx
      exact subSV_ok (h.tm.mem _ (look_mem hx)) (hs.tm t)
    · exact ⟨trivial, trivial⟩
  · intro i T cs hi
    obtain ⟨h1, hn, cs', h2, h3⟩ := hb i T cs hi
    obtain ⟨m1, m2, m3, ys, m4, m5⟩ := hs.mem.bl _ _ _ h2
    refine ⟨⟨h1, .inr m1⟩, ?_⟩
    rw [Cx.via_β hn]
    exact ⟨m2, m3, ys, m4, subCs_ok h3 m5⟩
  · rintro i j ⟨b, hi⟩ ⟨b', hj⟩ he
    obtain ⟨_, hn, cs, h1, _⟩ := hb i b.1 b.2 hi
    obtain ⟨_, hn', cs', h2, _⟩ := hb j b'.1 b'.2 hj
    rw [Cx.via_β hn, Cx.via_β hn'] at he
    have := hs.mem.inj _ _ ⟨_, h1⟩ ⟨_, h2⟩ he
    exact distinctN_inj h.inj i (List.mem_map.2 ⟨_, look_mem hi, rfl⟩) j (List.mem_map.2 ⟨_, look_mem hj, rfl⟩) this
  · intro i r hi
    rcases ho i r hi with ⟨h1, ⟨hn, h0⟩ | ⟨hn, r', h2, h3, h4, h5, h6⟩⟩
    · refine ⟨⟨h1, .inl hn⟩, [], ?_, fun x hx => by omega⟩
      rw [Cx.via_nil hn, h0]
      exact World.ownsRow_nil ..
    · obtain ⟨m1, cells, m2, m3⟩ := hs.mem.ow _ _ h2
      obtain ⟨hfr, h6⟩ := h6
      refine ⟨⟨h1, .inr m1⟩, cells, by rw [Cx.via_η hn, ← h3, ← h4, ← h5]; exact m2, fun x hx j hj => ?_⟩
      rw [← h5] at hx
      rw [← h4] at hj ⊢
      obtain ⟨z, hz, hd⟩ := m3 x hx j hj
      exact ⟨z, hz, ((h6 x hx j hj).den hd).lt (SB_le hfr)⟩
  · intro i r g hi hg
    obtain ⟨hn, hg, r', h2⟩ := hown i r g hi hg
    obtain ⟨m1, m2⟩ := hs.mem.owS _ _ g h2 hg
    refine ⟨m1, fun j hj => ?_⟩
    obtain ⟨b, hj⟩ := hj
    obtain ⟨_, hn', cs, h4, _⟩ := hb j b.1 b.2 hj
    rw [Cx.via_β hn']
    exact m2 _ ⟨_, h4⟩
  · intro i j r r' g hi hj hg hg'
    obtain ⟨_, hg, q, h1⟩ := hown i r g hi hg
    obtain ⟨_, hg', q', h2⟩ := hown j r' g hj hg'
    have := hs.mem.owi _ _ _ _ g h1 h2 hg hg'
    exact distinctN_inj h.inj' i (List.mem_map.2 ⟨_, look_mem hi, rfl⟩) j (List.mem_map.2 ⟨_, look_mem hj, rfl⟩) this
  · have hD : ∀ i, A.cx.D i → (cx.via w (viaL rl) nl nx).D i := fun i hi => ⟨Nat.lt_of_lt_of_le (hA i hi) h.kn, .inr (by rw [hρ i (hA i hi)]; exact hs.fr.D i hi)⟩
    have hn : ∀ i, ¬ A.cx.D i → ¬ A.cx.D (viaL rl i) := by
      intro i hi
      by_cases hk : i < k
      · rw [hρ i hk]; exact hi
      · intro h1
        have := hA _ h1
        have := hρ' i (by omega)
        omega
    refine ⟨hD, fun i hi => .inr ⟨Nat.zero_le _, hi.1⟩, fun i hi => by rw [Cx.via_β (hnk i (hA i hi)), hρ i (hA i hi)]; exact hs.fr.β i hi, fun i hi => by rw [Cx.via_η (hnk i (hA i hi)), hρ i (hA i hi)]; exact hs.fr.η i hi,
      hs.fr.S, hs.fr.S', hs.fr.size, hs.fr.os, hs.fr.tape, hs.fr.output, hs.fr.blk, fun i hi h' => ?_, fun i g hi h' hg => ?_⟩
    · cases hb : hasN i nl
      · rw [Cx.via_β hb]
        exact hs.fr.nβ _ (hi.2.resolve_left (by rw [hb]; simp)) (hn i h')
      · show _ ≤ (bif hasN i nl then w.heap.size else cx.β _)
        rw [hb]
        exact hs.fr.size
    · cases hb : hasN i nl
      · rw [Cx.via_η hb] at hg
        exact hs.fr.nη _ g (hi.2.resolve_left (by rw [hb]; simp)) (hn i h') hg
      · rw [Cx.via_nil hb] at hg; cases hg

/-! ### a row of the call's own becomes read-only -/
def sealC (i : Nat) (r : OR) (c : C) : C := match c with
  | .h j => match Nat.beq j i with
    | true => .sl r.fr r.sz r.n r.f
    | false => .h j
  | .eh j a b d => match Nat.beq j i with
    | true => .any
    | false => .eh j a b d
  | c => c
def sealCs (i : Nat) (r : OR) (cs : List C) : List C := match cs with
  | [] => []
  | c :: cs => sealC i r c :: sealCs i r cs
def sealT (i : Nat) (r : OR) (vs : List (Bool × List C)) : List (Bool × List C) := match vs with
  | [] => []
  | (b, cs) :: vs => (b, sealCs i r cs) :: sealT i r vs
def sealSV (i : Nat) (r : OR) (x : SV) : SV := match x with
  | .o c => .o (sealC i r c)
  | .a cs => .a (sealCs i r cs)
  | .t vs => .t (sealT i r vs)
def sealS (i : Nat) (r : OR) (s : SS) : SS :=
  { s with tm := fun t => sealSV i r (s.tm t)
           bl := fun j => match s.bl j with
             | some (T, cs) => some (T, sealCs i r cs)
             | none => none
           ow := upd s.ow i none }

section
variable {base : Nat} {cx : Cx} {w : World} {s : SS} {S' : Nat → Prop}
theorem crel_up (hS : ∀ b, cx.S b → S' b) {c : C} {y : Value} (h : crel base cx w c y) : crel base { cx with S := S' } w c y := by
  cases c with
  | sl fr sz n f => exact Den.lt (fun b hb => ⟨hS b hb.1, hb.2⟩) (show Den w (cx.SB base fr) (.sl sz n f) y from h)
  | ep fr m g =>
    obtain ⟨ad, h1, h2, h3⟩ := h
    exact ⟨ad, h1, ⟨hS _ h2.1, h2.2⟩, fun j hj => by obtain ⟨z, hz, hd⟩ := h3 j hj; exact ⟨z, hz, hd.lt fun b hb => ⟨hS b hb.1, hb.2⟩⟩⟩
  | _ => exact h
theorem seal_crel (hS : ∀ b, cx.S b → S' b) {i : Nat} {r : OR} (hi : Den w (Cx.SB { cx with S := S' } base r.fr) (.sl r.sz r.n r.f) (cx.η i)) {c : C} {y : Value} (h : crel base cx w c y) : crel base { cx with S := S' } w (sealC i r c) y := by
  unfold sealC
  split
  · split
    · rename_i hb
      have := beq_eq hb
      subst this
      rw [h.2]; exact hi
    · exact crel_up hS h
  · split
    · trivial
    · exact crel_up hS h
  · exact crel_up hS h
theorem seal_crels (hS : ∀ b, cx.S b → S' b) {i : Nat} {r : OR} (hi : Den w (Cx.SB { cx with S := S' } base r.fr) (.sl r.sz r.n r.f) (cx.η i)) : ∀ {cs : List C} {ys : List Value}, crels base cx w cs ys → crels base { cx with S := S' } w (sealCs i r cs) ys
  | [], [], _ => trivial
  | _ :: _, _ :: _, h => ⟨seal_crel hS hi h.1, h.2.1, seal_crels hS hi h.2.2⟩
  | [], _ :: _, h => h.elim
  | _ :: _, [], h => h.elim
theorem seal_trel (hS : ∀ b, cx.S b → S' b) {i : Nat} {r : OR} (hi : Den w (Cx.SB { cx with S := S' } base r.fr) (.sl r.sz r.n r.f) (cx.η i)) : ∀ {vs : List (Bool × List C)} {ys : List Value}, trel base cx w vs ys → trel base { cx with S := S' } w (sealT i r vs) ys
  | [], [], _ => trivial
  | (b, cs) :: _, _ :: _, h => ⟨by
      have h1 := h.1
      cases b with
      | true => obtain ⟨zs, e, h2⟩ := h1; exact ⟨zs, e, seal_crels hS hi h2⟩
      | false => obtain ⟨z, e, h2⟩ := h1; exact ⟨z, e, seal_crels hS hi h2⟩, seal_trel hS hi h.2⟩
  | [], _ :: _, h => h.elim
  | (_, _) :: _, [], h => h.elim
theorem seal_svrel (hS : ∀ b, cx.S b → S' b) {i : Nat} {r : OR} (hi : Den w (Cx.SB { cx with S := S' } base r.fr) (.sl r.sz r.n r.f) (cx.η i)) {x : SV} {y : Value} (h : svrel base cx w x y) : svrel base { cx with S := S' } w (sealSV i r x) y := by
  cases x with
  | o c =>
    refine ⟨seal_crel hS hi h.1, ?_⟩
    have h2 := h.2
    unfold sealC
    cases c with
    | h j =>
      show match (match Nat.beq j i with | true => C.sl r.fr r.sz r.n r.f | false => .h j) with | .any => True | .k z => y = z | _ => one y = true
      cases Nat.beq j i <;> exact h2
    | eh j a b d =>
      show match (match Nat.beq j i with | true => C.any | false => .eh j a b d) with | .any => True | .k z => y = z | _ => one y = true
      cases Nat.beq j i
      · exact h2
      · trivial
    | _ => exact h2
  | a cs => obtain ⟨ys, e, h2⟩ := h; exact ⟨ys, e, seal_crels hS hi h2⟩
  | t vs => obtain ⟨ys, e, h2⟩ := h; exact ⟨ys, e, seal_trel hS hi h2⟩

/-- a row as read-only data -/
theorem row_den (hm : Mem base cx w s) {i : Nat} {r : OR} (how : s.ow i = some r) (hS : ∀ b, cx.S b → S' b) (hg : ∀ g, (cx.η i).ownBlock = some g → S' g) : Den w (Cx.SB { cx with S := S' } base r.fr) (.sl r.sz r.n r.f) (cx.η i) := by
  obtain ⟨m1, cells, m2, m3⟩ := hm.ow i r how
  rcases m2.2 with ⟨h4, h5⟩ | ⟨g', cap, cur, h4, h5, h6, h7, h8, _⟩
  · exact ⟨none, 0, by rw [h4, h5], by omega, by simp [maxLen], fun h => by omega⟩
  · refine ⟨_, cap, h4, h7, h8, fun _ => ⟨_, rfl, ⟨hg g' (by rw [h4]; rfl), fun _ => h5⟩, fun a ha j hj => ?_⟩⟩
    obtain ⟨z, hz, hd⟩ := m3 a ha j hj
    exact ⟨z, m2.cells (g := g') (by rw [h4]; rfl) _ z hz, hd.lt fun b hb => ⟨hS b hb.1, hb.2⟩⟩

/-- a row of the call's own is sealed: from here on it is read alone -/
theorem ent_seal {s : SS} {i : Nat} {r : OR} (how : s.ow i = some r) : Ent 0 s (sealS i r s) := by
  intro A cx a w hA hs
  have hS : ∀ b, cx.S b → cx.S b ∨ (cx.η i).ownBlock = some b := fun b h => .inl h
  have hi := row_den hs.mem how hS fun g hg => .inr hg
  have hnA : ∀ i, ¬ A.cx.D i := fun i h => by have := hA i h; omega
  have hW : ∀ b, ¬ A.W b := by rintro b (⟨j, hj, _⟩ | ⟨j, hj, _⟩) <;> exact hnA _ hj
  have how' : ∀ j r', upd s.ow i none j = some r' → j ≠ i ∧ s.ow j = some r' := by
    intro j r' h
    by_cases hj : j = i
    · subst hj; rw [upd_same] at h; cases h
    · rw [upd_ne _ _ hj] at h; exact ⟨hj, h⟩
  have hbl : ∀ j T cs, (sealS i r s).bl j = some (T, cs) → ∃ cs', s.bl j = some (T, cs') ∧ cs = sealCs i r cs' := by
    intro j T cs h
    simp only [sealS] at h
    split at h
    · rename_i T' cs' h'
      simp only [Option.some.injEq, Prod.mk.injEq] at h
      obtain ⟨rfl, rfl⟩ := h
      exact ⟨cs', h', rfl⟩
    · cases h
  have hgl : ∀ g, (cx.η i).ownBlock = some g → A.w.heap.size ≤ g ∧ g < w.heap.size := by
    intro g hg
    obtain ⟨m1, cells, m2, m3⟩ := hs.mem.ow i r how
    have := (m2.lt g hg).2
    rcases hs.fr.nη i g m1 (hnA i) hg with h | h
    · exact ⟨h, this⟩
    · exact absurd h (hW g)
  refine ⟨{ cx with S := fun b => cx.S b ∨ (cx.η i).ownBlock = some b }, Marks.mono (cx := cx) (fun b h => Or.inl h) hs.df, hs.sz, fun t => seal_svrel hS hi (hs.tm t), ⟨?_, ?_, ?_, ?_, ?_⟩, ?_, hs.D, ?_, hs.hb⟩
  · intro j T cs h
    obtain ⟨cs', h', rfl⟩ := hbl j T cs h
    obtain ⟨m1, m2, m3, ys, m4, m5⟩ := hs.mem.bl j T cs' h'
    refine ⟨m1, m2, ?_, ys, m4, seal_crels hS hi m5⟩
    rintro (h | h)
    · exact m3 h
    · exact (hs.mem.owS i r _ how h).2 j ⟨_, h'⟩ rfl
  · rintro j q ⟨⟨T, cs⟩, h1⟩ ⟨⟨T', cs'⟩, h2⟩ h3
    obtain ⟨_, h1, _⟩ := hbl j T cs h1
    obtain ⟨_, h2, _⟩ := hbl q T' cs' h2
    exact hs.mem.inj j q ⟨_, h1⟩ ⟨_, h2⟩ h3
  · intro j r' h
    obtain ⟨hj, h⟩ := how' j r' h
    obtain ⟨m1, cells, m2, m3⟩ := hs.mem.ow j r' h
    refine ⟨m1, cells, m2, fun x hx q hq => ?_⟩
    obtain ⟨z, hz, hd⟩ := m3 x hx q hq
    exact ⟨z, hz, hd.lt fun b hb => ⟨hS b hb.1, hb.2⟩⟩
  · intro j r' g h hg
    obtain ⟨hj, h⟩ := how' j r' h
    obtain ⟨m1, m2⟩ := hs.mem.owS j r' g h hg
    refine ⟨?_, fun q hq => m2 q ?_⟩
    · rintro (h' | h')
      · exact m1 h'
      · exact hj (hs.mem.owi j i r' r g h how hg h')
    · obtain ⟨⟨T, cs⟩, hq⟩ := hq
      obtain ⟨cs', h', _⟩ := hbl q T cs hq
      exact ⟨_, h'⟩
  · intro j q r1 r2 g h1 h2 hg hg'
    exact hs.mem.owi j q r1 r2 g (how' j r1 h1).2 (how' q r2 h2).2 hg hg'
  · rintro b (h | h)
    · exact hs.S b h
    · exact (hgl b h).2
  · exact { hs.fr with
      S := fun b hb => .inl (hs.fr.S b hb)
      S' := fun b hb => by
        rcases hb with h | h
        · exact hs.fr.S' b h
        · exact .inr (hgl b h) }

/-- a row's content, told in other words -/
theorem ent_row {k : Nat} {s : SS} {i : Nat} {r r' : OR} (how : s.ow i = some r) (h : subR r r') : Ent k s { s with ow := upd s.ow i (some r') } := by
  intro A cx a w hA hs
  obtain ⟨h1, h2, h3, h4, h5⟩ := h
  have how' : ∀ j r1, upd s.ow i (some r') j = some r1 → ∃ r0, s.ow j = some r0 := by
    intro j r1 h
    by_cases hj : j = i
    · subst hj; exact ⟨r, how⟩
    · rw [upd_ne _ _ hj] at h; exact ⟨_, h⟩
  refine ⟨cx, hs.df, hs.sz, hs.tm, ⟨hs.mem.bl, hs.mem.inj, ?_, ?_, ?_⟩, hs.S, hs.D, hs.fr, hs.hb⟩
  · intro j r1 h
    by_cases hj : j = i
    · subst hj
      rw [show (SS.ow { s with ow := upd s.ow j (some r') }) j = upd s.ow j (some r') j from rfl, upd_same] at h
      simp only [Option.some.injEq] at h
      subst h
      obtain ⟨m1, cells, m2, m3⟩ := hs.mem.ow j r how
      refine ⟨m1, cells, by rw [← h1, ← h2, ← h3]; exact m2, fun x hx q hq => ?_⟩
      rw [← h3] at hx
      rw [← h2] at hq ⊢
      obtain ⟨z, hz, hd⟩ := m3 x hx q hq
      exact ⟨z, hz, ((h5 x hx q hq).den hd).lt (SB_le h4)⟩
    · rw [show (SS.ow { s with ow := upd s.ow i (some r') }) j = upd s.ow i (some r') j from rfl, upd_ne _ _ hj] at h
      exact hs.mem.ow j r1 h
  · intro j r1 g h hg
    obtain ⟨r0, h0⟩ := how' j r1 h
    exact hs.mem.owS j r0 g h0 hg
  · intro j q r1 r2 g h h' hg hg'
    obtain ⟨_, h0⟩ := how' j r1 h
    obtain ⟨_, h0'⟩ := how' q r2 h'
    exact hs.mem.owi j q _ _ g h0 h0' hg hg'
/-- a temporary's value, told in other words (names as they are) -/
theorem ent_tm {k : Nat} {s : SS} {t : Nat} {x : SV} (h : ∀ base cx w v, svrel base cx w (s.tm t) v → svrel base cx w x v) : Ent k s { s with tm := upd s.tm t x } := by
  intro A cx a w hA hs
  refine ⟨cx, hs.df, hs.sz, fun u => ?_, hs.mem.congr rfl rfl, hs.S, hs.D, hs.fr, hs.hb⟩
  show svrel _ _ _ (upd s.tm t x u) _
  by_cases hu : u = t
  · subst hu; rw [upd_same]; exact h _ _ _ _ (hs.tm u)
  · rw [upd_ne _ _ hu]; exact hs.tm u
end

/-! ### a block of the call's own becomes read-only -/
def sealBC (i : Nat) (ls : List L) (c : C) : C := match c with
  | .p j off => match Nat.beq j i with
    | true => .ep true (ls.length - off) (fun k => nth ls (off + k))
    | false => .p j off
  | .s j n => match Nat.beq j i with
    | true => .any
    | false => .s j n
  | .f g caps => match hasN i caps with
    | true => .any
    | false => .f g caps
  | c => c
def mapC (h : C → C) (cs : List C) : List C := match cs with
  | [] => []
  | c :: cs => h c :: mapC h cs
def mapT (h : C → C) (vs : List (Bool × List C)) : List (Bool × List C) := match vs with
  | [] => []
  | (b, cs) :: vs => (b, mapC h cs) :: mapT h vs
def mapSV (h : C → C) (x : SV) : SV := match x with
  | .o c => .o (h c)
  | .a cs => .a (mapC h cs)
  | .t vs => .t (mapT h vs)
def sealB (i : Nat) (ls : List L) (s : SS) : SS :=
  { s with tm := fun t => mapSV (sealBC i ls) (s.tm t)
           bl := fun j => match Nat.beq j i with
             | true => none
             | false => match s.bl j with
               | some (T, cs) => some (T, mapC (sealBC i ls) cs)
               | none => none }

section
variable {base : Nat} {cx : Cx} {w : World} {s : SS} {S' : Nat → Prop} {h : C → C}
theorem map_crels (hc : ∀ c y, crel base cx w c y → crel base { cx with S := S' } w (h c) y) : ∀ {cs : List C} {ys : List Value}, crels base cx w cs ys → crels base { cx with S := S' } w (mapC h cs) ys
  | [], [], _ => trivial
  | _ :: _, _ :: _, hs => ⟨hc _ _ hs.1, hs.2.1, map_crels hc hs.2.2⟩
  | [], _ :: _, hs => hs.elim
  | _ :: _, [], hs => hs.elim
theorem map_trel (hc : ∀ c y, crel base cx w c y → crel base { cx with S := S' } w (h c) y) : ∀ {vs : List (Bool × List C)} {ys : List Value}, trel base cx w vs ys → trel base { cx with S := S' } w (mapT h vs) ys
  | [], [], _ => trivial
  | (b, cs) :: _, _ :: _, hs => ⟨by
      have h1 := hs.1
      cases b with
      | true => obtain ⟨zs, e, h2⟩ := h1; exact ⟨zs, e, map_crels hc h2⟩
      | false => obtain ⟨z, e, h2⟩ := h1; exact ⟨z, e, map_crels hc h2⟩, map_trel hc hs.2⟩
  | [], _ :: _, hs => hs.elim
  | (_, _) :: _, [], hs => hs.elim
theorem map_svrel (hc : ∀ c y, crel base cx w c y → crel base { cx with S := S' } w (h c) y) (hk : ∀ c y, crel base cx w c y → (match c with | .any => True | .k z => y = z | _ => one y = true) → match h c with | .any => True | .k z => y = z | _ => one y = true)
    {x : SV} {y : Value} (hs : svrel base cx w x y) : svrel base { cx with S := S' } w (mapSV h x) y := by
  cases x with
  | o c => exact ⟨hc _ _ hs.1, hk c y hs.1 hs.2⟩
  | a cs => obtain ⟨ys, e, h2⟩ := hs; exact ⟨ys, e, map_crels hc h2⟩
  | t vs => obtain ⟨ys, e, h2⟩ := hs; exact ⟨ys, e, map_trel hc h2⟩

/-- a block of the call's own is sealed: from here on it is read alone -/
theorem ent_sealB {s : SS} {i T : Nat} {cs : List C} {ls : List L} (hb : s.bl i = some (T, cs)) (hl : litsOf cs = some ls) (hf : frCs cs = true) : Ent 0 s (sealB i ls s) := by
  intro A cx a w hA hs
  have hnA : ∀ i, ¬ A.cx.D i := fun i h => by have := hA i h; omega
  obtain ⟨m1, m2, m3, ys, m4, m5⟩ := hs.mem.bl i T cs hb
  have hlt := (Array.getElem?_eq_some_iff.1 m4).1
  have hS : ∀ b, cx.S b → cx.S b ∨ b = cx.β i := fun b h => .inl h
  have hd := litsOf_fr m5 hl hf
  have hlen := hd.length
  have hc : ∀ c y, crel A.base cx w c y → crel A.base { cx with S := fun b => cx.S b ∨ b = cx.β i } w (sealBC i ls c) y := by
    intro c y hcr
    cases c with
    | p j off =>
      show crel A.base _ w (match Nat.beq j i with | true => C.ep true (ls.length - off) (fun k => nth ls (off + k)) | false => .p j off) y
      cases hj : Nat.beq j i with
      | false => exact crel_up hS hcr
      | true =>
        have := beq_eq hj
        subst this
        refine ⟨_, hcr.2, ⟨.inr rfl, fun _ => m2⟩, fun k hk => ?_⟩
        have hk' : off + k < ys.length := by omega
        refine ⟨ys[off + k], ?_, (hd.nth _ _ (List.getElem?_eq_getElem hk')).lt fun b hb => ⟨.inl hb.1, hb.2⟩⟩
        rw [add_none, block_cell m4, List.getElem?_eq_getElem hk']
    | s j n =>
      show crel A.base _ w (match Nat.beq j i with | true => C.any | false => .s j n) y
      cases Nat.beq j i
      · exact crel_up hS hcr
      · trivial
    | f g caps =>
      show crel A.base _ w (match hasN i caps with | true => C.any | false => .f g caps) y
      cases hasN i caps
      · exact crel_up hS hcr
      · trivial
    | _ => exact crel_up hS hcr
  have hk : ∀ c y, crel A.base cx w c y → (match c with | .any => True | .k z => y = z | _ => one y = true) → match sealBC i ls c with | .any => True | .k z => y = z | _ => one y = true := by
    intro c y hcr h
    cases c with
    | p j off =>
      show match (match Nat.beq j i with | true => C.ep true (ls.length - off) (fun k => nth ls (off + k)) | false => .p j off) with | .any => True | .k z => y = z | _ => one y = true
      cases Nat.beq j i <;> exact h
    | s j n =>
      show match (match Nat.beq j i with | true => C.any | false => .s j n) with | .any => True | .k z => y = z | _ => one y = true
      cases Nat.beq j i
      · exact h
      · trivial
    | f g caps =>
      show match (match hasN i caps with | true => C.any | false => .f g caps) with | .any => True | .k z => y = z | _ => one y = true
      cases hasN i caps
      · exact h
      · trivial
    | _ => exact h
  have hbl : ∀ j T' cs', (sealB i ls s).bl j = some (T', cs') → j ≠ i ∧ ∃ cs0, s.bl j = some (T', cs0) ∧ cs' = mapC (sealBC i ls) cs0 := by
    intro j T' cs' h
    simp only [sealB] at h
    split at h
    · cases h
    · rename_i hj
      refine ⟨(fun e => by rw [e, Nat.beq_refl] at hj; cases hj), ?_⟩
      split at h
      · rename_i T0 cs0 h0
        simp only [Option.some.injEq, Prod.mk.injEq] at h
        obtain ⟨rfl, rfl⟩ := h
        exact ⟨cs0, h0, rfl⟩
      · cases h
  refine ⟨{ cx with S := fun b => cx.S b ∨ b = cx.β i }, Marks.mono (cx := cx) (fun b h => Or.inl h) hs.df, hs.sz, fun t => map_svrel hc hk (hs.tm t), ⟨?_, ?_, ?_, ?_, ?_⟩, ?_, hs.D, ?_, hs.hb⟩
  · intro j T' cs' h
    obtain ⟨hj, cs0, h0, rfl⟩ := hbl j T' cs' h
    obtain ⟨q1, q2, q3, zs, q4, q5⟩ := hs.mem.bl j T' cs0 h0
    refine ⟨q1, q2, ?_, zs, q4, map_crels hc q5⟩
    rintro (h | h)
    · exact q3 h
    · exact hj (hs.mem.inj j i ⟨_, h0⟩ ⟨_, hb⟩ h)
  · rintro j q ⟨⟨T1, c1⟩, h1⟩ ⟨⟨T2, c2⟩, h2⟩ h3
    obtain ⟨_, _, h1, _⟩ := hbl j T1 c1 h1
    obtain ⟨_, _, h2, _⟩ := hbl q T2 c2 h2
    exact hs.mem.inj j q ⟨_, h1⟩ ⟨_, h2⟩ h3
  · intro j r' h
    obtain ⟨q1, cells, q2, q3⟩ := hs.mem.ow j r' h
    refine ⟨q1, cells, q2, fun x hx q hq => ?_⟩
    obtain ⟨z, hz, hd⟩ := q3 x hx q hq
    exact ⟨z, hz, hd.lt fun b hb => ⟨hS b hb.1, hb.2⟩⟩
  · intro j r' g h hg
    obtain ⟨q1, q2⟩ := hs.mem.owS j r' g h hg
    refine ⟨?_, fun q hq => q2 q ?_⟩
    · rintro (h' | h')
      · exact q1 h'
      · exact q2 i ⟨_, hb⟩ h'.symm
    · obtain ⟨⟨T1, c1⟩, hq⟩ := hq
      obtain ⟨_, cs0, h', _⟩ := hbl q T1 c1 hq
      exact ⟨_, h'⟩
  · exact hs.mem.owi
  · rintro b (h | h)
    · exact hs.S b h
    · rw [h]; exact hlt
  · exact { hs.fr with
      S := fun b hb => .inl (hs.fr.S b hb)
      S' := fun b hb => by
        rcases hb with h | h
        · exact hs.fr.S' b h
        · exact .inr ⟨by rw [h]; exact hs.fr.nβ i m1 (hnA i), by rw [h]; exact hlt⟩ }
end

/-! ### code -/
def headId (c : Code) : Option Nat := match c with
  | .region id _ _ => some id
  | .seq x _ => headId x
  | .block _ x => headId x
  | .scope x => headId x
  | .loop x => headId x
  | _ => none
def atJoin (J : List Nat) (c : Code) : Bool := match headId c with
  | some i => hasN i J
  | none => false

/-- before this region the state is told in other words -/
def atMark (J : List Nat) (c : Code) : Bool := match headId c with
  | some i => hasN (i + 1000000) J
  | none => false
/-- a loop, round by round, n rounds at the most -/
def unrollK (body : (Exit → SS → Prop) → SS → Prop) (K : Exit → SS → Prop) (n : Nat) (s : SS) : Prop := match n with
  | 0 => False
  | n + 1 => body (fun e s' => match e with
    | .normal => unrollK body K n s'
    | e => K e s') s
/-- a range over a function: what is tested of its text -/
def rfOK (k nt : Nat) (ps : List Nat) (body : Code) (asg : List (Nat × Nat)) : Bool := match Nat.beq k 0 with
  | false => false
  | true => match ndC body with
    | false => false
    | true => match ltAll nt ps with
      | false => false
      | true => ltAll nt (asg.map (·.1))
theorem rfOK_iff {k nt : Nat} {ps : List Nat} {body : Code} {asg : List (Nat × Nat)} (h : rfOK k nt ps body asg = true) : k = 0 ∧ ndC body = true ∧ (∀ p ∈ ps, p < nt) ∧ ∀ q ∈ asg, q.1 < nt := by
  unfold rfOK at h
  split at h
  · cases h
  · rename_i h1
    split at h
    · cases h
    · rename_i h2
      split at h
      · cases h
      · rename_i h3
        exact ⟨beq_eq h1, h2, ltAll_iff h3, fun q hq => ltAll_iff h q.1 (List.mem_map.2 ⟨q, hq, rfl⟩)⟩
/-- a round's first state -/
def rfIn (ps : List Nat) (asg : List (Nat × Nat)) (vs : List Value) (tl : List (Nat × SV)) (bs : List (Nat × Nat × List C)) (os : List (Nat × OR)) (m nt : Nat) : SS :=
  { tm := asgTm asg (parT ps vs (mkS tl bs os m nt).tm), bl := look bs, ow := look os, nx := m, nt := nt }
/-- the conditions of a piece of code: J names the regions before which states are joined; names below k stay -/
def vc (E : Env) (nt : Nat) (k : Nat) (J : List Nat) (c : Code) (K : Exit → SS → Prop) (s : SS) : Prop := match c with
  | .skip => K .normal s
  | .region _ ops dr => match Nat.beq s.nt nt with
    | true => fNat lits s.nx fun n => vcOps E nt dr ops.toList n (fun s => K .normal s) ops.toList 0 (fun _ => []) [] s
    | false => False
  | .seq x y => match atJoin J y with
    | false => match atMark J y with
      | false => vc E nt k J x (fun e s' => match e with
        | .normal => vc E nt k J y K s'
        | e => K e s') s
      | true => vc E nt k J x (fun e s' => match e with
        | .normal => ∃ s'', Ent k s' s'' ∧ vc E nt k J y K s''
        | e => K e s') s
    | true => ∃ (ι : Type) (S : ι → SS), vc E nt k J x (fun e s' => match e with
      | .normal => ∃ i, Ent k s' (S i)
      | e => K e s') s ∧ ∀ i, vc E nt k J y K (S i)
  | .cond c x y => match opv s c with
    | .o (.k (.bool b)) => match b with
      | true => vc E nt k J x K s
      | false => vc E nt k J y K s
    | .o (.v (.bool b)) => (b = true → vc E nt k J x K s) ∧ (b = false → vc E nt k J y K s)
    | _ => False
  | .block id x => vc E nt k J x (fun e s' => match e with
      | .exit id' => match Nat.beq id' id with
        | true => K .normal s'
        | false => K (.exit id') s'
      | e => K e s') s
  | .loop x => (∃ n, unrollK (fun K s => vc E nt k J x K s) K n s) ∨ ∃ (ι : Type) (S : ι → SS) (μ : ι → Nat) (i : ι), Ent k s (S i) ∧ ∀ i, vc E nt k J x (fun e s' => match e with
      | .normal => ∃ j, μ j < μ i ∧ Ent k s' (S j)
      | e => K e s') (S i)
  | .exit id => K (.exit id) s
  | .label _ => K .normal s
  | .scope x => vc E nt k J x (fun e s' => match e with
    | .goto _ => False
    | e => K e s') s
  | .ret => K .ret s
  | .rangeFunc g ps assign body => match asgT assign with
    | none => False
    | some asg => ∃ (ι : Type) (gf i T N m m' : Nat) (gv : List Value) (enc : ι → List Value) (full : List ι → Prop) (tl : List (Nat × SV)) (bs : List ι → List (Nat × Nat × List C)) (os : List ι → List (Nat × OR)) (bs' : List ι → ι → List (Nat × Nat × List C)) (os' : List ι → ι → List (Nat × OR)),
      E.sq gf T gv ι enc full N ∧ rfOK k nt ps.toList body asg = true ∧ (∀ x, (enc x).length = ps.size ∧ ∀ v ∈ enc x, one v = true) ∧
      (∀ pre, opv (mkS tl (bs pre) (os pre) m nt) g = .o (.f gf [i]) ∧ look (bs pre) i = some (T, gv.map .v) ∧ liveS m tl (bs pre) (os pre) = true) ∧
      Ent k s (mkS tl (bs []) (os []) m nt) ∧
      (∀ pre x, pre.length < N → vc E nt m J body (fun e s' => match e with
        | .normal => Ent m s' (mkS [] (bs' pre x) (os' pre x) m' nt)
        | _ => False) (rfIn ps.toList asg (enc x) tl (bs pre) (os pre) m nt)) ∧
      (∀ pre x, m ≤ m' ∧ look (bs' pre x) i = some (T, gv.map .v)) ∧
      (∀ pre x, pre.length < N → Ent k (mkS tl (bs' pre x) (os' pre x) m' nt) (mkS tl (bs (pre ++ [x])) (os (pre ++ [x])) m nt)) ∧
      ∀ xs, full xs → K .normal (mkS tl (bs xs) (os xs) m nt)
  | _ => False

theorem vcOps_mono {E : Env} {nt : Nat} {dr : Bool} {ops : List Oper} {n0 : Nat} {K K' : SS → Prop} (hK : ∀ s, K s → K' s) : ∀ {rest : List Oper} {i : Nat} {an : Nat → List Nat} {rc : List (Nat × Rec)} {s : SS}, vcOps E nt dr ops n0 K rest i an rc s → vcOps E nt dr ops n0 K' rest i an rc s
  | [], i, an, rc, s, h => by
    unfold vcOps at h ⊢
    rw [fNat_eq] at h ⊢
    exact hK _ h
  | o :: rest, i, an, rc, s, h => by
    unfold vcOps at h ⊢
    refine opStep_mono (fun n0 an rc s h => vcOps_mono hK h) h

theorem unroll_mono {body : (Exit → SS → Prop) → SS → Prop} (hb : ∀ K K' s, (∀ e s, K e s → K' e s) → body K s → body K' s) {K K' : Exit → SS → Prop} (hK : ∀ e s, K e s → K' e s) : ∀ {n : Nat} {s : SS}, unrollK body K n s → unrollK body K' n s
  | 0, s, h => h.elim
  | n + 1, s, h => by
    unfold unrollK at h ⊢
    refine hb _ _ s ?_ h
    intro e s' h'
    cases e with
    | normal => exact unroll_mono hb hK h'
    | _ => exact hK _ _ h'
/-- what is asked at the end may be more -/
theorem vc_mono {E : Env} {nt k : Nat} {J : List Nat} : ∀ {c : Code} {K K' : Exit → SS → Prop} {s : SS}, (∀ e s, K e s → K' e s) → vc E nt k J c K s → vc E nt k J c K' s := by
  intro c
  induction c with
  | skip => intro K K' s hK h; exact hK _ _ h
  | region id ops dr =>
    intro K K' s hK h
    unfold vc at h ⊢
    split at h
    · rw [fNat_eq] at h ⊢
      exact vcOps_mono (fun s h => hK _ _ h) h
    · exact h.elim
  | seq x y ihx ihy =>
    intro K K' s hK h
    unfold vc at h ⊢
    cases hj : atJoin J y with
    | false =>
      rw [hj] at h
      dsimp only at h ⊢
      cases hm : atMark J y with
      | false =>
        rw [hm] at h
        refine ihx ?_ h
        intro e s' h'
        cases e with
        | normal => exact ihy hK h'
        | _ => exact hK _ _ h'
      | true =>
        rw [hm] at h
        refine ihx ?_ h
        intro e s' h'
        cases e with
        | normal => obtain ⟨s'', h1, h2⟩ := h'; exact ⟨s'', h1, ihy hK h2⟩
        | _ => exact hK _ _ h'
    | true =>
      rw [hj] at h
      obtain ⟨ι, S, h1, h2⟩ := h
      refine ⟨ι, S, ihx ?_ h1, fun i => ihy hK (h2 i)⟩
      intro e s' h'
      cases e with
      | normal => exact h'
      | _ => exact hK _ _ h'
  | cond c x y ihx ihy =>
    intro K K' s hK h
    unfold vc at h ⊢
    split at h
    · split at h
      · exact ihx hK h
      · exact ihy hK h
    · exact ⟨fun e => ihx hK (h.1 e), fun e => ihy hK (h.2 e)⟩
    · exact h.elim
  | block id x ih =>
    intro K K' s hK h
    unfold vc at h ⊢
    refine ih ?_ h
    intro e s' h'
    cases e with
    | exit id' =>
      dsimp only at h' ⊢
      split at h'
      · rename_i hb; exact hK _ _ h'
      · rename_i hb; exact hK _ _ h'
    | _ => exact hK _ _ h'
  | loop x ih =>
    intro K K' s hK h
    unfold vc at h ⊢
    rcases h with ⟨n, h⟩ | ⟨ι, S, μ, i, h1, h2⟩
    · exact .inl ⟨n, unroll_mono (body := fun K s => vc E nt k J x K s) (fun K1 K2 s1 hK h => ih hK h) hK h⟩
    · refine .inr ⟨ι, S, μ, i, h1, fun i => ih ?_ (h2 i)⟩
      intro e s' h'
      cases e with
      | normal => exact h'
      | _ => exact hK _ _ h'
  | exit id => intro K K' s hK h; exact hK _ _ h
  | label l => intro K K' s hK h; exact hK _ _ h
  | scope x ih =>
    intro K K' s hK h
    unfold vc at h ⊢
    refine ih ?_ h
    intro e s' h'
    cases e with
    | goto l => exact h'
    | _ => exact hK _ _ h'
  | ret => intro K K' s hK h; exact hK _ _ h
  | rangeFunc g ps assign body iha ihb =>
    intro K K' s hK h
    unfold vc at h ⊢
    split at h
    · exact h.elim
    · obtain ⟨ι, gf, i, T, N, m, m', gv, enc, full, tl, bs, os, bs', os', h1, h2, h3, h4, h5, h6, h7, h8, h9⟩ := h
      exact ⟨ι, gf, i, T, N, m, m', gv, enc, full, tl, bs, os, bs', os', h1, h2, h3, h4, h5, h6, h7, h8, fun xs hx => hK _ _ (h9 xs hx)⟩
  | _ => intro K K' s hK h; exact h.elim

theorem nd_two {x y : Code} {c : Code} (h : ndC c = true) (hc : ndC c = match ndC x with | true => ndC y | false => false) : ndC x = true ∧ ndC y = true := by
  rw [hc] at h
  split at h
  · rename_i hx; exact ⟨hx, h⟩
  · cases h
section
variable {P : Program} {E : Env}

theorem rf_ok (hE : EnvOK P E) {nt k n : Nat} {A : An} (hA : ∀ i, A.cx.D i → i < k) {g : Operand} {ps : Array Tmp} {assign body : Code} {K : Exit → SS → Prop} {Q : Exit → Act → World → Prop} (hK : ∀ e s a w cx, K e s → SR A cx a w s → Q e a w) {asg : List (Nat × Nat)} (hasg : asgT assign = some asg)
    {ι : Type} {gf i T N m m' : Nat} {gv : List Value} {enc : ι → List Value} {full : List ι → Prop} {tl : List (Nat × SV)} {bs : List ι → List (Nat × Nat × List C)} {os : List ι → List (Nat × OR)} {bs' : List ι → ι → List (Nat × Nat × List C)} {os' : List ι → ι → List (Nat × OR)}
    (h1 : E.sq gf T gv ι enc full N) (h2 : rfOK k nt ps.toList body asg = true) (h3 : ∀ x, (enc x).length = ps.size ∧ ∀ v ∈ enc x, one v = true)
    (h4 : ∀ pre, opv (mkS tl (bs pre) (os pre) m nt) g = .o (.f gf [i]) ∧ look (bs pre) i = some (T, gv.map .v) ∧ liveS m tl (bs pre) (os pre) = true)
    {s : SS} (h5 : Ent k s (mkS tl (bs []) (os []) m nt))
    (h6 : ∀ (pre : List ι) (x : ι) (l : Nat) (A' : An) (cx : Cx) (a : Act) (w : World), pre.length < N → (∀ i, A'.cx.D i → i < m) → SR A' cx a w (rfIn ps.toList asg (enc x) tl (bs pre) (os pre) m nt) →
      ∀ Q' : Exit → Act → World → Prop, (∀ s' a w cx, Ent m s' (mkS [] (bs' pre x) (os' pre x) m' nt) → SR A' cx a w s' → Q' .normal a w) → body.wpIn (FR (some l)) 0 P Q' a w)
    (h7 : ∀ pre x, m ≤ m' ∧ look (bs' pre x) i = some (T, gv.map .v))
    (h8 : ∀ pre x, pre.length < N → Ent k (mkS tl (bs' pre x) (os' pre x) m' nt) (mkS tl (bs (pre ++ [x])) (os (pre ++ [x])) m nt))
    (h9 : ∀ xs, full xs → K .normal (mkS tl (bs xs) (os xs) m nt)) {cx : Cx} {a : Act} {w : World} (hs : SR A cx a w s) : (Code.rangeFunc g ps assign body).wpIn (FR none) n P Q a w := by
  obtain ⟨rfl, hnd, hps, hasgt⟩ := rfOK_iff h2
  have hnA : ∀ i, ¬ A.cx.D i := fun i h => by have := hA i h; omega
  obtain ⟨hen, hsq⟩ := hE.sq _ _ _ _ _ _ _ h1
  -- what a block of numbers holds
  have hnum : ∀ {base : Nat} {cx : Cx} {w : World} {vs : List Value} {ys : List Value}, crels base cx w (vs.map .v) ys → ys = vs := by
    intro base cx w vs
    induction vs with
    | nil => intro ys h; cases ys with
      | nil => rfl
      | cons _ _ => exact h.elim
    | cons v vs ih => intro ys h; cases ys with
      | nil => exact h.elim
      | cons y ys => rw [show y = v from h.1, ih h.2.2]
  -- the start
  obtain ⟨cx1, hs1⟩ := h5 A cx a w hA hs
  obtain ⟨cx0, hs0, ht0⟩ := tidy_of hnA (h4 []).2.1 (h4 []).2.2 hs1
  have hgv := opv_ok hs0.tm g
  rw [(h4 []).1] at hgv
  have hgval : a.eval g = .func (.func gf) #[] #[.pointer (some ⟨cx0.β i, 0, none⟩)] := hgv.1.2
  -- the captured block
  have hblk : ∀ {cx : Cx} {w' : World} {bl : List (Nat × Nat × List C)} {os : List (Nat × OR)} {nx : Nat}, cx.β i = cx0.β i → look bl i = some (T, gv.map .v) → SR A cx a w' (mkS tl bl os nx nt) → w'.heap[cx0.β i]? = some (.cells gv.toArray T (0, 0)) := by
    intro cx w' bl os nx hβ hl h
    obtain ⟨_, _, _, ys, m4, m5⟩ := h.mem.bl i T _ hl
    rw [hnum m5] at m4
    rw [← hβ]; exact m4
  have hβ : ∀ {cx : Cx} {w' : World} {pre : List ι}, SR A cx a w' (mkS tl (bs pre) (os pre) m nt) → cx.β i = cx0.β i := by
    intro cx w' pre h
    have h' := opv_ok h.tm g
    rw [(h4 pre).1] at h'
    have h' : a.eval g = .func (.func gf) #[] #[.pointer (some ⟨cx.β i, 0, none⟩)] := h'.1.2
    rw [hgval] at h'
    simp at h'
    exact h'.symm
  have hb0 := hblk rfl (h4 []).2.1 hs0
  obtain ⟨Sp, hseq⟩ := hsq _ _ hb0
  have hmk : ∀ (ds : List Deferred), Marks A.w.heap.size cx0 w ds → ∀ d ∈ ds, ∃ D, d = { target := .collected D, args := #[] } ∧ D < w.heap.size := by
    intro ds
    induction ds with
    | nil => intro _ d hd; cases hd
    | cons d ds ih =>
      rintro ⟨⟨D, q1, q2, q3, q4, q5⟩, q6⟩ d' hd'
      rcases List.mem_cons.1 hd' with rfl | hd'
      · exact ⟨D, q1, hs0.S D q3⟩
      · exact ih q6 d' hd'
  have hmk := hmk _ hs0.df
  have hAw : A.w.heap.size ≤ w.heap.size := hs0.fr.size
  refine wpIn_n (n := 1) ?_
  refine wpIn_rangeFunc_ownG (F := FR none) (n := 1) rfl (Nat.le_refl _) hgval trivial (fun args w => hen args w) hseq
    (fun h h' => Eq.trans h' h) (fun W l o o' hl ho _ _ => World.putObj_heap_other (by have := (Array.getElem?_eq_some_iff.1 hb0).1; omega)) (Below.refl _ _) (fun x => by simpa using (h3 x).1)
    (fun pre W => ∃ cx, SR A cx a W (mkS tl (bs pre) (os pre) m nt) ∧ Tidy cx W) (fun _ _ _ => False) ?own (fun c s W W' row hs _ _ => hs) ⟨cx0, hs0, ht0⟩
    (fun x => { tmps := asgV asg (parV ps.toList (enc x) a.tmps), defers := [] }) ?assign ?body ?done (fun D c pre W _ _ h _ => h.elim)
  case own =>
    rintro pre W W' row ⟨cx, h, ht⟩ hg hr
    have hne : ∀ b o, W.heap[b]? = some o → some b = row → w.heap.size ≤ b ∧ o.isCells = false := fun b o hb e => by
      obtain ⟨q1, o', q2, q3⟩ := hr b e.symm
      rw [hb] at q2; cases q2
      exact ⟨q1, q3⟩
    have hkeep : KeepsCells W W' := fun b o hb ho => by
      rw [hg.block b (Array.getElem?_eq_some_iff.1 hb).1 fun e => by rw [(hne b o hb e).2] at ho; cases ho]
      exact hb
    have hlow : ∀ b, b < w.heap.size → b < W.heap.size → W'.heap[b]? = W.heap[b]? := fun b hb hb' => by
      obtain ⟨o, ho⟩ : ∃ o, W.heap[b]? = some o := ⟨_, Array.getElem?_eq_getElem hb'⟩
      exact hg.block b hb' fun e => by have := (hne b o ho e).1; omega
    have hsz : A.w.heap.size ≤ W.heap.size := h.fr.size
    have hmw : ∀ (ds : List Deferred), (∀ d ∈ ds, ∃ D, d = { target := .collected D, args := #[] } ∧ D < w.heap.size) → Marks A.w.heap.size cx W ds → Marks A.w.heap.size cx W' ds := by
      intro ds
      induction ds with
      | nil => intro _ _; trivial
      | cons d ds ih =>
        rintro hd ⟨⟨D, q1, q2, q3, q4, q5⟩, q6⟩
        obtain ⟨D', p1, p2⟩ := hd d List.mem_cons_self
        have e : D' = D := by rw [q1] at p1; simp at p1; exact p1.symm
        subst e
        exact ⟨⟨D', q1, q2, q3, by rw [hlow D' p2 (Array.getElem?_eq_some_iff.1 q4).1]; exact q4, q5⟩, ih (fun d hd' => hd d (List.mem_cons_of_mem _ hd')) q6⟩
    have := h.turn hkeep hg.os hg.tape hg.output hg.size (fun b hb => hlow b (by omega) (by omega)) (ds := a.defers) (hmw _ hmk h.df)
    exact ⟨cx, this, fun b hb => ⟨(ht b hb).1, let ⟨o, q1, q2⟩ := (ht b hb).2; ⟨o, hkeep b o q1 q2, q2⟩⟩⟩
  case assign =>
    intro l x W K' hK'
    have := asg_wp (P := P) (ro := some l) (n := 1 - 1 - 1) (w := W) (t := parV ps.toList (enc x) a.tmps) (K := K') (Q := fun _ _ _ => False) hasg hK'
    rw [← par_fold] at this
    exact this
  case body =>
    rintro l pre x W ⟨cx, h, ht⟩ hlen
    have hsz : a.tmps.size = nt := h.sz
    have hpar := par_tm (base := A.base) (cx := cx) (w := W) (ps := ps.toList) (vs := enc x) (fun p hp => by rw [hsz]; exact hps p hp) (h3 x).2 h.tm
    have hasm := asg_tm (base := A.base) (cx := cx) (w := W) (asg := asg) (fun q hq => by rw [hpar.1, hsz]; exact hasgt q hq) hpar.2
    let A' : An := ⟨A.base, cx, W⟩
    have hin : SR A' cx { tmps := asgV asg (parV ps.toList (enc x) a.tmps), defers := [] } W (rfIn ps.toList asg (enc x) tl (bs pre) (os pre) m nt) :=
      ⟨trivial, hasm.1.trans (hpar.1.trans hsz), hasm.2, h.mem.congr rfl rfl, h.S, h.D, { Fr.refl cx W A'.W 0 with D' := fun i h => .inl h }, Nat.le_trans h.hb h.fr.size⟩
    refine h6 pre x l A' cx _ W hlen (fun i hi => h.D i hi) hin _ ?_
    intro s' a2 W2 cx2 hent hs2
    obtain ⟨cx3, hs3⟩ := hent A' cx2 a2 W2 (fun i hi => h.D i hi) hs2
    have hW : ∀ b, A'.W b → ¬ cx.S b ∧ ∃ o, W.heap[b]? = some o ∧ o.isCells = true := ht
    have hF : Fr cx cx3 W W2 A'.W 0 m' := hs3.fr
    have hsW : ∀ b, cx.S b → b < W.heap.size ∧ ¬ A'.W b := fun b hb => ⟨h.S b hb, fun h' => (hW b h').1 hb⟩
    have hWA : ∀ b, A'.W b → A.W b ∨ A.w.heap.size ≤ b := by
      rintro b (⟨j, hj, rfl⟩ | ⟨j, hj, hg⟩)
      · exact .inr (h.fr.nβ j hj (hnA j))
      · exact (h.fr.nη j b hj (hnA j) hg).symm
    have hT : SR A cx3 a W2 (mkS tl (bs' pre x) (os' pre x) m' nt) :=
      ⟨h.df.next hF hsW, hsz, fun t => hF.svrel hsW (h.tm t), hs3.mem.congr rfl rfl, hs3.S, hs3.D, h.fr.next hF hWA (h7 pre x).1 (Nat.le_refl _), h.hb⟩
    have hb2 : W2.heap[cx0.β i]? = W.heap[cx0.β i]? := by
      have e1 := hβ h
      have e2 : cx3.β i = cx0.β i := by
        rw [← e1]
        exact hF.β i (h.mem.bl i T _ (h4 pre).2.1).1
      rw [hblk e2 (h7 pre x).2 hT, hblk e1 (h4 pre).2.1 h]
    obtain ⟨cx4, hs4⟩ := h8 pre x hlen A cx3 a W2 hA hT
    obtain ⟨cx5, hs5, ht5⟩ := tidy_of hnA (h4 (pre ++ [x])).2.1 (h4 (pre ++ [x])).2.2 hs4
    refine ⟨⟨hF.size, fun b o _ hb ho => ?_⟩, hb2, cx5, hs5, ht5⟩
    rw [hF.blk b (Array.getElem?_eq_some_iff.1 hb).1 fun h' => ?_]
    · exact hb
    · obtain ⟨_, o', q1, q2⟩ := hW b h'
      rw [hb] at q1; cases q1
      rw [ho] at q2; cases q2
  case done =>
    rintro D xs W hD hx ⟨cx, h, ht⟩ hdef
    have hDlt : D < W.heap.size := (Array.getElem?_eq_some_iff.1 hdef).1
    let cx' : Cx := { cx with S := fun b => cx.S b ∨ b = D }
    have hle : CxLe cx cx' (fun _ => True) (fun _ => True) := ⟨fun _ _ h => h, fun _ _ => rfl, fun _ _ => rfl, fun b hb => .inl hb⟩
    refine hK _ _ _ _ cx' (h9 xs hx) ⟨⟨⟨D, rfl, by omega, .inr rfl, hdef, fun d' hd' e => ?_⟩, Marks.mono (cx := cx) (cx' := cx') (fun b hb => .inl hb) h.df⟩, h.sz, fun t => (h.tm t).keep hle (KeepsCells.refl W) (liveSV_all _),
      h.mem.keep hle (KeepsCells.refl W) (fun _ _ => trivial) (fun _ _ => trivial) (fun _ _ _ _ c _ => liveC_all c) (fun b hb => hb.imp id fun e => ⟨Obj.deferred (some []), by rw [e]; exact hdef, rfl⟩),
      fun b hb => hb.elim (h.S b) (fun e => by rw [e]; exact hDlt), h.D, { h.fr with S := fun b hb => .inl (h.fr.S b hb), S' := fun b hb => hb.elim (h.fr.S' b) (fun e => .inr (by rw [e]; exact ⟨by omega, hDlt⟩)) }, h.hb⟩
    obtain ⟨D', p1, p2⟩ := hmk d' hd'
    rw [p1] at e
    simp at e
    omega

theorem vc_okIn (hE : EnvOK P E) (hP : P.follows .mixedOrders = true) {nt : Nat} {J : List Nat} : ∀ (c : Code) {ro : Option Nat} {n k : Nat} {A : An} (hA : ∀ i, A.cx.D i → i < k) (hnd : ro = none ∨ ndC c = true) (K : Exit → SS → Prop) (Q : Exit → Act → World → Prop), (∀ e s a w cx, K e s → SR A cx a w s → Q e a w) →
    ∀ (s : SS) (cx : Cx) (a : Act) (w : World), vc E nt k J c K s → SR A cx a w s → c.wpIn (FR ro) n P Q a w := by
  intro c
  induction c with
  | skip => intro ro n k A hA hnd K Q hK s cx a w h hs; exact wpIn_skip (hK _ _ _ _ cx h hs)
  | region id ops dr =>
    intro ro n k A hA hnd K Q hK s cx a w h hs
    unfold vc at h
    split at h
    · rename_i hb
      rw [fNat_eq, ← beq_eq hb] at h
      exact region_okIn hE hP (K := fun s => K .normal s) hnd (fun s a w cx h hs => hK _ _ _ _ cx h hs) h hs
    · exact h.elim
  | seq x y ihx ihy =>
    intro ro n k A hA hnd K Q hK s cx a w h hs
    have hx : ro = none ∨ ndC x = true := hnd.imp id fun h => (nd_two h rfl).1
    have hy : ro = none ∨ ndC y = true := hnd.imp id fun h => (nd_two h rfl).2
    refine wpIn_seq ?_
    unfold vc at h
    split at h
    · split at h
      · refine ihx hA hx _ _ ?_ s cx a w h hs
        intro e s' a' w' cx' h' hs'
        cases e with
        | normal => exact ihy hA hy K Q hK s' cx' a' w' h' hs'
        | _ => exact hK _ _ _ _ cx' h' hs'
      · refine ihx hA hx _ _ ?_ s cx a w h hs
        intro e s' a' w' cx' h' hs'
        cases e with
        | normal =>
          obtain ⟨s'', h3, h5⟩ := h'
          obtain ⟨cx'', h4⟩ := h3 A cx' a' w' hA hs'
          exact ihy hA hy K Q hK s'' cx'' a' w' h5 h4
        | _ => exact hK _ _ _ _ cx' h' hs'
    · obtain ⟨ι, S, h1, h2⟩ := h
      refine ihx hA hx _ _ ?_ s cx a w h1 hs
      intro e s' a' w' cx' h' hs'
      cases e with
      | normal =>
        obtain ⟨i, h3⟩ := h'
        obtain ⟨cx'', h4⟩ := h3 A cx' a' w' hA hs'
        exact ihy hA hy K Q hK _ cx'' a' w' (h2 i) h4
      | _ => exact hK _ _ _ _ cx' h' hs'
  | cond c x y ihx ihy =>
    intro ro n k A hA hnd K Q hK s cx a w h hs
    have hx : ro = none ∨ ndC x = true := hnd.imp id fun h => (nd_two h rfl).1
    have hy : ro = none ∨ ndC y = true := hnd.imp id fun h => (nd_two h rfl).2
    have hv := opv_ok (s := s) (a := a) hs.tm c
    unfold vc at h
    split at h
    · rename_i b hb
      rw [hb] at hv
      have hv := rel_k hv
      split at h
      · exact wpIn_cond_true hv (ihx hA hx K Q hK s cx a w h hs)
      · exact wpIn_cond_false hv (ihy hA hy K Q hK s cx a w h hs)
    · rename_i b hb
      rw [hb] at hv
      exact wpIn_cond_split (rel_v hv).1 (fun hb => ihx hA hx K Q hK s cx a w (h.1 hb) hs) (fun hb => ihy hA hy K Q hK s cx a w (h.2 hb) hs)
    · exact h.elim
  | block id x ih =>
    intro ro n k A hA hnd K Q hK s cx a w h hs
    refine wpIn_block (ih hA hnd _ _ ?_ s cx a w h hs)
    intro e s' a' w' cx' h' hs'
    cases e with
    | exit id' =>
      dsimp only at h'
      unfold Exit.inBlock
      split at h'
      · rename_i hb
        simp only [beq_eq hb, if_true]
        exact hK _ _ _ _ cx' h' hs'
      · rename_i hb
        have hne : id' ≠ id := fun e => by rw [e, Nat.beq_refl] at hb; cases hb
        simp only [hne, if_false]
        exact hK _ _ _ _ cx' h' hs'
    | _ => exact hK _ _ _ _ cx' h' hs'
  | loop x ih =>
    intro ro n k A hA hnd K Q hK s cx a w h hs
    rcases h with ⟨m, h⟩ | ⟨ι, S, μ, i, h1, h2⟩
    · refine wpIn_loop_ghost (fun m a w => ∃ s cx, SR A cx a w s ∧ unrollK (fun K s => vc E nt k J x K s) K m s) m ⟨s, cx, hs, h⟩ ?_
      rintro m a' w' ⟨s', cx', hs', h'⟩
      cases m with
      | zero => exact h'.elim
      | succ m =>
        refine ih hA hnd _ _ ?_ s' cx' a' w' h' hs'
        intro e s'' a'' w'' cx'' h'' hs''
        cases e with
        | normal => exact ⟨m, Nat.lt_succ_self m, s'', cx'', hs'', h''⟩
        | _ => exact hK _ _ _ _ cx'' h'' hs''
    obtain ⟨cx1, hs1⟩ := h1 A cx a w hA hs
    refine wpIn_loop_ghost (fun m a w => ∃ i cx, SR A cx a w (S i) ∧ μ i = m) (μ i) ⟨i, cx1, hs1, rfl⟩ ?_
    rintro m a' w' ⟨j, cx', hs', rfl⟩
    refine ih hA hnd _ _ ?_ (S j) cx' a' w' (h2 j) hs'
    intro e s'' a'' w'' cx'' h' hs''
    cases e with
    | normal =>
      obtain ⟨j', hlt, h3⟩ := h'
      obtain ⟨cx3, h4⟩ := h3 A cx'' a'' w'' hA hs''
      exact ⟨_, hlt, j', cx3, h4, rfl⟩
    | _ => exact hK _ _ _ _ cx'' h' hs''
  | exit id => intro ro n k A hA hnd K Q hK s cx a w h hs; exact wpIn_exit (hK _ _ _ _ cx h hs)
  | label l => intro ro n k A hA hnd K Q hK s cx a w h hs; exact wpIn_label (hK _ _ _ _ cx h hs)
  | scope x ih =>
    intro ro n k A hA hnd K Q hK s cx a w h hs
    have hro : ro = none := hnd.resolve_right (fun h => by cases h)
    subst hro
    refine wpIn_wide.2 (wp_scope_straight (wpIn_wide (n := n).1 (ih (ro := none) (n := n) hA (.inl rfl) _ _ ?_ s cx a w h hs)))
    intro e s' a' w' cx' h' hs'
    cases e with
    | goto l => exact h'.elim
    | _ => exact hK _ _ _ _ cx' h' hs'
  | ret => intro ro n k A hA hnd K Q hK s cx a w h hs; exact wpIn_ret (hK _ _ _ _ cx h hs)
  | rangeFunc g ps assign body iha ihb =>
    intro ro n k A hA hnd K Q hK s cx a w h hs
    have hro : ro = none := hnd.resolve_right (fun h => by cases h)
    subst hro
    unfold vc at h
    split at h
    · exact h.elim
    · rename_i asg hasg
      obtain ⟨ι, gf, i, T, N, m, m', gv, enc, full, tl, bs, os, bs', os', h1, h2, h3, h4, h5, h6, h7, h8, h9⟩ := h
      refine rf_ok hE hA hK hasg h1 h2 h3 h4 h5 ?_ h7 h8 h9 hs
      intro pre x l A' cx' a' w' hlen hA' hs' Q' hQ'
      refine ihb hA' (.inr (rfOK_iff h2).2.1) _ _ ?_ _ cx' a' w' (h6 pre x hlen) hs'
      intro e s2 a2 w2 cx2 hk hs2
      cases e with
      | normal => exact hQ' s2 a2 w2 cx2 hk hs2
      | _ => exact hk.elim
  | _ => intro ro n k A hA hnd K Q hK s cx a w h hs; exact h.elim
end
end Go.Proofs.YtggappbiedkopaaGreat.SX
