/- The symbolic executor, part b: what its abstract values say of a machine's state, and that it stays true while memory grows. -/
import Derived.Test.YtggappbiedkopaaGreatSa
import Derived.Maps.AppendAt
namespace Go.Proofs.YtggappbiedkopaaGreat.SX
open Go Go.RowKit
set_option linter.unusedVariables false

/-- The value y is the data l, read from blocks of S. -/
def Den (w : World) (S : Nat → Prop) : L → Value → Prop
  | .lit x, y => y = x ∧ one x = true
  | .sl sz n f, y => ∃ A cap, y = .slice A n cap ∧ n ≤ cap ∧ cap ≤ maxLen ∧
      (0 < n → ∃ ad, A = some ad ∧ S ad.block ∧ ∀ i, i < n → ∀ j, j < sz → ∃ z, w.cell? (ad.add (i * sz + j)) = some z ∧ Den w S (f i j) z)
  | .pt m g, y => ∃ ad, y = .pointer (some ad) ∧ S ad.block ∧ ∀ j, j < m → ∃ z, w.cell? (ad.add j) = some z ∧ Den w S (g j) z

theorem Den.one {w : World} {S : Nat → Prop} {l : L} {y : Value} (h : Den w S l y) : one y = true := by
  cases l with
  | lit x => obtain ⟨rfl, h⟩ := h; exact h
  | sl sz n f => obtain ⟨A, cap, rfl, _⟩ := h; rfl
  | pt m g => obtain ⟨ad, rfl, _⟩ := h; rfl

theorem Den.mono {w w' : World} {S S' : Nat → Prop} (hS : ∀ b, S b → S' b) (hw : ∀ b, S b → w'.heap[b]? = w.heap[b]?) :
    ∀ {l : L} {y : Value}, Den w S l y → Den w' S' l y := by
  intro l
  induction l with
  | lit x => intro y h; exact h
  | sl sz n f ih =>
    intro y h
    obtain ⟨A, cap, rfl, h1, h2, h3⟩ := h
    refine ⟨A, cap, rfl, h1, h2, fun h0 => ?_⟩
    obtain ⟨ad, rfl, h4, h5⟩ := h3 h0
    refine ⟨ad, rfl, hS _ h4, fun i hi j hj => ?_⟩
    obtain ⟨z, hz, hd⟩ := h5 i hi j hj
    refine ⟨z, ?_, ih i j hd⟩
    rw [World.cell?_of_block (w := w)]
    · exact hz
    · have : (ad.add (i * sz + j)).block = ad.block := by unfold Addr.add; split <;> rfl
      rw [this]; exact hw _ h4
  | pt m g ih =>
    intro y h
    obtain ⟨ad, rfl, h4, h5⟩ := h
    refine ⟨ad, rfl, hS _ h4, fun j hj => ?_⟩
    obtain ⟨z, hz, hd⟩ := h5 j hj
    refine ⟨z, ?_, ih j hd⟩
    rw [World.cell?_of_block (w := w)]
    · exact hz
    · have : (ad.add j).block = ad.block := by unfold Addr.add; split <;> rfl
      rw [this]; exact hw _ h4

theorem add_block (ad : Addr) (n : Nat) : (ad.add n).block = ad.block := by unfold Addr.add; split <;> rfl
theorem add_add (a : Addr) (i j : Nat) : (a.add i).add j = a.add (i + j) := by
  unfold Addr.add
  by_cases hi : i = 0 <;> by_cases hj : j = 0 <;> simp [hi, hj, Nat.add_assoc]

/-- names: which are taken, the block of each, the value of each; the sealed blocks. -/
structure Cx where
  D : Nat → Prop
  β : Nat → Nat
  η : Nat → Value
  S : Nat → Prop

def Cx.SB (cx : Cx) (base : Nat) (fr : Bool) : Nat → Prop := fun b => cx.S b ∧ (fr = true → base ≤ b)

def crel (base : Nat) (cx : Cx) (w : World) (c : C) (y : Value) : Prop := match c with
  | .any => True
  | .k x => y = x
  | .v x => y = x
  | .p i off => cx.D i ∧ y = .pointer (some ⟨cx.β i, off, none⟩)
  | .s i cnt => cx.D i ∧ y = .slice (some ⟨cx.β i, 0, none⟩) cnt cnt
  | .h i => cx.D i ∧ y = cx.η i
  | .sl fr sz n f => Den w (cx.SB base fr) (.sl sz n f) y
  | .ep fr m g => ∃ ad, y = .pointer (some ad) ∧ cx.SB base fr ad.block ∧ ∀ j, j < m → ∃ z, w.cell? (ad.add j) = some z ∧ Den w (cx.SB base fr) (g j) z
  | .eh i sz idx j => cx.D i ∧ ∃ g n cap, cx.η i = .slice (some ⟨g, 0, none⟩) n cap ∧ y = .pointer (some ⟨g, idx * sz + j, none⟩)
  | .f g caps => (∀ i ∈ caps, cx.D i) ∧ y = .func (.func g) #[] (caps.map fun i => Value.pointer (some ⟨cx.β i, 0, none⟩)).toArray

def crels (base : Nat) (cx : Cx) (w : World) : List C → List Value → Prop
  | [], [] => True
  | c :: cs, y :: ys => crel base cx w c y ∧ one y = true ∧ crels base cx w cs ys
  | _, _ => False

def trel (base : Nat) (cx : Cx) (w : World) : List (Bool × List C) → List Value → Prop
  | [], [] => True
  | (b, cs) :: vs, y :: ys => (match b with
      | true => ∃ zs, y = .agg zs.toArray ∧ crels base cx w cs zs
      | false => ∃ z, y = z ∧ crels base cx w cs [z]) ∧ trel base cx w vs ys
  | _, _ => False

def svrel (base : Nat) (cx : Cx) (w : World) (x : SV) (y : Value) : Prop := match x with
  | .o c => crel base cx w c y ∧ (match c with
      | .any => True
      | .k z => y = z
      | _ => one y = true)
  | .a cs => ∃ ys, y = .agg ys.toArray ∧ crels base cx w cs ys
  | .t vs => ∃ ys, y = .tuple ys.toArray ∧ trel base cx w vs ys

/-- memory -/
structure Mem (base : Nat) (cx : Cx) (w : World) (s : SS) : Prop where
  bl : ∀ i T cs, s.bl i = some (T, cs) → cx.D i ∧ base ≤ cx.β i ∧ ¬ cx.S (cx.β i) ∧ ∃ ys, w.heap[cx.β i]? = some (.cells ys.toArray T (0, 0)) ∧ crels base cx w cs ys
  inj : ∀ i j, (∃ b, s.bl i = some b) → (∃ b, s.bl j = some b) → cx.β i = cx.β j → i = j
  ow : ∀ i r, s.ow i = some r → cx.D i ∧ ∃ cells, w.ownsRow base r.T r.sz (cx.η i) r.n cells ∧
      ∀ a, a < r.n → ∀ j, j < r.sz → ∃ z, cells[a * r.sz + j]? = some z ∧ Den w (cx.SB base r.fr) (r.f a j) z
  owS : ∀ i r g, s.ow i = some r → (cx.η i).ownBlock = some g → ¬ cx.S g ∧ ∀ j, (∃ b, s.bl j = some b) → cx.β j ≠ g
  owi : ∀ i j r r' g, s.ow i = some r → s.ow j = some r' → (cx.η i).ownBlock = some g → (cx.η j).ownBlock = some g → i = j

/-- where the code began: names, world; blocks from base on are the call's own -/
structure An where
  base : Nat
  cx : Cx
  w : World
/-- the blocks of the names that were there -/
def An.W (A : An) : Nat → Prop := fun b => (∃ i, A.cx.D i ∧ A.cx.β i = b) ∨ ∃ i, A.cx.D i ∧ (A.cx.η i).ownBlock = some b

theorem own_same {base e sz n : Nat} {w w' : World} {v : Value} {xs : List Value} (h : w.ownsRow base e sz v n xs) (hb : ∀ g, v.ownBlock = some g → w'.heap[g]? = w.heap[g]?) : w'.ownsRow base e sz v n xs :=
  ⟨h.1, h.2.imp id fun ⟨g, cap, cur, hv, hg, hh, r⟩ => ⟨g, cap, cur, hv, hg, by rw [hb g (by rw [hv]; rfl)]; exact hh, r⟩⟩

/-- From (cx, w) to (cx', w'): names lo .. hi - 1 may be new, and blocks; of the old blocks only those of W have turned. -/
structure Fr (cx cx' : Cx) (w w' : World) (W : Nat → Prop) (lo hi : Nat) : Prop where
  D : ∀ i, cx.D i → cx'.D i
  D' : ∀ i, cx'.D i → cx.D i ∨ (lo ≤ i ∧ i < hi)
  β : ∀ i, cx.D i → cx'.β i = cx.β i
  η : ∀ i, cx.D i → cx'.η i = cx.η i
  S : ∀ b, cx.S b → cx'.S b
  S' : ∀ b, cx'.S b → cx.S b ∨ (w.heap.size ≤ b ∧ b < w'.heap.size)
  size : w.heap.size ≤ w'.heap.size
  os : w'.os = w.os
  tape : w'.tape = w.tape
  output : w'.output = w.output
  blk : ∀ b, b < w.heap.size → ¬ W b → w'.heap[b]? = w.heap[b]?
  nβ : ∀ i, cx'.D i → ¬ cx.D i → w.heap.size ≤ cx'.β i
  nη : ∀ i g, cx'.D i → ¬ cx.D i → (cx'.η i).ownBlock = some g → w.heap.size ≤ g ∨ W g

theorem Fr.refl (cx : Cx) (w : World) (W : Nat → Prop) (lo : Nat) : Fr cx cx w w W lo lo :=
  ⟨fun _ h => h, fun _ h => .inl h, fun _ _ => rfl, fun _ _ => rfl, fun _ h => h, fun _ h => .inl h, Nat.le_refl _, rfl, rfl, rfl, fun _ _ _ => rfl, fun _ h h' => absurd h h', fun _ _ h h' => absurd h h'⟩

section
variable {base : Nat} {cx cx' : Cx} {w w' : World} {W : Nat → Prop} {lo hi : Nat}

theorem Fr.den (h : Fr cx cx' w w' W lo hi) (hs : ∀ b, cx.S b → b < w.heap.size ∧ ¬ W b) {fr : Bool} {l : L} {y : Value} (hd : Den w (cx.SB base fr) l y) : Den w' (cx'.SB base fr) l y :=
  hd.mono (fun b hb => ⟨h.S b hb.1, hb.2⟩) (fun b hb => h.blk b (hs b hb.1).1 (hs b hb.1).2)

theorem Fr.crel (h : Fr cx cx' w w' W lo hi) (hs : ∀ b, cx.S b → b < w.heap.size ∧ ¬ W b) {c : C} {y : Value} (hc : crel base cx w c y) : crel base cx' w' c y := by
  cases c with
  | any => trivial
  | k x => exact hc
  | v x => exact hc
  | p i off => exact ⟨h.D i hc.1, by rw [h.β i hc.1]; exact hc.2⟩
  | s i cnt => exact ⟨h.D i hc.1, by rw [h.β i hc.1]; exact hc.2⟩
  | h i => exact ⟨h.D i hc.1, by rw [h.η i hc.1]; exact hc.2⟩
  | sl fr sz n f => exact h.den hs hc
  | ep fr m g =>
    obtain ⟨ad, rfl, h1, h2⟩ := hc
    refine ⟨ad, rfl, ⟨h.S _ h1.1, h1.2⟩, fun j hj => ?_⟩
    obtain ⟨z, hz, hd⟩ := h2 j hj
    refine ⟨z, ?_, h.den hs hd⟩
    rw [World.cell?_of_block (w := w)]
    · exact hz
    · rw [add_block]; exact h.blk _ (hs _ h1.1).1 (hs _ h1.1).2
  | eh i sz idx j => obtain ⟨h1, g, n, cap, h2, h3⟩ := hc; exact ⟨h.D i h1, g, n, cap, by rw [h.η i h1]; exact h2, h3⟩
  | f g caps =>
    refine ⟨fun i hi => h.D i (hc.1 i hi), ?_⟩
    rw [hc.2]
    congr 2
    exact List.map_congr_left fun i hi => by rw [h.β i (hc.1 i hi)]

theorem Fr.crels (h : Fr cx cx' w w' W lo hi) (hs : ∀ b, cx.S b → b < w.heap.size ∧ ¬ W b) : ∀ {cs : List C} {ys : List Value}, crels base cx w cs ys → crels base cx' w' cs ys
  | [], [], _ => trivial
  | c :: cs, y :: ys, hc => ⟨h.crel hs hc.1, hc.2.1, Fr.crels h hs hc.2.2⟩
  | [], _ :: _, hc => hc.elim
  | _ :: _, [], hc => hc.elim

theorem Fr.trel (h : Fr cx cx' w w' W lo hi) (hs : ∀ b, cx.S b → b < w.heap.size ∧ ¬ W b) : ∀ {vs : List (Bool × List C)} {ys : List Value}, trel base cx w vs ys → trel base cx' w' vs ys
  | [], [], _ => trivial
  | (b, cs) :: vs, y :: ys, hc => by
    refine ⟨?_, Fr.trel h hs hc.2⟩
    have h1 := hc.1
    cases b with
    | true => obtain ⟨zs, rfl, h2⟩ := h1; exact ⟨zs, rfl, h.crels hs h2⟩
    | false => obtain ⟨z, rfl, h2⟩ := h1; exact ⟨_, rfl, h.crels hs h2⟩
  | [], _ :: _, hc => hc.elim
  | (_, _) :: _, [], hc => hc.elim

theorem Fr.svrel (h : Fr cx cx' w w' W lo hi) (hs : ∀ b, cx.S b → b < w.heap.size ∧ ¬ W b) {x : SV} {y : Value} (hc : svrel base cx w x y) : svrel base cx' w' x y := by
  cases x with
  | o c => exact ⟨h.crel hs hc.1, hc.2⟩
  | a cs => obtain ⟨ys, rfl, h2⟩ := hc; exact ⟨ys, rfl, h.crels hs h2⟩
  | t vs => obtain ⟨ys, rfl, h2⟩ := hc; exact ⟨ys, rfl, h.trel hs h2⟩
end

/-! ### lists of cells -/
section
variable {base : Nat} {cx : Cx} {w : World}
theorem crels.length : ∀ {cs : List C} {ys : List Value}, crels base cx w cs ys → cs.length = ys.length
  | [], [], _ => rfl
  | _ :: _, _ :: _, h => by simp [crels.length h.2.2]
  | [], _ :: _, h => h.elim
  | _ :: _, [], h => h.elim
theorem crels.append : ∀ {cs ds : List C} {ys zs : List Value}, crels base cx w cs ys → crels base cx w ds zs → crels base cx w (cs ++ ds) (ys ++ zs)
  | [], _, [], _, _, h' => h'
  | _ :: _, _, _ :: _, _, h, h' => ⟨h.1, h.2.1, crels.append h.2.2 h'⟩
  | [], _, _ :: _, _, h, _ => h.elim
  | _ :: _, _, [], _, h, _ => h.elim
theorem crels.take : ∀ (n : Nat) {cs : List C} {ys : List Value}, crels base cx w cs ys → crels base cx w (cs.take n) (ys.take n)
  | 0, _, _, _ => trivial
  | _ + 1, [], [], _ => trivial
  | n + 1, _ :: _, _ :: _, h => ⟨h.1, h.2.1, crels.take n h.2.2⟩
  | _ + 1, [], _ :: _, h => h.elim
  | _ + 1, _ :: _, [], h => h.elim
theorem crels.drop : ∀ (n : Nat) {cs : List C} {ys : List Value}, crels base cx w cs ys → crels base cx w (cs.drop n) (ys.drop n)
  | 0, _, _, h => h
  | _ + 1, [], [], _ => trivial
  | n + 1, _ :: _, _ :: _, h => crels.drop n h.2.2
  | _ + 1, [], _ :: _, h => h.elim
  | _ + 1, _ :: _, [], h => h.elim
theorem crels.lay {cs new : List C} {ys zs : List Value} (off : Nat) (h : crels base cx w cs ys) (h' : crels base cx w new zs) : crels base cx w (lay cs off new) (ys.take off ++ (zs ++ ys.drop (off + zs.length))) := by
  unfold SX.lay
  rw [h'.length]
  exact (h.take off).append (h'.append (h.drop _))
theorem crels.one : ∀ {cs : List C} {ys : List Value}, crels base cx w cs ys → ∀ y ∈ ys, one y = true
  | [], [], _, y, hy => by cases hy
  | _ :: _, _ :: _, h, y, hy => by
    rcases List.mem_cons.1 hy with rfl | hy
    · exact h.2.1
    · exact crels.one h.2.2 y hy
  | [], _ :: _, h, _, _ => h.elim
  | _ :: _, [], h, _, _ => h.elim
theorem crels.map_k : ∀ (xs : List Value), (∀ x ∈ xs, SX.one x = true) → crels base cx w (xs.map C.k) xs
  | [], _ => trivial
  | x :: xs, h => ⟨rfl, h x (List.mem_cons_self ..), crels.map_k xs fun y hy => h y (List.mem_cons_of_mem _ hy)⟩
theorem normF_ok {x : SV} {y : Value} (h : svrel base cx w x y) : svrel base cx w (normF x) y := by
  unfold normF
  split
  · rename_i g a b
    split
    · rename_i ha
      split
      · rename_i hb
        have h1 : y = .func (.func g) a b := h.1
        have ha : a = #[] := by simpa using ha
        have hb : b = #[] := by simpa using hb
        subst ha; subst hb
        exact ⟨⟨fun i hi => (List.not_mem_nil hi).elim, h1⟩, by rw [h1]; rfl⟩
      · exact h
    · exact h
  · exact h
theorem Den.crel {fr : Bool} {l : L} {y : Value} (h : Den w (cx.SB base fr) l y) : crel base cx w (ofL fr l) y := by
  cases l with
  | lit x => exact h.1
  | sl sz n f => exact h
  | pt m g => exact h
end

end Go.Proofs.YtggappbiedkopaaGreat.SX
