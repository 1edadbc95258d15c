/- What the edges of outlines are: bounded, none without length, closed. Plain. -/
import Derived.Test.YtpadocjddoenhaaPh
import Derived.Test.YtpadocjddoenhaaPm
namespace Go.Proofs.Ytpadocjddoenhaa
open Go SX
set_option linter.unusedVariables false
set_option maxRecDepth 100000

/-! ### pieces lead on -/
def Ch (p q : Pt) (ss : List Sg) : Prop := match ss with
  | [] => p = q
  | s :: ss => s.a = p ∧ Ch s.c q ss
theorem Ch.snoc {s : Sg} : ∀ {ss : List Sg} {p q : Pt}, Ch p q ss → s.a = q → Ch p s.c (ss ++ [s])
  | [], p, q, h, hs => ⟨hs.trans (show p = q from h).symm, rfl⟩
  | t :: ss, p, q, h, hs => ⟨h.1, h.2.snoc hs⟩
def sgOK (b : Pt) (s : SgSt) : Prop := Ch b s.here s.out ∧ ptIn 510 s.here ∧ (∀ q, s.pull = some q → ptIn 255 ⟨q.x, q.y⟩) ∧ ∀ x ∈ s.out, sgIn 510 x
theorem atV_eq {v : Vx} (h : ptIn 255 ⟨v.x, v.y⟩) : ptIn 510 (atV v) := by
  unfold ptIn at h; dsimp only at h
  unfold ptIn atV; dsimp only
  rw [w64_in (by omega), w64_in (by omega)]; omega
theorem halfV_eq {v u : Vx} (h : ptIn 255 ⟨v.x, v.y⟩) (h' : ptIn 255 ⟨u.x, u.y⟩) : ptIn 510 (halfV v u) := by
  unfold ptIn at h h'; dsimp only at h h'
  unfold ptIn halfV; dsimp only
  rw [w64_in (by omega), w64_in (by omega)]; omega
theorem sgEnd_ok {b : Pt} {s : SgSt} {p : Pt} (h : sgOK b s) (hp : ptIn 510 p) : Ch b p (sgEnd s p).out ∧ ∀ x ∈ (sgEnd s p).out, sgIn 510 x := by
  obtain ⟨h1, h2, h3, h4⟩ := h
  unfold sgEnd
  dsimp only
  cases hq : s.pull with
  | none =>
    refine ⟨h1.snoc (s := ⟨s.here, s.here, p, false⟩) rfl, fun x hx => ?_⟩
    rcases List.mem_append.1 hx with hx | hx
    · exact h4 x hx
    · obtain rfl : x = _ := by simpa using hx
      exact ⟨h2, h2, hp⟩
  | some q =>
    refine ⟨h1.snoc (s := ⟨s.here, atV q, p, true⟩) rfl, fun x hx => ?_⟩
    rcases List.mem_append.1 hx with hx | hx
    · exact h4 x hx
    · obtain rfl : x = _ := by simpa using hx
      exact ⟨h2, atV_eq (h3 q hq), hp⟩
theorem sgStep_ok {b : Pt} {s : SgSt} {v : Vx} (h : sgOK b s) (hv : ptIn 255 ⟨v.x, v.y⟩) : sgOK b (sgStep s v) := by
  unfold sgStep
  split
  · obtain ⟨e1, e2⟩ := sgEnd_ok h (atV_eq hv)
    exact ⟨e1, atV_eq hv, (fun q hq => by cases hq), e2⟩
  · split
    · rename_i q hq
      obtain ⟨e1, e2⟩ := sgEnd_ok h (halfV_eq (h.2.2.1 q hq) hv)
      exact ⟨e1, halfV_eq (h.2.2.1 q hq) hv, (fun q hq => by cases hq; exact hv), e2⟩
    · exact ⟨h.1, h.2.1, (fun q hq => by cases hq; exact hv), h.2.2.2⟩
theorem getD_mem {α : Type} [Inhabited α] {l : List α} {i : Nat} (h : i < l.length) : l.getD i default ∈ l := by
  rw [List.getD_eq_getElem?_getD, List.getElem?_eq_getElem h]; exact List.getElem_mem h
theorem segs_ok {c : List Vx} (h : ∀ v ∈ c, ptIn 255 ⟨v.x, v.y⟩) : ∃ b, Ch b b (segs c) ∧ ∀ x ∈ segs c, sgIn 510 x := by
  cases c with
  | nil => exact ⟨⟨0, 0⟩, rfl, by simp [segs]⟩
  | cons v c =>
    have hl : 0 < (v :: c).length := by simp
    have hg : ∀ i, ptIn 255 ⟨((v :: c).getD (i % (v :: c).length) default).x, ((v :: c).getD (i % (v :: c).length) default).y⟩ := fun i => h _ (getD_mem (Nat.mod_lt _ hl))
    have hg' : ∀ i, i < (v :: c).length → ptIn 255 ⟨((v :: c).getD i default).x, ((v :: c).getD i default).y⟩ := fun i hi => h _ (getD_mem hi)
    have hh : ptIn 510 (sgHere (v :: c)) := by
      unfold sgHere
      split
      · rename_i ho; exact atV_eq (hg' _ ho)
      · exact halfV_eq (hg' _ (by omega)) (hg' _ hl)
    have key : ∀ k, sgOK (sgHere (v :: c)) (sgTo (v :: c) k) := by
      intro k
      induction k with
      | zero => exact ⟨rfl, hh, (fun q hq => by cases hq), by simp [sgTo]⟩
      | succ k ih => rw [sgTo_succ]; exact sgStep_ok ih (hg _)
    exact ⟨sgHere (v :: c), sgEnd_ok (key _) hh⟩

/-! ### edges lead on -/
def ChE (p q : Pt) (es : List Ed) : Prop := match es with
  | [] => p = q
  | e :: es => e.a = p ∧ ChE e.b q es
theorem ChE.snoc {s : Ed} : ∀ {ss : List Ed} {p q : Pt}, ChE p q ss → s.a = q → ChE p s.b (ss ++ [s])
  | [], p, q, h, hs => ⟨hs.trans (show p = q from h).symm, rfl⟩
  | t :: ss, p, q, h, hs => ⟨h.1, h.2.snoc hs⟩
/-- an edge of a glyph -/
def edOK (e : Ed) : Prop := edIn 8160 e ∧ e.a ≠ e.b
def esOK (p q : Pt) (es : List Ed) : Prop := ChE p q es ∧ ∀ e ∈ es, edOK e
theorem putE_ok {p a b : Pt} {es : List Ed} (h : esOK p a es) (ha : ptIn 8160 a) (hb : ptIn 8160 b) : esOK p b (putE es a b) := by
  unfold putE
  split
  · rename_i he; exact he ▸ h
  · rename_i he
    refine ⟨h.1.snoc (s := ⟨a, b⟩) rfl, fun x hx => ?_⟩
    rcases List.mem_append.1 hx with hx | hx
    · exact h.2 x hx
    · obtain rfl : x = _ := by simpa using hx
      exact ⟨⟨ha, hb⟩, he⟩
theorem linP_in {s : Sg} {k : Int} (hk : 0 ≤ k ∧ k ≤ 4) (h : sgIn 510 s) : ptIn 8160 (linP s k) := by
  obtain ⟨⟨a1, a2, a3, a4⟩, ⟨b1, b2, b3, b4⟩, c1, c2, c3, c4⟩ := h
  have h1 := lin_hull (lo := -510) (hi := 510) hk (x := s.a.x) (y := s.b.x) (z := s.c.x) (by omega) (by omega) (by omega)
  have h2 := lin_hull (lo := -510) (hi := 510) hk (x := s.a.y) (y := s.b.y) (z := s.c.y) (by omega) (by omega) (by omega)
  unfold ptIn linP; dsimp only; omega
theorem sgIn.up {s : Sg} (h : sgIn 510 s) : sgIn 1100 s := ⟨h.1.up (by decide), h.2.1.up (by decide), h.2.2.up (by decide)⟩
theorem segE_ok {p : Pt} {es : List Ed} {s : Sg} (hs : sgIn 510 s) (h : esOK p (linP s 0) es) : esOK p (linP s 4) (segE es s) := by
  have hu := hs.up
  have h0 : small s.a = linP s 0 := by rw [linP_zero, small_eq (n := 1100) (by decide) hu.1]
  have h4 : small s.c = linP s 4 := by
    rw [small_eq (n := 1100) (by decide) hu.2.2]
    unfold linP lin
    congr 1 <;> omega
  have i0 := linP_in (k := 0) (by decide) hs
  have i1 := linP_in (k := 1) (by decide) hs
  have i2 := linP_in (k := 2) (by decide) hs
  have i3 := linP_in (k := 3) (by decide) hs
  have i4 := linP_in (k := 4) (by decide) hs
  unfold segE
  rw [onP_lin (k := 1) (by decide) hu, onP_lin (k := 2) (by decide) hu, onP_lin (k := 3) (by decide) hu, onP_lin (k := 4) (by decide) hu, h0, h4]
  split
  · exact putE_ok h i0 i4
  · exact putE_ok (putE_ok (putE_ok (putE_ok h i0 i1) i1 i2) i2 i3) i3 i4
theorem lin_c {s : Sg} : linP s 4 = ⟨16 * s.c.x, 16 * s.c.y⟩ := by
  unfold linP lin
  congr 1 <;> omega
theorem edges_ok {ss : List Sg} {p q : Pt} (hc : Ch p q ss) (h : ∀ s ∈ ss, sgIn 510 s) : esOK ⟨16 * p.x, 16 * p.y⟩ ⟨16 * q.x, 16 * q.y⟩ (edges ss) := by
  have key : ∀ (ss : List Sg) (p : Pt) (P : Pt) (es : List Ed), Ch p q ss → (∀ s ∈ ss, sgIn 510 s) → esOK P ⟨16 * p.x, 16 * p.y⟩ es → esOK P ⟨16 * q.x, 16 * q.y⟩ (ss.foldl segE es) := by
    intro ss
    induction ss with
    | nil => intro p P es hc h he; have hc : p = q := hc; exact hc ▸ he
    | cons s ss ih =>
      intro p P es hc h he
      obtain ⟨rfl, hc⟩ := hc
      refine ih s.c P (segE es s) hc (fun x hx => h x (by simp [hx])) ?_
      have := segE_ok (h s (by simp)) (by rw [linP_zero]; exact he)
      rwa [lin_c] at this
  exact key ss p _ [] hc h ⟨rfl, by simp⟩
/-- a contour's edges: closed -/
def closedE (es : List Ed) : Prop := ∃ b, esOK b b es
theorem vs_in {cs : List (List Vx)} {c : List Vx} (h : c ∈ outline cs) : ∀ v ∈ c, ptIn 255 ⟨v.x, v.y⟩ := fun v hv => by
  have := ((outline_in cs).2 c h).2.2 v hv
  unfold ptIn; dsimp only; omega
theorem pathAll_ok {cs : List (List Vx)} : ∀ ss ∈ pathAll (outline cs), closedE (edges ss) ∧ (∀ s ∈ ss, sgIn 510 s) ∧ ss.length ≤ 13 := by
  intro ss hs
  obtain ⟨c, hc, rfl⟩ := List.mem_map.1 hs
  obtain ⟨b, h1, h2⟩ := segs_ok (vs_in hc)
  have h3 := segs_len c
  have h4 := ((outline_in cs).2 c hc).2.1
  exact ⟨⟨_, edges_ok h1 h2⟩, h2, by omega⟩
theorem contours_ok {cs : List (List Vx)} : ∀ es ∈ contours cs, closedE es ∧ es.length ≤ 52 := by
  intro es he
  obtain ⟨ss, hs, rfl⟩ := List.mem_map.1 he
  obtain ⟨h1, _, h3⟩ := pathAll_ok ss hs
  have := edges_len ss
  exact ⟨h1, by omega⟩
theorem glyph_flat (cs : List (List Vx)) : glyph cs = (contours cs).flatten := by
  unfold glyph contours flatAll
  rw [List.flatMap_def]
theorem contours_len (cs : List (List Vx)) : (contours cs).length ≤ 8 := by
  have := (outlines_in cs).1
  unfold contours; simpa using this
theorem glyph_ok (cs : List (List Vx)) : (∀ e ∈ glyph cs, edOK e) ∧ (glyph cs).length ≤ 416 := by
  refine ⟨fun e he => ?_, ?_⟩
  · rw [glyph_flat] at he
    obtain ⟨es, h1, h2⟩ := List.mem_flatten.1 he
    obtain ⟨⟨b, hb⟩, _⟩ := contours_ok es h1
    exact hb.2 e h2
  · have h1 := flatAll_len (l := outlines cs) (outlines_in cs).2
    have h2 := (outlines_in cs).1
    have h3 : (outlines cs).length * (4 * 13) ≤ 8 * (4 * 13) := Nat.mul_le_mul_right _ h2
    exact Nat.le_trans h1 h3
/-- one to the next -/
theorem ChE.next : ∀ {es : List Ed} {p q : Pt} {k : Nat}, ChE p q es → k + 1 < es.length → (es.getD k default).b = (es.getD (k + 1) default).a
  | [], _, _, _, _, h => by simp at h
  | e :: [], _, _, k, _, h => by simp at h
  | e :: f :: es, p, q, k, h, hk => by
    cases k with
    | zero => exact h.2.1.symm
    | succ k => exact ChE.next (es := f :: es) h.2 (by simpa using hk)
theorem ChE.last : ∀ {es : List Ed} {p q : Pt}, ChE p q es → 0 < es.length → (es.getD (es.length - 1) default).b = q
  | [], _, _, _, h => by simp at h
  | e :: [], p, q, h, _ => h.2
  | e :: f :: es, p, q, h, _ => ChE.last (es := f :: es) h.2 (by simp)
theorem ChE.first : ∀ {es : List Ed} {p q : Pt}, ChE p q es → 0 < es.length → (es.getD 0 default).a = p
  | [], _, _, _, h => by simp at h
  | e :: es, p, q, h, _ => h.1
theorem closed_next {es : List Ed} (h : closedE es) {k : Nat} (hk : k < es.length) : (es.getD k default).b = (es.getD ((k + 1) % es.length) default).a := by
  obtain ⟨b, h, _⟩ := h
  by_cases hn : k + 1 < es.length
  · rw [Nat.mod_eq_of_lt hn]; exact h.next hn
  · obtain rfl : k = es.length - 1 := by omega
    rw [show es.length - 1 + 1 = es.length by omega, Nat.mod_self, h.last (by omega), h.first (by omega)]
end Go.Proofs.Ytpadocjddoenhaa
