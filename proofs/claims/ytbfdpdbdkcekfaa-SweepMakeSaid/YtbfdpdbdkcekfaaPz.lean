/- The box of edges. Plain. -/
import Derived.Test.YtbfdpdbdkcekfaaPg
namespace Go.Proofs.Ytbfdpdbdkcekfaa
open Go SX
set_option linter.unusedVariables false
set_option maxRecDepth 100000

theorem fold_min (u v : Ed → Int) : ∀ (l : List Ed) (m : Int), l.foldl (fun m e => min2I (min2I m (u e)) (v e)) m ≤ m ∧ (∀ e ∈ l, l.foldl (fun m e => min2I (min2I m (u e)) (v e)) m ≤ u e ∧ l.foldl (fun m e => min2I (min2I m (u e)) (v e)) m ≤ v e) ∧
    (l.foldl (fun m e => min2I (min2I m (u e)) (v e)) m = m ∨ ∃ e ∈ l, u e = l.foldl (fun m e => min2I (min2I m (u e)) (v e)) m ∨ v e = l.foldl (fun m e => min2I (min2I m (u e)) (v e)) m)
  | [], m => ⟨Int.le_refl _, by simp, .inl rfl⟩
  | e :: l, m => by
    obtain ⟨h1, h2, h3⟩ := fold_min u v l (min2I (min2I m (u e)) (v e))
    simp only [List.foldl_cons]
    have q : min2I (min2I m (u e)) (v e) ≤ m ∧ min2I (min2I m (u e)) (v e) ≤ u e ∧ min2I (min2I m (u e)) (v e) ≤ v e ∧ (min2I (min2I m (u e)) (v e) = m ∨ min2I (min2I m (u e)) (v e) = u e ∨ min2I (min2I m (u e)) (v e) = v e) := by
      unfold min2I; repeat' split
      all_goals omega
    generalize l.foldl (fun m e => min2I (min2I m (u e)) (v e)) (min2I (min2I m (u e)) (v e)) = r at *
    refine ⟨by omega, fun f hf => ?_, ?_⟩
    · rcases List.mem_cons.1 hf with rfl | hf
      · omega
      · exact h2 f hf
    · rcases h3 with h3 | ⟨f, hf, h3⟩
      · rcases q.2.2.2 with q | q | q
        · exact .inl (by omega)
        · exact .inr ⟨e, by simp, .inl (by omega)⟩
        · exact .inr ⟨e, by simp, .inr (by omega)⟩
      · exact .inr ⟨f, by simp [hf], h3⟩
theorem fold_max (u v : Ed → Int) : ∀ (l : List Ed) (m : Int), m ≤ l.foldl (fun m e => max2I (max2I m (u e)) (v e)) m ∧ (∀ e ∈ l, u e ≤ l.foldl (fun m e => max2I (max2I m (u e)) (v e)) m ∧ v e ≤ l.foldl (fun m e => max2I (max2I m (u e)) (v e)) m) ∧
    (l.foldl (fun m e => max2I (max2I m (u e)) (v e)) m = m ∨ ∃ e ∈ l, u e = l.foldl (fun m e => max2I (max2I m (u e)) (v e)) m ∨ v e = l.foldl (fun m e => max2I (max2I m (u e)) (v e)) m)
  | [], m => ⟨Int.le_refl _, by simp, .inl rfl⟩
  | e :: l, m => by
    obtain ⟨h1, h2, h3⟩ := fold_max u v l (max2I (max2I m (u e)) (v e))
    simp only [List.foldl_cons]
    have q : m ≤ max2I (max2I m (u e)) (v e) ∧ u e ≤ max2I (max2I m (u e)) (v e) ∧ v e ≤ max2I (max2I m (u e)) (v e) ∧ (max2I (max2I m (u e)) (v e) = m ∨ max2I (max2I m (u e)) (v e) = u e ∨ max2I (max2I m (u e)) (v e) = v e) := by
      unfold max2I; repeat' split
      all_goals omega
    generalize l.foldl (fun m e => max2I (max2I m (u e)) (v e)) (max2I (max2I m (u e)) (v e)) = r at *
    refine ⟨by omega, fun f hf => ?_, ?_⟩
    · rcases List.mem_cons.1 hf with rfl | hf
      · omega
      · exact h2 f hf
    · rcases h3 with h3 | ⟨f, hf, h3⟩
      · rcases q.2.2.2 with q | q | q
        · exact .inl (by omega)
        · exact .inr ⟨e, by simp, .inl (by omega)⟩
        · exact .inr ⟨e, by simp, .inr (by omega)⟩
      · exact .inr ⟨f, by simp [hf], h3⟩
theorem fold_box : ∀ (l : List Ed) (b : Bx), l.foldl boxE b = ⟨⟨l.foldl (fun m e => min2I (min2I m e.a.x) e.b.x) b.lo.x, l.foldl (fun m e => min2I (min2I m e.a.y) e.b.y) b.lo.y⟩, ⟨l.foldl (fun m e => max2I (max2I m e.a.x) e.b.x) b.hi.x, l.foldl (fun m e => max2I (max2I m e.a.y) e.b.y) b.hi.y⟩⟩
  | [], b => rfl
  | e :: l, b => by simp only [List.foldl_cons]; rw [fold_box l]; rfl
def hasX (u v : Ed → Int) (x : Int) (es : List Ed) : Bool := es.any fun e => u e == x || v e == x
/-- the box of edges: all ends are in, and each side has one -/
theorem box_ok {es : List Ed} (h : 0 < es.length) : (∀ e ∈ es, (box es).lo.x ≤ e.a.x ∧ (box es).lo.x ≤ e.b.x ∧ e.a.x ≤ (box es).hi.x ∧ e.b.x ≤ (box es).hi.x ∧ (box es).lo.y ≤ e.a.y ∧ (box es).lo.y ≤ e.b.y ∧ e.a.y ≤ (box es).hi.y ∧ e.b.y ≤ (box es).hi.y) ∧
    hasX (·.a.x) (·.b.x) (box es).lo.x es = true ∧ hasX (·.a.x) (·.b.x) (box es).hi.x es = true ∧ hasX (·.a.y) (·.b.y) (box es).lo.y es = true ∧ hasX (·.a.y) (·.b.y) (box es).hi.y es = true := by
  have hb : box es = es.foldl boxE (boxZ es) := by
    obtain ⟨n, hn⟩ : ∃ n, es.length = n + 1 := ⟨es.length - 1, by omega⟩
    unfold box
    rw [hn]
    show (es.take (n + 1)).foldl boxE (boxZ es) = _
    rw [← hn, List.take_length]
  rw [hb, fold_box]
  dsimp only
  have hm : es.getD 0 default ∈ es := by rw [List.getD_eq_getElem?_getD, List.getElem?_eq_getElem h]; exact List.getElem_mem h
  obtain ⟨a1, a2, a3⟩ := fold_min (·.a.x) (·.b.x) es (boxZ es).lo.x
  obtain ⟨b1, b2, b3⟩ := fold_min (·.a.y) (·.b.y) es (boxZ es).lo.y
  obtain ⟨c1, c2, c3⟩ := fold_max (·.a.x) (·.b.x) es (boxZ es).hi.x
  obtain ⟨d1, d2, d3⟩ := fold_max (·.a.y) (·.b.y) es (boxZ es).hi.y
  have hx : ∀ {u v : Ed → Int} {r : Int}, (∃ e ∈ es, u e = r ∨ v e = r) → hasX u v r es = true := by
    rintro u v r ⟨e, he, h⟩
    unfold hasX
    rw [List.any_eq_true]
    exact ⟨e, he, by simpa using h⟩
  refine ⟨fun e he => ⟨(a2 e he).1, (a2 e he).2, (c2 e he).1, (c2 e he).2, (b2 e he).1, (b2 e he).2, (d2 e he).1, (d2 e he).2⟩, hx ?_, hx ?_, hx ?_, hx ?_⟩
  · rcases a3 with h | h
    · exact ⟨_, hm, .inl h.symm⟩
    · exact h
  · rcases c3 with h | h
    · exact ⟨_, hm, .inl h.symm⟩
    · exact h
  · rcases b3 with h | h
    · exact ⟨_, hm, .inl h.symm⟩
    · exact h
  · rcases d3 with h | h
    · exact ⟨_, hm, .inl h.symm⟩
    · exact h
end Go.Proofs.Ytbfdpdbdkcekfaa
