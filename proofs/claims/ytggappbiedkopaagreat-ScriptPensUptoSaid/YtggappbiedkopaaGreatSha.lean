/- The symbolic executor, part ha: calls of closures that write what they captured. -/
import Derived.Test.YtggappbiedkopaaGreatSh
namespace Go.Proofs.YtggappbiedkopaaGreat.SX
open Go Go.RowKit
set_option linter.unusedVariables false
set_option linter.unusedSimpArgs false

theorem look_mem {α : Type} : ∀ {xs : List (Nat × α)} {i : Nat} {x : α}, look xs i = some x → (i, x) ∈ xs
  | [], i, x, h => by cases h
  | (j, y) :: xs, i, x, h => by
    unfold look at h
    split at h
    · rename_i hb; rw [beq_eq hb]; simp only [Option.some.injEq] at h; subst h; simp
    · exact List.mem_cons_of_mem _ (look_mem h)
theorem hasN_iff {x : Nat} : ∀ {ys : List Nat}, hasN x ys = true ↔ x ∈ ys
  | [] => by simp [hasN]
  | y :: ys => by
    unfold hasN
    split
    · rename_i h; rw [beq_eq h]; simp
    · rename_i h
      have hne : x ≠ y := fun e => by rw [e, Nat.beq_refl] at h; cases h
      rw [hasN_iff]; simp [hne]
theorem distinctN_nodup : ∀ {xs : List Nat}, distinctN xs = true → xs.Nodup
  | [], _ => List.nodup_nil
  | x :: xs, h => by
    unfold distinctN at h
    split at h
    · cases h
    rename_i hn
    exact List.nodup_cons.2 ⟨(fun e => by rw [hasN_iff.2 e] at hn; cases hn), distinctN_nodup h⟩

def cellsV (q : Nat) (v : CV) : List C := match v with
  | .d ls => ls.map (ofL false)
  | .r _ => [.h q]

theorem outB_look {q : Nat} : ∀ {is : List Nat} {ts : List (Nat × CV)} {out : List CV} {i T : Nat} {cs : List C}, look (outB q is ts out) i = some (T, cs) →
    ∃ (j : Nat) (v0 v : CV), is[j]? = some i ∧ ts[j]? = some (T, v0) ∧ out[j]? = some v ∧ cs = cellsV q v
  | [], _, _, i, T, cs, h => by cases h
  | _ :: _, [], _, i, T, cs, h => by cases h
  | _ :: _, _ :: _, [], i, T, cs, h => by cases h
  | i0 :: is, (T0, v0) :: ts, v :: out, i, T, cs, h => by
    unfold outB look at h
    split at h
    · rename_i hb
      simp only [Option.some.injEq, Prod.mk.injEq] at h
      obtain ⟨rfl, rfl⟩ := h
      exact ⟨0, v0, v, by rw [beq_eq hb]; rfl, rfl, rfl, by cases v <;> rfl⟩
    · obtain ⟨j, u0, u, h1, h2, h3, h4⟩ := outB_look h
      exact ⟨j + 1, u0, u, h1, h2, h3, h4⟩
theorem outB_at {q : Nat} : ∀ {is : List Nat} {ts : List (Nat × CV)} {out : List CV} {j i T : Nat} {v0 v : CV}, is.Nodup → is[j]? = some i → ts[j]? = some (T, v0) → out[j]? = some v → look (outB q is ts out) i = some (T, cellsV q v)
  | [], _, _, j, i, T, v0, v, _, h, _, _ => by simp at h
  | _ :: _, [], _, j, i, T, v0, v, _, _, h, _ => by simp at h
  | _ :: _, _ :: _, [], j, i, T, v0, v, _, _, _, h => by simp at h
  | i0 :: is, (T0, u0) :: ts, u :: out, j, i, T, v0, v, hn, h1, h2, h3 => by
    obtain ⟨hn1, hn2⟩ := List.nodup_cons.1 hn
    unfold outB look
    cases j with
    | zero =>
      simp only [List.getElem?_cons_zero, Option.some.injEq, Prod.mk.injEq] at h1 h2 h3
      obtain ⟨rfl, rfl⟩ := h2
      subst h1
      subst h3
      rw [Nat.beq_refl]
      cases u <;> rfl
    | succ j =>
      simp only [List.getElem?_cons_succ] at h1 h2 h3
      have hne : i ≠ i0 := fun e => hn1 (e ▸ List.mem_of_getElem? h1)
      have hb : Nat.beq i i0 = false := by
        cases hb : Nat.beq i i0
        · rfl
        · exact absurd (beq_eq hb) hne
      rw [hb]
      exact outB_at hn2 h1 h2 h3
theorem outB_key {q : Nat} : ∀ {is : List Nat} {ts : List (Nat × CV)} {out : List CV} {p : Nat × Nat × List C}, p ∈ outB q is ts out → ∃ (j : Nat) (T : Nat) (v0 v : CV), is[j]? = some p.1 ∧ ts[j]? = some (T, v0) ∧ out[j]? = some v
  | [], _, _, p, h => by cases h
  | _ :: _, [], _, p, h => by cases h
  | _ :: _, _ :: _, [], p, h => by cases h
  | i0 :: is, (T0, v0) :: ts, v :: out, p, h => by
    unfold outB at h
    rcases List.mem_cons.1 h with rfl | h
    · exact ⟨0, T0, v0, v, rfl, rfl, rfl⟩
    · obtain ⟨j, T, u0, u, h1, h2, h3⟩ := outB_key h
      exact ⟨j + 1, T, u0, u, h1, h2, h3⟩

theorem outR_mem : ∀ {out : List CV} {r : OR}, outR out = some r → ∃ j : Nat, out[j]? = some (.r r)
  | [], r, h => by cases h
  | v :: out, r, h => by
    unfold outR at h
    split at h
    · obtain ⟨j, h1⟩ := outR_mem h; exact ⟨j + 1, h1⟩
    · simp only [Option.some.injEq] at h; subst h; exact ⟨0, rfl⟩
theorem outR_some : ∀ {out : List CV} {j : Nat} {r : OR}, out[j]? = some (.r r) → ∃ r', outR out = some r'
  | [], j, r, h => by simp at h
  | v :: out, j, r, h => by
    unfold outR
    cases v with
    | r r' => exact ⟨r', rfl⟩
    | d ls =>
      cases j with
      | zero => simp at h
      | succ j => exact outR_some (out := out) (j := j) (r := r) (by simpa using h)

/-- what 'likeV' says -/
theorem likeV_ok : ∀ {ts : List (Nat × CV)} {out : List CV} {seen : Bool}, likeV ts out seen = true → ts.length = out.length ∧
    (∀ (j T : Nat) (r : OR), ts[j]? = some (T, .r r) → seen = false ∧ ∃ r', out[j]? = some (.r r') ∧ r.T = r'.T ∧ r.sz = r'.sz) ∧
    (∀ (j T : Nat) (ls : List L), ts[j]? = some (T, .d ls) → ∃ ls', out[j]? = some (.d ls')) ∧
    (∀ (j j' T T' : Nat) (r r' : OR), ts[j]? = some (T, .r r) → ts[j']? = some (T', .r r') → j = j')
  | [], [], seen, _ => ⟨rfl, by simp, by simp, by simp⟩
  | (T0, .d ls) :: ts, .d ls' :: out, seen, h => by
    unfold likeV at h
    split at h
    · obtain ⟨h1, h2, h3, h4⟩ := likeV_ok h
      refine ⟨by simp [h1], fun j T r hj => ?_, fun j T l hj => ?_, fun j j' T T' r r' hj hj' => ?_⟩
      · cases j with
        | zero => simp at hj
        | succ j => simpa using h2 j T r (by simpa using hj)
      · cases j with
        | zero => exact ⟨ls', rfl⟩
        | succ j => simpa using h3 j T l (by simpa using hj)
      · cases j with
        | zero => simp at hj
        | succ j => cases j' with
          | zero => simp at hj'
          | succ j' => rw [h4 j j' T T' r r' (by simpa using hj) (by simpa using hj')]
    · cases h
  | (T0, .r r0) :: ts, .r r0' :: out, seen, h => by
    unfold likeV at h
    split at h
    · rename_i hc
      simp only [Bool.and_eq_true] at hc
      obtain ⟨h1, h2, h3, h4⟩ := likeV_ok h
      refine ⟨by simp [h1], fun j T r hj => ?_, fun j T l hj => ?_, fun j j' T T' r r' hj hj' => ?_⟩
      · cases j with
        | zero =>
          simp only [List.getElem?_cons_zero, Option.some.injEq, Prod.mk.injEq, CV.r.injEq] at hj
          obtain ⟨rfl, rfl⟩ := hj
          exact ⟨rfl, r0', rfl, beq_eq hc.1, beq_eq hc.2⟩
        | succ j => exact absurd (h2 j T r (by simpa using hj)).1 (by simp)
      · cases j with
        | zero => simp at hj
        | succ j => simpa using h3 j T l (by simpa using hj)
      · cases j with
        | zero => cases j' with
          | zero => rfl
          | succ j' => exact absurd (h2 j' T' r' (by simpa using hj')).1 (by simp)
        | succ j => exact absurd (h2 j T r (by simpa using hj)).1 (by simp)
    · cases h
  | [], _ :: _, _, h => by cases h
  | _ :: _, [], _, h => by simp [likeV] at h
  | (_, .d _) :: _, .r _ :: _, _, h => by simp [likeV] at h
  | (_, .r _) :: _, .d _ :: _, _, h => by simp [likeV] at h

/-- what 'capsV' says -/
theorem capsV_ok {s : SS} : ∀ {ks : List CK} {is : List Nat} {ts : List (Nat × CV)} {old : Option Nat}, capsV s ks is = some (ts, old) → is.length = ts.length ∧
    (∀ (j T : Nat) (v : CV), ts[j]? = some (T, v) → ∃ i cs, is[j]? = some i ∧ s.bl i = some (T, cs) ∧ match v with
      | .d ls => litsOf cs = some ls
      | .r r => (∃ o, old = some o ∧ cs = [.h o] ∧ s.ow o = some r) ∨ (cs = [.k (.slice none 0 0)] ∧ r.n = 0)) ∧
    (∀ o, old = some o → ∃ (j T i : Nat) (r : OR), ts[j]? = some (T, .r r) ∧ is[j]? = some i ∧ s.bl i = some (T, [.h o]) ∧ s.ow o = some r)
  | [], [], ts, old, h => by
    simp only [capsV, Option.some.injEq, Prod.mk.injEq] at h
    obtain ⟨rfl, rfl⟩ := h
    exact ⟨rfl, by simp, by simp⟩
  | k :: ks, i :: is, ts, old, h => by
    unfold capsV at h
    split at h
    · cases h
    rename_i T0 cs hbl
    split at h
    · cases h
    rename_i vs old' hvs
    obtain ⟨h1, h2, h3⟩ := capsV_ok hvs
    have h3' : ∀ o, old' = some o → ∃ (j T i' : Nat) (r : OR), vs[j]? = some (T, .r r) ∧ is[j]? = some i' ∧ s.bl i' = some (T, [.h o]) ∧ s.ow o = some r := h3
    split at h
    · split at h
      · rename_i ls hls
        simp only [Option.some.injEq, Prod.mk.injEq] at h
        obtain ⟨rfl, rfl⟩ := h
        refine ⟨by simp [h1], fun j T v hj => ?_, fun o ho => ?_⟩
        · cases j with
          | zero =>
            simp only [List.getElem?_cons_zero, Option.some.injEq, Prod.mk.injEq] at hj
            obtain ⟨rfl, rfl⟩ := hj
            exact ⟨i, cs, rfl, hbl, hls⟩
          | succ j => simpa using h2 j T v (by simpa using hj)
        · obtain ⟨j, T, i', r, q1, q2, q3, q4⟩ := h3' o ho
          exact ⟨j + 1, T, i', r, q1, q2, q3, q4⟩
      · cases h
    · rename_i e sz
      split at h
      · cases h
      have low : ∀ (o : Option Nat) (j T : Nat) (v : CV), vs[j]? = some (T, v) → ∃ i' cs, is[j]? = some i' ∧ s.bl i' = some (T, cs) ∧ match v with
          | .d ls => litsOf cs = some ls
          | .r r => (∃ o', o = some o' ∧ cs = [.h o'] ∧ s.ow o' = some r) ∨ (cs = [.k (.slice none 0 0)] ∧ r.n = 0) := by
        intro o j T v hj
        obtain ⟨i', cs', q1, q2, q3⟩ := h2 j T v hj
        refine ⟨i', cs', q1, q2, ?_⟩
        cases v with
        | d ls => exact q3
        | r r' =>
          rcases q3 with ⟨o', ho', _⟩ | q3
          · cases ho'
          · exact .inr q3
      split at h
      · rename_i j0
        split at h
        · rename_i r how
          split at h
          · simp only [Option.some.injEq, Prod.mk.injEq] at h
            obtain ⟨rfl, rfl⟩ := h
            refine ⟨by simp [h1], fun j T v hj => ?_, fun o ho => ?_⟩
            · cases j with
              | zero =>
                simp only [List.getElem?_cons_zero, Option.some.injEq, Prod.mk.injEq] at hj
                obtain ⟨rfl, rfl⟩ := hj
                exact ⟨i, _, rfl, hbl, .inl ⟨j0, rfl, rfl, how⟩⟩
              | succ j => exact low (some j0) j T v (by simpa using hj)
            · simp only [Option.some.injEq] at ho
              subst ho
              exact ⟨0, T0, i, r, rfl, rfl, hbl, how⟩
          · cases h
        · cases h
      · simp only [Option.some.injEq, Prod.mk.injEq] at h
        obtain ⟨rfl, rfl⟩ := h
        refine ⟨by simp [h1], fun j T v hj => ?_, fun o ho => by cases ho⟩
        cases j with
        | zero =>
          simp only [List.getElem?_cons_zero, Option.some.injEq, Prod.mk.injEq] at hj
          obtain ⟨rfl, rfl⟩ := hj
          exact ⟨i, _, rfl, hbl, .inr ⟨rfl, rfl⟩⟩
        | succ j => exact low none j T v (by simpa using hj)
      · cases h
  | [], _ :: _, _, _, h => by simp [capsV] at h
  | _ :: _, [], _, _, h => by simp [capsV] at h
end Go.Proofs.YtggappbiedkopaaGreat.SX
