/- The symbolic executor, part l: regions whose order is drawn. -/
import Derived.Test.YtggappbiedkopaaGreatSk
namespace Go.Proofs.YtggappbiedkopaaGreat.SX
open Go Go.RowKit
set_option linter.unusedVariables false
set_option linter.unusedSimpArgs false

theorem meets_iff : ∀ {xs ys : List Nat}, meets xs ys = true ↔ ∃ x, x ∈ xs ∧ x ∈ ys
  | [], ys => by simp [meets]
  | x :: xs, ys => by
    unfold meets
    split
    · rename_i h; simp only [true_iff]; exact ⟨x, by simp, hasN_iff.1 h⟩
    · rename_i h
      have hn : x ∉ ys := fun e => by rw [hasN_iff.2 e] at h; cases h
      rw [meets_iff]
      constructor
      · rintro ⟨z, h1, h2⟩; exact ⟨z, List.mem_cons_of_mem _ h1, h2⟩
      · rintro ⟨z, h1, h2⟩
        rcases List.mem_cons.1 h1 with rfl | h1
        · exact absurd h2 hn
        · exact ⟨z, h1, h2⟩
theorem meetsO_iff {d : Option Nat} {ys : List Nat} : meetsO d ys = true ↔ ∃ x, d = some x ∧ x ∈ ys := by
  cases d with
  | none => simp [meetsO]
  | some d => simp [meetsO, hasN_iff]

/-- two operations that may not change places -/
def Cf (r q : Rec) : Prop :=
  (∃ t, r.wt = some t ∧ t ∈ q.rt) ∨ (∃ t, q.wt = some t ∧ t ∈ r.rt) ∨ (∃ t, r.wt = some t ∧ q.wt = some t) ∨
  (∃ m, m ∈ r.wm ∧ m ∈ q.rm) ∨ (∃ m, m ∈ r.wm ∧ m ∈ q.wm) ∨ (∃ m, m ∈ r.rm ∧ m ∈ q.wm)
theorem conflict_of {r q : Rec} (h : Cf r q) : conflict r q = true := by
  unfold conflict
  split
  · rfl
  rename_i h1
  split
  · rfl
  rename_i h2
  split
  · rfl
  rename_i h3
  split
  · rfl
  rename_i h4
  split
  · rfl
  rename_i h5
  rcases h with h | h | ⟨t, h, h'⟩ | h | h | h
  · rw [meetsO_iff.2 h] at h1; cases h1
  · rw [meetsO_iff.2 h] at h2; cases h2
  · rw [meetsO_iff.2 ⟨t, h, by rw [h']; simp⟩] at h3; cases h3
  · rw [meets_iff.2 h] at h4; cases h4
  · rw [meets_iff.2 h] at h5; cases h5
  · exact meets_iff.2 h
theorem Cf.symm {r q : Rec} (h : Cf r q) : Cf q r := by
  rcases h with h | h | ⟨t, h, h'⟩ | ⟨m, h, h'⟩ | ⟨m, h, h'⟩ | ⟨m, h, h'⟩
  · exact .inr (.inl h)
  · exact .inl h
  · exact .inr (.inr (.inl ⟨t, h', h⟩))
  · exact .inr (.inr (.inr (.inr (.inr ⟨m, h', h⟩))))
  · exact .inr (.inr (.inr (.inr (.inl ⟨m, h', h⟩))))
  · exact .inr (.inr (.inr (.inl ⟨m, h', h⟩)))

/-! ### the edges -/
theorem binds_eq (e : Edge) : Region.binds .any e = bindsAny e := by
  obtain ⟨n, g⟩ := e
  cases g <;> rfl
theorem mem_union {x : Nat} : ∀ {xs ys : List Nat}, x ∈ union xs ys → x ∈ xs ∨ x ∈ ys
  | [], ys, h => .inr h
  | y :: xs, ys, h => by
    unfold union at h
    split at h
    · rcases mem_union h with h | h
      · exact .inl (List.mem_cons_of_mem _ h)
      · exact .inr h
    · rcases mem_union h with h | h
      · exact .inl (List.mem_cons_of_mem _ h)
      · rcases List.mem_cons.1 h with rfl | h
        · exact .inl (List.mem_cons_self ..)
        · exact .inr h

/-- operation k comes before operation j, whatever order is drawn -/
inductive Anc (ops : List Oper) : Nat → Nat → Prop
  | edge {o : Oper} {e : Edge} {j : Nat} : ops[j]? = some o → e ∈ o.after.toList → bindsAny e = true → Anc ops e.on j
  | step {o : Oper} {e : Edge} {j k : Nat} : ops[j]? = some o → e ∈ o.after.toList → bindsAny e = true → Anc ops k e.on → Anc ops k j

theorem ancFold_ok {an : Nat → List Nat} {i : Nat} : ∀ {es : List Edge} {m : List Nat}, ancFold an i es = some m →
    (∀ e ∈ es, bindsAny e = true → e.on < i) ∧ ∀ k, k ∈ m → ∃ e ∈ es, bindsAny e = true ∧ (k = e.on ∨ k ∈ an e.on)
  | [], m, h => by
    simp only [ancFold, Option.some.injEq] at h
    subst h
    exact ⟨by simp, fun k hk => by cases hk⟩
  | e :: es, m, h => by
    unfold ancFold at h
    split at h
    · rename_i hb
      obtain ⟨h1, h2⟩ := ancFold_ok h
      refine ⟨fun e' he' hb' => ?_, fun k hk => ?_⟩
      · rcases List.mem_cons.1 he' with rfl | he'
        · rw [hb] at hb'; cases hb'
        · exact h1 e' he' hb'
      · obtain ⟨e', h3, h4⟩ := h2 k hk
        exact ⟨e', List.mem_cons_of_mem _ h3, h4⟩
    · rename_i hb
      split at h
      · cases h
      rename_i hlt
      split at h
      · rename_i m' hm'
        simp only [Option.some.injEq] at h
        subst h
        obtain ⟨h1, h2⟩ := ancFold_ok hm'
        refine ⟨fun e' he' hb' => ?_, fun k hk => ?_⟩
        · rcases List.mem_cons.1 he' with rfl | he'
          · exact blt_lt hlt
          · exact h1 e' he' hb'
        · rcases mem_union hk with hk | hk
          · rcases List.mem_cons.1 hk with rfl | hk
            · exact ⟨e, by simp, hb, .inl rfl⟩
            · exact ⟨e, by simp, hb, .inr hk⟩
          · obtain ⟨e', h3, h4⟩ := h2 k hk
            exact ⟨e', List.mem_cons_of_mem _ h3, h4⟩
      · cases h

theorem clear_ok {m : List Nat} {r : Rec} : ∀ {rc : List (Nat × Rec)}, clear m r rc = true → ∀ p ∈ rc, Cf p.2 r → p.1 ∈ m
  | [], _, p, hp, _ => by cases hp
  | (i, q) :: rc, h, p, hp, hc => by
    unfold clear at h
    split at h
    · rename_i hn
      rcases List.mem_cons.1 hp with rfl | hp
      · rw [conflict_of hc] at hn; cases hn
      · exact clear_ok h p hp hc
    · split at h
      · rename_i ht
        rcases List.mem_cons.1 hp with rfl | hp
        · exact hasN_iff.1 ht
        · exact clear_ok h p hp hc
      · cases h

/-- what 'vcOps' says of the text's order -/
theorem trace_of {P : Program} {E : Env} {nt : Nat} {ops : List Oper} {n0 : Nat} {K : SS → Prop} : ∀ (rest : List Oper) (i : Nat) (an : Nat → List Nat) (rc : List (Nat × Rec)) (s : SS), (∀ k, ops[i + k]? = rest[k]?) → (∀ j k, k ∈ an j → Anc ops k j) → s.nt = nt → vcOps E nt true ops n0 K rest i an rc s →
    ∃ (st : Nat → SS) (rr : Nat → Rec), st i = s ∧ K ((st (i + rest.length)).at (n0 + (i + rest.length))) ∧ ∀ j, i ≤ j → j < i + rest.length → ∃ o, ops[j]? = some o ∧ (∀ e ∈ o.after.toList, bindsAny e = true → e.on < j) ∧ Step1 P E ops n0 j o (st j) (rr j) (st (j + 1)) ∧
      (∀ p ∈ rc, Cf p.2 (rr j) → Anc ops p.1 j) ∧ (∀ k, i ≤ k → k < j → Cf (rr k) (rr j) → Anc ops k j)
  | [], i, an, rc, s, _, _, _, h => ⟨fun _ => s, fun _ => ⟨[], none, [], []⟩, rfl, by unfold vcOps at h; rw [fNat_eq] at h; exact h, fun j h1 h2 => by simp at h2; omega⟩
  | o :: rest, i, an, rc, s, hops, han, hnt, h => by
    obtain ⟨r, s', hst, hgo⟩ := (vcOps_step (P := P) hnt h).resolve_right fun h => nomatch h.1
    have ho : ops[i]? = some o := hops 0
    have hrest : ∀ k, ops[i + 1 + k]? = rest[k]? := fun k => by have := hops (k + 1); rw [show i + 1 + k = i + (k + 1) from by omega]; simpa using this
    unfold vcGo at hgo
    dsimp only at hgo
    split at hgo
    · exact hgo.elim
    rename_i m hm
    rw [fL_eq, fL_eq, fO_eq, fLN_eq, fLN_eq] at hgo
    split at hgo
    · exact hgo.elim
    rename_i hcl
    obtain ⟨e1, e2⟩ := ancFold_ok hm
    have hmA : ∀ k, k ∈ m → Anc ops k i := by
      intro k hk
      obtain ⟨e, h1, h2, h3⟩ := e2 k hk
      rcases h3 with rfl | h3
      · exact .edge ho h1 h2
      · exact .step ho h1 h2 (han _ _ h3)
    obtain ⟨st, rr, k1, k2, k3⟩ := trace_of rest (i + 1) (upd an i m) ((i, r) :: rc) s' hrest (fun j k hk => by
      by_cases hj : j = i
      · subst hj; rw [upd_same] at hk; exact hmA k hk
      · rw [upd_ne _ _ hj] at hk; exact han j k hk) (hst.nt.trans hnt) hgo
    have hlen : i + (o :: rest).length = i + 1 + rest.length := by simp; omega
    refine ⟨upd st i s, upd rr i r, upd_same .., ?_, fun j hj1 hj2 => ?_⟩
    · rw [hlen, upd_ne _ _ (by omega)]; exact k2
    · by_cases hj : j = i
      · subst hj
        refine ⟨o, ho, e1, ?_, fun p hp hc => ?_, fun k h1 h2 => by omega⟩
        · rw [upd_same, upd_same, upd_ne _ _ (by omega), k1]; exact hst
        · rw [upd_same] at hc; exact hmA _ (clear_ok hcl p hp hc)
      · obtain ⟨o', q1, q2, q3, q4, q5⟩ := k3 j (by omega) (by omega)
        refine ⟨o', q1, q2, ?_, fun p hp hc => ?_, fun k h1 h2 hc => ?_⟩
        · rw [upd_ne _ _ hj, upd_ne _ _ hj, upd_ne _ _ (by omega)]; exact q3
        · rw [upd_ne _ _ hj] at hc; exact q4 p (List.mem_cons_of_mem _ hp) hc
        · rw [upd_ne _ _ hj] at hc
          by_cases hk : k = i
          · subst hk; rw [upd_same] at hc; exact q4 (k, r) (by simp) hc
          · rw [upd_ne _ _ hk] at hc; exact q5 k (by omega) h2 hc

/-! ### masks -/
def cntF : List Bool → Nat
  | [] => 0
  | b :: bs => (if b then 0 else 1) + cntF bs
theorem cntF_set : ∀ {l : List Bool} {i : Nat}, l[i]? = some false → cntF (l.set i true) + 1 = cntF l
  | [], i, h => by simp at h
  | b :: bs, 0, h => by simp at h; subst h; simp [cntF]; try omega
  | b :: bs, i + 1, h => by
    have := cntF_set (l := bs) (i := i) (by simpa using h)
    simp only [List.set_cons_succ, cntF]; omega
theorem cntF_zero : ∀ {l : List Bool}, cntF l = 0 → ∀ i, i < l.length → l[i]? = some true
  | [], _, i, h => by simp at h
  | b :: bs, h, i, hi => by
    simp only [cntF] at h
    cases b with
    | false => simp at h
    | true =>
      cases i with
      | zero => rfl
      | succ i => simpa using cntF_zero (l := bs) (by simpa using h) i (by simpa using hi)
theorem cntF_rep : ∀ n, cntF (List.replicate n false) = n
  | 0 => rfl
  | n + 1 => by
    rw [List.replicate_succ, cntF, cntF_rep n]
    simp only [Bool.false_eq_true, if_false]
    omega

section
variable {P : Program} {E : Env} {A : An} {Q : Exit → Act → World → Prop} {K : SS → Prop}

/-- the text's order, as a whole -/
structure Trace (P : Program) (E : Env) (ops : Array Oper) (n0 : Nat) (st : Nat → SS) (rr : Nat → Rec) : Prop where
  step : ∀ j, j < ops.size → ∃ o, ops[j]? = some o ∧ (∀ e ∈ o.after.toList, bindsAny e = true → e.on < j) ∧ Step1 P E ops.toList n0 j o (st j) (rr j) (st (j + 1)) ∧ (∀ k, k < j → Cf (rr k) (rr j) → Anc ops.toList k j)

theorem Trace.nt {ops : Array Oper} {n0 : Nat} {st : Nat → SS} {rr : Nat → Rec} (tr : Trace P E ops n0 st rr) : ∀ j, j ≤ ops.size → (st j).nt = (st 0).nt
  | 0, _ => rfl
  | j + 1, h => by
    obtain ⟨o, _, _, ⟨_, s1, _, _, h3, _, hs⟩, _⟩ := tr.step j (by omega)
    rw [← tr.nt j (by omega), ← h3]
    rcases hs with ⟨_, _, ob, x, e, _, he, _, _, hs⟩ | ⟨_, _, hs⟩
    · rw [hs, put_nt, (evalOp_at he).2.2.1]; rfl
    · rw [hs]; exact put_nt _ _ _
theorem Trace.wt {ops : Array Oper} {n0 : Nat} {st : Nat → SS} {rr : Nat → Rec} (tr : Trace P E ops n0 st rr) {j : Nat} (hj : j < ops.size) {t : Nat} (h : (rr j).wt ≠ some t) : Eqv ((st j).tm t) ((st (j + 1)).tm t) := by
  obtain ⟨o, _, _, ⟨_, s1, _, _, _, h4, hs⟩, _⟩ := tr.step j hj
  rcases hs with ⟨_, _, ob, x, e, _, he, _, hr, hs⟩ | ⟨_, hr, hs⟩
  · rw [hs, put_ne _ _ (by rw [hr] at h; exact h), (evalOp_at he).2.2.2]; exact h4 t
  · rw [hs]; unfold skipped; rw [put_ne _ _ (by rw [hr] at h; exact h)]; exact h4 t
theorem Trace.wm {ops : Array Oper} {n0 : Nat} {st : Nat → SS} {rr : Nat → Rec} (tr : Trace P E ops n0 st rr) {j : Nat} (hj : j < ops.size) {m : Nat} (h : m ∉ (rr j).wm) : (st (j + 1)).bl m = (st j).bl m ∧ (st (j + 1)).ow m = (st j).ow m := by
  obtain ⟨o, _, _, ⟨_, s1, h1, h2, _, _, hs⟩, _⟩ := tr.step j hj
  rcases hs with ⟨_, _, ob, x, e, _, he, _, hr, hs⟩ | ⟨_, hr, hs⟩
  · have := apply_ne (e := e) (s := s1.at (n0 + j)) (m := m) (by rw [hr] at h; exact h)
    rw [hs, put_bl, put_ow, this.1, this.2]
    exact ⟨congrFun h1 m, congrFun h2 m⟩
  · rw [hs]; unfold skipped; rw [put_bl, put_ow]; exact ⟨congrFun h1 m, congrFun h2 m⟩
theorem Trace.keepT {ops : Array Oper} {n0 : Nat} {st : Nat → SS} {rr : Nat → Rec} (tr : Trace P E ops n0 st rr) {t : Nat} (k : Nat) : ∀ d, k + d ≤ ops.size → (∀ j, k ≤ j → j < k + d → (rr j).wt ≠ some t) → Eqv ((st k).tm t) ((st (k + d)).tm t)
  | 0, _, _ => Eqv.refl _
  | d + 1, h, hw => (tr.keepT k d (by omega) fun j h1 h2 => hw j h1 (by omega)).trans (tr.wt (j := k + d) (by omega) (hw _ (by omega) (by omega)))
theorem Trace.keepM {ops : Array Oper} {n0 : Nat} {st : Nat → SS} {rr : Nat → Rec} (tr : Trace P E ops n0 st rr) {m : Nat} (k : Nat) : ∀ d, k + d ≤ ops.size → (∀ j, k ≤ j → j < k + d → m ∉ (rr j).wm) → (st (k + d)).bl m = (st k).bl m ∧ (st (k + d)).ow m = (st k).ow m
  | 0, _, _ => ⟨rfl, rfl⟩
  | d + 1, h, hw => by
    obtain ⟨h1, h2⟩ := tr.keepM k d (by omega) fun j h1 h2 => hw j h1 (by omega)
    obtain ⟨h3, h4⟩ := tr.wm (j := k + d) (by omega) (hw _ (by omega) (by omega))
    exact ⟨h3.trans h1, h4.trans h2⟩

/-- what holds while the operations of L have run -/
structure AInv (A : An) (ops : Array Oper) (n0 : Nat) (st : Nat → SS) (rr : Nat → Rec) (L : Nat → Prop) (cx : Cx) (a : Act) (w : World) (s : SS) : Prop where
  df : Marks A.w.heap.size cx w a.defers
  sz : a.tmps.size = (st 0).nt
  tm : ∀ t, svrel A.base cx w (s.tm t) (a.tmps.getD t undef)
  mem : Mem A.base cx w s
  S : ∀ b, cx.S b → b < w.heap.size
  D : ∀ m, cx.D m → m < n0 ∨ ∃ j, L j ∧ m = n0 + j
  fr : Fr A.cx cx A.w w A.W 0 (n0 + ops.size)
  hb : A.base ≤ A.w.heap.size
  cutT : ∀ t k, k ≤ ops.size → (∀ j, j < ops.size → (rr j).wt = some t → (j < k ↔ L j)) → Eqv (s.tm t) ((st k).tm t)
  cutM : ∀ m k, k ≤ ops.size → (∀ j, j < ops.size → m ∈ (rr j).wm → (j < k ↔ L j)) → s.bl m = (st k).bl m ∧ s.ow m = (st k).ow m
  closed : ∀ j k, L j → Anc ops.toList k j → L k

theorem AInv.low {ops : Array Oper} {n0 : Nat} {st : Nat → SS} {rr : Nat → Rec} {L : Nat → Prop} {cx : Cx} {a : Act} {w : World} {s : SS} (h : AInv A ops n0 st rr L cx a w s) : A.base ≤ w.heap.size := Nat.le_trans h.hb h.fr.size

theorem any_step (hE : EnvOK P E) {ops : Array Oper} {n0 : Nat} {st : Nat → SS} {rr : Nat → Rec} (tr : Trace P E ops n0 st rr) {L : Nat → Prop} {cx : Cx} {a : Act} {w : World} {s : SS} (hs : AInv A ops n0 st rr L cx a w s) {i : Nat} (hi : i < ops.size) (hL : ¬ L i) (hA : ∀ k, Anc ops.toList k i → L k)
    {next : Act → World → Prop} (hn : ∀ cx' a' w' s', AInv A ops n0 st rr (fun j => L j ∨ j = i) cx' a' w' s' → next a' w') : wpOp P ops Q i next a w := by
  obtain ⟨o, ho, hed, ⟨hd, s1, h1, h2, h3, h4, hst⟩, hcf⟩ := tr.step i hi
  have ord : ∀ j, j < ops.size → Cf (rr j) (rr i) → (j < i ↔ L j) := by
    intro j hj hc
    rcases Nat.lt_trichotomy j i with h | h | h
    · exact ⟨fun _ => hA j (hcf j h hc), fun _ => h⟩
    · subst h; exact ⟨fun h => absurd h (Nat.lt_irrefl _), fun h => absurd h hL⟩
    · refine ⟨fun h' => by omega, fun h' => ?_⟩
      obtain ⟨oj, _, _, _, hcfj⟩ := tr.step j hj
      exact absurd (hs.closed j i h' (hcfj i h hc.symm)) hL
  have hsz : (st i).nt = (st 0).nt := tr.nt i (by omega)
  have hdl : ∀ t, o.dst = some t → t < a.tmps.size := dst_lt hd (hs.sz.trans hsz.symm)
  have hcl : ∀ j k, (L j ∨ j = i) → Anc ops.toList k j → L k ∨ k = i := by
    rintro j k (h | rfl) hk
    · exact .inl (hs.closed j k h hk)
    · exact .inl (hA k hk)
  -- a cut of the new mask, at a place that the operation does not write, is a cut of the old one
  have oldT : ∀ t k, (rr i).wt ≠ some t → (∀ j, j < ops.size → (rr j).wt = some t → (j < k ↔ (L j ∨ j = i))) → ∀ j, j < ops.size → (rr j).wt = some t → (j < k ↔ L j) := by
    intro t k hne h j hj hw
    rw [h j hj hw]
    exact ⟨fun h => h.resolve_right fun e => hne (e ▸ hw), .inl⟩
  have oldM : ∀ m k, m ∉ (rr i).wm → (∀ j, j < ops.size → m ∈ (rr j).wm → (j < k ↔ (L j ∨ j = i))) → ∀ j, j < ops.size → m ∈ (rr j).wm → (j < k ↔ L j) := by
    intro m k hne h j hj hw
    rw [h j hj hw]
    exact ⟨fun h => h.resolve_right fun e => hne (e ▸ hw), .inl⟩
  -- at a place that it writes, a cut of the new mask comes behind it, and nothing writes there between
  have newT : ∀ t k, k ≤ ops.size → (rr i).wt = some t → (∀ j, j < ops.size → (rr j).wt = some t → (j < k ↔ (L j ∨ j = i))) → Eqv ((st (i + 1)).tm t) ((st k).tm t) := by
    intro t k hk hw h
    have hik : i < k := (h i hi hw).2 (.inr rfl)
    have := tr.keepT (t := t) (i + 1) (k - (i + 1)) (by omega) fun j h5 h6 h7 => by
      have hj : L j := ((h j (by omega) h7).1 (by omega)).resolve_right (by omega)
      have := (ord j (by omega) (.inr (.inr (.inl ⟨t, h7, hw⟩)))).2 hj
      omega
    rw [show i + 1 + (k - (i + 1)) = k from by omega] at this
    exact this
  have newM : ∀ m k, k ≤ ops.size → m ∈ (rr i).wm → (∀ j, j < ops.size → m ∈ (rr j).wm → (j < k ↔ (L j ∨ j = i))) → (st k).bl m = (st (i + 1)).bl m ∧ (st k).ow m = (st (i + 1)).ow m := by
    intro m k hk hw h
    have hik : i < k := (h i hi hw).2 (.inr rfl)
    have := tr.keepM (m := m) (i + 1) (k - (i + 1)) (by omega) fun j h5 h6 h7 => by
      have hj : L j := ((h j (by omega) h7).1 (by omega)).resolve_right (by omega)
      have := (ord j (by omega) (.inr (.inr (.inr (.inr (.inl ⟨m, h7, hw⟩)))))).2 hj
      omega
    rw [show i + 1 + (k - (i + 1)) = k from by omega] at this
    exact this
  have hrt : (rr i).rt = readsT ops.toList o ∧ (rr i).wt = o.dst := by
    rcases hst with ⟨_, _, _, _, _, _, _, _, hr, _⟩ | ⟨_, hr, _⟩ <;> rw [hr] <;> exact ⟨rfl, rfl⟩
  have rdT : ∀ t, t ∈ readsT ops.toList o → Eqv (s.tm t) (s1.tm t) := by
    intro t ht
    refine (hs.cutT t i (by omega) fun j hj hw => ord j hj (.inl ⟨t, hw, by rw [hrt.1]; exact ht⟩)).trans (h4 t)
  have htm1 : ∀ t, t ∈ readsT ops.toList o → svrel A.base cx w (s1.tm t) (a.tmps.getD t undef) := fun t ht => (rdT t ht _ _ _ _).1 (hs.tm t)
  have hgt : ∀ t, t ∈ guardT ops.toList o → svrel A.base cx w (s1.tm t) (a.tmps.getD t undef) := fun t ht => htm1 t (List.mem_append_left _ ht)
  unfold wpOp
  simp only [ho]
  rcases hst with ⟨hg, E', ob, x, e, hE', he, hob, hr, hs'⟩ | ⟨hg, hr, hs'⟩
  · rw [wanted_of hg hgt]
    simp only [if_true]
    left
    have cutR : ∀ m, (m ∈ touch s1 o.op ∨ m ∈ e.wr (s1.at (n0 + i))) → s.bl m = s1.bl m ∧ s.ow m = s1.ow m := by
      intro m hm
      rw [h1, h2]
      refine hs.cutM m i (by omega) fun j hj hw => ord j hj ?_
      rw [hr]
      rcases hm with hm | hm
      · exact .inr (.inr (.inr (.inl ⟨m, hw, hm⟩)))
      · exact .inr (.inr (.inr (.inr (.inl ⟨m, hw, hm⟩))))
    let s2 : SS := { s with tm := fun t => bif hasN t (readsT ops.toList o) then s1.tm t else s.tm t, nx := n0 + i }
    have hs2 : ∀ t, t ∈ readsT ops.toList o → s2.tm t = s1.tm t := fun t ht => by show (bif _ then _ else _) = _; rw [hasN_iff.2 ht]; rfl
    have htm2 : ∀ t, svrel A.base cx w (s2.tm t) (a.tmps.getD t undef) := by
      intro t
      show svrel _ _ _ (bif _ then _ else _) _
      cases hh : hasN t (readsT ops.toList o)
      · exact hs.tm t
      · exact htm1 t (hasN_iff.1 hh)
    have he2 : evalOp E' s2 o = some (ob, x, e) := by
      rw [← he]
      refine (evalOp_congr (s := s1.at (n0 + i)) (s' := s2) (fun y hy => ?_) rfl fun m hm => ?_).symm
      · cases y with
        | tmp t => exact (hs2 t (List.mem_append_right _ (List.mem_flatMap.2 ⟨.tmp t, hy, by simp [tmpOf]⟩))).symm
        | _ => rfl
      · have := cutR m (.inl hm)
        exact ⟨this.1.symm, this.2.symm⟩
    have hm2 : Mem A.base cx w s2 := hs.mem.congr rfl rfl
    obtain ⟨e1, e2, e3, e4⟩ := evalOp_at he2
    have hDn : ∀ m, cx.D m → m ≠ n0 + i := by
      intro m hm
      rcases hs.D m hm with h | ⟨j, h, h'⟩
      · omega
      · intro e; have : j = i := by omega
        subst this; exact hL h
    refine op_ok (hE' hE) hs.low hm2 hs.S hDn htm2 he2 hob fun y w' cx' hF hx hM hS => ?_
    have hsW : ∀ b, cx.S b → b < w.heap.size ∧ ¬ e.W cx b := fun b hb => ⟨hs.S b hb, by
      cases e with
      | clo bs old r =>
        rintro (⟨p, hp, rfl⟩ | ⟨o, ho, hg⟩)
        · obtain ⟨q, hq⟩ := e1.1 p hp; exact (hm2.bl _ q.1 q.2 hq).2.2.1 hb
        · obtain ⟨q, hq⟩ := e1.2 o ho; exact (hm2.owS o q b hq hg).1 hb
      | set i T cs => obtain ⟨q, hq⟩ := e1; intro h; have h : b = cx.β i := h; exact (hm2.bl i q.1 q.2 hq).2.2.1 (h ▸ hb)
      | appB i r => obtain ⟨q, hq⟩ := e1; intro h; have h : b = cx.β i := h; exact (hm2.bl i q.1 q.2 hq).2.2.1 (h ▸ hb)
      | app i r => obtain ⟨q, hq⟩ := e1; intro h; exact (hm2.owS i q b hq h).1 hb
      | seta i r => obtain ⟨q, hq⟩ := e1; intro h; exact (hm2.owS i q b hq h).1 hb
      | _ => exact id⟩
    have hwr : e.wr s2 = e.wr (s1.at (n0 + i)) := by cases e <;> rfl
    refine hn cx' _ w' ((e.apply (s.at (n0 + i))).put o.dst x) ⟨?_, ?_, ?_, ?_, hS, ?_, hs.fr.next hF (eff_W hs.fr e1 hm2) (Nat.le_refl _) (Nat.le_trans e2 (by show n0 + i + 1 ≤ _; omega)), hs.hb, ?_, ?_, hcl⟩
    · rw [put_defers]; exact hs.df.next hF hsW
    · rw [put_size]; exact hs.sz
    · refine put_tm (s := e.apply (s.at (n0 + i))) hdl hx fun t => ?_
      have : (e.apply (s.at (n0 + i))).tm = s.tm := by cases e <;> rfl
      rw [this]
      exact hF.svrel hsW (hs.tm t)
    · refine hM.congr ?_ ?_
      · rw [put_bl]; cases e <;> rfl
      · rw [put_ow]; cases e <;> rfl
    · intro m hm
      rcases hF.D' m hm with h | h
      · rcases hs.D m h with h | ⟨j, h, h'⟩
        · exact .inl h
        · exact .inr ⟨j, .inl h, h'⟩
      · have h7 : n0 + i ≤ m := h.1
        have h8 : m < n0 + i + 1 := Nat.lt_of_lt_of_le h.2 e2
        exact .inr ⟨i, .inr rfl, by omega⟩
    · intro t k hk hc
      by_cases hw : (rr i).wt = some t
      · refine Eqv.trans ?_ (newT t k hk hw hc)
        rw [hrt.2] at hw
        rw [hs', hw, put_eq, put_eq]
        exact Eqv.refl _
      · have : ((e.apply (s.at (n0 + i))).put o.dst x).tm t = s.tm t := by
          rw [put_ne _ _ (by rw [hrt.2] at hw; exact hw)]
          cases e <;> rfl
        rw [this]
        exact hs.cutT t k hk (oldT t k hw hc)
    · intro m k hk hc
      rw [put_bl, put_ow]
      by_cases hw : m ∈ (rr i).wm
      · obtain ⟨q1, q2⟩ := newM m k hk hw hc
        rw [q1, q2, hs', put_bl, put_ow]
        exact apply_eq rfl (cutR m (.inr (by rw [hr] at hw; exact hw)))
      · have := apply_ne (e := e) (s := s.at (n0 + i)) (m := m) (by rw [hr] at hw; have : e.wr (s.at (n0 + i)) = e.wr (s1.at (n0 + i)) := by cases e <;> rfl
                                                                    rw [this]; exact hw)
        rw [this.1, this.2]
        exact hs.cutM m k hk (oldM m k hw hc)
  · rw [wanted_of hg hgt]
    simp only [Bool.false_eq_true, if_false]
    refine hn cx _ w (s.put o.dst und) ⟨?_, ?_, ?_, ?_, hs.S, ?_, hs.fr, hs.hb, ?_, ?_, hcl⟩
    · rw [put_defers]; exact hs.df
    · rw [put_size]; exact hs.sz
    · exact put_tm (x := und) (y := undef) hdl (sv_k undef) hs.tm
    · exact hs.mem.congr (put_bl _ _ _) (put_ow _ _ _)
    · intro m hm
      rcases hs.D m hm with h | ⟨j, h, h'⟩
      · exact .inl h
      · exact .inr ⟨j, .inl h, h'⟩
    · intro t k hk hc
      by_cases hw : (rr i).wt = some t
      · refine Eqv.trans ?_ (newT t k hk hw hc)
        rw [hrt.2] at hw
        rw [hs']
        unfold skipped
        rw [hw, put_eq, put_eq]
        exact Eqv.refl _
      · rw [put_ne _ _ (by rw [hrt.2] at hw; exact hw)]
        exact hs.cutT t k hk (oldT t k hw hc)
    · intro m k hk hc
      rw [put_bl, put_ow]
      exact hs.cutM m k hk (oldM m k (by rw [hr]; simp [recSkip]) hc)

theorem any_ok (hE : EnvOK P E) {ops : Array Oper} {n0 : Nat} {st : Nat → SS} {rr : Nat → Rec} (tr : Trace P E ops n0 st rr) (hK : ∀ a w cx, SR A cx a w ((st ops.size).at (n0 + ops.size)) → Q .normal a w) : ∀ (fuel : Nat) (listed : Array Bool) (cx : Cx) (a : Act) (w : World) (s : SS),
    listed.size = ops.size → cntF listed.toList ≤ fuel → AInv A ops n0 st rr (fun j => listed.getD j false = true) cx a w s → wpAny P .any ops Q fuel listed a w := by
  have lt : ∀ (listed : Array Bool), listed.size = ops.size → ∀ j, listed.getD j false = true → j < ops.size := by
    intro listed hl j hj
    rcases Nat.lt_or_ge j ops.size with h | h
    · exact h
    · rw [Array.getD_eq_getD_getElem?, Array.getElem?_eq_none (by omega)] at hj
      simp at hj
  have done : ∀ (listed : Array Bool) (cx : Cx) (a : Act) (w : World) (s : SS), listed.size = ops.size → (∀ j, j < ops.size → listed.getD j false = true) → AInv A ops n0 st rr (fun j => listed.getD j false = true) cx a w s → Q .normal a w := by
    intro listed cx a w s hl hall hs
    refine hK a w cx ⟨hs.df, ?_, fun t => ?_, ?_, hs.S, fun m hm => ?_, hs.fr, hs.hb⟩
    · exact hs.sz.trans (tr.nt _ (Nat.le_refl _)).symm
    · exact (hs.cutT t ops.size (Nat.le_refl _) (fun j hj _ => ⟨fun _ => hall j hj, fun _ => hj⟩) _ _ _ _).1 (hs.tm t)
    · refine hs.mem.congr (funext fun m => ?_) (funext fun m => ?_)
      · exact (hs.cutM m ops.size (Nat.le_refl _) fun j hj _ => ⟨fun _ => hall j hj, fun _ => hj⟩).1.symm
      · exact (hs.cutM m ops.size (Nat.le_refl _) fun j hj _ => ⟨fun _ => hall j hj, fun _ => hj⟩).2.symm
    · show m < n0 + ops.size
      rcases hs.D m hm with h | ⟨j, h, h'⟩
      · omega
      · have := lt listed hl j h
        omega
  intro fuel
  induction fuel with
  | zero =>
    intro listed cx a w s hl hc hs
    have hall : ∀ j, j < ops.size → listed[j]? = some true := by
      intro j hj
      have := cntF_zero (l := listed.toList) (by omega) j (by simp [hl, hj])
      simpa using this
    refine ⟨?_, done listed cx a w s hl (fun j hj => by rw [Array.getD_eq_getD_getElem?, hall j hj]; rfl) hs⟩
    rw [List.eq_nil_iff_forall_not_mem]
    intro j hj
    obtain ⟨h1, o, h2, _⟩ := mem_ready.1 hj
    have hj' : j < ops.size := (Array.getElem?_eq_some_iff.1 h2).1
    rw [Array.getD_eq_getD_getElem?, hall j hj'] at h1
    cases h1
  | succ fuel ih =>
    intro listed cx a w s hl hc hs
    refine ⟨fun hr => done listed cx a w s hl (fun j => ?_) hs, fun i hi => ?_⟩
    · induction j using Nat.strongRecOn with
      | _ j ihj =>
        intro hj
        cases hb : listed.getD j false with
        | true => rfl
        | false =>
          exfalso
          obtain ⟨o, ho, hed, _⟩ := tr.step j hj
          have hm : j ∈ Region.ready .any ops listed := by
            refine mem_ready.2 ⟨?_, o, ho, fun e he hbe => ?_⟩
            · rw [Array.getD_eq_getD_getElem?, Array.getElem?_eq_getElem (by omega)] at hb ⊢
              exact hb
            · rw [binds_eq] at hbe
              exact ihj e.on (hed e (by simpa using he) hbe) (Nat.lt_trans (hed e (by simpa using he) hbe) hj)
          rw [hr] at hm
          cases hm
    · obtain ⟨h1, o, h2, h3⟩ := mem_ready.1 hi
      have hi' : i < ops.size := (Array.getElem?_eq_some_iff.1 h2).1
      have h1' : listed[i]? = some false := by
        rw [Array.getD_eq_getD_getElem?, Array.getElem?_eq_getElem (by omega)] at h1
        rw [Array.getElem?_eq_getElem (by omega)]
        exact congrArg some h1
      have edge : ∀ o' e, ops.toList[i]? = some o' → e ∈ o'.after.toList → bindsAny e = true → listed.getD e.on false = true := by
        intro o' e q1 q2 q3
        have : ops.toList[i]? = some o := by rw [Array.getElem?_toList]; exact h2
        rw [this] at q1
        cases q1
        exact h3 e (by simpa using q2) (by rw [binds_eq]; exact q3)
      refine any_step hE tr hs hi' (by rw [Array.getD_eq_getD_getElem?, h1']; simp) (fun k hk => ?_) fun cx' a' w' s' hs' => ?_
      · cases hk with
        | edge q1 q2 q3 => exact edge _ _ q1 q2 q3
        | step q1 q2 q3 q4 => exact hs.closed _ _ (edge _ _ q1 q2 q3) q4
      · refine ih (listed.setIfInBounds i true) cx' a' w' s' (by simpa using hl) ?_ ?_
        · rw [Array.toList_setIfInBounds]
          have := cntF_set (l := listed.toList) (i := i) (by simpa using h1')
          omega
        · have : (fun j => (listed.setIfInBounds i true).getD j false = true) = fun j => listed.getD j false = true ∨ j = i := by
            funext j
            apply propext
            by_cases hj : j = i
            · subst hj
              rw [Array.getD_eq_getD_getElem?, Array.getElem?_setIfInBounds_self_of_lt (by omega)]
              simp
            · rw [getD_set_ne _ (Ne.symm hj)]
              simp [hj]
          rw [this]
          exact hs'

theorem mem_still {base : Nat} {cx : Cx} {w w' : World} {s : SS} {lo hi : Nat} (hF : Fr cx cx w w' (fun _ => False) lo hi) (hm : Mem base cx w s) (hS : ∀ b, cx.S b → b < w.heap.size) : Mem base cx w' s := by
  have hs : ∀ b, cx.S b → b < w.heap.size ∧ ¬ False := fun b h => ⟨hS b h, id⟩
  refine ⟨?_, hm.inj, ?_, hm.owS, hm.owi⟩
  · intro i T cs h
    obtain ⟨h1, h2, h3, ys, h4, h5⟩ := hm.bl i T cs h
    have hlt := (Array.getElem?_eq_some_iff.1 h4).1
    exact ⟨h1, h2, h3, ys, by rw [hF.blk _ hlt id]; exact h4, hF.crels hs h5⟩
  · intro i r h
    obtain ⟨h1, cells, h2, h3⟩ := hm.ow i r h
    refine ⟨h1, cells, h2.kept (row := none) ⟨hF.os, hF.tape, hF.output, hF.size, fun b hb _ => hF.blk b hb id⟩ (by cases (cx.η i).ownBlock <;> simp), fun a ha j hj => ?_⟩
    obtain ⟨z, hz, hd⟩ := h3 a ha j hj
    exact ⟨z, hz, hF.den hs hd⟩

/-- A region whose order is drawn. -/
theorem region_any (hE : EnvOK P E) {ops : Array Oper} (hK : ∀ s a w cx, K s → SR A cx a w s → Q .normal a w) {s : SS} {cx : Cx} {a : Act} {w : World}
    (h : vcOps E s.nt true ops.toList s.nx K ops.toList 0 (fun _ => []) [] s) (hs : SR A cx a w s) : wpAny P .any ops Q ops.size (Array.replicate ops.size false) a { w with drawn := w.drawn + 1 } := by
    obtain ⟨st, rr, k1, k2, k3⟩ := trace_of (P := P) ops.toList 0 (fun _ => []) [] s (fun k => by rw [Nat.zero_add]) (fun j k hk => by cases hk) rfl h
    simp only [Nat.zero_add, Array.length_toList] at k2 k3
    have tr : Trace P E ops s.nx st rr := ⟨fun j hj => by
      obtain ⟨o, q1, q2, q3, q4, q5⟩ := k3 j (Nat.zero_le _) hj
      exact ⟨o, by rw [← Array.getElem?_toList]; exact q1, q2, q3, fun k hk hc => q5 k (Nat.zero_le _) hk hc⟩⟩
    refine any_ok hE tr (fun a w cx hs => hK _ a w cx k2 hs) ops.size _ cx a _ s (by simp) (by rw [Array.toList_replicate, cntF_rep]; exact Nat.le_refl _) ?_
    have hno : ∀ j, ¬ ((Array.replicate ops.size false).getD j false = true) := by
      intro j hj
      rw [Array.getD_eq_getD_getElem?, Array.getElem?_replicate] at hj
      split at hj <;> simp at hj
    have hF : Fr cx cx w { w with drawn := w.drawn + 1 } (fun _ => False) 0 0 := ⟨fun _ h => h, fun _ h => .inl h, fun _ _ => rfl, fun _ _ => rfl, fun _ h => h, fun _ h => .inl h, Nat.le_refl _, rfl, rfl, rfl, fun _ _ _ => rfl, fun _ h h' => absurd h h', fun _ _ h h' => absurd h h'⟩
    refine ⟨hs.df.next hF (fun b h => ⟨hs.S b h, fun h => h⟩), by rw [k1]; exact hs.sz, fun t => hF.svrel (fun b h => ⟨hs.S b h, fun h => h⟩) (hs.tm t), mem_still hF hs.mem hs.S, hs.S, fun m hm => .inl (hs.D m hm), hs.fr.next hF (fun _ h => h.elim) (Nat.le_add_right _ _) (Nat.zero_le _), hs.hb, fun t k hk hc => ?_, fun m k hk hc => ?_, fun j k hj => absurd hj (hno j)⟩
    · have := tr.keepT (t := t) 0 k (by omega) fun j _ h2 h3 => (hno j) ((hc j (by omega) h3).1 (by omega))
      rw [Nat.zero_add, k1] at this
      exact this
    · have := tr.keepM (m := m) 0 k (by omega) fun j _ h2 h3 => (hno j) ((hc j (by omega) h3).1 (by omega))
      rw [Nat.zero_add, k1] at this
      exact ⟨this.1.symm, this.2.symm⟩
end
end Go.Proofs.YtggappbiedkopaaGreat.SX
