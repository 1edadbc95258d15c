/- The symbolic executor, part k: regions, in the order of the text and in every order that may be drawn. -/
import Derived.Test.YtggappbiedkopaaGreatSka
import Derived.Orders
namespace Go.Proofs.YtggappbiedkopaaGreat.SX
open Go Go.RowKit
set_option linter.unusedVariables false
set_option linter.unusedSimpArgs false

/-- the marks of ranges over functions that are over: each leads to an empty list of calls -/
def Marks (lo : Nat) (cx : Cx) (w : World) : List Deferred → Prop
  | [] => True
  | d :: ds => (∃ D, d = { target := .collected D, args := #[] } ∧ lo ≤ D ∧ cx.S D ∧ w.heap[D]? = some (.deferred (some [])) ∧ ∀ d' ∈ ds, d' ≠ d) ∧ Marks lo cx w ds
theorem Marks.next {lo l h : Nat} {cx cx' : Cx} {w w' : World} {W : Nat → Prop} (hF : Fr cx cx' w w' W l h) (hs : ∀ b, cx.S b → b < w.heap.size ∧ ¬ W b) : ∀ {ds : List Deferred}, Marks lo cx w ds → Marks lo cx' w' ds
  | [], _ => trivial
  | d :: ds, ⟨⟨D, h1, h2, h3, h4, h5⟩, h6⟩ => ⟨⟨D, h1, h2, hF.S D h3, by rw [hF.blk D (hs D h3).1 (hs D h3).2]; exact h4, h5⟩, Marks.next hF hs h6⟩
theorem Marks.mono {lo : Nat} {cx cx' : Cx} {w : World} (hS : ∀ b, cx.S b → cx'.S b) : ∀ {ds : List Deferred}, Marks lo cx w ds → Marks lo cx' w ds
  | [], _ => trivial
  | d :: ds, ⟨⟨D, h1, h2, h3, h4, h5⟩, h6⟩ => ⟨⟨D, h1, h2, hS D h3, h4, h5⟩, Marks.mono hS h6⟩
/-- the state s holds of the call's activation and of the world -/
structure SR (A : An) (cx : Cx) (a : Act) (w : World) (s : SS) : Prop where
  df : Marks A.w.heap.size cx w a.defers
  sz : a.tmps.size = s.nt
  tm : ∀ t, svrel A.base cx w (s.tm t) (a.tmps.getD t undef)
  mem : Mem A.base cx w s
  S : ∀ b, cx.S b → b < w.heap.size
  D : ∀ i, cx.D i → i < s.nx
  fr : Fr A.cx cx A.w w A.W 0 s.nx
  hb : A.base ≤ A.w.heap.size
theorem SR.low {A : An} {cx : Cx} {a : Act} {w : World} {s : SS} (h : SR A cx a w s) : A.base ≤ w.heap.size := Nat.le_trans h.hb h.fr.size

def Eqv (x y : SV) : Prop := ∀ base cx w v, svrel base cx w x v ↔ svrel base cx w y v
theorem Eqv.refl (x : SV) : Eqv x x := fun _ _ _ _ => Iff.rfl
theorem Eqv.symm {x y : SV} (h : Eqv x y) : Eqv y x := fun b c w v => (h b c w v).symm
theorem Eqv.trans {x y z : SV} (h : Eqv x y) (h' : Eqv y z) : Eqv x z := fun b c w v => (h b c w v).trans (h' b c w v)
theorem eqv_bool {b c : Bool} (h : b = c) : Eqv (.o (.v (.bool b))) (.o (.k (.bool c))) := fun base cx w v => by
  subst h
  constructor
  · rintro ⟨h1, _⟩; exact ⟨h1, h1⟩
  · rintro ⟨h1, _⟩
    have h1 : v = .bool b := h1
    subst h1
    exact ⟨rfl, rfl⟩

theorem Mem.congr {base : Nat} {cx : Cx} {w : World} {s s' : SS} (h : Mem base cx w s) (hb : s'.bl = s.bl) (ho : s'.ow = s.ow) : Mem base cx w s' :=
  ⟨by rw [hb]; exact h.bl, by rw [hb]; exact h.inj, by rw [ho]; exact h.ow, by rw [ho, hb]; exact h.owS, by rw [ho]; exact h.owi⟩

theorem Fr.next {A : An} {cx cx' : Cx} {w w' : World} {W : Nat → Prop} {lo hi n n' : Nat} (h : Fr A.cx cx A.w w A.W 0 n) (hf : Fr cx cx' w w' W lo hi) (hW : ∀ b, W b → A.W b ∨ A.w.heap.size ≤ b) (hn : n ≤ n') (hhi : hi ≤ n') : Fr A.cx cx' A.w w' A.W 0 n' where
  D := fun i hi => hf.D i (h.D i hi)
  D' := fun i hi => by
    rcases hf.D' i hi with h1 | h1
    · rcases h.D' i h1 with h2 | h2
      · exact .inl h2
      · exact .inr ⟨Nat.zero_le _, by omega⟩
    · exact .inr ⟨Nat.zero_le _, by omega⟩
  β := fun i hi => (hf.β i (h.D i hi)).trans (h.β i hi)
  η := fun i hi => (hf.η i (h.D i hi)).trans (h.η i hi)
  S := fun b hb => hf.S b (h.S b hb)
  S' := fun b hb => by
    have := h.size
    rcases hf.S' b hb with h1 | h1
    · rcases h.S' b h1 with h2 | h2
      · exact .inl h2
      · exact .inr ⟨h2.1, Nat.lt_of_lt_of_le h2.2 hf.size⟩
    · exact .inr ⟨by omega, h1.2⟩
  size := Nat.le_trans h.size hf.size
  os := hf.os.trans h.os
  tape := hf.tape.trans h.tape
  output := hf.output.trans h.output
  blk := fun b hb hw => by
    rw [hf.blk b (Nat.lt_of_lt_of_le hb h.size) fun h' => (hW b h').elim hw fun h'' => by omega]
    exact h.blk b hb hw
  nβ := fun i hi hn => by
    by_cases h1 : cx.D i
    · rw [hf.β i h1]; exact h.nβ i h1 hn
    · exact Nat.le_trans h.size (hf.nβ i hi h1)
  nη := fun i g hi hn hg => by
    by_cases h1 : cx.D i
    · rw [hf.η i h1] at hg; exact h.nη i g h1 hn hg
    · rcases hf.nη i g hi h1 hg with h2 | h2
      · exact .inl (Nat.le_trans h.size h2)
      · exact (hW g h2).symm

theorem eff_W {A : An} {cx : Cx} {w : World} {s : SS} {e : Eff} {n : Nat} (h : Fr A.cx cx A.w w A.W 0 n) (ha : e.at s) (hm : Mem A.base cx w s) : ∀ b, e.W cx b → A.W b ∨ A.w.heap.size ≤ b := by
  have kβ : ∀ i, cx.D i → A.W (cx.β i) ∨ A.w.heap.size ≤ cx.β i := fun i hi => by
    by_cases h1 : A.cx.D i
    · exact .inl (.inl ⟨i, h1, (h.β i h1).symm⟩)
    · exact .inr (h.nβ i hi h1)
  have kη : ∀ i b, cx.D i → (cx.η i).ownBlock = some b → A.W b ∨ A.w.heap.size ≤ b := fun i b hi hb => by
    by_cases h1 : A.cx.D i
    · exact .inl (.inr ⟨i, h1, by rw [← h.η i h1]; exact hb⟩)
    · exact (h.nη i b hi h1 hb).symm
  intro b hb
  cases e with
  | clo bs old r =>
    rcases hb with ⟨p, hp, rfl⟩ | ⟨o, ho, hg⟩
    · obtain ⟨q, hq⟩ := ha.1 p hp
      exact kβ _ (hm.bl _ q.1 q.2 hq).1
    · obtain ⟨q, hq⟩ := ha.2 o ho
      exact kη o b (hm.ow o q hq).1 hg
  | no => exact hb.elim
  | new T cs => exact hb.elim
  | own r => exact hb.elim
  | set i T cs =>
    obtain ⟨q, hq⟩ := ha
    have hb : b = cx.β i := hb
    rw [hb]
    exact kβ i (hm.bl i q.1 q.2 hq).1
  | appB i r =>
    obtain ⟨q, hq⟩ := ha
    have hb : b = cx.β i := hb
    rw [hb]
    exact kβ i (hm.bl i q.1 q.2 hq).1
  | app i r =>
    obtain ⟨q, hq⟩ := ha
    exact kη i b (hm.ow i q hq).1 hb
  | seta i r =>
    obtain ⟨q, hq⟩ := ha
    exact kη i b (hm.ow i q hq).1 hb

theorem put_tm {base : Nat} {cx : Cx} {w : World} {s : SS} {a : Act} {d : Option Nat} {x : SV} {y : Value} (hd : ∀ t, d = some t → t < a.tmps.size) (hx : svrel base cx w x y) (ht : ∀ t, svrel base cx w (s.tm t) (a.tmps.getD t undef)) :
    ∀ t, svrel base cx w ((s.put d x).tm t) ((a.put d y).tmps.getD t undef) := by
  intro t
  cases d with
  | none => exact ht t
  | some d =>
    simp only [SS.put, Act.put]
    by_cases h : t = d
    · subst h
      rw [upd_same]
      simpa [hd t rfl] using hx
    · rw [upd_ne _ _ h]
      have := ht t
      simp only [Array.getD_eq_getD_getElem?, Array.getElem?_setIfInBounds_ne (Ne.symm h)] at this ⊢
      exact this
theorem put_size (a : Act) (d : Option Nat) (y : Value) : (a.put d y).tmps.size = a.tmps.size := by cases d <;> simp [Act.put]
theorem put_defers (a : Act) (d : Option Nat) (y : Value) : (a.put d y).defers = a.defers := by cases d <;> rfl
theorem put_bl (s : SS) (d : Option Nat) (x : SV) : (s.put d x).bl = s.bl := by cases d <;> rfl
theorem put_ow (s : SS) (d : Option Nat) (x : SV) : (s.put d x).ow = s.ow := by cases d <;> rfl
theorem put_nt (s : SS) (d : Option Nat) (x : SV) : (s.put d x).nt = s.nt := by cases d <;> rfl
theorem put_nx (s : SS) (d : Option Nat) (x : SV) : (s.put d x).nx = s.nx := by cases d <;> rfl
theorem put_ne (s : SS) {d : Option Nat} (x : SV) {t : Nat} (h : d ≠ some t) : (s.put d x).tm t = s.tm t := by
  cases d with
  | none => rfl
  | some d => exact upd_ne _ _ (fun e => h (by rw [e]))
theorem put_eq (s : SS) (x : SV) (t : Nat) : (s.put (some t) x).tm t = x := upd_same ..

theorem dst_lt {s : SS} {o : Oper} {n : Nat} (h : dstOK s o = true) (hn : n = s.nt) : ∀ t, o.dst = some t → t < n := by
  intro t ht
  unfold dstOK at h
  rw [ht] at h
  rw [hn]
  exact blt_lt h

theorem over_none {α : Type} {xs : List (Nat × α)} {g : Nat → Option α} {i : Nat} (h : i ∉ xs.map (·.1)) : over xs g i = g i := by
  unfold over
  split
  · rename_i x hx; exact absurd (List.mem_map.2 ⟨_, look_mem hx, rfl⟩) h
  · rfl
theorem dropO_ne {old : Option Nat} {g : Nat → Option OR} {i : Nat} (h : old ≠ some i) : dropO old g i = g i := by
  cases old with
  | none => rfl
  | some o => exact upd_ne _ _ fun e => h (by rw [e])
theorem apply_ne {e : Eff} {s : SS} {m : Nat} (h : m ∉ e.wr s) : (e.apply s).bl m = s.bl m ∧ (e.apply s).ow m = s.ow m := by
  cases e with
  | clo bs old r =>
    simp only [Eff.wr, List.mem_cons, List.mem_append, not_or, Option.mem_toList] at h
    obtain ⟨h1, h2, h3⟩ := h
    exact ⟨over_none h3, by show upd (dropO old s.ow) s.nx r m = _; rw [upd_ne _ _ h1, dropO_ne h2]⟩
  | no => exact ⟨rfl, rfl⟩
  | new T cs => simp [Eff.wr] at h; exact ⟨upd_ne _ _ h, rfl⟩
  | set i T cs => simp [Eff.wr] at h; exact ⟨upd_ne _ _ h, rfl⟩
  | own r => simp [Eff.wr] at h; exact ⟨rfl, upd_ne _ _ h⟩
  | appB i r => simp [Eff.wr] at h; exact ⟨upd_ne _ _ h.1, upd_ne _ _ h.2⟩
  | app i r => simp [Eff.wr] at h; exact ⟨rfl, by simp only [Eff.apply]; rw [upd_ne _ _ h.2, upd_ne _ _ h.1]⟩
  | seta i r => simp [Eff.wr] at h; exact ⟨rfl, upd_ne _ _ h⟩
theorem apply_eq {e : Eff} {s s' : SS} {m : Nat} (hn : s.nx = s'.nx) (h : s.bl m = s'.bl m ∧ s.ow m = s'.ow m) : (e.apply s).bl m = (e.apply s').bl m ∧ (e.apply s).ow m = (e.apply s').ow m := by
  cases e with
  | clo bs old r =>
    refine ⟨?_, ?_⟩
    · show over bs s.bl m = over bs s'.bl m
      unfold over; rw [h.1]
    · show upd (dropO old s.ow) s.nx r m = upd (dropO old s'.ow) s'.nx r m
      have : dropO old s.ow m = dropO old s'.ow m := by
        cases old with
        | none => exact h.2
        | some o => show upd s.ow o none m = upd s'.ow o none m; simp only [upd, h.2]
      simp only [upd, hn]
      rw [this]
  | no => exact h
  | new T cs => simp only [Eff.apply, upd, hn, h]; exact ⟨trivial, trivial⟩
  | set i T cs => simp only [Eff.apply, upd, hn, h]; exact ⟨trivial, trivial⟩
  | own r => simp only [Eff.apply, upd, hn, h]; exact ⟨trivial, trivial⟩
  | app i r => simp only [Eff.apply, upd, hn, h]; exact ⟨trivial, trivial⟩
  | appB i r => simp only [Eff.apply, upd, hn, h]; exact ⟨trivial, trivial⟩
  | seta i r => simp only [Eff.apply, upd, hn, h]; exact ⟨trivial, trivial⟩

/-! ### guards -/
def gd (ops : List Oper) (o : Oper) (s : SS) (run : Bool) : Prop := match o.guard with
  | none => run = true
  | some (j, want) => ∃ oj t, ops[j]? = some oj ∧ oj.dst = some t ∧ (s.tm t = .o (.k (.bool (want == run))) ∨ (run = false ∧ ∃ vs, s.tm t = .o (.k (.tuple vs))))

theorem wanted_of {ops : Array Oper} {o : Oper} {s : SS} {run : Bool} {a : Act} {base : Nat} {cx : Cx} {w : World} (h : gd ops.toList o s run) (ht : ∀ t, t ∈ guardT ops.toList o → svrel base cx w (s.tm t) (a.tmps.getD t undef)) :
    Region.wanted o (yielded ops a.tmps) = run := by
  unfold gd at h
  unfold Region.wanted
  cases hg : o.guard with
  | none => rw [hg] at h; exact h.symm
  | some jw =>
    obtain ⟨j, want⟩ := jw
    rw [hg] at h
    obtain ⟨oj, t, h1, h2, h3⟩ := h
    have h4 := ht t (by unfold guardT; rw [hg]; simp only [h1, h2]; simp)
    rcases h3 with h3 | ⟨rfl, vs, h3⟩
    rotate_left
    · rw [h3] at h4
      have h5 : a.tmps.getD t undef = .tuple vs := h4.1
      have h1' : ops[j]? = some oj := by rw [← Array.getElem?_toList]; exact h1
      have h7 : yielded ops a.tmps j = none := by
        rw [Array.getD_eq_getD_getElem?] at h5
        cases hq : a.tmps[t]? with
        | none => simp [yielded, h1', h2, hq]
        | some v => rw [hq] at h5; simp only [Option.getD_some] at h5; rw [h5] at hq; simp [yielded, h1', h2, hq]
      simp only [h7]
      cases want <;> rfl
    rw [h3] at h4
    have h5 : a.tmps.getD t undef = .bool (want == run) := h4.1
    have h6 : a.tmps[t]? = some (.bool (want == run)) := by
      rw [Array.getD_eq_getD_getElem?] at h5
      cases hq : a.tmps[t]? with
      | none => rw [hq] at h5; cases h5
      | some v => rw [hq] at h5; simp only [Option.getD_some] at h5; rw [h5]
    have h1' : ops[j]? = some oj := by rw [← Array.getElem?_toList]; exact h1
    have h7 : yielded ops a.tmps j = some (want == run) := by simp [yielded, h1', h2, h6]
    simp only [h7]
    cases want <;> cases run <;> rfl

/-- one operation of the text's order: s, what it reads and writes, the state behind it -/
def Step1 (P : Program) (E : Env) (ops : List Oper) (n0 j : Nat) (o : Oper) (s : SS) (r : Rec) (s' : SS) : Prop :=
  dstOK s o = true ∧ ∃ s1 : SS, s1.bl = s.bl ∧ s1.ow = s.ow ∧ s1.nt = s.nt ∧ (∀ t, Eqv (s.tm t) (s1.tm t)) ∧
    ((gd ops o s1 true ∧ ∃ E' ob x e, (EnvOK P E → EnvOK P E') ∧ evalOp E' (s1.at (n0 + j)) o = some (ob, x, e) ∧ (∀ p, ob = some p → p) ∧ r = recRun ops o (s1.at (n0 + j)) e ∧ s' = (e.apply (s1.at (n0 + j))).put o.dst x) ∨
     (gd ops o s1 false ∧ r = recSkip ops o ∧ s' = skipped s1 o))

theorem refine_eqv {s : SS} {t : Nat} {b c : Bool} (ht : s.tm t = .o (.v (.bool b))) (h : b = c) : ∀ u, Eqv (s.tm u) ((refine_ s t c).tm u) := by
  intro u
  unfold refine_
  by_cases hu : u = t
  · subst hu; simp only [upd_same]; rw [ht]; exact eqv_bool h
  · simp only [upd_ne _ _ hu]; exact Eqv.refl _

theorem Step1.nt {P : Program} {E : Env} {ops : List Oper} {n0 j : Nat} {o : Oper} {s s' : SS} {r : Rec} (h : Step1 P E ops n0 j o s r s') : s'.nt = s.nt := by
  obtain ⟨_, s1, _, _, h3, _, hs⟩ := h
  rw [← h3]
  rcases hs with ⟨_, _, ob, x, e, _, he, _, _, hs⟩ | ⟨_, _, hs⟩
  · rw [hs, put_nt, (evalOp_at he).2.2.1]; rfl
  · rw [hs]; exact put_nt _ _ _

/-- a contract, as it was chosen at one call -/
noncomputable def atCt (E : Env) (g : Nat) (ls : Res) (res : Res) : Env := { E with ct := fun h => if h = g then some fun a => open Classical in if a = ls then some (True, res) else none else E.ct h }
noncomputable def atCl (E : Env) (g : Nat) (kinds : List CK) (ls : Res) (cv : List CV) (res : Res) (out : List CV) : Env := { E with cl := fun h => if h = g then some ⟨kinds, fun a c => open Classical in if a = ls ∧ c = cv then some (True, res, out) else none⟩ else E.cl h }
theorem atCt_ok {P : Program} {E : Env} {g : Nat} {ls res : Res} (hE : EnvOK P E) (hc : E.call g ls res) : EnvOK P (atCt E g ls res) := by
  refine ⟨hE.tt, hE.cl, fun h sp hsp => ?_, hE.call, hE.clo, hE.hv, hE.sq, hE.ap, hE.apR⟩
  simp only [atCt] at hsp
  split at hsp
  · rename_i e
    subst e
    simp only [Option.some.injEq] at hsp
    subst hsp
    have hc' := hE.call _ _ _ hc
    show Enters P h ∧ match E.old h with
      | false => FnOK P h _
      | true => FnOKo P h _
    cases hold : E.old h with
    | false =>
      rw [hold] at hc'
      obtain ⟨h1, h2⟩ := hc'
      refine ⟨h1, fun w args vs pre res' hsp hpre hargs => ?_⟩
      dsimp only at hsp
      split at hsp
      · rename_i e
        subst e
        simp only [Option.some.injEq, Prod.mk.injEq] at hsp
        obtain ⟨_, rfl⟩ := hsp
        exact h2 w vs hargs
      · cases hsp
    | true =>
      rw [hold] at hc'
      obtain ⟨h1, h2⟩ := hc'
      refine ⟨h1, fun S w args vs pre res' hsp hpre hS hargs => ?_⟩
      dsimp only at hsp
      split at hsp
      · rename_i e
        subst e
        simp only [Option.some.injEq, Prod.mk.injEq] at hsp
        obtain ⟨_, rfl⟩ := hsp
        exact h2 S w vs hS hargs
      · cases hsp
  · exact hE.ct h sp hsp
theorem atCl_ok {P : Program} {E : Env} {g : Nat} {kinds : List CK} {ls : Res} {cv : List CV} {res : Res} {out : List CV} (hE : EnvOK P E) (hc : E.clo g ls cv res out) : EnvOK P (atCl E g kinds ls cv res out) := by
  refine ⟨hE.tt, fun h sp hsp => ?_, hE.ct, hE.call, hE.clo, hE.hv, hE.sq, hE.ap, hE.apR⟩
  simp only [atCl] at hsp
  split at hsp
  · rename_i e
    subst e
    simp only [Option.some.injEq] at hsp
    subst hsp
    obtain ⟨h1, h2⟩ := hE.clo _ _ _ _ _ hc
    refine ⟨h1, fun base cx w args vs ts pre res' out' hsp hpre => ?_⟩
    dsimp only at hsp
    split at hsp
    · rename_i e
      obtain ⟨rfl, e⟩ := e
      simp only [Option.some.injEq, Prod.mk.injEq] at hsp
      obtain ⟨_, rfl, rfl⟩ := hsp
      subst e
      exact h2 base cx w vs ts rfl
    · cases hsp
  · exact hE.cl h sp hsp

noncomputable def atAp (E : Env) (g : Nat) (r : OR) (ls : Res) (r' : OR) : Env := { E with ap := fun h => if h = g then some fun a b => open Classical in if a = r ∧ b = ls then some r' else none else E.ap h }
theorem atAp_ok {P : Program} {E : Env} {g : Nat} {r : OR} {ls : Res} {r' : OR} (hE : EnvOK P E) (hc : E.apR g r ls r') : EnvOK P (atAp E g r ls r') := by
  refine ⟨hE.tt, hE.cl, hE.ct, hE.call, hE.clo, hE.hv, hE.sq, fun h F hF a b a' hab => ?_, hE.apR⟩
  simp only [atAp] at hF
  split at hF
  · rename_i e
    subst e
    simp only [Option.some.injEq] at hF
    subst hF
    dsimp only at hab
    split at hab
    · rename_i e
      obtain ⟨rfl, rfl⟩ := e
      simp only [Option.some.injEq] at hab
      subst hab
      exact hE.apR _ _ _ _ hc
    · cases hab
  · exact hE.ap h F hF a b a' hab
theorem EnvOK.ix {P : Program} {E : Env} (h : EnvOK P E) (q : Nat) : EnvOK P { E with ix := some q } := ⟨h.tt, h.cl, h.ct, h.call, h.clo, h.hv, h.sq, h.ap, h.apR⟩
theorem vcOne_ok {P : Program} {E : Env} {s : SS} {o : Oper} {k : SV → Eff → Prop} (h : vcOne E s.nx s o k) : ∃ E' ob x e, (EnvOK P E → EnvOK P E') ∧ evalOp E' s o = some (ob, x, e) ∧ (∀ p, ob = some p → p) ∧ k x e := by
  unfold vcOne at h
  split at h
  · rename_i g i r ls hap
    obtain ⟨r', h1, h2⟩ := h
    rw [fEff_eq] at h2
    refine ⟨atAp E g r ls r', none, .o (.h s.nx), .app i r', fun hE => atAp_ok hE h1, ?_, (fun p hp => by cases hp), h2⟩
    unfold apOf at hap
    repeat' (split at hap)
    all_goals try (cases hap; done)
    simp only [Option.some.injEq, Prod.mk.injEq] at hap
    obtain ⟨rfl, rfl, rfl, rfl⟩ := hap
    simp only [evalOp, evAp, atAp, *, and_self, if_true]
  split at h
  · rename_i g cs xs hrel
    unfold relOf at hrel
    split at hrel
    · rename_i c hop
      split at hrel
      · rename_i f hcal
        split at hrel
        · rename_i g' cs' hf
          split at hrel
          · cases hrel
          rename_i hap
          split at hrel
          · cases hrel
          rename_i hct
          split at hrel
          · cases hrel
          rename_i hcl
          simp only [Option.some.injEq, Prod.mk.injEq] at hrel
          obtain ⟨rfl, rfl, rfl⟩ := hrel
          unfold vcRel at h
          split at h
          · exact h.elim
          rename_i ls hls
          split at h
          · split at h
            · exact h.elim
            rename_i ks hks
            split at h
            · rename_i hold
              obtain ⟨res, h1, h2⟩ := h
              rw [fSV_eq] at h2
              refine ⟨atCt E g' (ls ++ ks) res, some True, resSV res, .no, fun hE => atCt_ok hE h1, ?_, fun p hp => by cases hp; trivial, h2⟩
              have e0 : (atCt E g' (ls ++ ks) res).ap g' = none := hap
              have e1 : (atCt E g' (ls ++ ks) res).cl g' = none := hcl
              have e2 : (atCt E g' (ls ++ ks) res).ct g' = some fun a => open Classical in if a = ls ++ ks then some (True, res) else none := by simp [atCt]
              have e4 : (atCt E g' (ls ++ ks) res).old g' = false := hold
              simp only [evalOp, hop, hcal, hf, e0, e1, evCall, e2]
              have e3 : (atCt E g' (ls ++ ks) res).tt = E.tt := rfl
              simp only [e3, hls, hks, if_true, e4]
            · rename_i hold
              split at h
              · split at h
                · rename_i hdat
                  obtain ⟨res, h1, h2⟩ := h
                  rw [fSV_eq] at h2
                  refine ⟨atCt E g' (ls ++ ks) res, some True, resSVo res, .no, fun hE => atCt_ok hE h1, ?_, fun p hp => by cases hp; trivial, h2⟩
                  have e0 : (atCt E g' (ls ++ ks) res).ap g' = none := hap
                  have e1 : (atCt E g' (ls ++ ks) res).cl g' = none := hcl
                  have e2 : (atCt E g' (ls ++ ks) res).ct g' = some fun a => open Classical in if a = ls ++ ks then some (True, res) else none := by simp [atCt]
                  have e4 : (atCt E g' (ls ++ ks) res).old g' = true := hold
                  simp only [evalOp, hop, hcal, hf, e0, e1, evCall, e2]
                  have e3 : (atCt E g' (ls ++ ks) res).tt = E.tt := rfl
                  simp only [e3, hls, hks, if_true, e4, hdat]
                · exact h.elim
              · exact h.elim
          · rename_i kinds hkd
            split at h
            · exact h.elim
            rename_i hd
            split at h
            · exact h.elim
            rename_i vs old hcv
            obtain ⟨res, out, h1, h2, h3⟩ := h
            rw [fEff_eq] at h3
            refine ⟨atCl E g' kinds ls (vs.map (·.2)) res out, some True, resSV res, _, fun hE => atCl_ok hE h1, ?_, fun p hp => by cases hp; trivial, h3⟩
            have e1 : (atCl E g' kinds ls (vs.map (·.2)) res out).cl g' = some ⟨kinds, fun a c => open Classical in if a = ls ∧ c = vs.map (·.2) then some (True, res, out) else none⟩ := by simp [atCl]
            have e0 : (atCl E g' kinds ls (vs.map (·.2)) res out).ap g' = none := hap
            have e3 : (atCl E g' kinds ls (vs.map (·.2)) res out).tt = E.tt := rfl
            simp only [evalOp, hop, hcal, hf, e0, e1, evClo, e3, hls, hd, hcv, and_self, if_true, h2]
        · cases hrel
      · cases hrel
    · cases hrel
  · have key : ∀ E1 : Env, (EnvOK P E → EnvOK P E1) → vcRun s.nx (evalOp E1 s o) k → ∃ E' ob x e, (EnvOK P E → EnvOK P E') ∧ evalOp E' s o = some (ob, x, e) ∧ (∀ p, ob = some p → p) ∧ k x e := by
      intro E1 hE1 h
      unfold vcRun at h
      split at h
      · rename_i ob x e he
        rw [fEff_eq] at h
        split at h
        · exact ⟨E1, none, x, e, hE1, he, (fun p hp => by cases hp), h⟩
        · rename_i p
          exact ⟨E1, some p, x, e, hE1, he, (fun q hq => by cases hq; exact h.1), h.2⟩
      · exact h.elim
    split at h
    · obtain ⟨q, h⟩ := h
      exact key _ (fun hE => hE.ix q) h
    · exact key E id h

theorem vcRun_mono {n : Nat} {x : R3} {k k' : SV → Eff → Prop} (hk : ∀ x e, k x e → k' x e) (h : vcRun n x k) : vcRun n x k' := by
  unfold vcRun at h ⊢
  split at h
  · split at h
    · rw [fEff_eq] at h ⊢; exact hk _ _ h
    · rw [fEff_eq] at h ⊢; exact ⟨h.1, hk _ _ h.2⟩
  · exact h.elim
theorem vcOne_mono {E : Env} {n : Nat} {s : SS} {o : Oper} {k k' : SV → Eff → Prop} (hk : ∀ x e, k x e → k' x e) (h : vcOne E n s o k) : vcOne E n s o k' := by
  unfold vcOne at h ⊢
  split at h
  · obtain ⟨r', h1, h2⟩ := h
    rw [fEff_eq] at h2
    exact ⟨r', h1, by rw [fEff_eq]; exact hk _ _ h2⟩
  split at h
  · unfold vcRel at h ⊢
    split at h
    · exact h.elim
    split at h
    · split at h
      · exact h.elim
      split at h
      · obtain ⟨res, h1, h2⟩ := h
        rw [fSV_eq] at h2
        exact ⟨res, h1, by rw [fSV_eq]; exact hk _ _ h2⟩
      · split at h
        · split at h
          · obtain ⟨res, h1, h2⟩ := h
            rw [fSV_eq] at h2
            exact ⟨res, h1, by rw [fSV_eq]; exact hk _ _ h2⟩
          · exact h.elim
        · exact h.elim
    · split at h
      · exact h.elim
      rename_i hd
      split at h
      · exact h.elim
      obtain ⟨res, out, h1, h2, h3⟩ := h
      rw [fEff_eq] at h3
      exact ⟨res, out, h1, h2, by rw [fEff_eq]; exact hk _ _ h3⟩
  · split at h
    · exact h.imp fun q h => vcRun_mono hk h
    · exact vcRun_mono hk h
theorem vcGo_mono {dr : Bool} {i : Nat} {an : Nat → List Nat} {rc : List (Nat × Rec)} {es : List Edge} {r : Rec} {k k' : (Nat → List Nat) → List (Nat × Rec) → Prop} (hk : ∀ an rc, k an rc → k' an rc) (h : vcGo dr i an rc es r k) : vcGo dr i an rc es r k' := by
  unfold vcGo at h ⊢
  split at h
  · exact hk _ _ h
  · split at h
    · exact h.elim
    · rw [fL_eq, fL_eq, fO_eq, fLN_eq, fLN_eq] at h ⊢
      split at h
      · exact h.elim
      · exact hk _ _ h
theorem fB2_eq : ∀ {bs : List (Nat × Nat × List C)} {k : List (Nat × Nat × List C) → Prop}, fB2 bs k = k bs
  | [], _ => rfl
  | (i, T, cs) :: bs, k => by unfold fB2; rw [fNat_eq, fCs_eq, fB2_eq]
theorem fO2_eq : ∀ {os : List (Nat × OR)} {k : List (Nat × OR) → Prop}, fO2 os k = k os
  | [], _ => rfl
  | (i, r) :: os, k => by unfold fO2; rw [fNat_eq, fOR_eq, fO2_eq]
theorem hvStep_mono {E : Env} {n : Nat} {s : SS} {g : Nat} {xs : List SV} {k k' : Nat → SV → SS → Prop} (hk : ∀ m x s, k m x s → k' m x s) (h : hvStep E n s g xs k) : hvStep E n s g xs k' := by
  obtain ⟨ys, M, x, M', bsl, rsl, h1, h2, h3⟩ := h
  refine ⟨ys, M, x, M', bsl, rsl, h1, h2, ?_⟩
  rw [fB2_eq, fO2_eq, fSV_eq] at h3 ⊢
  exact hk _ _ _ h3
theorem opStep_mono {E : Env} {nt : Nat} {dr : Bool} {ops : List Oper} {n0 : Nat} {o : Oper} {i : Nat} {an : Nat → List Nat} {rc : List (Nat × Rec)} {s : SS} {k k' : Nat → (Nat → List Nat) → List (Nat × Rec) → SS → Prop} (hk : ∀ n0 an rc s, k n0 an rc s → k' n0 an rc s) (h : opStep E (hvStep E) nt dr ops n0 o i an rc s k) : opStep E (hvStep E) nt dr ops n0 o i an rc s k' := by
  unfold opStep at h ⊢
  split at h
  · exact h.elim
  dsimp only at h ⊢
  have skip : ∀ s : SS, (vcGo dr i an rc o.after.toList (recSkip ops o) fun an rc => k n0 an rc (skipped s o)) → vcGo dr i an rc o.after.toList (recSkip ops o) fun an rc => k' n0 an rc (skipped s o) := fun s h => vcGo_mono (fun an rc h => hk _ _ _ _ h) h
  have run : ∀ s : SS, opRun E (hvStep E) dr ops n0 o i an rc k s (hvOf E s o) → opRun E (hvStep E) dr ops n0 o i an rc k' s (hvOf E s o) := by
    intro s h
    unfold opRun at h ⊢
    split at h
    · rw [fNat_eq] at h ⊢
      exact vcOne_mono (fun x e h => vcGo_mono (fun an rc h => hk _ _ _ _ h) h) h
    · cases dr with
      | true => exact h.elim
      | false =>
        dsimp only at h ⊢
        rw [fNat_eq] at h ⊢
        refine hvStep_mono (fun m x s h => ?_) h
        rw [fNat_eq] at h ⊢
        exact hk _ _ _ _ h
  split at h
  · exact run _ h
  · split at h
    · exact h.elim
    split at h
    · exact h.elim
    split at h
    · split at h
      · exact run _ h
      · exact run _ h
      · exact skip _ h
    · exact ⟨fun e => run _ (h.1 e), fun e => skip _ (h.2 e)⟩
    · exact skip _ h
    · exact h.elim

/-- a call that turns memory, in the order of the text -/
def StepH (E : Env) (ops : List Oper) (n0 i : Nat) (o : Oper) (s s' : SS) (m : Nat) : Prop := dstOK s o = true ∧ ∃ s1 : SS, s1.bl = s.bl ∧ s1.ow = s.ow ∧ s1.nt = s.nt ∧ (∀ t, Eqv (s.tm t) (s1.tm t)) ∧ gd ops o s1 true ∧
  ∃ g xs ys M x M' bsl rsl, hvOf E s1 o = some (g, xs) ∧ E.hv g ys M x M' ∧ HvIn (s1.at (n0 + i)) xs ys M bsl rsl ∧ m = M'.nx ∧ s' = (hvSt (s1.at (n0 + i)) bsl rsl (outMB bsl rsl (n0 + i) M'.bs) (outMO rsl (n0 + i) M'.os) (n0 + i + 1 + M'.nx)).put o.dst (outSV bsl rsl (n0 + i) x)
/-- one operation of 'vcOps' -/
theorem vcOps_step {P : Program} {E : Env} {nt : Nat} {dr : Bool} {ops : List Oper} {n0 : Nat} {K : SS → Prop} {o : Oper} {rest : List Oper} {i : Nat} {an : Nat → List Nat} {rc : List (Nat × Rec)} {s : SS} (hnt : s.nt = nt) (h : vcOps E nt dr ops n0 K (o :: rest) i an rc s) :
    (∃ r s', Step1 P E ops n0 i o s r s' ∧ vcGo dr i an rc o.after.toList r fun an rc => vcOps E nt dr ops n0 K rest (i + 1) an rc s') ∨ (dr = false ∧ ∃ s' m, StepH E ops n0 i o s s' m ∧ vcOps E nt dr ops (n0 + m) K rest (i + 1) an rc s') := by
  unfold vcOps opStep at h
  split at h
  · exact h.elim
  rename_i hd
  have hd : dstOK s o = true := by unfold dstOK; unfold dstN at hd; rw [hnt]; exact hd
  dsimp only at h
  have run : ∀ s1 : SS, s1.bl = s.bl → s1.ow = s.ow → s1.nt = s.nt → (∀ t, Eqv (s.tm t) (s1.tm t)) → gd ops o s1 true → opRun E (hvStep E) dr ops n0 o i an rc (fun n0 an rc s => vcOps E nt dr ops n0 K rest (i + 1) an rc s) s1 (hvOf E s1 o) →
      (∃ r s', Step1 P E ops n0 i o s r s' ∧ vcGo dr i an rc o.after.toList r fun an rc => vcOps E nt dr ops n0 K rest (i + 1) an rc s') ∨ (dr = false ∧ ∃ s' m, StepH E ops n0 i o s s' m ∧ vcOps E nt dr ops (n0 + m) K rest (i + 1) an rc s') := by
    intro s1 h1 h2 h3 h4 h5 h6
    unfold opRun at h6
    split at h6
    · rw [fNat_eq] at h6
      obtain ⟨E', ob, x, e, hE', he, hob, h6⟩ := vcOne_ok (P := P) (s := s1.at (n0 + i)) h6
      exact .inl ⟨_, _, ⟨hd, s1, h1, h2, h3, h4, .inl ⟨h5, E', ob, x, e, hE', he, hob, rfl, rfl⟩⟩, h6⟩
    · rename_i g xs hg
      cases dr with
      | true => exact h6.elim
      | false =>
        dsimp only at h6
        rw [fNat_eq] at h6
        obtain ⟨ys, M, x, M', bsl, rsl, q1, q2, q3⟩ := h6
        rw [fB2_eq, fO2_eq, fSV_eq, fNat_eq] at q3
        exact .inr ⟨rfl, _, M'.nx, ⟨hd, s1, h1, h2, h3, h4, h5, g, xs, ys, M, x, M', bsl, rsl, hg, q1, q2, rfl, rfl⟩, q3⟩
  have skip : ∀ s1 : SS, s1.bl = s.bl → s1.ow = s.ow → s1.nt = s.nt → (∀ t, Eqv (s.tm t) (s1.tm t)) → gd ops o s1 false → (vcGo dr i an rc o.after.toList (recSkip ops o) fun an rc => vcOps E nt dr ops n0 K rest (i + 1) an rc (skipped s1 o)) →
      (∃ r s', Step1 P E ops n0 i o s r s' ∧ vcGo dr i an rc o.after.toList r fun an rc => vcOps E nt dr ops n0 K rest (i + 1) an rc s') ∨ (dr = false ∧ ∃ s' m, StepH E ops n0 i o s s' m ∧ vcOps E nt dr ops (n0 + m) K rest (i + 1) an rc s') := by
    intro s1 h1 h2 h3 h4 h5 h6
    exact .inl ⟨_, _, ⟨hd, s1, h1, h2, h3, h4, .inr ⟨h5, rfl, rfl⟩⟩, h6⟩
  split at h
  · rename_i hg
    exact run s rfl rfl rfl (fun t => Eqv.refl _) (by unfold gd; rw [hg]) h
  · rename_i j want hg
    split at h
    · exact h.elim
    rename_i oj hoj
    split at h
    · exact h.elim
    rename_i t ht
    have mk : ∀ (s1 : SS) (r : Bool), s1.tm t = .o (.k (.bool (want == r))) → gd ops o s1 r := by
      intro s1 r h1
      unfold gd
      rw [hg]
      exact ⟨oj, t, hoj, ht, .inl h1⟩
    split at h
    · rename_i b hb
      split at h
      · exact run s rfl rfl rfl (fun t => Eqv.refl _) (mk s true hb) h
      · exact run s rfl rfl rfl (fun t => Eqv.refl _) (mk s true hb) h
      · rename_i h1 h2
        refine skip s rfl rfl rfl (fun t => Eqv.refl _) (mk s false ?_) h
        rw [hb]
        cases b <;> cases want
        · exact (h2 rfl rfl).elim
        · rfl
        · rfl
        · exact (h1 rfl rfl).elim
    · rename_i b hb
      by_cases hbw : b = want
      · exact run (refine_ s t want) rfl rfl rfl (refine_eqv hb hbw) (mk _ true (by unfold refine_; simp only [upd_same]; cases want <;> rfl)) (h.1 hbw)
      · have hbw' : b = !want := by cases b <;> cases want <;> simp_all
        exact skip (refine_ s t (!want)) rfl rfl rfl (refine_eqv hb hbw') (mk _ false (by unfold refine_; simp only [upd_same]; cases want <;> rfl)) (h.2 hbw')
    · rename_i vs hb
      exact skip s rfl rfl rfl (fun t => Eqv.refl _) (by unfold gd; rw [hg]; exact ⟨oj, t, hoj, ht, .inr ⟨rfl, vs, hb⟩⟩) h
    · exact h.elim

section
variable {P : Program} {E : Env} {A : An} {Q : Exit → Act → World → Prop} {K : SS → Prop}

theorem seq_ok (hE : EnvOK P E) {ops : Array Oper} {n0 nt : Nat} (hK : ∀ s a w cx, K s → SR A cx a w s → Q .normal a w) : ∀ (rest : List Oper) (i : Nat) (an : Nat → List Nat) (rc : List (Nat × Rec)) (s : SS) (cx : Cx) (a : Act) (w : World),
    (∀ k, ops.toList[i + k]? = rest[k]?) → s.nt = nt → vcOps E nt false ops.toList n0 K rest i an rc s → SR A cx a w (s.at (n0 + i)) → wpOps P ops Q (List.range' i rest.length) a w
  | [], i, an, rc, s, cx, a, w, _, _, h, hs => by
    unfold vcOps at h
    rw [fNat_eq] at h
    exact hK _ a w cx h hs
  | o :: rest, i, an, rc, s, cx, a, w, hops, hnt, h, hs => by
    have ho : ops[i]? = some o := by rw [← Array.getElem?_toList]; exact hops 0
    have hrest : ∀ k, ops.toList[i + 1 + k]? = rest[k]? := fun k => by have := hops (k + 1); rw [show i + 1 + k = i + (k + 1) from by omega]; simpa using this
    rcases vcOps_step (P := P) hnt h with ⟨r, s', hst1, hnext⟩ | ⟨_, s', m, ⟨hd, s1, h1, h2, h3, h4, hg, g, xs, ys, M, x, M', bsl, rsl, q1, q2, q3, rfl, rfl⟩, hnext⟩
    rotate_left
    · have htm : ∀ t, svrel A.base cx w (s1.tm t) (a.tmps.getD t undef) := fun t => (h4 t _ _ _ _).1 (hs.tm t)
      have hmem : Mem A.base cx w (s1.at (n0 + i)) := hs.mem.congr h1 h2
      have hdl : ∀ t, o.dst = some t → t < a.tmps.size := dst_lt hd hs.sz
      rw [List.length_cons, List.range'_succ, wpOps_cons]
      unfold wpOp
      simp only [ho]
      rw [wanted_of hg fun t _ => htm t]
      simp only [if_true]
      left
      refine hv_ok hE hs.low (s := s1.at (n0 + i)) hmem hs.S hs.D htm q1 q2 q3 fun y w' cx' hF hx hM hS => ?_
      have hsW : ∀ b, cx.S b → b < w.heap.size ∧ ¬ WH cx bsl rsl b := fun b hb => ⟨hs.S b hb, WH_S hmem q3 hb⟩
      refine seq_ok hE hK rest (i + 1) an rc _ cx' _ w' hrest ?_ hnext ⟨?_, ?_, ?_, ?_, hS, ?_, hs.fr.next hF (WH_A hs.fr hmem q3) (by show n0 + i ≤ n0 + M'.nx + (i + 1); omega) (by show n0 + i + 1 + M'.nx ≤ n0 + M'.nx + (i + 1); omega), hs.hb⟩
      · rw [put_nt]; exact h3.trans hnt
      · rw [put_defers]; exact hs.df.next hF hsW
      · rw [put_size]; show _ = (SS.put _ _ _).nt; rw [put_nt]; exact hs.sz.trans h3.symm
      · intro t
        exact put_tm (s := hvSt (s1.at (n0 + i)) bsl rsl _ _ _) hdl hx (fun t => hF.svrel hsW (htm t)) t
      · exact hM.congr (put_bl _ _ _) (put_ow _ _ _)
      · intro m hm
        show m < n0 + M'.nx + (i + 1)
        rcases hF.D' m hm with h | h
        · have : m < n0 + i := hs.D m h
          omega
        · have : m < n0 + i + 1 + M'.nx := h.2
          omega
    have hnt' := hst1.nt.trans hnt
    obtain ⟨hd, s1, h1, h2, h3, h4, hst⟩ := hst1
    have htm : ∀ t, svrel A.base cx w (s1.tm t) (a.tmps.getD t undef) := fun t => (h4 t _ _ _ _).1 (hs.tm t)
    have hmem : Mem A.base cx w (s1.at (n0 + i)) := hs.mem.congr h1 h2
    have hdl : ∀ t, o.dst = some t → t < a.tmps.size := dst_lt hd hs.sz
    rw [List.length_cons, List.range'_succ, wpOps_cons]
    unfold wpOp
    simp only [ho]
    rcases hst with ⟨hg, E', ob, x, e, hE', he, hob, rfl, rfl⟩ | ⟨hg, rfl, rfl⟩
    · rw [wanted_of hg fun t _ => htm t]
      simp only [if_true]
      left
      obtain ⟨e1, e2, e3, e4⟩ := evalOp_at he
      refine op_ok (hE' hE) hs.low hmem hs.S (fun m hm => Nat.ne_of_lt (hs.D m hm)) htm he hob fun y w' cx' hF hx hM hS => ?_
      have hsW : ∀ b, cx.S b → b < w.heap.size ∧ ¬ e.W cx b := fun b hb => ⟨hs.S b hb, by
        cases e with
        | clo bs old r =>
          rintro (⟨p, hp, rfl⟩ | ⟨o, ho, hg⟩)
          · obtain ⟨q, hq⟩ := e1.1 p hp; exact (hmem.bl _ q.1 q.2 hq).2.2.1 hb
          · obtain ⟨q, hq⟩ := e1.2 o ho; exact (hmem.owS o q b hq hg).1 hb
        | set i T cs => obtain ⟨q, hq⟩ := e1; intro h; have h : b = cx.β i := h; exact (hmem.bl i q.1 q.2 hq).2.2.1 (h ▸ hb)
        | appB i r => obtain ⟨q, hq⟩ := e1; intro h; have h : b = cx.β i := h; exact (hmem.bl i q.1 q.2 hq).2.2.1 (h ▸ hb)
        | app i r => obtain ⟨q, hq⟩ := e1; intro h; exact (hmem.owS i q b hq h).1 hb
        | seta i r => obtain ⟨q, hq⟩ := e1; intro h; exact (hmem.owS i q b hq h).1 hb
        | _ => exact id⟩
      refine seq_ok hE hK rest (i + 1) an rc _ cx' _ w' hrest hnt' hnext ⟨?_, ?_, ?_, ?_, hS, ?_, hs.fr.next hF (eff_W hs.fr e1 hmem) (Nat.le_succ _) e2, hs.hb⟩
      · rw [put_defers]; exact hs.df.next hF hsW
      · rw [put_size]; show _ = (SS.put _ _ _).nt; rw [put_nt, e3]; exact hs.sz.trans h3.symm
      · intro t
        exact put_tm (s := e.apply (s1.at (n0 + i))) hdl hx (fun t => by rw [e4]; exact hF.svrel hsW (htm t)) t
      · exact hM.congr (put_bl _ _ _) (put_ow _ _ _)
      · intro m hm
        rcases hF.D' m hm with h | h
        · exact Nat.lt_succ_of_lt (hs.D m h)
        · show m < n0 + (i + 1)
          have : m < n0 + i + 1 := Nat.lt_of_lt_of_le h.2 e2
          omega
    · rw [wanted_of hg fun t _ => htm t]
      simp only [Bool.false_eq_true, if_false]
      refine seq_ok hE hK rest (i + 1) an rc _ cx _ w hrest hnt' hnext ⟨?_, ?_, ?_, ?_, hs.S, ?_, hs.fr.next (Fr.refl cx w (fun _ => False) 0) (fun _ h => h.elim) (Nat.le_succ _) (Nat.zero_le _), hs.hb⟩
      · rw [put_defers]; exact hs.df
      · rw [put_size]; show _ = (SS.put _ _ _).nt; rw [put_nt]; exact hs.sz.trans h3.symm
      · intro t
        exact put_tm (s := s1) (x := und) (y := undef) hdl (sv_k undef) htm t
      · exact hmem.congr (put_bl s1 _ _) (put_ow s1 _ _)
      · intro m hm
        show m < n0 + (i + 1)
        have : m < n0 + i := hs.D m hm
        omega
end
end Go.Proofs.YtggappbiedkopaaGreat.SX
