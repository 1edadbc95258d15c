/- The symbolic executor, part n: functions. -/
import Derived.Test.YtggappbiedkopaaGreatSm
namespace Go.Proofs.YtggappbiedkopaaGreat.SX
open Go Go.RowKit
set_option linter.unusedVariables false
set_option linter.unusedSimpArgs false

def argSV (r : Bool × List L) : SV := match r with
  | (b, ls) => match b with
    | true => .a (ls.map (ofL false))
    | false => match ls with
      | [l] => .o (ofL false l)
      | _ => .o .any
/-- the state at a function's entry -/
def s0 (args : Res) (nt : Nat) : SS :=
  { tm := fun t => match args[t]? with
      | some r => argSV r
      | none => .o (.k undef)
    bl := fun _ => none, ow := fun _ => none, nx := 0, nt := nt }

def isLit (l : L) : Bool := match l with
  | .lit _ => true
  | _ => false
/-- a result's cell: the data l, and in blocks of the call's own -/
def cOK0 (s : SS) (tt : Nat → Option TI) (c : C) (l : L) : Prop := match c with
  | .k x => match l with
    | .lit y => x = y ∧ one x = true
    | .sl _ n _ => x = .slice none 0 0 ∧ n = 0
    | _ => False
  | .v x => match l with
    | .lit y => x = y
    | _ => False
  | .sl fr sz n f => fr = true ∧ SameL (.sl sz n f) l
  | .ep fr m g => fr = true ∧ SameL (.pt m g) l
  | .h i => match s.ow i with
    | some r => match l with
      | .sl sz n g => r.sz = sz ∧ r.n = n ∧ ∀ a, a < n → ∀ j, j < sz → (r.fr || isLit (g a j)) = true ∧ SameL (r.f a j) (g a j)
      | _ => False
    | none => False
  | _ => False
def csOK0 (s : SS) (tt : Nat → Option TI) (cs : List C) (g : Nat → L) : Prop := match cs with
  | [] => True
  | c :: cs => cOK0 s tt c (g 0) ∧ csOK0 s tt cs fun j => g (j + 1)
/-- .. or a pointer to a block of the call's own: its first cells -/
def cOK (s : SS) (tt : Nat → Option TI) (c : C) (l : L) : Prop := match c with
  | .p i off => match l with
    | .pt m g => match s.bl i with
      | some (_, cs) => match Nat.ble (off + m) cs.length with
        | true => csOK0 s tt ((cs.drop off).take m) g
        | false => False
      | none => False
    | _ => False
  | c => cOK0 s tt c l
def csOK (s : SS) (tt : Nat → Option TI) (cs : List C) (ls : List L) : Prop := match cs, ls with
  | [], [] => True
  | c :: cs, l :: ls => cOK s tt c l ∧ csOK s tt cs ls
  | _, _ => False
def resOK (s : SS) (tt : Nat → Option TI) (x : SV) (r : Bool × List L) : Prop := match x with
  | .o c => match r with
    | (b, ls) => match b with
      | false => match c with
        | .any => False
        | c => csOK s tt [c] ls
      | true => False
  | .a cs => match r with
    | (b, ls) => match b with
      | true => csOK s tt cs ls
      | false => False
  | .t _ => False

def retSV (E : Env) (s : SS) (r : ResultVar) : Option SV := match r with
  | .tmp t => some (s.tm t)
  | .cell a T => match s.tm a with
    | .o (.p i off) => match s.bl i with
      | some (_, cs) => match E.tt T with
        | some ti => asSV ti (cut cs off ti.sz)
        | none => none
      | none => none
    | _ => none
def retsOK (E : Env) (s : SS) (rs : List ResultVar) (res : Res) : Prop := match rs, res with
  | [], [] => True
  | r :: rs, q :: res => (match retSV E s r with
      | some x => resOK s E.tt x q
      | none => False) ∧ retsOK E s rs res
  | _, _ => False
def retK (E : Env) (rs : List ResultVar) (res : Res) (e : Exit) (s : SS) : Prop := match e with
  | .normal => retsOK E s rs res
  | .ret => retsOK E s rs res
  | _ => False

section
variable {P : Program} {E : Env} {base : Nat} {cx : Cx} {w : World} {s : SS} {a : Act}

theorem Den.flat {S S' : Nat → Prop} {l l' : L} {y : Value} (h : Den w S l y) (hs : SameL l l') (hl : isLit l' = true) : Den w S' l' y := by
  have := hs.den h
  cases l' with
  | lit x => exact this
  | _ => cases hl

theorem cOK0_ok (hm : Mem base cx w s) (hS : ∀ b, cx.S b → b < w.heap.size) {c : C} {l : L} {y : Value} (hc : crel base cx w c y) (h1 : one y = true) (h : cOK0 s E.tt c l) : Den w (fun b => base ≤ b ∧ b < w.heap.size) l y := by
  unfold cOK0 at h
  split at h
  · split at h
    · obtain ⟨rfl, h2⟩ := h; exact ⟨hc, h2⟩
    · obtain ⟨rfl, rfl⟩ := h
      exact ⟨none, 0, hc, Nat.le_refl _, by simp [maxLen], fun h => absurd h (Nat.lt_irrefl _)⟩
    · exact h.elim
  · split at h
    · subst h; exact ⟨hc, by rw [← show y = _ from hc]; exact h1⟩
    · exact h.elim
  · obtain ⟨rfl, h⟩ := h
    exact (h.den hc).lt fun b hb => ⟨hb.2 rfl, hS b hb.1⟩
  · rename_i fr m g
    obtain ⟨rfl, h⟩ := h
    have hc : Den w (cx.SB base true) (.pt m g) y := hc
    exact (h.den hc).lt fun b hb => ⟨hb.2 rfl, hS b hb.1⟩
  · rename_i i
    split at h
    · rename_i r how
      split at h
      · rename_i sz n g
        obtain ⟨rfl, rfl, h⟩ := h
        obtain ⟨m1, cells, m2, m3⟩ := hm.ow i r how
        have hy : y = cx.η i := hc.2
        have hown := m2
        rcases m2.2 with ⟨h4, h5⟩ | ⟨g', cap, cur, h4, h5, h6, h7, h8, _⟩
        · exact ⟨none, 0, by rw [hy, h4, h5], by omega, by simp [maxLen], fun h => by omega⟩
        · refine ⟨_, cap, by rw [hy, h4], h7, h8, fun _ => ⟨_, rfl, ?_, fun x ha j hj => ?_⟩⟩
          · exact hown.lt g' (by rw [h4]; rfl)
          · obtain ⟨z, hz, hd⟩ := m3 x ha j hj
            obtain ⟨q1, q2⟩ := h x ha j hj
            refine ⟨z, hown.cells (g := g') (by rw [h4]; rfl) _ z hz, ?_⟩
            cases hfr : r.fr with
            | true => rw [hfr] at hd; exact (q2.den hd).lt fun b hb => ⟨hb.2 rfl, hS b hb.1⟩
            | false => rw [hfr, Bool.false_or] at q1; exact hd.flat q2 q1
      · exact h.elim
    · exact h.elim
  · exact h.elim
theorem csOK0_ok (hm : Mem base cx w s) (hS : ∀ b, cx.S b → b < w.heap.size) : ∀ {cs : List C} {g : Nat → L} {ys : List Value}, crels base cx w cs ys → csOK0 s E.tt cs g → ∀ j y, ys[j]? = some y → Den w (fun b => base ≤ b ∧ b < w.heap.size) (g j) y
  | [], g, [], _, _, j, y, hj => by cases hj
  | c :: cs, g, y0 :: ys, hc, h, 0, y, hj => by
    simp only [List.getElem?_cons_zero, Option.some.injEq] at hj
    subst hj
    exact cOK0_ok (E := E) hm hS hc.1 hc.2.1 h.1
  | c :: cs, g, y0 :: ys, hc, h, j + 1, y, hj => csOK0_ok hm hS hc.2.2 h.2 j y hj
  | [], g, _ :: _, hc, _, _, _, _ => hc.elim
  | _ :: _, g, [], hc, _, _, _, _ => hc.elim
theorem cOK_ok (hm : Mem base cx w s) (hS : ∀ b, cx.S b → b < w.heap.size) {c : C} {l : L} {y : Value} (hc : crel base cx w c y) (h1 : one y = true) (h : cOK s E.tt c l) : Den w (fun b => base ≤ b ∧ b < w.heap.size) l y := by
  unfold cOK at h
  split at h
  · rename_i i off
    split at h
    · rename_i m g
      split at h
      · rename_i T cs hbl
        split at h
        · rename_i hle
          obtain ⟨m1, m2, m3, ys, m4, m5⟩ := hm.bl i T cs hbl
          have hle := ble_le hle
          have hlen := m5.length
          refine ⟨_, hc.2, ⟨m2, (Array.getElem?_eq_some_iff.1 m4).1⟩, fun j hj => ?_⟩
          have hj' : off + j < ys.length := by omega
          refine ⟨ys[off + j], ?_, csOK0_ok (E := E) hm hS ((m5.drop off).take m) h j _ ?_⟩
          · rw [add_none, block_cell m4, List.getElem?_eq_getElem hj']
          · rw [List.getElem?_take, if_pos hj, List.getElem?_drop, List.getElem?_eq_getElem hj']
        · exact h.elim
      · exact h.elim
    · exact h.elim
  · exact cOK0_ok (E := E) hm hS hc h1 h
theorem csOK_ok (hm : Mem base cx w s) (hS : ∀ b, cx.S b → b < w.heap.size) : ∀ {cs : List C} {ls : List L} {ys : List Value}, crels base cx w cs ys → csOK s E.tt cs ls → Dens w (fun b => base ≤ b ∧ b < w.heap.size) ls ys
  | [], [], [], _, _ => trivial
  | c :: cs, l :: ls, y :: ys, hc, h => ⟨cOK_ok (E := E) hm hS hc.1 hc.2.1 h.1, csOK_ok hm hS hc.2.2 h.2⟩
  | [], [], _ :: _, hc, _ => hc.elim
  | [], _ :: _, _, _, h => h.elim
  | _ :: _, [], _, _, h => h.elim
  | _ :: _, _ :: _, [], hc, _ => hc.elim
theorem resOK_ok (hm : Mem base cx w s) (hS : ∀ b, cx.S b → b < w.heap.size) {x : SV} {r : Bool × List L} {y : Value} (hc : svrel base cx w x y) (h : resOK s E.tt x r) : argD w (fun b => base ≤ b ∧ b < w.heap.size) r.1 r.2 y := by
  obtain ⟨b, ls⟩ := r
  cases x with
  | t vs => exact h.elim
  | a cs =>
    cases b with
    | false => exact h.elim
    | true => obtain ⟨ys, rfl, h2⟩ := hc; exact ⟨ys, rfl, csOK_ok (E := E) hm hS h2 h⟩
  | o c =>
    cases b with
    | true => exact h.elim
    | false =>
      by_cases hany : c = .any
      · subst hany; exact h.elim
      have h' : csOK s E.tt [c] ls := by cases c <;> first | exact absurd rfl hany | exact h
      cases ls with
      | nil => exact h'.elim
      | cons l ls =>
        cases ls with
        | cons _ _ => exact h'.2.elim
        | nil =>
          refine ⟨?_, trivial⟩
          have hx := h'.1
          cases c with
          | any => exact absurd rfl hany
          | k x =>
            -- a number of the text
            have hy : y = x := hc.1
            cases l with
            | lit z =>
              exact cOK_ok (E := E) hm hS hc.1 (by rw [hy]; exact hx.2) hx
            | sl sz n f => exact cOK_ok (E := E) hm hS hc.1 (by rw [hy, hx.1]; rfl) hx
            | _ => exact hx.elim
          | _ => exact cOK_ok (E := E) hm hS hc.1 hc.2 hx

def retF (tmps : Array Value) (r : ResultVar) : Sem Value := match r with
  | .tmp t => pure (tmps.getD t undef)
  | .cell q t => do loadVar t (← asAddr (tmps.getD q undef))
theorem results_eq (fn : Func) (tmps : Array Value) : results fn tmps = (do let vs ← fn.results.mapM (retF tmps); pure (if h : vs.size = 1 then vs[0] else .tuple vs)) := rfl
theorem retSV_ok (hE : EnvOK P E) (hm : Mem base cx w s) (ht : ∀ t, svrel base cx w (s.tm t) (a.tmps.getD t undef)) {r : ResultVar} {x : SV} (h : retSV E s r = some x) :
    ∃ y, (retF a.tmps r).run P w = .ok y w ∧ svrel base cx w x y := by
  unfold retSV at h
  split at h
  · rename_i t
    simp only [Option.some.injEq] at h
    subst h
    exact ⟨_, rfl, ht t⟩
  · rename_i q T
    split at h
    · rename_i i off hp
      have h1 := ht q
      rw [hp] at h1
      obtain ⟨⟨_, h2⟩, _⟩ := h1
      split at h
      · rename_i T' cs hbl
        split at h
        · rename_i ti hti
          obtain ⟨_, _, _, ys, h3, h4⟩ := hm.bl i T' cs hbl
          obtain ⟨hl, y, h5, h6⟩ := asSV_rel h ((h4.drop off).take ti.sz)
          refine ⟨y, ?_, h5⟩
          have hr := run_loadVar (hE.tt T ti hti) (w := w) (ad := ⟨cx.β i, off, none⟩) hl h6 (fun j v hj => ?_)
          · simp [retF, h2, asAddr, hr]
          · rw [add_none, block_cell h3]
            have := hj
            rw [List.getElem?_take] at this
            split at this
            · simpa using this
            · cases this
        · cases h
      · cases h
    · cases h

theorem retsOK_ok (hE : EnvOK P E) (hm : Mem base cx w s) (hS : ∀ b, cx.S b → b < w.heap.size) (ht : ∀ t, svrel base cx w (s.tm t) (a.tmps.getD t undef)) : ∀ {rs : List ResultVar} {res : Res}, retsOK E s rs res →
    ∃ ys, (rs.mapM (retF a.tmps)).run P w = .ok ys w ∧ ArgsD w (fun b => base ≤ b ∧ b < w.heap.size) res ys ∧ ys.length = rs.length
  | [], [], _ => ⟨[], by simp, trivial, rfl⟩
  | r :: rs, q :: res, h => by
    obtain ⟨h1, h2⟩ := h
    split at h1
    · rename_i x hx
      obtain ⟨y, h3, h4⟩ := retSV_ok hE hm ht hx
      obtain ⟨ys, h5, h6, h7⟩ := retsOK_ok hE hm hS ht h2
      refine ⟨y :: ys, ?_, ⟨resOK_ok (E := E) hm hS h4 h1, h6⟩, by simp [h7]⟩
      simp only [List.mapM_cons, Sem.run_bind, h3, Result.andThen_ok, Sem.run_pure, h5]
    · exact h1.elim
  | [], _ :: _, h => h.elim
  | _ :: _, [], h => h.elim

theorem ArgsD.length {S : Nat → Prop} : ∀ {r : Res} {ys : List Value}, ArgsD w S r ys → r.length = ys.length
  | [], [], _ => rfl
  | _ :: _, _ :: _, h => by simp [ArgsD.length h.2]
  | [], _ :: _, h => h.elim
  | (_, _) :: _, [], h => h.elim

theorem argSV_ok (hw : ∀ b, b < w.heap.size → cx.S b) {b : Bool} {ls : List L} {y : Value} (h : argD w (fun b => b < w.heap.size) b ls y) : svrel base cx w (argSV (b, ls)) y := by
  have hS : ∀ b, b < w.heap.size → cx.SB base false b := fun b hb => ⟨hw b hb, fun h => by cases h⟩
  cases b with
  | true =>
    obtain ⟨zs, rfl, h⟩ := h
    exact ⟨zs, rfl, (h.lt hS).crels⟩
  | false =>
    cases ls with
    | nil => exact h.elim
    | cons l ls =>
      cases ls with
      | nil =>
        have hd : Den w (cx.SB base false) l y := h.1.lt hS
        exact sv_of hd.crel hd.one
      | cons _ _ => exact h.2.elim
theorem ArgsD.get {S : Nat → Prop} : ∀ {r : Res} {ys : List Value}, ArgsD w S r ys → ∀ (t : Nat) q, r[t]? = some q → ∃ y, ys[t]? = some y ∧ argD w S q.1 q.2 y
  | [], [], _, t, q, h => by simp at h
  | (b, ls) :: r, y :: ys, hd, t, q, h => by
    cases t with
    | zero => simp only [List.getElem?_cons_zero, Option.some.injEq] at h; subst h; exact ⟨y, rfl, hd.1⟩
    | succ t => simpa using ArgsD.get hd.2 t q (by simpa using h)
  | [], _ :: _, h, _, _, _ => h.elim
  | (_, _) :: _, [], h, _, _, _ => h.elim

def sameLs (ls ls' : List L) : Prop := match ls, ls' with
  | [], [] => True
  | l :: ls, l' :: ls' => SameL l l' ∧ sameLs ls ls'
  | _, _ => False
theorem sameLs_dens {S : Nat → Prop} : ∀ {ls ls' : List L} {ys : List Value}, sameLs ls ls' → Dens w S ls ys → Dens w S ls' ys
  | [], [], [], _, _ => trivial
  | _ :: _, _ :: _, _ :: _, h, hd => ⟨h.1.den hd.1, sameLs_dens h.2 hd.2⟩
  | [], [], _ :: _, _, hd => hd.elim
  | [], _ :: _, _, h, _ => h.elim
  | _ :: _, [], _, h, _ => h.elim
  | _ :: _, _ :: _, [], _, hd => hd.elim
theorem sameLs_refl : ∀ ls, sameLs ls ls
  | [] => trivial
  | l :: ls => ⟨SameL.refl l, sameLs_refl ls⟩
def sameRes (r r' : Res) : Prop := match r, r' with
  | [], [] => True
  | (b, ls) :: r, (b', ls') :: r' => b = b' ∧ sameLs ls ls' ∧ sameRes r r'
  | _, _ => False
theorem sameRes_refl : ∀ r, sameRes r r
  | [] => trivial
  | (b, ls) :: r => ⟨rfl, sameLs_refl ls, sameRes_refl r⟩
theorem sameRes_args {S : Nat → Prop} : ∀ {r r' : Res} {ys : List Value}, sameRes r r' → ArgsD w S r ys → ArgsD w S r' ys
  | [], [], [], _, _ => trivial
  | (b, ls) :: r, (b', ls') :: r', y :: ys, h, hd => by
    obtain ⟨rfl, h1, h2⟩ := h
    refine ⟨?_, sameRes_args h2 hd.2⟩
    have h3 := hd.1
    cases b with
    | true => obtain ⟨zs, h4, h5⟩ := h3; exact ⟨zs, h4, sameLs_dens h1 h5⟩
    | false => exact sameLs_dens h1 h3
  | [], [], _ :: _, _, hd => hd.elim
  | [], _ :: _, _, h, _ => h.elim
  | (_, _) :: _, [], _, h, _ => h.elim
  | (_, _) :: _, (_, _) :: _, [], _, hd => hd.elim

/-- A function: the conditions of its body, at its arguments, give its contract. -/
theorem fn_okS (hE : EnvOK P E) (hP : P.follows .mixedOrders = true) {g : Nat} {fn : Func} {c : Code} {rs : List ResultVar} {nt : Nat} (hf : P.funcs[g]? = some fn) (hb : fn.body = some c) (hr : fn.results.toList = rs) (hn : fn.ntmps = nt) {sp : Spec} (J : List Nat)
    (h : ∀ args0 pre res, sp args0 = some (pre, res) → pre → ∃ args, sameRes args0 args ∧ args.length ≤ nt ∧ vc E nt 0 J c (retK E rs res) (s0 args nt)) : FnOK P g sp := by
  intro w args0 vs pre res hsp hpre hargs0
  obtain ⟨args, hsame, hlen, hvc⟩ := h args0 pre res hsp hpre
  have hargs := sameRes_args hsame hargs0
  have hl := hargs.length
  let cx : Cx := { D := fun _ => False, β := fun _ => 0, η := fun _ => .slice none 0 0, S := fun b => b < w.heap.size }
  let A : An := ⟨w.heap.size, cx, w⟩
  refine calls_of_marks hf hb (vc_okIn hE hP c (ro := none) (n := 1) (A := A) (k := 0) (fun i hi => hi.elim) (.inl rfl) _ _ ?_ _ cx _ w hvc ?_)
  · intro e s a0 w0 cx' hK hs0
    have key : retsOK E s rs res → ∀ a' w', SR A cx' a' w' s → ∃ v, (results fn a'.tmps).run P w' = .ok v w' ∧ (∃ v', Ending.returned v = .returned v' ∧ ResD w' (fun b => w.heap.size ≤ b ∧ b < w'.heap.size) res v') ∧ Below w.heap.size w w' := by
      intro hret a' w' hs
      obtain ⟨ys, h1, h2, h3⟩ := retsOK_ok hE hs.mem hs.S hs.tm hret
      have hbw : Below w.heap.size w w' := ⟨hs.fr.os, hs.fr.tape, hs.fr.output, hs.fr.size, fun b hb => hs.fr.blk b hb (by rintro (⟨i, hi, _⟩ | ⟨i, hi, _⟩) <;> exact hi)⟩
      have hrun : (results fn a'.tmps).run P w' = .ok (if h : ys.toArray.size = 1 then ys.toArray[0] else .tuple ys.toArray) w' := by
        have h4 : fn.results = rs.toArray := by rw [← hr]
        rw [results_eq, h4, List.mapM_toArray]
        simp only [Sem.run_bind, Sem.run_map, h1]
        rfl
      refine ⟨_, hrun, ⟨_, rfl, ?_⟩, hbw⟩
      cases res with
      | nil =>
        cases ys with
        | nil => exact ⟨[], rfl, trivial⟩
        | cons _ _ => exact h2.elim
      | cons q res =>
        obtain ⟨b, ls⟩ := q
        cases ys with
        | nil => exact h2.elim
        | cons y ys =>
          cases res with
          | nil =>
            cases ys with
            | nil => exact h2.1
            | cons _ _ => exact h2.2.elim
          | cons q' res =>
            cases ys with
            | nil => exact h2.2.elim
            | cons y' ys => exact ⟨y :: y' :: ys, rfl, h2⟩
    cases e with
    | normal => exact leave a0.defers a0 w0 rfl hs0 fun w' h' => key hK { a0 with defers := [] } w' h'
    | ret => exact leave a0.defers a0 w0 rfl hs0 fun w' h' => key hK { a0 with defers := [] } w' h'
    | _ => exact hK.elim
  · have hmem : Mem w.heap.size cx w (s0 args nt) := ⟨(fun i T cs h => by cases h), (fun i j h => by obtain ⟨b, h⟩ := h; cases h), (fun i r h => by cases h), (fun i r g h => by cases h), (fun i j r r' g h => by cases h)⟩
    refine ⟨trivial, ?_, ?_, hmem, fun b hb => hb, fun i hi => hi.elim, Fr.refl _ _ _ _, Nat.le_refl _⟩
    · show (vs.toArray ++ Array.replicate (fn.ntmps - vs.toArray.size) undef).size = nt
      simp [hn]; omega
    · intro t
      show svrel w.heap.size cx w (match args[t]? with | some r => argSV r | none => .o (.k undef)) ((vs.toArray ++ Array.replicate (fn.ntmps - vs.toArray.size) undef).getD t undef)
      split
      · rename_i q hq
        obtain ⟨y, hy, hd⟩ := hargs.get t q hq
        have hlt : t < vs.length := (List.getElem?_eq_some_iff.1 hy).1
        have : (vs.toArray ++ Array.replicate (fn.ntmps - vs.toArray.size) undef).getD t undef = y := by
          rw [Array.getD_eq_getD_getElem?, Array.getElem?_append_left (by simpa using hlt)]
          simp [hy]
        rw [this]
        exact argSV_ok (fun b hb => hb) hd
      · rename_i hq
        have hge : vs.length ≤ t := by rw [← hl]; exact List.getElem?_eq_none_iff.1 hq
        have : (vs.toArray ++ Array.replicate (fn.ntmps - vs.toArray.size) undef).getD t undef = undef := by
          rw [Array.getD_eq_getD_getElem?, Array.getElem?_append_right (by simpa using hge), Array.getElem?_replicate]
          split <;> rfl
        rw [this]
        exact sv_k undef

theorem fn_ok (hE : EnvOK P E) (hP : P.follows .mixedOrders = true) {g : Nat} {fn : Func} {c : Code} {rs : List ResultVar} {nt : Nat} (hf : P.funcs[g]? = some fn) (hb : fn.body = some c) (hr : fn.results.toList = rs) (hn : fn.ntmps = nt) {sp : Spec} (J : List Nat)
    (h : ∀ args pre res, sp args = some (pre, res) → pre → args.length ≤ nt ∧ vc E nt 0 J c (retK E rs res) (s0 args nt)) : FnOK P g sp :=
  fn_okS hE hP hf hb hr hn J fun args pre res h1 h2 => ⟨args, sameRes_refl args, h args pre res h1 h2⟩

theorem ret_ok (hE : EnvOK P E) {fn : Func} {rs : List ResultVar} (hr : fn.results.toList = rs) (hm : Mem base cx w s) (hS : ∀ b, cx.S b → b < w.heap.size) (ht : ∀ t, svrel base cx w (s.tm t) (a.tmps.getD t undef)) {res : Res} (hret : retsOK E s rs res) :
    ∃ v, (results fn a.tmps).run P w = .ok v w ∧ ResD w (fun b => base ≤ b ∧ b < w.heap.size) res v := by
  obtain ⟨ys, h1, h2, h3⟩ := retsOK_ok hE hm hS ht hret
  have hrun : (results fn a.tmps).run P w = .ok (if h : ys.toArray.size = 1 then ys.toArray[0] else .tuple ys.toArray) w := by
    have h4 : fn.results = rs.toArray := by rw [← hr]
    rw [results_eq, h4, List.mapM_toArray]
    simp only [Sem.run_bind, Sem.run_map, h1]
    rfl
  refine ⟨_, hrun, ?_⟩
  cases res with
  | nil =>
    cases ys with
    | nil => exact ⟨[], rfl, trivial⟩
    | cons _ _ => exact h2.elim
  | cons q res =>
    obtain ⟨b, ls⟩ := q
    cases ys with
    | nil => exact h2.elim
    | cons y ys =>
      cases res with
      | nil =>
        cases ys with
        | nil => exact h2.1
        | cons _ _ => exact h2.2.elim
      | cons q' res =>
        cases ys with
        | nil => exact h2.2.elim
        | cons y' ys => exact ⟨y :: y' :: ys, rfl, h2⟩

theorem lit_res {S S' : Nat → Prop} {r : Res} {y : Value} (h : allLitR r = true) (hd : ResD w S r y) : ResD w S' r y := by
  cases r with
  | nil => obtain ⟨ys, h1, h2⟩ := hd; exact ⟨ys, h1, lit_args h h2⟩
  | cons q r =>
    obtain ⟨b, ls⟩ := q
    cases r with
    | nil =>
      have h1 : ArgsD w S [(b, ls)] [y] := ⟨hd, trivial⟩
      exact (lit_args (S' := S') h h1).1
    | cons q' r => obtain ⟨ys, h1, h2⟩ := hd; exact ⟨ys, h1, lit_args h h2⟩

/-! ### closures that write what they captured -/
def sC (args : Res) (ts : List (Nat × CV)) (nt : Nat) : SS :=
  { tm := fun t => match args[t]? with
      | some r => argSV r
      | none => match Nat.blt (t - args.length) ts.length with
        | true => .o (.p (t - args.length) 0)
        | false => .o (.k undef)
    bl := (memS ts.length (List.range ts.length) ts (ts.map (·.2))).bl
    ow := (memS ts.length (List.range ts.length) ts (ts.map (·.2))).ow
    nx := ts.length + 1, nt := nt }
def capOK (s : SS) (q : Nat) (cs : List C) (v : CV) : Prop := match v with
  | .d ls => match litsOf cs with
    | some ls' => sameLs ls' ls
    | none => False
  | .r r => match cs with
    | [.h q'] => q' = q ∧ match s.ow q with
      | some r' => subR r' r
      | none => False
    | _ => False
/-- what the captured variables hold at the end -/
def capsOK (s : SS) (q j : Nat) (ts : List (Nat × CV)) (out : List CV) : Prop := match ts, out with
  | [], [] => True
  | (T, _) :: ts, v :: out => (match s.bl j with
    | some (T', cs) => T' = T ∧ capOK s q cs v
    | none => False) ∧ capsOK s q (j + 1) ts out
  | _, _ => False
def retC (E : Env) (rs : List ResultVar) (res : Res) (ts : List (Nat × CV)) (out : List CV) (e : Exit) (s : SS) : Prop := match e with
  | .normal => retsOK E s rs res ∧ ∃ q, capsOK s q 0 ts out
  | .ret => retsOK E s rs res ∧ ∃ q, capsOK s q 0 ts out
  | _ => False

theorem capsOK_at {q : Nat} : ∀ {j : Nat} {ts : List (Nat × CV)} {out : List CV}, capsOK s q j ts out → ∀ (i T : Nat) (v0 v : CV), ts[i]? = some (T, v0) → out[i]? = some v → ∃ cs, s.bl (j + i) = some (T, cs) ∧ capOK s q cs v
  | j, [], [], _, i, T, v0, v, h, _ => by simp at h
  | j, (T0, u0) :: ts, u :: out, h, i, T, v0, v, h1, h2 => by
    obtain ⟨h3, h4⟩ := h
    cases i with
    | zero =>
      simp only [List.getElem?_cons_zero, Option.some.injEq, Prod.mk.injEq] at h1 h2
      obtain ⟨rfl, rfl⟩ := h1
      subst h2
      split at h3
      · rename_i T' cs hbl
        obtain ⟨rfl, h3⟩ := h3
        exact ⟨cs, hbl, h3⟩
      · exact h3.elim
    | succ i =>
      obtain ⟨cs, h5, h6⟩ := capsOK_at h4 i T v0 v (by simpa using h1) (by simpa using h2)
      exact ⟨cs, by rw [show j + (i + 1) = j + 1 + i from by omega]; exact h5, h6⟩
  | _, [], _ :: _, h, _, _, _, _, _, _ => h.elim
  | _, _ :: _, [], h, _, _, _, _, _, _ => h.elim

theorem caps_mem (hm : Mem base cx w s) {q : Nat} {ts : List (Nat × CV)} {out : List CV} (h : capsOK s q 0 ts out) : Mem base cx w (memS q (List.range ts.length) ts out) := by
  have hbl : ∀ i T cs, (memS q (List.range ts.length) ts out).bl i = some (T, cs) → ∃ v cs', out[i]? = some v ∧ cs = cellsV q v ∧ s.bl i = some (T, cs') ∧ capOK s q cs' v := by
    intro i T cs hi
    obtain ⟨j, v0, v, h1, h2, h3, h4⟩ := outB_look hi
    have hj : j < ts.length := (List.getElem?_eq_some_iff.1 h2).1
    rw [List.getElem?_range hj] at h1
    simp only [Option.some.injEq] at h1
    subst h1
    obtain ⟨cs', h5, h6⟩ := capsOK_at h j T v0 v h2 h3
    rw [Nat.zero_add] at h5
    exact ⟨v, cs', h3, h4, h5, h6⟩
  have how : ∀ i r, (memS q (List.range ts.length) ts out).ow i = some r → i = q ∧ outR out = some r := by
    intro i r hi
    have hi : look (match outR out with | some r => [(q, r)] | none => []) i = some r := hi
    split at hi
    · rename_i r' hr
      have := look_mem hi
      simp only [List.mem_cons, Prod.mk.injEq, List.not_mem_nil, or_false] at this
      obtain ⟨rfl, rfl⟩ := this
      exact ⟨rfl, hr⟩
    · cases hi
  have hlen : ts.length = out.length := by
    have : ∀ {j : Nat} {ts : List (Nat × CV)} {out : List CV}, capsOK s q j ts out → ts.length = out.length := by
      intro j ts
      induction ts generalizing j with
      | nil => intro out h; cases out <;> first | rfl | exact h.elim
      | cons p ts ih => intro out h; cases out with
        | nil => exact h.elim
        | cons v out => simp [ih h.2]
    exact this h
  have hro : ∀ r, outR out = some r → ∃ r', s.ow q = some r' ∧ subR r' r := by
    intro r hr
    obtain ⟨j, hj⟩ := outR_mem hr
    have hjl : j < ts.length := by rw [hlen]; exact (List.getElem?_eq_some_iff.1 hj).1
    have h2 : ts[j]? = some ts[j] := List.getElem?_eq_getElem hjl
    obtain ⟨cs', h5, h6⟩ := capsOK_at h j ts[j].1 ts[j].2 _ h2 hj
    unfold capOK at h6
    dsimp only at h6
    split at h6
    · obtain ⟨_, h7⟩ := h6
      split at h7
      · rename_i r' hr'; exact ⟨r', hr', h7⟩
      · exact h7.elim
    · exact h6.elim
  refine ⟨?_, ?_, ?_, ?_, ?_⟩
  · intro i T cs hi
    obtain ⟨v, cs', h1, rfl, h3, h4⟩ := hbl i T cs hi
    obtain ⟨m1, m2, m3, ys, m4, m5⟩ := hm.bl i T cs' h3
    refine ⟨m1, m2, m3, ys, m4, ?_⟩
    cases v with
    | d ls =>
      unfold capOK at h4
      dsimp only at h4
      split at h4
      · rename_i ls' hls
        have hd := sameLs_dens h4 (litsOf_ok m5 hls)
        exact Dens.crels (fr := false) (hd.lt fun b hb => ⟨hb, fun h => by cases h⟩)
      · exact h4.elim
    | r r =>
      unfold capOK at h4
      dsimp only at h4
      split at h4
      · obtain ⟨rfl, _⟩ := h4; exact m5
      · exact h4.elim
  · rintro i j ⟨b, hi⟩ ⟨b', hj⟩ he
    obtain ⟨_, _, _, _, h3, _⟩ := hbl i b.1 b.2 hi
    obtain ⟨_, _, _, _, h3', _⟩ := hbl j b'.1 b'.2 hj
    exact hm.inj i j ⟨_, h3⟩ ⟨_, h3'⟩ he
  · intro i r hi
    obtain ⟨rfl, hr⟩ := how i r hi
    obtain ⟨r', h2, h3, h4, h5, h6⟩ := hro r hr
    obtain ⟨m1, cells, m2, m3⟩ := hm.ow _ _ h2
    refine ⟨m1, cells, by rw [← h3, ← h4, ← h5]; exact m2, fun x hx j hj => ?_⟩
    rw [← h5] at hx
    rw [← h4] at hj ⊢
    obtain ⟨z, hz, hd⟩ := m3 x hx j hj
    exact ⟨z, hz, ((h6.2 x hx j hj).den hd).lt (SB_le h6.1)⟩
  · intro i r g hi hg
    obtain ⟨rfl, hr⟩ := how i r hi
    obtain ⟨r', h2, _⟩ := hro r hr
    obtain ⟨k1, k2⟩ := hm.owS _ _ g h2 hg
    refine ⟨k1, fun j hj => ?_⟩
    obtain ⟨b, hj⟩ := hj
    obtain ⟨_, _, _, _, h3, _⟩ := hbl j b.1 b.2 hj
    exact k2 j ⟨_, h3⟩
  · intro i j r r' g hi hj _ _
    rw [(how i r hi).1, (how j r' hj).1]

theorem cl_ok (hE : EnvOK P E) (hP : P.follows .mixedOrders = true) {g : Nat} {fn : Func} {c : Code} {rs : List ResultVar} {nt : Nat} (hf : P.funcs[g]? = some fn) (hb : fn.body = some c) (hr : fn.results.toList = rs) (hn : fn.ntmps = nt) {csp : ClSpec} (J : List Nat)
    (h : ∀ args (ts : List (Nat × CV)) pre res out, csp.f args (ts.map (·.2)) = some (pre, res, out) → pre → likeV ts out false = true → args.length + ts.length ≤ nt ∧ vc E nt (ts.length + 1) J c (retC E rs res ts out) (sC args ts nt)) : ClOK P g csp := by
  intro base cx w args vs ts pre res out hsp hpre hlike hlit hargs hbase hS hD hM
  obtain ⟨hlen, hvc⟩ := h args ts pre res out hsp hpre hlike
  have hl := hargs.length
  let A : An := ⟨base, cx, w⟩
  let ptrs : List Value := (List.range ts.length).map fun j => Value.pointer (some ⟨cx.β j, 0, none⟩)
  have hpl : ptrs.length = ts.length := by simp [ptrs]
  refine calls_of_marks hf hb (vc_okIn hE hP c (ro := none) (n := 1) (A := A) (k := ts.length + 1) (fun i hi => (hD i).1 hi) (.inl rfl) _ _ ?_ _ cx _ w hvc ?_)
  · intro e s a0 w0 cx' hK hs0
    have key : (retsOK E s rs res ∧ ∃ q, capsOK s q 0 ts out) → ∀ a' w', SR A cx' a' w' s → ∃ v, (results fn a'.tmps).run P w' = .ok v w' ∧ (∃ v' cx' n' q, Ending.returned v = .returned v' ∧ ResD w' (fun _ => False) res v' ∧ Fr cx cx' w w' (An.W ⟨base, cx, w⟩) 0 n' ∧ (∀ b, cx'.S b → b < w'.heap.size) ∧
      Mem base cx' w' (memS q (List.range ts.length) ts out)) := by
      rintro ⟨hret, q, hcap⟩ a' w' hs
      obtain ⟨v, h1, h2⟩ := ret_ok hE hr hs.mem hs.S hs.tm hret
      exact ⟨v, h1, v, cx', _, q, rfl, lit_res hlit h2, hs.fr, hs.S, caps_mem hs.mem hcap⟩
    cases e with
    | normal => exact leave a0.defers a0 w0 rfl hs0 fun w' h' => key hK { a0 with defers := [] } w' h'
    | ret => exact leave a0.defers a0 w0 rfl hs0 fun w' h' => key hK { a0 with defers := [] } w' h'
    | _ => exact hK.elim
  · refine ⟨trivial, ?_, ?_, hM.congr rfl rfl, hS, fun i hi => (hD i).1 hi, { Fr.refl cx w A.W 0 with D' := fun i h => .inl h }, hbase⟩
    · show ((vs ++ ptrs).toArray ++ Array.replicate (fn.ntmps - (vs ++ ptrs).toArray.size) undef).size = nt
      simp [hn, hpl]; omega
    · intro t
      show svrel base cx w (match args[t]? with
        | some r => argSV r
        | none => match Nat.blt (t - args.length) ts.length with
          | true => .o (.p (t - args.length) 0)
          | false => .o (.k undef)) (((vs ++ ptrs).toArray ++ Array.replicate (fn.ntmps - (vs ++ ptrs).toArray.size) undef).getD t undef)
      split
      · rename_i q hq
        obtain ⟨y, hy, hd⟩ := hargs.get t q hq
        have hlt : t < vs.length := (List.getElem?_eq_some_iff.1 hy).1
        have : ((vs ++ ptrs).toArray ++ Array.replicate (fn.ntmps - (vs ++ ptrs).toArray.size) undef).getD t undef = y := by
          rw [Array.getD_eq_getD_getElem?, Array.getElem?_append_left (by simp; omega)]
          simp [List.getElem?_append_left hlt, hy]
        rw [this]
        have hd' : argD w (fun b => False) q.1 q.2 y := hd
        cases q with
        | mk b ls =>
          cases b with
          | true => obtain ⟨zs, rfl, h3⟩ := hd'; exact ⟨zs, rfl, (h3.lt (S' := cx.SB base false) fun b h => h.elim).crels⟩
          | false =>
            cases ls with
            | nil => exact hd'.elim
            | cons l ls =>
              cases ls with
              | nil =>
                have hd2 : Den w (cx.SB base false) l y := hd'.1.lt fun b h => h.elim
                exact sv_of hd2.crel hd2.one
              | cons _ _ => exact hd'.2.elim
      · rename_i hq
        have hge : vs.length ≤ t := by rw [← hl]; exact List.getElem?_eq_none_iff.1 hq
        split
        · rename_i hb
          have hlt := blt_lt hb
          rw [hl] at hlt ⊢
          have : ((vs ++ ptrs).toArray ++ Array.replicate (fn.ntmps - (vs ++ ptrs).toArray.size) undef).getD t undef = .pointer (some ⟨cx.β (t - vs.length), 0, none⟩) := by
            rw [Array.getD_eq_getD_getElem?, Array.getElem?_append_left (by simp [hpl]; omega)]
            simp only [List.getElem?_toArray]
            rw [List.getElem?_append_right hge]
            simp only [ptrs]
            rw [List.getElem?_map, List.getElem?_range hlt]
            rfl
          rw [this]
          exact ⟨⟨(hD _).2 (by omega), rfl⟩, rfl⟩
        · rename_i hb
          have hnl : ¬ (t - args.length < ts.length) := fun h => by rw [show Nat.blt (t - args.length) ts.length = true from Nat.ble_eq_true_of_le h] at hb; cases hb
          have : ((vs ++ ptrs).toArray ++ Array.replicate (fn.ntmps - (vs ++ ptrs).toArray.size) undef).getD t undef = undef := by
            rw [Array.getD_eq_getD_getElem?, Array.getElem?_append_right (by simp [hpl]; omega), Array.getElem?_replicate]
            split <;> rfl
          rw [this]
          exact sv_k undef

theorem FnAt.same {g : Nat} {args args' res res' : Res} (h : FnAt P g args' res') (ha : sameRes args args') (hr : sameRes res' res) : FnAt P g args res := by
  refine ⟨h.1, fun w vs hargs => (h.2 w vs (sameRes_args ha hargs)).mono ?_⟩
  rintro e w' ⟨⟨v, rfl, h1⟩, h2⟩
  refine ⟨⟨v, rfl, ?_⟩, h2⟩
  generalize (fun b => w.heap.size ≤ b ∧ b < w'.heap.size) = S at h1
  cases res' with
  | nil => cases res with
    | nil => exact h1
    | cons _ _ => exact hr.elim
  | cons q r =>
    obtain ⟨b, ls⟩ := q
    cases res with
    | nil => exact hr.elim
    | cons q' r' =>
      obtain ⟨b', ls'⟩ := q'
      cases r with
      | nil =>
        cases r' with
        | nil =>
          have h3 : ArgsD w' S [(b, ls)] [v] := ⟨h1, trivial⟩
          exact (sameRes_args hr h3).1
        | cons _ _ => exact hr.2.2.elim
      | cons p r =>
        cases r' with
        | nil => exact hr.2.2.elim
        | cons p' r' => obtain ⟨ys, h4, h5⟩ := h1; exact ⟨ys, h4, sameRes_args hr h5⟩
theorem FnAt.args {g : Nat} {args args' res : Res} (h : FnAt P g args' res) (ha : sameRes args args') : FnAt P g args res := h.same ha (sameRes_refl _)
theorem FnAt.res {g : Nat} {args res res' : Res} (h : FnAt P g args res') (hr : sameRes res' res) : FnAt P g args res := h.same (sameRes_refl _) hr

/-- A function at these data: the conditions of its body. -/
theorem fn_at (hE : EnvOK P E) (hP : P.follows .mixedOrders = true) {g : Nat} {fn : Func} {c : Code} {rs : List ResultVar} {nt : Nat} (hf : P.funcs[g]? = some fn) (hname : (fn.name == "runtime.NumGoroutine") = false) (hb : fn.body = some c) (hr : fn.results.toList = rs) (hn : fn.ntmps = nt) (J : List Nat) {args res : Res}
    (hl : Nat.ble args.length nt = true) (h : vc E nt 0 J c (retK E rs res) (s0 args nt)) : FnAt P g args res := by
  refine ⟨enters_of' hf hname (by rw [hb]; rfl), fun w vs hargs => ?_⟩
  have key : FnOK P g (fun a => open Classical in if a = args then some (True, res) else none) := by
    refine fn_ok hE hP hf hb hr hn J fun a pre res' h1 h2 => ?_
    split at h1
    · rename_i e
      subst e
      simp only [Option.some.injEq, Prod.mk.injEq] at h1
      obtain ⟨_, rfl⟩ := h1
      exact ⟨Nat.le_of_ble_eq_true hl, h⟩
    · cases h1
  exact key w args vs True res (by simp) trivial hargs
/-- A closure at these data: the conditions of its body. -/
theorem cl_at (hE : EnvOK P E) (hP : P.follows .mixedOrders = true) {g : Nat} {fn : Func} {c : Code} {rs : List ResultVar} {nt : Nat} (hf : P.funcs[g]? = some fn) (hname : (fn.name == "runtime.NumGoroutine") = false) (hb : fn.body = some c) (hr : fn.results.toList = rs) (hn : fn.ntmps = nt) (J : List Nat) {args res : Res} {cv out : List CV}
    (h : ∀ ts : List (Nat × CV), ts.map (·.2) = cv → args.length + ts.length ≤ nt ∧ vc E nt (ts.length + 1) J c (retC E rs res ts out) (sC args ts nt)) : ClAt P g args cv res out := by
  refine ⟨enters_of' hf hname (by rw [hb]; rfl), fun base cx w vs ts hts hlike hlit hargs hbase hS hD hM => ?_⟩
  have key : ClOK P g ⟨[], fun a c => open Classical in if a = args ∧ c = cv then some (True, res, out) else none⟩ := by
    refine cl_ok hE hP hf hb hr hn J fun a ts pre res' out' h1 h2 _ => ?_
    dsimp only at h1
    split at h1
    · rename_i e
      obtain ⟨rfl, e⟩ := e
      simp only [Option.some.injEq, Prod.mk.injEq] at h1
      obtain ⟨_, rfl, rfl⟩ := h1
      exact h ts e
    · cases h1
  exact key base cx w args vs ts True res out (by simp [hts]) trivial hlike hlit hargs hbase hS hD hM

/-! ### calls that turn the caller's memory -/
/-- the state at the entry -/
def sH (xs : List SV) (M : LM) (nt : Nat) : SS :=
  { tm := fun t => match xs[t]? with
      | some x => x
      | none => .o (.k undef)
    bl := look M.bs, ow := look M.os, nx := M.nx, nt := nt }
def toT (x : SV) : Option (Bool × List C) := match x with
  | .o c => match okC c with
    | true => some (false, [c])
    | false => none
  | .a cs => some (true, cs)
  | .t _ => none
def retSVs (E : Env) (s : SS) (rs : List ResultVar) : Option (List SV) := match rs with
  | [] => some []
  | r :: rs => match retSV E s r with
    | some x => match retSVs E s rs with
      | some xs => some (x :: xs)
      | none => none
    | none => none
def toTs (xs : List SV) : Option (List (Bool × List C)) := match xs with
  | [] => some []
  | x :: xs => match toT x with
    | some q => match toTs xs with
      | some qs => some (q :: qs)
      | none => none
    | none => none
def resX (xs : List SV) : Option SV := match xs with
  | [x] => some x
  | xs => match toTs xs with
    | some qs => some (.t qs)
    | none => none
def retTm (y : SV) (t : Nat) : SV := match t with
  | 0 => y
  | _ => .o .any
def retS (s : SS) (y : SV) : SS := { tm := retTm y, bl := s.bl, ow := s.ow, nx := s.nx, nt := 1 }
def retHB (E : Env) (rs : List ResultVar) (k : Nat) (x : SV) (M' : LM) (s : SS) : Prop := match retSVs E s rs with
  | some xs => match resX xs with
    | some y => Ent k (retS s y) (mkS [(0, x)] M'.bs M'.os M'.nx 1)
    | none => False
  | none => False
def retH (E : Env) (rs : List ResultVar) (k : Nat) (x : SV) (M' : LM) (e : Exit) (s : SS) : Prop := match e with
  | .normal => retHB E rs k x M' s
  | .ret => retHB E rs k x M' s
  | _ => False

theorem retSVs_ok (hE : EnvOK P E) (hm : Mem base cx w s) (ht : ∀ t, svrel base cx w (s.tm t) (a.tmps.getD t undef)) : ∀ {rs : List ResultVar} {xs : List SV}, retSVs E s rs = some xs →
    ∃ ys, (rs.mapM (retF a.tmps)).run P w = .ok ys w ∧ svrels base cx w xs ys
  | [], xs, h => by
    simp only [retSVs, Option.some.injEq] at h
    subst h
    exact ⟨[], by simp, trivial⟩
  | r :: rs, xs, h => by
    unfold retSVs at h
    split at h
    · rename_i x hx
      split at h
      · rename_i xs' hxs
        simp only [Option.some.injEq] at h
        subst h
        obtain ⟨y, h3, h4⟩ := retSV_ok hE hm ht hx
        obtain ⟨ys, h5, h6⟩ := retSVs_ok hE hm ht hxs
        refine ⟨y :: ys, ?_, h4, h6⟩
        simp only [List.mapM_cons, Sem.run_bind, h3, Result.andThen_ok, Sem.run_pure, h5]
      · cases h
    · cases h
theorem toT_ok {x : SV} {q : Bool × List C} {y : Value} (h : toT x = some q) (hr : svrel base cx w x y) : trel base cx w [q] [y] := by
  unfold toT at h
  split at h
  · rename_i c
    split at h
    · rename_i hk
      simp only [Option.some.injEq] at h
      subst h
      have h1 : one y = true := by
        have h2 := hr.2
        cases c with
        | any => simp [okC] at hk
        | k z => simp only at h2; rw [h2]; exact hk
        | _ => exact h2
      exact ⟨⟨y, rfl, hr.1, h1, trivial⟩, trivial⟩
    · cases h
  · simp only [Option.some.injEq] at h
    subst h
    obtain ⟨ys, e, h2⟩ := hr
    exact ⟨⟨ys, e, h2⟩, trivial⟩
  · cases h
theorem toTs_ok : ∀ {xs : List SV} {qs : List (Bool × List C)} {ys : List Value}, toTs xs = some qs → svrels base cx w xs ys → trel base cx w qs ys
  | [], qs, ys, h, hr => by
    simp only [toTs, Option.some.injEq] at h
    subst h
    cases ys with
    | nil => trivial
    | cons _ _ => exact hr.elim
  | x :: xs, qs, ys, h, hr => by
    unfold toTs at h
    split at h
    · rename_i q hq
      split at h
      · rename_i qs' hqs
        simp only [Option.some.injEq] at h
        subst h
        cases ys with
        | nil => exact hr.elim
        | cons y ys => exact ⟨(toT_ok hq hr.1).1, toTs_ok hqs hr.2⟩
      · cases h
    · cases h
theorem resX_ok {xs : List SV} {y : SV} {ys : List Value} (h : resX xs = some y) (hr : svrels base cx w xs ys) : svrel base cx w y (if h : ys.toArray.size = 1 then ys.toArray[0] else .tuple ys.toArray) := by
  unfold resX at h
  split at h
  · rename_i x
    simp only [Option.some.injEq] at h
    subst h
    cases ys with
    | nil => exact hr.elim
    | cons z ys =>
      cases ys with
      | nil => exact hr.1
      | cons _ _ => exact hr.2.elim
  · rename_i hne
    split at h
    · rename_i qs hqs
      simp only [Option.some.injEq] at h
      subst h
      have := toTs_ok hqs hr
      cases ys with
      | nil => exact ⟨[], rfl, this⟩
      | cons z ys =>
        cases ys with
        | nil =>
          cases xs with
          | nil => exact hr.elim
          | cons x xs => cases xs with
            | nil => exact absurd rfl (hne x)
            | cons _ _ => exact hr.2.elim
        | cons z' ys => exact ⟨z :: z' :: ys, rfl, this⟩
    · cases h
theorem svrels.length : ∀ {xs : List SV} {ys : List Value}, svrels base cx w xs ys → xs.length = ys.length
  | [], [], _ => rfl
  | _ :: _, _ :: _, h => by simp [svrels.length h.2]
  | [], _ :: _, h => h.elim
  | _ :: _, [], h => h.elim
theorem svrels.get : ∀ {xs : List SV} {ys : List Value}, svrels base cx w xs ys → ∀ (t : Nat) x, xs[t]? = some x → ∃ y, ys[t]? = some y ∧ svrel base cx w x y
  | [], [], _, t, q, h => by simp at h
  | x :: xs, y :: ys, hd, t, q, h => by
    cases t with
    | zero => simp only [List.getElem?_cons_zero, Option.some.injEq] at h; subst h; exact ⟨y, rfl, hd.1⟩
    | succ t => simpa using svrels.get hd.2 t q (by simpa using h)
  | [], _ :: _, h, _, _, _ => h.elim
  | _ :: _, [], h, _, _, _ => h.elim

/-- A call that turns the caller's memory: the conditions of its body. -/
theorem hv_at (hE : EnvOK P E) (hP : P.follows .mixedOrders = true) {g : Nat} {fn : Func} {c : Code} {rs : List ResultVar} {nt : Nat} (hf : P.funcs[g]? = some fn) (hname : (fn.name == "runtime.NumGoroutine") = false) (hb : fn.body = some c) (hr : fn.results.toList = rs) (hn : fn.ntmps = nt) (J : List Nat) {xs : List SV} {M : LM} {x : SV} {M' : LM}
    (hl : (Nat.ble xs.length nt && Nat.ble M.nx M'.nx) = true) (h : vc E nt M.nx J c (retH E rs M.nx x M') (sH xs M nt)) : HvAt P g xs M x M' := by
  simp only [Bool.and_eq_true] at hl
  have hlen := Nat.le_of_ble_eq_true hl.1
  refine ⟨enters_of' hf hname (by rw [hb]; rfl), Nat.le_of_ble_eq_true hl.2, fun base cx w vs hbase hS hD hM hargs => ?_⟩
  have hvl := hargs.length
  let A : An := ⟨base, cx, w⟩
  refine calls_of_marks hf hb (vc_okIn hE hP c (ro := none) (n := 1) (A := A) (k := M.nx) (fun i hi => (hD i).1 hi) (.inl rfl) _ _ ?_ _ cx _ w h ?_)
  · intro e s a0 w0 cx' hK hs0
    have key : retHB E rs M.nx x M' s → ∀ a' w', SR A cx' a' w' s → ∃ v, (results fn a'.tmps).run P w' = .ok v w' ∧ ∃ v' cx'', Ending.returned v = .returned v' ∧ svrel base cx'' w' x v' ∧ Fr cx cx'' w w' (An.W ⟨base, cx, w⟩) 0 M'.nx ∧ (∀ b, cx''.S b → b < w'.heap.size) ∧ Mem base cx'' w' M'.ss := by
      intro hk a' w' hs
      unfold retHB at hk
      split at hk
      rotate_left
      · exact hk.elim
      rename_i xs' hxs
      split at hk
      rotate_left
      · exact hk.elim
      rename_i y hy
      obtain ⟨ys, h1, h2⟩ := retSVs_ok hE hs.mem hs.tm hxs
      have hrun : (results fn a'.tmps).run P w' = .ok (if h : ys.toArray.size = 1 then ys.toArray[0] else .tuple ys.toArray) w' := by
        have h4 : fn.results = rs.toArray := by rw [← hr]
        rw [results_eq, h4, List.mapM_toArray]
        simp only [Sem.run_bind, Sem.run_map, h1]
        rfl
      have hv := resX_ok hy h2
      refine ⟨_, hrun, ?_⟩
      generalize (if h : ys.toArray.size = 1 then ys.toArray[0] else Value.tuple ys.toArray) = v at hv hrun
      obtain ⟨cx'', hs''⟩ := hk A cx' { a' with tmps := #[v] } w' (fun i hi => (hD i).1 hi) ⟨hs.df, rfl, fun t => by
          cases t with
          | zero => exact hv
          | succ t => exact ⟨trivial, trivial⟩, hs.mem.congr rfl rfl, hs.S, hs.D, hs.fr, hs.hb⟩
      exact ⟨v, cx'', rfl, hs''.tm 0, hs''.fr, hs''.S, hs''.mem.congr rfl rfl⟩
    cases e with
    | normal => exact leave a0.defers a0 w0 rfl hs0 fun w' h' => key hK { a0 with defers := [] } w' h'
    | ret => exact leave a0.defers a0 w0 rfl hs0 fun w' h' => key hK { a0 with defers := [] } w' h'
    | _ => exact hK.elim
  · refine ⟨trivial, ?_, ?_, hM.congr rfl rfl, hS, fun i hi => (hD i).1 hi, { Fr.refl cx w A.W 0 with D' := fun i h => .inl h }, hbase⟩
    · show (vs.toArray ++ Array.replicate (fn.ntmps - vs.toArray.size) undef).size = nt
      simp [hn]; omega
    · intro t
      show svrel base cx w (match xs[t]? with
        | some x => x
        | none => .o (.k undef)) ((vs.toArray ++ Array.replicate (fn.ntmps - vs.toArray.size) undef).getD t undef)
      split
      · rename_i q hq
        obtain ⟨y, hy, hd⟩ := hargs.get t q hq
        have hlt : t < vs.length := (List.getElem?_eq_some_iff.1 hy).1
        have : (vs.toArray ++ Array.replicate (fn.ntmps - vs.toArray.size) undef).getD t undef = y := by
          rw [Array.getD_eq_getD_getElem?, Array.getElem?_append_left (by simpa using hlt)]
          simp [hy]
        rw [this]
        exact hd
      · rename_i hq
        have hge : vs.length ≤ t := by rw [← hvl]; exact List.getElem?_eq_none_iff.1 hq
        have : (vs.toArray ++ Array.replicate (fn.ntmps - vs.toArray.size) undef).getD t undef = undef := by
          rw [Array.getD_eq_getD_getElem?, Array.getElem?_append_right (by simpa using hge), Array.getElem?_replicate]
          split <;> rfl
        rw [this]
        exact sv_k undef
end
end Go.Proofs.YtggappbiedkopaaGreat.SX
