/- The symbolic executor, part lb: the walk in a round of a range over a function; marks; what lies where no cells turn. -/
import Derived.Test.YtggappbiedkopaaGreatSl
import Derived.Deep.LoopGhost
import Derived.Scope
namespace Go.Proofs.YtggappbiedkopaaGreat.SX
open Go Go.RowKit
set_option linter.unusedVariables false
set_option linter.unusedSimpArgs false

/-- the walk's fence: none, but for the round -/
def FR (ro : Option Nat) : Fence := { fn := fun _ => True, depth := none, alive := false, round := ro }
theorem FR_none : FR none = Fence.wide := rfl
theorem room_FR (ro : Option Nat) (n : Nat) : (FR ro).room n := fun d h => by cases h
theorem wpIn_n {ro : Option Nat} {n m : Nat} {P : Program} {c : Code} {Q : Exit → Act → World → Prop} {a : Act} {w : World} (h : c.wpIn (FR ro) n P Q a w) : c.wpIn (FR ro) m P Q a w :=
  fun b k cs hro hb hr => h b k cs hro hb (room_FR _ _)
theorem calls_FR {ro : Option Nat} {n : Nat} {P : Program} {f : FuncId} {args : Array Value} {w : World} {R : Ending → World → Prop} (h : Calls P f args w R) : CallsIn (FR ro) n P f args w R := by
  have h := (callsIn_wide (n := n)).2 h
  cases ro with
  | none => exact h
  | some l => exact CallsIn.inRound l h

/-! ### one operation, regions -/
def isDefer (o : Op) : Bool := match o with
  | .defer _ => true
  | _ => false
theorem not_defer {o : Op} (h : isDefer o = false) : ∀ c, o ≠ .defer c := fun c e => by subst e; cases h
def ndOps (os : List Oper) : Bool := match os with
  | [] => true
  | o :: os => match isDefer o.op with
    | true => false
    | false => ndOps os
theorem ndOps_get : ∀ {os : List Oper} {i : Nat} {o : Oper}, ndOps os = true → os[i]? = some o → isDefer o.op = false
  | [], i, o, _, h => by simp at h
  | p :: os, i, o, hn, h => by
    unfold ndOps at hn
    split at hn
    · cases hn
    · rename_i hd
      cases i with
      | zero => simp only [List.getElem?_cons_zero, Option.some.injEq] at h; subst h; exact hd
      | succ i => exact ndOps_get hn (by simpa using h)
def ndC (c : Code) : Bool := match c with
  | .skip => true
  | .region _ ops _ => ndOps ops.toList
  | .seq x y => match ndC x with
    | true => ndC y
    | false => false
  | .cond _ x y => match ndC x with
    | true => ndC y
    | false => false
  | .block _ x => ndC x
  | .loop x => ndC x
  | .exit _ => true
  | .label _ => true
  | .ret => true
  | _ => false
section
variable {P : Program} {ro : Option Nat} {n : Nat}
theorem opIn_of {o : Oper} {a : Act} {w : World} {next : Act → World → Prop} {Q : Exit → Act → World → Prop} (hnd : ro = none ∨ isDefer o.op = false) (h : o.wp P a w next Q) : o.wpIn (FR ro) n P a w next Q := by
  have hsem : o.semAt (FR ro).round a.eval = execOp a.eval o := by
    rcases hnd with rfl | h'
    · rfl
    · exact Oper.semAt_eq _ _ _ (not_defer h')
  unfold Oper.wp at h
  refine ⟨fun f _ => trivial, ?_⟩
  rw [hsem]
  generalize (execOp a.eval o).run P w = r at h ⊢
  cases r with
  | ok x w' =>
    cases x with
    | value v => exact h
    | skip => exact h
    | «defer» d => exact h
    | enter f args => exact ⟨(fun h => by cases h), calls_FR h⟩
    | row row args => exact ⟨(fun h => by cases h), fun c cs _ => by
        obtain ⟨v, w'', h1, h2⟩ := h c cs
        exact ⟨v, w'', h1, (stepsIn_wide (P := P)).2 h2⟩⟩
    | _ => exact h.elim
  | halt x w' => cases x <;> exact h
theorem opMIn_of {ops : Array Oper} {Q : Exit → Act → World → Prop} (hQ : ¬ LetsOut Q) (hnd : ro = none ∨ ndOps ops.toList = true) {i : Nat} {K K' : Act → World → Prop} (hK : ∀ a w, K a w → K' a w) {a : Act} {w : World} (h : wpOp P ops Q i K a w) : wpOpIn (FR ro) n P ops Q i K' a w := by
  unfold wpOp at h
  unfold wpOpIn
  cases ho : ops[i]? with
  | none => rw [ho] at h; exact hK _ _ h
  | some o =>
    rw [ho] at h
    dsimp only at h ⊢
    split
    · rename_i hw
      rw [if_pos hw] at h
      rcases h with h | ⟨_, h⟩
      · refine Oper.wpIn_mono hK (opIn_of ?_ h)
        exact hnd.imp id fun h => ndOps_get h (by rw [Array.getElem?_toList]; exact ho)
      · exact absurd h hQ
    · rename_i hw
      rw [if_neg hw] at h
      exact ⟨fun f _ => trivial, hK _ _ h⟩
theorem opsIn_of {ops : Array Oper} {Q : Exit → Act → World → Prop} (hQ : ¬ LetsOut Q) (hnd : ro = none ∨ ndOps ops.toList = true) : ∀ {l : List Nat} {a : Act} {w : World}, wpOps P ops Q l a w → wpOpsIn (FR ro) n P ops Q l a w
  | [], a, w, h => h
  | i :: l, a, w, h => by
    rw [wpOps_cons] at h
    rw [wpOpsIn_cons]
    exact opMIn_of hQ hnd (fun a w h => opsIn_of hQ hnd h) h
theorem anyIn_of {md : Region.Mode} {ops : Array Oper} {Q : Exit → Act → World → Prop} (hQ : ¬ LetsOut Q) (hnd : ro = none ∨ ndOps ops.toList = true) : ∀ {fuel : Nat} {listed : Array Bool} {a : Act} {w : World}, wpAny P md ops Q fuel listed a w → wpAnyIn (FR ro) n P md ops Q fuel listed a w
  | 0, listed, a, w, h => h
  | fuel + 1, listed, a, w, h => ⟨h.1, fun i hi => opMIn_of hQ hnd (fun a w h => anyIn_of hQ hnd h) (h.2 i hi)⟩
end
section
variable {P : Program} {E : Env} {A : An} {K : SS → Prop} {ro : Option Nat} {n : Nat}
/-- A region, its order drawn or not, in a round or not. -/
theorem region_okIn (hE : EnvOK P E) (hP : P.follows .mixedOrders = true) {Q : Exit → Act → World → Prop} {id : Nat} {ops : Array Oper} {dr : Bool} (hnd : ro = none ∨ ndOps ops.toList = true) (hK : ∀ s a w cx, K s → SR A cx a w s → Q .normal a w) {s : SS} {cx : Cx} {a : Act} {w : World}
    (h : vcOps E s.nt dr ops.toList s.nx K ops.toList 0 (fun _ => []) [] s) (hs : SR A cx a w s) : (Code.region id ops dr).wpIn (FR ro) n P Q a w := by
  let Q0 : Exit → Act → World → Prop := fun e a w => match e with
    | .normal => Q .normal a w
    | _ => False
  have hQ : ¬ LetsOut Q0 := fun ⟨a, w, h⟩ => h
  have hK0 : ∀ s a w cx, K s → SR A cx a w s → Q0 .normal a w := hK
  refine wpIn_mono (Q := Q0) ?_ (fun e a w h => by cases e <;> first | exact h | exact h.elim)
  cases dr with
  | false =>
    refine wpIn_region ?_
    have := seq_ok (P := P) (Q := Q0) (A := A) hE (ops := ops) (n0 := s.nx) hK0 ops.toList 0 (fun _ => []) [] s cx a w (fun k => by rw [Nat.zero_add]) rfl h hs
    rw [List.range_eq_range']
    exact opsIn_of hQ hnd (by simpa using this)
  | true =>
    refine wpIn_region_any hP ?_
    refine anyIn_of hQ hnd ?_
    exact region_any (P := P) (Q := Q0) hE hK0 h hs
end

/-! ### what lies where no cells turn -/
/-- whatever is cells lies as it lay -/
def KeepsCells (w w' : World) : Prop := ∀ (b : Nat) (o : Obj), w.heap[b]? = some o → o.isCells = true → w'.heap[b]? = some o
theorem KeepsCells.cell {w w' : World} (h : KeepsCells w w') {ad : Addr} {z : Value} (hz : w.cell? ad = some z) : w'.cell? ad = some z := by
  obtain ⟨o, h1, h2⟩ := cells_of_cell hz
  rw [World.cell?_of_block (w := w) (by rw [h1]; exact h _ _ h1 h2)]
  exact hz
theorem Den.keep {w w' : World} {S S' : Nat → Prop} (hS : ∀ b, S b → S' b) (hw : KeepsCells w w') : ∀ {l : L} {y : Value}, Den w S l y → Den w' S' l y := by
  intro l
  induction l with
  | lit x => intro y h; exact h
  | sl sz n f ih =>
    intro y h
    obtain ⟨A, cap, rfl, h1, h2, h3⟩ := h
    refine ⟨A, cap, rfl, h1, h2, fun h0 => ?_⟩
    obtain ⟨ad, rfl, h4, h5⟩ := h3 h0
    refine ⟨ad, rfl, hS _ h4, fun i hi j hj => ?_⟩
    obtain ⟨z, hz, hd⟩ := h5 i hi j hj
    exact ⟨z, hw.cell hz, ih i j hd⟩
  | pt m g ih =>
    intro y h
    obtain ⟨ad, rfl, h4, h5⟩ := h
    refine ⟨ad, rfl, hS _ h4, fun j hj => ?_⟩
    obtain ⟨z, hz, hd⟩ := h5 j hj
    exact ⟨z, hw.cell hz, ih j hd⟩
section
variable {base : Nat} {cx cx' : Cx} {w w' : World}
/-- names that stand for what they stood for -/
structure CxLe (cx cx' : Cx) (LB LR : Nat → Prop) : Prop where
  D : ∀ i, (LB i ∨ LR i) → cx.D i → cx'.D i
  β : ∀ i, LB i → cx'.β i = cx.β i
  η : ∀ i, LR i → cx'.η i = cx.η i
  S : ∀ b, cx.S b → cx'.S b
def liveC (LB LR : Nat → Prop) (c : C) : Prop := match c with
  | .p i _ => LB i
  | .s i _ => LB i
  | .h i => LR i
  | .eh i _ _ _ => LR i
  | .f _ caps => ∀ i ∈ caps, LB i
  | _ => True
variable {LB LR : Nat → Prop}
theorem crel.keep (h : CxLe cx cx' LB LR) (hw : KeepsCells w w') {c : C} {y : Value} (hl : liveC LB LR c) (hc : crel base cx w c y) : crel base cx' w' c y := by
  have hSB : ∀ fr b, cx.SB base fr b → cx'.SB base fr b := fun fr b hb => ⟨h.S b hb.1, hb.2⟩
  cases c with
  | any => trivial
  | k x => exact hc
  | v x => exact hc
  | p i off => exact ⟨h.D i (.inl hl) hc.1, by rw [h.β i hl]; exact hc.2⟩
  | s i cnt => exact ⟨h.D i (.inl hl) hc.1, by rw [h.β i hl]; exact hc.2⟩
  | h i => exact ⟨h.D i (.inr hl) hc.1, by rw [h.η i hl]; exact hc.2⟩
  | sl fr sz n f => exact Den.keep (hSB fr) hw hc
  | ep fr m g =>
    obtain ⟨ad, rfl, h1, h2⟩ := hc
    refine ⟨ad, rfl, hSB fr _ h1, fun j hj => ?_⟩
    obtain ⟨z, hz, hd⟩ := h2 j hj
    exact ⟨z, hw.cell hz, Den.keep (hSB fr) hw hd⟩
  | eh i sz idx j => obtain ⟨h1, g, n, cap, h2, h3⟩ := hc; exact ⟨h.D i (.inr hl) h1, g, n, cap, by rw [h.η i hl]; exact h2, h3⟩
  | f g caps =>
    refine ⟨fun i hi => h.D i (.inl (hl i hi)) (hc.1 i hi), ?_⟩
    rw [hc.2]
    congr 2
    exact List.map_congr_left fun i hi => by rw [h.β i (hl i hi)]
theorem crels.keep (h : CxLe cx cx' LB LR) (hw : KeepsCells w w') : ∀ {cs : List C} {ys : List Value}, (∀ c ∈ cs, liveC LB LR c) → crels base cx w cs ys → crels base cx' w' cs ys
  | [], [], _, _ => trivial
  | c :: cs, y :: ys, hl, hc => ⟨hc.1.keep h hw (hl c List.mem_cons_self), hc.2.1, crels.keep h hw (fun c hc => hl c (List.mem_cons_of_mem _ hc)) hc.2.2⟩
  | [], _ :: _, _, hc => hc.elim
  | _ :: _, [], _, hc => hc.elim
def liveSV (LB LR : Nat → Prop) (x : SV) : Prop := match x with
  | .o c => liveC LB LR c
  | .a cs => ∀ c ∈ cs, liveC LB LR c
  | .t vs => ∀ q ∈ vs, ∀ c ∈ q.2, liveC LB LR c
theorem trel.keep (h : CxLe cx cx' LB LR) (hw : KeepsCells w w') : ∀ {vs : List (Bool × List C)} {ys : List Value}, (∀ q ∈ vs, ∀ c ∈ q.2, liveC LB LR c) → trel base cx w vs ys → trel base cx' w' vs ys
  | [], [], _, _ => trivial
  | (b, cs) :: vs, y :: ys, hl, hc => by
    refine ⟨?_, trel.keep h hw (fun q hq => hl q (List.mem_cons_of_mem _ hq)) hc.2⟩
    have h1 := hc.1
    have hl1 := hl (b, cs) List.mem_cons_self
    cases b with
    | true => obtain ⟨zs, rfl, h2⟩ := h1; exact ⟨zs, rfl, h2.keep h hw hl1⟩
    | false => obtain ⟨z, rfl, h2⟩ := h1; exact ⟨_, rfl, h2.keep h hw hl1⟩
  | [], _ :: _, _, hc => hc.elim
  | (_, _) :: _, [], _, hc => hc.elim
theorem svrel.keep (h : CxLe cx cx' LB LR) (hw : KeepsCells w w') {x : SV} {y : Value} (hl : liveSV LB LR x) (hc : svrel base cx w x y) : svrel base cx' w' x y := by
  cases x with
  | o c => exact ⟨hc.1.keep h hw hl, hc.2⟩
  | a cs => obtain ⟨ys, rfl, h2⟩ := hc; exact ⟨ys, rfl, h2.keep h hw hl⟩
  | t vs => obtain ⟨ys, rfl, h2⟩ := hc; exact ⟨ys, rfl, h2.keep h hw hl⟩
theorem KeepsCells.refl (w : World) : KeepsCells w w := fun _ _ h _ => h
theorem ownsRow_keep (hw : KeepsCells w w') {e sz n : Nat} {v : Value} {xs : List Value} (h : w.ownsRow base e sz v n xs) : w'.ownsRow base e sz v n xs :=
  ⟨h.1, h.2.imp id fun ⟨g, cap, cur, hv, hg, hh, r⟩ => ⟨g, cap, cur, hv, hg, hw _ _ hh rfl, r⟩⟩
/-- a memory, told by other names, where no cells have turned -/
theorem Mem.keep {s : SS} (h : CxLe cx cx' LB LR) (hw : KeepsCells w w') (hB : ∀ i, (∃ b, s.bl i = some b) → LB i) (hR : ∀ i, (∃ r, s.ow i = some r) → LR i) (hL : ∀ i T cs, s.bl i = some (T, cs) → ∀ c ∈ cs, liveC LB LR c)
    (hS : ∀ b, cx'.S b → cx.S b ∨ ∃ o, w.heap[b]? = some o ∧ o.isCells = false) (hm : Mem base cx w s) : Mem base cx' w' s := by
  have hne : ∀ b o, w.heap[b]? = some o → o.isCells = true → ¬ cx.S b → ¬ cx'.S b := fun b o h1 h2 h3 h4 => by
    rcases hS b h4 with h5 | ⟨o', h5, h6⟩
    · exact h3 h5
    · rw [h1] at h5; cases h5; rw [h2] at h6; cases h6
  refine ⟨?_, ?_, ?_, ?_, ?_⟩
  · intro i T cs hi
    obtain ⟨m1, m2, m3, ys, m4, m5⟩ := hm.bl i T cs hi
    have hb := hB i ⟨_, hi⟩
    refine ⟨h.D i (.inl hb) m1, by rw [h.β i hb]; exact m2, by rw [h.β i hb]; exact hne _ _ m4 rfl m3, ys, by rw [h.β i hb]; exact hw _ _ m4 rfl, m5.keep h hw (hL i T cs hi)⟩
  · intro i j hi hj he
    rw [h.β i (hB i hi), h.β j (hB j hj)] at he
    exact hm.inj i j hi hj he
  · intro i r hi
    obtain ⟨m1, cells, m2, m3⟩ := hm.ow i r hi
    have hr := hR i ⟨_, hi⟩
    refine ⟨h.D i (.inr hr) m1, cells, by rw [h.η i hr]; exact ownsRow_keep hw m2, fun x hx j hj => ?_⟩
    obtain ⟨z, hz, hd⟩ := m3 x hx j hj
    exact ⟨z, hz, Den.keep (fun b hb => ⟨h.S b hb.1, hb.2⟩) hw hd⟩
  · intro i r g hi hg
    have hr := hR i ⟨_, hi⟩
    rw [h.η i hr] at hg
    obtain ⟨m1, m2⟩ := hm.owS i r g hi hg
    obtain ⟨_, cells, m3, _⟩ := hm.ow i r hi
    refine ⟨?_, fun j hj => by rw [h.β j (hB j hj)]; exact m2 j hj⟩
    rcases m3.2 with h' | ⟨g', cap, cur, hv, hg', hh, _⟩
    · rw [h'.1] at hg; cases hg
    · rw [hv] at hg
      cases hg
      exact hne _ _ hh rfl m1
  · intro i j r r' g hi hj hg hg'
    rw [h.η i (hR i ⟨_, hi⟩)] at hg
    rw [h.η j (hR j ⟨_, hj⟩)] at hg'
    exact hm.owi i j r r' g hi hj hg hg'
end

/-! ### the state where no cells turn -/
section
variable {A : An} {cx : Cx} {a : Act} {w w' : World} {s : SS}
theorem CxLe.refl (cx : Cx) : CxLe cx cx (fun _ => True) (fun _ => True) := ⟨fun _ _ h => h, fun _ _ => rfl, fun _ _ => rfl, fun _ h => h⟩
theorem liveC_all (c : C) : liveC (fun _ => True) (fun _ => True) c := by cases c <;> simp [liveC]
theorem liveSV_all (x : SV) : liveSV (fun _ => True) (fun _ => True) x := by
  cases x with
  | o c => exact liveC_all c
  | a cs => exact fun c _ => liveC_all c
  | t vs => exact fun q _ c _ => liveC_all c
theorem SR.turn (h : SR A cx a w s) (hk : KeepsCells w w') (ho : w'.os = w.os) (ht : w'.tape = w.tape) (hu : w'.output = w.output) (hz : w.heap.size ≤ w'.heap.size) (hb : ∀ b, b < A.w.heap.size → w'.heap[b]? = w.heap[b]?) {ds : List Deferred} (hm : Marks A.w.heap.size cx w' ds) :
    SR A cx { a with defers := ds } w' s where
  df := hm
  sz := h.sz
  tm := fun t => (h.tm t).keep (CxLe.refl cx) hk (liveSV_all _)
  mem := h.mem.keep (CxLe.refl cx) hk (fun _ _ => trivial) (fun _ _ => trivial) (fun _ _ _ _ c _ => liveC_all c) (fun b hb => .inl hb)
  S := fun b hb => Nat.lt_of_lt_of_le (h.S b hb) hz
  D := h.D
  fr := { h.fr with
    S' := fun b hb => (h.fr.S' b hb).imp id fun h' => ⟨h'.1, Nat.lt_of_lt_of_le h'.2 hz⟩
    size := Nat.le_trans h.fr.size hz
    os := ho.trans h.fr.os
    tape := ht.trans h.fr.tape
    output := hu.trans h.fr.output
    blk := fun b h1 h2 => (hb b h1).trans (h.fr.blk b h1 h2) }
  hb := h.hb
theorem putObj_keeps {D : Nat} {o o' : Obj} (h : w.heap[D]? = some o) (ho : o.isCells = false) : KeepsCells w (w.putObj D o') := fun b p hb hp => by
  have : b ≠ D := fun e => by rw [e, h] at hb; cases hb; rw [ho] at hp; cases hp
  rw [World.putObj_heap_other this]; exact hb
theorem Marks.put {lo : Nat} {D : Nat} {o' : Obj} : ∀ {ds : List Deferred}, (∀ d ∈ ds, d ≠ { target := .collected D, args := #[] }) → Marks lo cx w ds → Marks lo cx (w.putObj D o') ds
  | [], _, _ => trivial
  | d :: ds, hne, ⟨⟨D', h1, h2, h3, h4, h5⟩, h6⟩ => by
    refine ⟨⟨D', h1, h2, h3, ?_, h5⟩, Marks.put (fun d hd => hne d (List.mem_cons_of_mem _ hd)) h6⟩
    rw [World.putObj_heap_other]
    · exact h4
    · intro e
      exact hne d List.mem_cons_self (by rw [h1, e])
/-- the way out, the marks taken up one by one -/
theorem leave {P : Program} {fn : Func} {R : Ending → World → Prop} {n : Nat} : ∀ (ds : List Deferred) (a : Act) (w : World), a.defers = ds → SR A cx a w s → (∀ w', SR A cx { a with defers := [] } w' s → ∃ v, (results fn a.tmps).run P w' = .ok v w' ∧ R (.returned v) w') → LeavesInM (FR none) n P fn a.tmps R ds .returning w
  | [], a, w, hd, h, hR => by
    have : { a with defers := [] } = a := by cases a; cases hd; rfl
    exact hR w (by rw [this]; exact h)
  | d :: ds, a, w, hd, h, hR => by
    have hm := h.df
    rw [hd] at hm
    obtain ⟨⟨D, h1, h2, h3, h4, h5⟩, h6⟩ := hm
    refine ⟨(fun e => by cases e), .inl ⟨D, w.putObj D (.deferred none), by rw [h1], run_takeDeferred h4, ?_⟩⟩
    have hs : SR A cx { a with defers := ds } (w.putObj D (.deferred none)) s := by
      refine h.turn (putObj_keeps h4 rfl) rfl rfl rfl (by simp [World.putObj]) (fun b hb => World.putObj_heap_other (by omega)) (h6.put fun d' hd' e => h5 d' hd' (by rw [e, h1]))
    exact leave ds { a with defers := ds } _ rfl hs fun w' h' => hR w' h'
theorem calls_of_marks {P : Program} {f : FuncId} {fn : Func} {c : Code} {args : Array Value} {w : World} {R : Ending → World → Prop} (hf : P.funcs[f]? = some fn) (hb : fn.body = some c)
    (h : c.wpIn (FR none) 1 P (bodyPostM (FR none) 1 P fn R) { tmps := args ++ Array.replicate (fn.ntmps - args.size) undef, defers := [] } w) : Calls P f args w R :=
  (callsIn_wide (n := 1)).1 (callsIn_of_wp_marks (F := FR none) hf hb trivial h rfl)
end

/-! ### a round's beginning -/
def asgT (c : Code) : Option (List (Nat × Nat)) := match c with
  | .skip => some []
  | .seq x y => match asgT x with
    | none => none
    | some a => match asgT y with
      | none => none
      | some b => some (a ++ b)
  | .region _ ops dr => match dr with
    | true => none
    | false => match ops.toList with
      | [o] => match o.guard with
        | some _ => none
        | none => match o.dst with
          | none => none
          | some d => match o.op with
            | .assign x => match x with
              | .tmp p => some [(d, p)]
              | _ => none
            | _ => none
      | _ => none
  | _ => none
def asgV (asg : List (Nat × Nat)) (t : Array Value) : Array Value := match asg with
  | [] => t
  | (d, p) :: r => asgV r (t.setIfInBounds d (t.getD p undef))
def asgTm (asg : List (Nat × Nat)) (tm : Nat → SV) : Nat → SV := match asg with
  | [] => tm
  | (d, p) :: r => asgTm r (upd tm d (tm p))
def parV (ps : List Nat) (vs : List Value) (t : Array Value) : Array Value := match ps, vs with
  | p :: ps, v :: vs => parV ps vs (t.setIfInBounds p v)
  | _, _ => t
def parT (ps : List Nat) (vs : List Value) (tm : Nat → SV) : Nat → SV := match ps, vs with
  | p :: ps, v :: vs => parT ps vs (upd tm p (.o (.v v)))
  | _, _ => tm
def ltAll (n : Nat) (xs : List Nat) : Bool := match xs with
  | [] => true
  | x :: xs => match Nat.blt x n with
    | true => ltAll n xs
    | false => false
theorem ltAll_iff {n : Nat} : ∀ {xs : List Nat}, ltAll n xs = true → ∀ x ∈ xs, x < n
  | [], _, x, h => by cases h
  | y :: xs, h, x, hx => by
    unfold ltAll at h
    split at h
    · rename_i hy
      rcases List.mem_cons.1 hx with rfl | hx
      · exact blt_lt hy
      · exact ltAll_iff h x hx
    · cases h
theorem asgV_app : ∀ (a b : List (Nat × Nat)) (t : Array Value), asgV (a ++ b) t = asgV b (asgV a t)
  | [], b, t => rfl
  | (d, p) :: a, b, t => asgV_app a b _
section
variable {P : Program} {ro : Option Nat} {n : Nat}
theorem asg_wp : ∀ {c : Code} {asg : List (Nat × Nat)} {t : Array Value} {w : World} {K : Act → World → Prop} {Q : Exit → Act → World → Prop}, asgT c = some asg → K { tmps := asgV asg t, defers := [] } w → c.wpIn (FR ro) n P (Exit.then K Q) { tmps := t, defers := [] } w := by
  intro c
  induction c with
  | skip =>
    intro asg t w K Q h hK
    simp only [asgT, Option.some.injEq] at h
    subst h
    exact wpIn_skip hK
  | seq x y ihx ihy =>
    intro asg t w K Q h hK
    unfold asgT at h
    split at h
    · cases h
    · rename_i a ha
      split at h
      · cases h
      · rename_i b hb
        simp only [Option.some.injEq] at h
        subst h
        refine wpIn_seq (wpIn_mono (ihx (K := fun a w => y.wpIn (FR ro) n P (Exit.then K Q) a w) (Q := Q) ha (ihy hb (by rw [← asgV_app]; exact hK))) ?_)
        intro e a w h
        cases e <;> exact h
  | region id ops dr =>
    intro asg t w K Q h hK
    unfold asgT at h
    split at h
    · cases h
    · split at h
      · rename_i o ho
        split at h
        · cases h
        · rename_i hg
          split at h
          · cases h
          · rename_i d hd
            split at h
            · rename_i x hx
              split at h
              · rename_i p
                simp only [Option.some.injEq] at h
                subst h
                have hops : ops = #[o] := by cases ops; simp only at ho; rw [ho]
                subst hops
                refine wpIn_region ?_
                show wpOpsIn (FR ro) n P #[o] (Exit.then K Q) [0] { tmps := t, defers := [] } w
                rw [wpOpsIn_cons]
                unfold wpOpIn
                show if Region.wanted o _ then _ else _
                have hw : Region.wanted o (yielded #[o] t) = true := by simp [Region.wanted, hg]
                rw [if_pos hw]
                refine opIn_of (o := o) (.inr (by rw [hx]; rfl)) (val_ok (o := o) (w' := w) (y := t.getD p undef) (by simp [execOp, hx, Act.eval]) ?_)
                rw [hd]
                exact hK
              · cases h
            · cases h
      · cases h
  | _ => intro asg t w K Q h hK; cases h
end
theorem par_fold : ∀ (ps : List Nat) (vs : List Value) (t : Array Value), (ps.toArray.zip vs.toArray).foldl (fun t (p, v) => t.setIfInBounds p v) t = parV ps vs t := by
  intro ps vs t
  simp only [List.zip_toArray, List.foldl_toArray']
  induction ps generalizing vs t with
  | nil => rfl
  | cons p ps ih =>
    cases vs with
    | nil => rfl
    | cons v vs => exact ih vs _
section
variable {base : Nat} {cx : Cx} {w : World}
theorem set_tm {nt : Nat} {tm : Nat → SV} {t : Array Value} {d : Nat} {x : SV} {y : Value} (hd : d < t.size) (hx : svrel base cx w x y) (h : ∀ i, svrel base cx w (tm i) (t.getD i undef)) : ∀ i, svrel base cx w (upd tm d x i) ((t.setIfInBounds d y).getD i undef) := by
  intro i
  by_cases hi : i = d
  · subst hi
    rw [upd_same]
    simpa [hd] using hx
  · rw [upd_ne _ _ hi]
    have := h i
    simp only [Array.getD_eq_getD_getElem?, Array.getElem?_setIfInBounds_ne (Ne.symm hi)] at this ⊢
    exact this
theorem par_tm : ∀ {ps : List Nat} {vs : List Value} {tm : Nat → SV} {t : Array Value}, (∀ p ∈ ps, p < t.size) → (∀ v ∈ vs, one v = true) → (∀ i, svrel base cx w (tm i) (t.getD i undef)) → (parV ps vs t).size = t.size ∧ ∀ i, svrel base cx w (parT ps vs tm i) ((parV ps vs t).getD i undef)
  | [], vs, tm, t, _, _, h => ⟨rfl, h⟩
  | p :: ps, [], tm, t, _, _, h => ⟨rfl, h⟩
  | p :: ps, v :: vs, tm, t, hp, hv, h => by
    have := par_tm (ps := ps) (vs := vs) (tm := upd tm p (.o (.v v))) (t := t.setIfInBounds p v) (fun q hq => by simpa using hp q (List.mem_cons_of_mem _ hq)) (fun v hv' => hv v (List.mem_cons_of_mem _ hv')) (set_tm (nt := 0) (hp p List.mem_cons_self) (sv_v (hv v List.mem_cons_self)) h)
    exact ⟨this.1.trans (by simp), this.2⟩
theorem asg_tm : ∀ {asg : List (Nat × Nat)} {tm : Nat → SV} {t : Array Value}, (∀ q ∈ asg, q.1 < t.size) → (∀ i, svrel base cx w (tm i) (t.getD i undef)) → (asgV asg t).size = t.size ∧ ∀ i, svrel base cx w (asgTm asg tm i) ((asgV asg t).getD i undef)
  | [], tm, t, _, h => ⟨rfl, h⟩
  | (d, p) :: asg, tm, t, hp, h => by
    have := asg_tm (asg := asg) (tm := upd tm d (tm p)) (t := t.setIfInBounds d (t.getD p undef)) (fun q hq => by simpa using hp q (List.mem_cons_of_mem _ hq)) (set_tm (nt := 0) (hp (d, p) List.mem_cons_self) (h p) h)
    exact ⟨this.1.trans (by simp), this.2⟩
end

/-! ### names that stand for cells -/
def hasK {α : Type} (xs : List (Nat × α)) (i : Nat) : Bool := match look xs i with
  | some _ => true
  | none => false
def hasKs {α : Type} (xs : List (Nat × α)) (is : List Nat) : Bool := match is with
  | [] => true
  | i :: is => match hasK xs i with
    | true => hasKs xs is
    | false => false
def liveCb (bs : List (Nat × Nat × List C)) (os : List (Nat × OR)) (c : C) : Bool := match c with
  | .p i _ => hasK bs i
  | .s i _ => hasK bs i
  | .h i => hasK os i
  | .eh i _ _ _ => hasK os i
  | .f _ caps => hasKs bs caps
  | _ => true
def liveCsb (bs : List (Nat × Nat × List C)) (os : List (Nat × OR)) (cs : List C) : Bool := match cs with
  | [] => true
  | c :: cs => match liveCb bs os c with
    | true => liveCsb bs os cs
    | false => false
def liveTb (bs : List (Nat × Nat × List C)) (os : List (Nat × OR)) (vs : List (Bool × List C)) : Bool := match vs with
  | [] => true
  | v :: vs => match liveCsb bs os v.2 with
    | true => liveTb bs os vs
    | false => false
def liveVb (bs : List (Nat × Nat × List C)) (os : List (Nat × OR)) (x : SV) : Bool := match x with
  | .o c => liveCb bs os c
  | .a cs => liveCsb bs os cs
  | .t vs => liveTb bs os vs
def liveTl (bs : List (Nat × Nat × List C)) (os : List (Nat × OR)) (tl : List (Nat × SV)) : Bool := match tl with
  | [] => true
  | p :: tl => match liveVb bs os p.2 with
    | true => liveTl bs os tl
    | false => false
def liveBs (m : Nat) (bs0 : List (Nat × Nat × List C)) (os : List (Nat × OR)) (bs : List (Nat × Nat × List C)) : Bool := match bs with
  | [] => true
  | p :: bs => match Nat.blt p.1 m with
    | true => match liveCsb bs0 os p.2.2 with
      | true => liveBs m bs0 os bs
      | false => false
    | false => false
def liveOs (m : Nat) (os : List (Nat × OR)) : Bool := match os with
  | [] => true
  | p :: os => match Nat.blt p.1 m with
    | true => liveOs m os
    | false => false
def liveS (m : Nat) (tl : List (Nat × SV)) (bs : List (Nat × Nat × List C)) (os : List (Nat × OR)) : Bool := match liveTl bs os tl with
  | true => match liveBs m bs os bs with
    | true => liveOs m os
    | false => false
  | false => false
section
variable {bs : List (Nat × Nat × List C)} {os : List (Nat × OR)}
def LBk (bs : List (Nat × Nat × List C)) (i : Nat) : Prop := hasK bs i = true
def LRk (os : List (Nat × OR)) (i : Nat) : Prop := hasK os i = true
theorem hasK_iff {α : Type} {xs : List (Nat × α)} {i : Nat} : hasK xs i = true ↔ ∃ b, look xs i = some b := by
  unfold hasK
  split
  · rename_i b h; exact ⟨fun _ => ⟨b, h⟩, fun _ => rfl⟩
  · rename_i h; exact ⟨(fun h => by cases h), (fun ⟨b, h'⟩ => by rw [h] at h'; cases h')⟩
theorem hasKs_iff {α : Type} {xs : List (Nat × α)} : ∀ {is : List Nat}, hasKs xs is = true → ∀ i ∈ is, hasK xs i = true
  | [], _, i, h => by cases h
  | j :: is, h, i, hi => by
    unfold hasKs at h
    split at h
    · rename_i hj
      rcases List.mem_cons.1 hi with rfl | hi
      · exact hj
      · exact hasKs_iff h i hi
    · cases h
theorem liveCb_ok {c : C} (h : liveCb bs os c = true) : liveC (LBk bs) (LRk os) c := by
  cases c with
  | f g caps => exact fun i hi => hasKs_iff h i hi
  | p i off => exact h
  | s i cnt => exact h
  | h i => exact h
  | eh i sz idx j => exact h
  | _ => trivial
theorem liveCsb_ok : ∀ {cs : List C}, liveCsb bs os cs = true → ∀ c ∈ cs, liveC (LBk bs) (LRk os) c
  | [], _, c, h => by cases h
  | d :: cs, h, c, hc => by
    unfold liveCsb at h
    split at h
    · rename_i hd
      rcases List.mem_cons.1 hc with rfl | hc
      · exact liveCb_ok hd
      · exact liveCsb_ok h c hc
    · cases h
theorem liveTb_ok : ∀ {vs : List (Bool × List C)}, liveTb bs os vs = true → ∀ q ∈ vs, ∀ c ∈ q.2, liveC (LBk bs) (LRk os) c
  | [], _, c, h => by cases h
  | d :: cs, h, c, hc => by
    unfold liveTb at h
    split at h
    · rename_i hd
      rcases List.mem_cons.1 hc with rfl | hc
      · exact liveCsb_ok hd
      · exact liveTb_ok h c hc
    · cases h
theorem liveVb_ok {x : SV} (h : liveVb bs os x = true) : liveSV (LBk bs) (LRk os) x := by
  cases x with
  | o c => exact liveCb_ok h
  | a cs => exact liveCsb_ok h
  | t vs => exact liveTb_ok h
theorem liveTl_ok : ∀ {tl : List (Nat × SV)}, liveTl bs os tl = true → ∀ {t x}, look tl t = some x → liveSV (LBk bs) (LRk os) x
  | [], _, t, x, h => by cases h
  | (j, y) :: tl, h, t, x, hx => by
    unfold liveTl at h
    split at h
    · rename_i hd
      unfold look at hx
      split at hx
      · simp only [Option.some.injEq] at hx; subst hx; exact liveVb_ok hd
      · exact liveTl_ok h hx
    · cases h
theorem liveBs_ok {m : Nat} {bs0 : List (Nat × Nat × List C)} : ∀ {bs : List (Nat × Nat × List C)}, liveBs m bs0 os bs = true → ∀ p ∈ bs, p.1 < m ∧ ∀ c ∈ p.2.2, liveC (LBk bs0) (LRk os) c
  | [], _, p, h => by cases h
  | q :: bs, h, p, hp => by
    unfold liveBs at h
    split at h
    · rename_i h1
      split at h
      · rename_i h2
        rcases List.mem_cons.1 hp with rfl | hp
        · exact ⟨blt_lt h1, liveCsb_ok h2⟩
        · exact liveBs_ok h p hp
      · cases h
    · cases h
theorem liveOs_ok {m : Nat} : ∀ {os : List (Nat × OR)}, liveOs m os = true → ∀ p ∈ os, p.1 < m
  | [], _, p, h => by cases h
  | q :: os, h, p, hp => by
    unfold liveOs at h
    split at h
    · rename_i h1
      rcases List.mem_cons.1 hp with rfl | hp
      · exact blt_lt h1
      · exact liveOs_ok h p hp
    · cases h
end
/-- the blocks of all names are cells, and not sealed -/
def Tidy (cx : Cx) (w : World) : Prop := ∀ b, An.W ⟨0, cx, w⟩ b → ¬ cx.S b ∧ ∃ o, w.heap[b]? = some o ∧ o.isCells = true
section
variable {A : An} {cx : Cx} {a : Act} {w : World} {m nt i T : Nat} {tl : List (Nat × SV)} {bs : List (Nat × Nat × List C)} {os : List (Nat × OR)} {cs0 : List C}
theorem tidy_of (hA : ∀ j, ¬ A.cx.D j) (hi : look bs i = some (T, cs0)) (hl : liveS m tl bs os = true) (h : SR A cx a w (mkS tl bs os m nt)) : ∃ cx', SR A cx' a w (mkS tl bs os m nt) ∧ Tidy cx' w := by
  unfold liveS at hl
  split at hl
  rotate_left
  · cases hl
  rename_i hl1
  split at hl
  rotate_left
  · cases hl
  rename_i hl2
  let cx' : Cx := { D := fun j => hasK bs j = true ∨ hasK os j = true, β := fun j => bif hasK bs j then cx.β j else cx.β i, η := fun j => bif hasK os j then cx.η j else .slice none 0 0, S := cx.S }
  have hβ : ∀ j, LBk bs j → cx'.β j = cx.β j := fun j hj => by show (bif hasK bs j then _ else _) = _; rw [show hasK bs j = true from hj]; rfl
  have hη : ∀ j, LRk os j → cx'.η j = cx.η j := fun j hj => by show (bif hasK os j then _ else _) = _; rw [show hasK os j = true from hj]; rfl
  have hle : CxLe cx cx' (LBk bs) (LRk os) := ⟨fun j hj _ => hj, hβ, hη, fun b hb => hb⟩
  have hcell : ∀ j b, look bs j = some b → ¬ cx.S (cx.β j) ∧ A.base ≤ cx.β j ∧ cx.D j ∧ ∃ o, w.heap[cx.β j]? = some o ∧ o.isCells = true := fun j b hj => by
    obtain ⟨m1, m2, m3, ys, m4, _⟩ := h.mem.bl j b.1 b.2 hj
    exact ⟨m3, m2, m1, _, m4, rfl⟩
  have hβc : ∀ j, ¬ cx.S (cx'.β j) ∧ A.w.heap.size ≤ cx'.β j ∧ ∃ o, w.heap[cx'.β j]? = some o ∧ o.isCells = true := by
    intro j
    show ¬ cx.S (bif hasK bs j then cx.β j else cx.β i) ∧ A.w.heap.size ≤ (bif hasK bs j then cx.β j else cx.β i) ∧ ∃ o, w.heap[(bif hasK bs j then cx.β j else cx.β i)]? = some o ∧ o.isCells = true
    cases hb : hasK bs j with
    | true =>
      obtain ⟨b, hb⟩ := hasK_iff.1 hb
      obtain ⟨q1, q2, q3, q4⟩ := hcell j b hb
      exact ⟨q1, h.fr.nβ j q3 (hA j), q4⟩
    | false =>
      obtain ⟨q1, q2, q3, q4⟩ := hcell i _ hi
      exact ⟨q1, h.fr.nβ i q3 (hA i), q4⟩
  have hηc : ∀ j g, (cx'.η j).ownBlock = some g → ∃ r, look os j = some r ∧ (cx.η j).ownBlock = some g := by
    intro j g hg
    have hg : (bif hasK os j then cx.η j else Value.slice none 0 0).ownBlock = some g := hg
    cases hb : hasK os j with
    | true =>
      rw [hb] at hg
      obtain ⟨r, hr⟩ := hasK_iff.1 hb
      exact ⟨r, hr, hg⟩
    | false => rw [hb] at hg; cases hg
  refine ⟨cx', ⟨Marks.mono (cx := cx) (cx' := cx') (fun b hb => hb) h.df, h.sz, fun t => ?_, ?_, h.S, ?_, ?_, h.hb⟩, ?_⟩
  · have ht := h.tm t
    show svrel A.base cx' w (match look tl t with
      | some x => x
      | none => .o .any) (a.tmps.getD t undef)
    have ht : svrel A.base cx w (match look tl t with
      | some x => x
      | none => .o .any) (a.tmps.getD t undef) := ht
    split at ht
    · rename_i x hx
      exact ht.keep hle (KeepsCells.refl w) (liveTl_ok hl1 hx)
    · exact ⟨trivial, trivial⟩
  · exact h.mem.keep hle (KeepsCells.refl w) (fun j hj => hasK_iff.2 hj) (fun j hj => hasK_iff.2 hj) (fun j T cs hj c hc => (liveBs_ok hl2 _ (look_mem hj)).2 c hc) (fun b hb => .inl hb)
  · intro j hj
    show j < m
    rcases hj with hj | hj
    · obtain ⟨b, hb⟩ := hasK_iff.1 hj
      exact (liveBs_ok hl2 _ (look_mem hb)).1
    · obtain ⟨b, hb⟩ := hasK_iff.1 hj
      exact liveOs_ok hl _ (look_mem hb)
  · refine { h.fr with D := fun j hj => absurd hj (hA j), D' := fun j hj => .inr ⟨Nat.zero_le _, ?_⟩, β := fun j hj => absurd hj (hA j), η := fun j hj => absurd hj (hA j), nβ := fun j hj _ => (hβc j).2.1, nη := fun j g hj hn hg => ?_ }
    · show j < m
      rcases hj with hj | hj
      · obtain ⟨b, hb⟩ := hasK_iff.1 hj
        exact (liveBs_ok hl2 _ (look_mem hb)).1
      · obtain ⟨b, hb⟩ := hasK_iff.1 hj
        exact liveOs_ok hl _ (look_mem hb)
    · obtain ⟨r, hr, hg⟩ := hηc j g hg
      exact h.fr.nη j g (h.mem.ow j r hr).1 (hA j) hg
  · rintro b (⟨j, hj, rfl⟩ | ⟨j, hj, hg⟩)
    · exact ⟨(hβc j).1, (hβc j).2.2⟩
    · obtain ⟨r, hr, hg⟩ := hηc j b hg
      obtain ⟨_, cells, m3, _⟩ := h.mem.ow j r hr
      refine ⟨(h.mem.owS j r b hr hg).1, ?_⟩
      rcases m3.2 with h' | ⟨g', cap, cur, hv, hg', hh, _⟩
      · rw [h'.1] at hg; cases hg
      · rw [hv] at hg
        cases hg
        exact ⟨_, hh, rfl⟩
end
end Go.Proofs.YtggappbiedkopaaGreat.SX
