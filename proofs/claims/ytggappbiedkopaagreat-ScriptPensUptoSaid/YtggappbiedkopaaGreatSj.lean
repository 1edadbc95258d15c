/- The symbolic executor, part j: an operation looks only at what is listed for it; the state's relation; regions in the order of the text. -/
import Derived.Test.YtggappbiedkopaaGreatSi
namespace Go.Proofs.YtggappbiedkopaaGreat.SX
open Go Go.RowKit
set_option linter.unusedVariables false
set_option linter.unusedSimpArgs false

section
variable {E : Env} {s s' : SS}

theorem partsC_congr : ∀ {ps : List (Nat × Operand)}, (∀ x ∈ ps.map (·.2), opv s x = opv s' x) → partsC s ps = partsC s' ps
  | [], _ => rfl
  | (i, x) :: ps, h => by
    unfold partsC
    rw [h x (by simp), partsC_congr fun y hy => h y (by simp only [List.map_cons, List.mem_cons]; exact .inr hy)]

theorem toL_congr {tt : Nat → Option TI} {c : C} (h : ∀ i ∈ touchC c, s.bl i = s'.bl i ∧ s.ow i = s'.ow i) : toL s tt c = toL s' tt c := by
  unfold toL
  cases c with
  | s i cnt => simp only [(h i (by simp [touchC])).1]
  | h i => simp only [(h i (by simp [touchC])).2]
  | p i off => simp only [(h i (by simp [touchC])).1]
  | _ => rfl
theorem capsL_congr {tt : Nat → Option TI} : ∀ {is : List Nat}, (∀ i ∈ is, s.bl i = s'.bl i ∧ s.ow i = s'.ow i) → capsL s tt is = capsL s' tt is
  | [], _ => rfl
  | i :: is, h => by
    unfold capsL
    rw [toL_congr (c := .p i 0) fun j hj => h j (by simp [touchC] at hj; subst hj; simp), capsL_congr fun j hj => h j (List.mem_cons_of_mem _ hj)]
theorem capsV_congr : ∀ {ks : List CK} {is : List Nat}, (∀ i ∈ is, s.bl i = s'.bl i ∧ s.ow i = s'.ow i) → (∀ i ∈ touchIn s is, s.bl i = s'.bl i ∧ s.ow i = s'.ow i) → capsV s ks is = capsV s' ks is
  | [], [], _, _ => rfl
  | k :: ks, i :: is, h, h' => by
    have hi := (h i (by simp)).1
    unfold capsV
    rw [capsV_congr (fun j hj => h j (List.mem_cons_of_mem _ hj)) fun j hj => h' j (by unfold touchIn at hj ⊢; rw [List.flatMap_cons]; exact List.mem_append_right _ hj), ← hi]
    cases hb : s.bl i with
    | none => rfl
    | some b =>
      obtain ⟨T, cs⟩ := b
      have key : ∀ j, cs = [.h j] → s.ow j = s'.ow j := fun j hj => (h' j (by unfold touchIn; rw [List.flatMap_cons, hb, hj]; simp [touchC])).2
      simp only []
      cases capsV s' ks is with
      | none => rfl
      | some p =>
        obtain ⟨vs, old⟩ := p
        simp only []
        cases k with
        | dat => rfl
        | row e sz =>
          cases old with
          | some o => rfl
          | none =>
            simp only []
            split
            · rename_i j; rw [key j rfl]
            · rfl
            · rfl
  | [], _ :: _, _, _ => rfl
  | _ :: _, [], _, _ => rfl
theorem toLs_congr {tt : Nat → Option TI} : ∀ {cs : List C}, (∀ i ∈ cs.flatMap touchC, s.bl i = s'.bl i ∧ s.ow i = s'.ow i) → toLs s tt cs = toLs s' tt cs
  | [], _ => rfl
  | c :: cs, h => by
    unfold toLs
    rw [toL_congr fun i hi => h i (by simp only [List.flatMap_cons, List.mem_append]; exact .inl hi), toLs_congr fun i hi => h i (by simp only [List.flatMap_cons, List.mem_append]; exact .inr hi)]
theorem litsOfD_congr {tt : Nat → Option TI} : ∀ {cs : List C}, (∀ i ∈ cs.flatMap touchC, s.bl i = s'.bl i ∧ s.ow i = s'.ow i) → litsOfD s tt cs = litsOfD s' tt cs
  | [], _ => rfl
  | c :: cs, h => by
    have h1 : litOfD s tt c = litOfD s' tt c := by
      unfold litOfD
      cases c <;> try rfl
      · exact toL_congr fun i hi => h i (by simp only [List.flatMap_cons, List.mem_append]; exact .inl hi)
      · exact toL_congr fun i hi => h i (by simp only [List.flatMap_cons, List.mem_append]; exact .inl hi)
    unfold litsOfD
    rw [h1, litsOfD_congr fun i hi => h i (by simp only [List.flatMap_cons, List.mem_append]; exact .inr hi)]
theorem toLD_congr {tt : Nat → Option TI} {c : C} (h : ∀ i ∈ touchC c, s.bl i = s'.bl i ∧ s.ow i = s'.ow i) (h' : ∀ i ∈ touchIn s (touchC c), s.bl i = s'.bl i ∧ s.ow i = s'.ow i) : toLD s tt c = toLD s' tt c := by
  unfold toLD
  have h2 : toLD2 s tt c = toLD2 s' tt c := by
    unfold toLD2
    cases c with
    | s i cnt =>
      have hb := (h i (by simp [touchC])).1
      simp only []
      rw [← hb]
      cases hbl : s.bl i with
      | none => rfl
      | some b =>
        obtain ⟨T, cs⟩ := b
        simp only []
        rw [litsOfD_congr fun j hj => h' j (by unfold touchIn; simp only [touchC, List.flatMap_cons, List.flatMap_nil, List.append_nil]; rw [hbl]; exact hj)]
    | _ => rfl
  rw [toL_congr h, h2]
theorem touchIn_app (a b : List Nat) : touchIn s (a ++ b) = touchIn s a ++ touchIn s b := by unfold touchIn; rw [List.flatMap_append]
theorem toLsD_congr {tt : Nat → Option TI} : ∀ {cs : List C}, (∀ i ∈ cs.flatMap touchC, s.bl i = s'.bl i ∧ s.ow i = s'.ow i) → (∀ i ∈ touchIn s (cs.flatMap touchC), s.bl i = s'.bl i ∧ s.ow i = s'.ow i) → toLsD s tt cs = toLsD s' tt cs
  | [], _, _ => rfl
  | c :: cs, h, h' => by
    rw [List.flatMap_cons, touchIn_app] at h'
    unfold toLsD
    rw [toLD_congr (fun i hi => h i (by simp only [List.flatMap_cons, List.mem_append]; exact .inl hi)) (fun i hi => h' i (List.mem_append_left _ hi)),
      toLsD_congr (fun i hi => h i (by simp only [List.flatMap_cons, List.mem_append]; exact .inr hi)) (fun i hi => h' i (List.mem_append_right _ hi))]
theorem argL_congr {tt : Nat → Option TI} {x : SV} (h : ∀ i ∈ touchV x, s.bl i = s'.bl i ∧ s.ow i = s'.ow i) (h' : ∀ i ∈ touchIn s (touchV x), s.bl i = s'.bl i ∧ s.ow i = s'.ow i) : argL s tt x = argL s' tt x := by
  unfold argL
  cases x with
  | o c => simp only [toLD_congr (c := c) h h']
  | a cs => simp only [toLsD_congr (cs := cs) h h']
  | t vs => rfl
theorem argsL_congr {tt : Nat → Option TI} : ∀ {xs : List Operand}, (∀ x ∈ xs, opv s x = opv s' x) → (∀ i ∈ xs.flatMap (fun x => touchV (opv s x)), s.bl i = s'.bl i ∧ s.ow i = s'.ow i) → (∀ i ∈ touchIn s (xs.flatMap (fun x => touchV (opv s x))), s.bl i = s'.bl i ∧ s.ow i = s'.ow i) → argsL s tt xs = argsL s' tt xs
  | [], _, _, _ => rfl
  | x :: xs, h, h', h'' => by
    rw [List.flatMap_cons, touchIn_app] at h''
    unfold argsL
    rw [← h x (by simp), argL_congr (fun i hi => h' i (by simp only [List.flatMap_cons, List.mem_append]; exact .inl hi)) (fun i hi => h'' i (List.mem_append_left _ hi)),
      argsL_congr (fun y hy => h y (List.mem_cons_of_mem _ hy)) (fun i hi => h' i (by simp only [List.flatMap_cons, List.mem_append]; exact .inr hi)) (fun i hi => h'' i (List.mem_append_right _ hi))]
theorem datArgs_congr : ∀ {xs : List Operand}, (∀ x ∈ xs, opv s x = opv s' x) → datArgs s xs = datArgs s' xs
  | [], _ => rfl
  | x :: xs, h => by
    unfold datArgs
    rw [← h x (by simp), datArgs_congr fun y hy => h y (List.mem_cons_of_mem _ hy)]
theorem srcOf_congr {tt : Nat → Option TI} {sz : Nat} {c : C} (h : ∀ i ∈ touchC c, s.bl i = s'.bl i ∧ s.ow i = s'.ow i) : srcOf s tt sz c = srcOf s' tt sz c := by
  unfold srcOf
  split
  · rfl
  · rw [toL_congr h]
theorem srcFr_congr {c : C} (h : ∀ i ∈ touchC c, s.bl i = s'.bl i ∧ s.ow i = s'.ow i) : srcFr s c = srcFr s' c := by
  cases c with
  | h i => simp only [srcFr, (h i (by simp [touchC])).2]
  | s i n => simp only [srcFr, (h i (by simp [touchC])).1]
  | _ => rfl
theorem evLoad_congr {tt : Nat → Option TI} {T : Nat} {x : SV} (h : ∀ i ∈ touchV x, s.bl i = s'.bl i ∧ s.ow i = s'.ow i) : evLoad tt s T x = evLoad tt s' T x := by
  unfold evLoad
  cases x with
  | o c =>
    cases c with
    | p i off => simp only [(h i (by simp [touchV, touchC])).1]
    | eh i sz idx j => simp only [(h i (by simp [touchV, touchC])).2]
    | _ => rfl
  | _ => rfl
theorem evStore_congr {tt : Nat → Option TI} {T : Nat} {x y : SV} (h : ∀ i ∈ touchV x, s.bl i = s'.bl i ∧ s.ow i = s'.ow i) : evStore tt s T x y = evStore tt s' T x y := by
  unfold evStore
  cases x with
  | o c =>
    cases c with
    | p i off => simp only [(h i (by simp [touchV, touchC])).1]
    | eh i sz idx j => simp only [(h i (by simp [touchV, touchC])).2]
    | _ => rfl
  | _ => rfl
theorem evIndexAddr_congr {tt : Nat → Option TI} {ci : Option Nat} {T : Nat} {x y : SV} (h : ∀ i ∈ touchH x, s.bl i = s'.bl i ∧ s.ow i = s'.ow i) : evIndexAddr tt ci s T x y = evIndexAddr tt ci s' T x y := by
  unfold evIndexAddr
  cases x with
  | o c =>
    cases c with
    | h i => simp only [(h i (by simp [touchH])).2]
    | _ => rfl
  | _ => rfl
theorem evLenC_congr {x : SV} (h : ∀ i ∈ touchH x, s.bl i = s'.bl i ∧ s.ow i = s'.ow i) : evLenC s x = evLenC s' x := by
  unfold evLenC
  split
  · rfl
  · rename_i i
    rw [(h i (by simp [touchH])).2]
  · rfl
  · rfl
  · rfl
theorem evLen_congr {tt : Nat → Option TI} {T : Nat} {x : SV} (h : ∀ i ∈ touchH x, s.bl i = s'.bl i ∧ s.ow i = s'.ow i) : evLen tt s T x = evLen tt s' T x := by
  unfold evLen
  rw [evLenC_congr h]
theorem evAppendZ_congr {tt : Nat → Option TI} {T T' : Nat} {x y : SV} (hn : s.nx = s'.nx) (h : ∀ i ∈ touchV x, s.bl i = s'.bl i ∧ s.ow i = s'.ow i) : evAppendZ tt s T T' x y = evAppendZ tt s' T T' x y := by
  unfold evAppendZ
  cases x with
  | o c =>
    cases c with
    | h i => simp only [(h i (by simp [touchV, touchC])).2, hn]
    | _ => rfl
  | _ => rfl
theorem evAppend_congr {tt : Nat → Option TI} {T : Nat} {x y : SV} (hn : s.nx = s'.nx) (h : ∀ i ∈ touchV x, s.bl i = s'.bl i ∧ s.ow i = s'.ow i) (h' : ∀ i ∈ touchV y, s.bl i = s'.bl i ∧ s.ow i = s'.ow i) : evAppend tt s T x y = evAppend tt s' T x y := by
  have key : ∀ sz yc, y = .o yc → srcOf s tt sz yc = srcOf s' tt sz yc := by
    intro sz yc hy
    subst hy
    exact srcOf_congr h'
  unfold evAppend
  cases y with
  | o yc =>
    simp only [key _ _ rfl, hn, srcFr_congr (c := yc) h']
    cases x with
    | o c =>
      cases c with
      | h i => simp only [(h i (by simp [touchV, touchC])).2]
      | s b cnt => simp only [(h b (by simp [touchV, touchC])).1, srcOf_congr (s := s) (s' := s') (c := .s b cnt) h, srcFr_congr (s := s) (s' := s') (c := .s b cnt) h]
      | k v =>
        cases v with
        | slice A n c =>
          cases A with
          | none => cases n with
            | zero => cases c with
              | zero => rfl
              | succ c => rfl
            | succ n => rfl
          | some A => rfl
        | _ => rfl
      | _ => rfl
    | _ => rfl
  | _ => rfl

theorem evText_congr {tt : Nat → Option TI} {T : Nat} {x : SV} (h : ∀ i ∈ touchV x, s.bl i = s'.bl i ∧ s.ow i = s'.ow i) : evText tt s T x = evText tt s' T x := by
  unfold evText
  cases x with
  | o c => simp only [srcOf_congr (c := c) h]
  | _ => rfl
/-- An operation's outcome hangs on the temporaries that it reads, on the names that it touches, and on the next name. -/
theorem evalOp_congr {o : Oper} (h : ∀ x ∈ opnds o.op, opv s x = opv s' x) (hn : s.nx = s'.nx) (hm : ∀ i ∈ touch s o.op, s.bl i = s'.bl i ∧ s.ow i = s'.ow i) : evalOp E s o = evalOp E s' o := by
  obtain ⟨dst, op, type, pos, after, guard⟩ := o
  simp only at h hm
  cases op with
  | move x => simp only [evalOp]; rw [h x (by simp [opnds])]
  | assign x => simp only [evalOp]; rw [h x (by simp [opnds])]
  | pick c u v => simp only [evalOp]; rw [h c (by simp [opnds]), h u (by simp [opnds]), h v (by simp [opnds])]
  | alloc T => simp only [evalOp, hn]
  | box T x => simp only [evalOp, hn]; rw [h x (by simp [opnds])]
  | build T ps => simp only [evalOp]; rw [partsC_congr (s := s) (s' := s') (by simpa [opnds] using h)]
  | buildSlice T n ps => simp only [evalOp, hn]; rw [partsC_congr (s := s) (s' := s') (by simpa [opnds] using h)]
  | load T x => simp only [evalOp]; rw [evLoad_congr (by simpa [touch] using hm), h x (by simp [opnds])]
  | store T u x => simp only [evalOp]; rw [evStore_congr (by simpa [touch] using hm), h u (by simp [opnds]), h x (by simp [opnds])]
  | nilCheck x => simp only [evalOp]; rw [h x (by simp [opnds])]
  | binOp op T x y T' => simp only [evalOp]; rw [h x (by simp [opnds]), h y (by simp [opnds])]
  | unOp op T x => simp only [evalOp]; rw [h x (by simp [opnds])]
  | convert T T' x => simp only [evalOp]; rw [evText_congr (by simpa [touch] using hm), h x (by simp [opnds])]
  | makeFunc fn first caps =>
    simp only [evalOp]
    have key : ∀ (l : List Operand), (∀ x ∈ l, opv s x = opv s' x) → l.foldr (fun x (r : Option (List Nat)) => match opv s x with
          | .o (.p i 0) => r.map (i :: ·)
          | _ => none) (some []) = l.foldr (fun x (r : Option (List Nat)) => match opv s' x with
          | .o (.p i 0) => r.map (i :: ·)
          | _ => none) (some []) := by
      intro l
      induction l with
      | nil => intro _; rfl
      | cons x l ih => intro hl; simp only [List.foldr_cons]; rw [ih fun y hy => hl y (List.mem_cons_of_mem _ hy), hl x (by simp)]
    have hk := key caps.toList (by simpa [opnds] using h)
    cases fn with
    | func g =>
      cases first.toList with
      | nil => exact congrArg (fun (r : Option (List Nat)) => match r with
          | some is => pur (.o (.f g is))
          | none => none) hk
      | cons x l => rfl
    | _ => rfl
  | makeMap T r => simp only [evalOp, hn]
  | makeSlice T l c => simp only [evalOp, hn]; rw [h l (by simp [opnds]), h c (by simp [opnds])]
  | slice T x lo hi mx =>
    simp only [evalOp]
    rw [h x (by simp [opnds])]
    have h1 : lo.map (opv s) = lo.map (opv s') := by cases lo with
      | none => rfl
      | some y => simp only [Option.map_some]; rw [h y (by simp [opnds])]
    have h2 : hi.map (opv s) = hi.map (opv s') := by cases hi with
      | none => rfl
      | some y => simp only [Option.map_some]; rw [h y (by simp [opnds])]
    rw [h1, h2]
  | fieldAddr T x k => simp only [evalOp]; rw [h x (by simp [opnds])]
  | field T x k => simp only [evalOp]; rw [h x (by simp [opnds])]
  | indexAddr T x i => simp only [evalOp]; rw [evIndexAddr_congr (by simpa [touch] using hm), h x (by simp [opnds]), h i (by simp [opnds])]
  | index T x i => simp only [evalOp]; rw [h x (by simp [opnds]), h i (by simp [opnds])]
  | extract x i => simp only [evalOp]; rw [h x (by simp [opnds])]
  | call c =>
    obtain ⟨callee, args, ts⟩ := c
    cases callee with
    | value f =>
      simp only [opnds, touch] at h hm
      have hf := h f (by simp)
      simp only [evalOp]
      rw [← hf]
      split
      · rename_i g cs hc
        have ha := argsL_congr (tt := E.tt) (xs := args.toList) (fun x hx => h x (List.mem_cons_of_mem _ hx)) (fun i hi => hm i (List.mem_append_right _ (List.mem_append_right _ (List.mem_append_left _ hi)))) (fun i hi => hm i (List.mem_append_right _ (List.mem_append_right _ (List.mem_append_right _ hi))))
        have h1 : ∀ i ∈ cs, s.bl i = s'.bl i ∧ s.ow i = s'.ow i := fun i hi => hm i (List.mem_append_left _ (by rw [hc]; exact hi))
        have h2 : ∀ i ∈ touchIn s cs, s.bl i = s'.bl i ∧ s.ow i = s'.ow i := fun i hi => hm i (List.mem_append_right _ (List.mem_append_left _ (by rw [hc]; exact hi)))
        split
        · rename_i F _
          split
          · unfold evAp
            split
            · rfl
            rename_i x ys hxs
            have hx : opv s x = opv s' x := h x (by rw [hxs]; simp)
            have ha' := argsL_congr (tt := E.tt) (xs := ys) (fun y hy => h y (by rw [hxs]; simp [hy])) (fun i hi => hm i (List.mem_append_right _ (List.mem_append_right _ (List.mem_append_left _ (by rw [hxs]; simp only [List.flatMap_cons]; exact List.mem_append_right _ hi))))) (fun i hi => hm i (List.mem_append_right _ (List.mem_append_right _ (List.mem_append_right _ (by
              rw [hxs]; simp only [List.flatMap_cons]
              unfold touchIn at hi ⊢
              rw [List.flatMap_append]; exact List.mem_append_right _ hi)))))
            rw [← hx]
            split
            · rename_i i hi
              have hi' : s.ow i = s'.ow i := (hm i (List.mem_append_right _ (List.mem_append_right _ (List.mem_append_left _ (by rw [hxs]; simp only [List.flatMap_cons]; exact List.mem_append_left _ (by rw [hi]; simp [touchV, touchC])))))).2
              rw [← hi', ha', hn]
            · rfl
          · rfl
        split
        · rename_i csp _
          unfold evClo
          rw [ha, capsV_congr h1 h2, hn]
        · unfold evCall
          rw [ha, capsL_congr h1, datArgs_congr fun x hx => h x (List.mem_cons_of_mem _ hx)]
      · rfl
    | builtin b =>
      have hargs : ∀ x ∈ args.toList, opv s x = opv s' x := by simpa [opnds] using h
      have hmap : args.toList.map (opv s) = args.toList.map (opv s') := List.map_congr_left hargs
      cases b <;> try rfl
      case len =>
        simp only [evalOp]
        split
        · rename_i x heq
          split
          · rw [evLen_congr fun i hi => hm i (by simp only [touch, heq]; simpa using hi), hargs x (by rw [heq]; simp)]
          · rfl
        · rfl
      case min => simp only [evalOp, hmap]
      case max => simp only [evalOp, hmap]
      case append =>
        simp only [evalOp]
        split
        · rename_i x y heq
          split
          · rw [evAppend_congr hn (fun i hi => hm i (by simp only [touch, heq]; simp [hi])) (fun i hi => hm i (by simp only [touch, heq]; simp [hi])), evAppendZ_congr hn (fun i hi => hm i (by simp only [touch, heq]; simp [hi])), hargs x (by rw [heq]; simp), hargs y (by rw [heq]; simp)]
          · rfl
        · rfl
    | invoke r m => rfl
  | _ => rfl

/-- what an effect turns is there -/
def Eff.at (e : Eff) (s : SS) : Prop := match e with
  | .clo bs old _ => (∀ p ∈ bs, ∃ b, s.bl p.1 = some b) ∧ ∀ o, old = some o → ∃ r, s.ow o = some r
  | .set i _ _ => ∃ b, s.bl i = some b
  | .app i _ => ∃ r, s.ow i = some r
  | .appB i _ => ∃ b, s.bl i = some b
  | .seta i _ => ∃ r, s.ow i = some r
  | _ => True

def Good (s : SS) (r : R3) : Prop := ∀ ob x e, r = some (ob, x, e) → e.at s ∧ (e.apply s).nx ≤ s.nx + 1 ∧ (e.apply s).nt = s.nt ∧ (e.apply s).tm = s.tm
theorem good_none : Good s none := fun _ _ _ h => by cases h
theorem good_no {ob : Option Prop} {x : SV} : Good s (some (ob, x, .no)) := fun _ _ _ h => by
  simp only [Option.some.injEq, Prod.mk.injEq] at h; obtain ⟨_, _, rfl⟩ := h; exact ⟨trivial, Nat.le_succ _, rfl, rfl⟩
theorem good_pur {x : SV} : Good s (pur x) := good_no
theorem good_new {ob : Option Prop} {x : SV} {T : Nat} {cs : List C} : Good s (some (ob, x, .new T cs)) := fun _ _ _ h => by
  simp only [Option.some.injEq, Prod.mk.injEq] at h; obtain ⟨_, _, rfl⟩ := h; exact ⟨trivial, Nat.le_refl _, rfl, rfl⟩
theorem good_own {ob : Option Prop} {x : SV} {r : OR} : Good s (some (ob, x, .own r)) := fun _ _ _ h => by
  simp only [Option.some.injEq, Prod.mk.injEq] at h; obtain ⟨_, _, rfl⟩ := h; exact ⟨trivial, Nat.le_refl _, rfl, rfl⟩
theorem good_set {ob : Option Prop} {x : SV} {i T : Nat} {cs : List C} {b : Nat × List C} (h : s.bl i = some b) : Good s (some (ob, x, .set i T cs)) := fun _ _ _ h' => by
  simp only [Option.some.injEq, Prod.mk.injEq] at h'; obtain ⟨_, _, rfl⟩ := h'; exact ⟨⟨_, h⟩, Nat.le_succ _, rfl, rfl⟩
theorem good_app {ob : Option Prop} {x : SV} {i : Nat} {r q : OR} (h : s.ow i = some q) : Good s (some (ob, x, .app i r)) := fun _ _ _ h' => by
  simp only [Option.some.injEq, Prod.mk.injEq] at h'; obtain ⟨_, _, rfl⟩ := h'; exact ⟨⟨_, h⟩, Nat.le_refl _, rfl, rfl⟩
theorem good_appB {ob : Option Prop} {x : SV} {i : Nat} {r : OR} {b : Nat × List C} (h : s.bl i = some b) : Good s (some (ob, x, .appB i r)) := fun _ _ _ h' => by
  simp only [Option.some.injEq, Prod.mk.injEq] at h'; obtain ⟨_, _, rfl⟩ := h'; exact ⟨⟨_, h⟩, Nat.le_refl _, rfl, rfl⟩
theorem good_seta {ob : Option Prop} {x : SV} {i : Nat} {r q : OR} (h : s.ow i = some q) : Good s (some (ob, x, .seta i r)) := fun _ _ _ h' => by
  simp only [Option.some.injEq, Prod.mk.injEq] at h'; obtain ⟨_, _, rfl⟩ := h'; exact ⟨⟨_, h⟩, Nat.le_succ _, rfl, rfl⟩

theorem good_clo {cs : List Nat} {csp : ClSpec} {vs : List (Nat × CV)} {old : Option Nat} {out : List CV} {ob : Option Prop} {x : SV} {q : Nat} {r : Option OR} (h : capsV s csp.ks cs = some (vs, old)) : Good s (some (ob, x, .clo (outB q cs vs out) old r)) := fun _ _ _ h' => by
  simp only [Option.some.injEq, Prod.mk.injEq] at h'; obtain ⟨_, _, rfl⟩ := h'
  obtain ⟨c1, c2, c3⟩ := capsV_ok h
  refine ⟨⟨fun p hp => ?_, fun o ho => ?_⟩, Nat.le_refl _, rfl, rfl⟩
  · obtain ⟨j, T, v0, v, q1, q2, _⟩ := outB_key hp
    obtain ⟨i', cs', q4, q5, _⟩ := c2 j T v0 q2
    rw [q1] at q4
    cases q4
    exact ⟨_, q5⟩
  · obtain ⟨j, T, i', r', q1, q2, q3, q4⟩ := c3 o ho
    exact ⟨_, q4⟩
theorem good_map {ob : Option Prop} {x : SV} : Good s (some (ob, x, .clo [] none none)) := fun _ _ _ h' => by
  simp only [Option.some.injEq, Prod.mk.injEq] at h'; obtain ⟨_, _, rfl⟩ := h'
  exact ⟨⟨fun p hp => (List.not_mem_nil hp).elim, fun o ho => by cases ho⟩, Nat.le_refl _, rfl, rfl⟩
theorem evalOp_good {o : Oper} : Good s (evalOp E s o) := by
  unfold evalOp evLoad evStore evFieldAddr evIndexAddr evIndex evSlice evAppend evAppendZ evLen evMM evCall evClo evText evAp
  repeat' split
  all_goals first
    | exact good_none
    | exact good_pur
    | exact good_no
    | exact good_new
    | exact good_own
    | exact good_set (by assumption)
    | exact good_app (by assumption)
    | exact good_appB (by assumption)
    | exact good_seta (by assumption)
    | exact good_clo (by assumption)
    | exact good_map
    | (dsimp only; repeat' split
       all_goals first | exact good_none | exact good_no)

theorem evalOp_at {o : Oper} {ob : Option Prop} {x : SV} {e : Eff} (h : evalOp E s o = some (ob, x, e)) : e.at s ∧ (e.apply s).nx ≤ s.nx + 1 ∧ (e.apply s).nt = s.nt ∧ (e.apply s).tm = s.tm := evalOp_good _ _ _ h
end
end Go.Proofs.YtggappbiedkopaaGreat.SX
