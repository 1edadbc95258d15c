/- From a lone walk to a row that says 'leaving' and 'outside := [.timePasses]', of a specification with a condition or without one. -/
import Derived.Conc.HoldsTime
import Derived.Deep.CondSized
import Derived.JoinedCond
import Derived.Leaving
import Derived.KernelRfl
namespace Go.Proofs.YtggappbiedkopaaGreat
open Go Go.Conc Go.ConcM
set_option linter.unusedVariables false

/-- nothing outside was touched: so no more than time has passed -/
theorem postWith_lone {H : Type} {enc : TypeId × Value → H} {P : Program} {f : Func} {s : OpenSpec} {F : Stop.Interp} {apart fresh handsOn : Bool} {W W' : World} {args : Array Value} {v : Value}
    (hout : ∀ ds : List (DataW H), s.out F H ds = {}) (h : (s.at F).post enc P f apart fresh handsOn false W args v W') : s.postWith enc P f F (outsideKept [.timePasses]) apart fresh handsOn W args v W' := by
  obtain ⟨ds, gs, before, pr, pa, pv, h1, h2, h3, h4, h5, _⟩ := h
  refine ⟨ds, gs, before, pr, pa, pv, h1, h2, h3, h4, ?_, h5.2⟩
  rw [hout, show W'.os = W.os from h5.1]
  exact leftAs_later (OsLater.refl _)
/-- who returns alone has nobody left behind -/
theorem leaving_lone {H : Type} {enc : TypeId × Value → H} {a : Assume} {C : Checked} {os : Os} {f : FuncId} {fn : Func} {s : OpenSpec} {F : Stop.Interp} {apart fresh handsOn : Bool} {Pre : World → Array Value → Prop}
    (hout : ∀ ds : List (DataW H), s.out F H ds = {}) (h : ReturnsInHanded a C os f .any Pre ((s.at F).post enc C.prog fn apart fresh handsOn false)) :
    ReturnsInLeavingWide a C os f .any Pre (s.postWith enc C.prog fn F (outsideKept [.timePasses]) apart fresh handsOn) := by
  intro enter
  obtain ⟨a1, a2, a3, a4, all⟩ := h enter
  refine ⟨a1, a2, a3, a4, fun w tape i hf => ?_⟩
  obtain ⟨n, v, w', b1, b2, b3, b4, ⟨j, last, c1, c2, c3⟩, b6⟩ := all w tape i hf
  exact ⟨n, v, w', b1, b2, b3, postWith_lone hout b4, ⟨j, last, c1, c2, ⟨c3.2.1, onlyLeaving_of_quiet c3.1, c3.2.2⟩⟩, b6⟩
/-- some input meets a specification's condition, on a calm tape -/
theorem witness_calm {H : Type} {enc : TypeId × Value → H} {C : Checked} {os : Os} {f : FuncId} {fn : Func} {s : OpenSpec} {k : (H : Type) → List (DataW H) → Bool} (hk : s.cond = some k) {conds : List PathCond} {apart : Bool} (i : Input) (fuel : Nat)
    (hv : (World.plainHolding C.prog os i).variablesB C.prog = true)
    (hr : ((World.plainHolding C.prog os i).heap.toList.drop C.prog.globals.size).take ((begin C.prog (fun _ _ => 0) default).world.heap.size - C.prog.globals.size) = (begin C.prog (fun _ _ => 0) default).world.heap.toList.drop C.prog.globals.size)
    (hok : Input.okWideB C.prog (World.plainHolding C.prog os i) f ⟨#[], i.args, []⟩ = true)
    {x : List (DataW H) × List (DataW H) × List MemPlace} (hx : DataW.whole enc C.prog (World.plainHolding C.prog os i).memory fn.params.toList s.vars apart i.args.toList fuel = some x)
    (hconds : conds.all (PathCond.test C.prog ⟨fn.params.toList, x.1, s.bare.plain.varTypes C.prog, x.2.1⟩) = true) (hkk : k H (x.1 ++ x.2.1) = true)
    (hsz : s.bare.sizedB enc C.prog fn apart (World.plainHolding C.prog os i).memory i.args fuel = true := by kernel_rfl) :
    ∃ (w : World) (tape : Tape) (i : Input), w.os = os ∧ (w.forCall tape i).Shaped C.prog ∧ i.vars = [] ∧ Input.okWide C.prog (w.forCall tape i) .any w.heap.size f i ∧
      s.pre6 enc C.prog fn conds apart (w.forCall tape i).memory i.args ∧ ({ calm := true } : Assume).holds C.prog (lone (Frame.enter C.prog f i.args .normal) [] (w.forCall tape i)) := by
  refine ⟨World.holding C.prog os i, fun _ _ => 0, ⟨#[], i.args, []⟩, rfl, World.shaped_of_B hv hr, (Input.okWide_of_okWideB (base := 0) hok).1, (Input.okWide_of_okWideB hok).2, ⟨(OpenSpec.pre_some hk conds apart _ _).2 ⟨x.1, x.2.1, x.2.2, DataW.Whole_of_whole hx, hconds, hkk⟩, sizedMet_of_sizedB hsz⟩, ?_⟩
  simp only [Assume.holds]
  refine ⟨by simp, fun _ _ _ _ => rfl, by simp, by simp, by simp⟩
/-- the row: it says 'leaving' and that time may pass; its specification may bear a condition -/
theorem holds_lone_time {p : Pinned} {s : OpenSpec} {c : OpenClaim} (f : FuncId) (fn : Func) (hs : c.program = p.name ∧ c.sum = p.sum ∧ c.spec = s.name)
    (hc : c.start = .entering ∧ c.outside = [.timePasses] ∧ c.inits = [] ∧ c.under = none ∧ c.noBlocks = false ∧ c.leaving = true ∧ c.followed = none ∧ c.narrowed = s.cond.isSome ∧ c.still = false)
    (hi4 : c.initsInPlace = [] ∧ c.initsUnfollowed = false ∧ c.initsRecurse = false ∧ c.initsNamed = [] ∧ c.initsPassed = [])
    (hfn : p.checked.prog.funcNamed c.func = some f) (hf : p.checked.prog.funcs[f]? = some fn) (closed : joinedFacts p.checked.prog f fn s.bare c = true)
    (hinst : fn.isInstance p.checked.prog c.origin c.targs) (hwrap : fn.isWrapper p.checked.prog c.wrapper c.mainSum) (hout : ∀ F H (ds : List (DataW H)), s.out F H ds = {})
    (h : ∀ os : Os, os.Started → ∀ (H : Type) (enc : TypeId × Value → H) (F : Stop.Interp), ReturnsInHanded c.assume p.checked os f .any (c.pre enc p.checked.prog fn s) ((s.at F).post enc p.checked.prog fn c.apart c.fresh c.handsOn false)) : c.holds p s := by
  obtain ⟨q1, q2, q3⟩ := hs
  obtain ⟨c1, c2, c3, c4, c5, c6, c7, c8, c9⟩ := hc
  simp only [joinedFacts, Bool.and_eq_true, beq_iff_eq, Array.all_eq_true_iff_forall_mem, List.all_eq_true, decide_eq_true_eq] at closed
  obtain ⟨⟨⟨⟨⟨⟨⟨⟨⟨⟨⟨⟨⟨⟨⟨⟨⟨⟨⟨⟨⟨⟨⟨⟨⟨⟨⟨⟨⟨⟨⟨k1, k2⟩, k3⟩, k4⟩, k5⟩, k6⟩, k7⟩, k8⟩, k9⟩, k10⟩, k11⟩, k12⟩, k13⟩, k14⟩, k15⟩, k16⟩, k17⟩, k17b⟩, k18⟩, k19⟩, k20⟩, k21⟩, k22⟩, k23⟩, k23b⟩, k24⟩, k24b⟩, k24c⟩, k25⟩, k26⟩, k27⟩, k28⟩ := closed
  have quiet : ∀ os : Os, Stop.quiet p.checked.prog os := fun os k hk => by rw [k9] at hk; cases hk
  have fits : c.startFits p.checked.prog := by unfold OpenClaim.startFits; rw [c1]; exact k24
  have told : c.startTold p.checked.prog := by unfold OpenClaim.startTold; rw [c1]; exact ⟨c3, c4, hi4⟩
  have named := k5
  refine ⟨k1, q1, q2, q3, k2, k3, fits, told, f, fn, hfn, hf, ⟨k4, k19⟩, (fun hb => by rw [c5] at hb; cases hb), (by unfold OpenClaim.namedList; rw [c7]; exact named), hinst, hwrap,
    k6.trans k7.symm, ⟨k8.trans k9.symm, (by unfold Program.envWorded; rw [k9]; rfl), k23b⟩, k10, k11, k12, k13, k14, ⟨k15, k27, k28⟩, ⟨k16, k20⟩, ⟨k17, k21, k25, k26⟩, ⟨k22, k24b, k24c, k17b⟩, ?_, fun n hn => varReadable_some (k18 n hn),
    ⟨_, (by unfold OpenClaim.world; rw [c2, c1]; exact ⟨WideRow.started_initial, fun o ho => by simp at ho; subst ho; trivial⟩), quiet _⟩, [], (by unfold OpenClaim.lists; rw [c7]), fun os st _ H enc inj => ?_⟩
  · rw [c2, c8]
    cases hsh : c.shortTexts with
    | none => simp [OutsideCond.fixesBytes]
    | some _ => rw [hsh] at k23; cases k23
  have started : os.Started := by unfold OpenClaim.world at st; rw [c2, c1] at st; exact st.1
  rw [OpenClaim.post_not_still c9]
  unfold OpenClaim.form
  rw [c1, k6]
  intro F
  have post : s.post enc p.checked.prog fn F c.outside c.apart c.fresh c.handsOn c.again = s.postWith enc p.checked.prog fn F (outsideKept [.timePasses]) c.apart c.fresh c.handsOn := by rw [c2]; rfl
  show ReturnsInOpen c.assume none p.checked os f .any c.okInput (c.pre enc p.checked.prog fn s) (s.post enc p.checked.prog fn F c.outside c.apart c.fresh c.handsOn c.again) (c.atReturn p.checked.prog) (c.always p.checked.prog [])
  rw [post, show c.okInput = Input.okWide by unfold OpenClaim.okInput; rw [c5], show c.atReturn p.checked.prog = leavingAtReturn p.checked.prog by unfold OpenClaim.atReturn; rw [c6], show c.always p.checked.prog [] = nothingAlways by unfold OpenClaim.always; rw [c7]]
  exact leaving_lone (hout F H) (h os started H enc F) k24
end Go.Proofs.YtggappbiedkopaaGreat
