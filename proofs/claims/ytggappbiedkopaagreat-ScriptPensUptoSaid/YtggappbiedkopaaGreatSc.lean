/- The symbolic executor, part c: what is asked of the program's tables and contracts; the simple operations. -/
import Derived.Test.YtggappbiedkopaaGreatSb
import Derived.RangeFuncNested
import Derived.RangeFuncLeaves
import Derived.RangeFuncCalls
import Derived.Sort.LoopGhostIn
import Derived.OrdersIn
import Derived.OwnWalkIn
namespace Go.Proofs.YtggappbiedkopaaGreat.SX
open Go Go.RowKit
set_option linter.unusedVariables false

def scD (d : TypeDesc) : Bool := match d with
  | .struct _ => false
  | .array _ _ => false
  | _ => true

structure TIok (P : Program) (T : Nat) (ti : TI) : Prop where
  info : ∃ i zv, P.info? T = some i ∧ i.size = ti.sz ∧ i.bytes = ti.byt ∧ i.zero = some zv ∧ zv.cells.toList = ti.z ∧ ti.z.length = ti.sz ∧ allOne ti.z = true
  kd : match ti.kd with
    | .sc => ∃ d, P.underlying T = some d ∧ scD d = true
    | .str => P.underlying T = some .string
    | .bl => P.underlying T = some .bool
    | .pt e => P.underlying T = some (.pointer e)
    | .int k => P.underlying T = some (.int k)
    | .st fs => ∃ fields, P.underlying T = some (.struct fields) ∧ fields.toList.map (fun f => (f.offset, f.type)) = fs
    | .ar n e => P.underlying T = some (.array n e)
    | .sl e => P.underlying T = some (.slice e)
  eq : ∀ es, ti.eq = some es → ∀ xs ys, eksOK es xs = true → eksOK es ys = true → ∀ (x y : Operand) (w : World),
    (do eqGuard .eql T x y (.agg xs.toArray) (.agg ys.toArray); binOp .eql T (.agg xs.toArray) (.agg ys.toArray) : Sem Value).run P w = .ok (.bool (eqL xs ys)) w ∧
    (do eqGuard .neq T x y (.agg xs.toArray) (.agg ys.toArray); binOp .neq T (.agg xs.toArray) (.agg ys.toArray) : Sem Value).run P w = .ok (.bool (!(eqL xs ys))) w

def Dens (w : World) (S : Nat → Prop) : List L → List Value → Prop
  | [], [] => True
  | l :: ls, y :: ys => Den w S l y ∧ Dens w S ls ys
  | _, _ => False
def argD (w : World) (S : Nat → Prop) (b : Bool) (ls : List L) (y : Value) : Prop := match b with
  | true => ∃ zs, y = .agg zs.toArray ∧ Dens w S ls zs
  | false => Dens w S ls [y]
def ArgsD (w : World) (S : Nat → Prop) : Res → List Value → Prop
  | [], [] => True
  | (b, ls) :: r, y :: ys => argD w S b ls y ∧ ArgsD w S r ys
  | _, _ => False
def ResD (w : World) (S : Nat → Prop) (r : Res) (y : Value) : Prop := match r with
  | [(b, ls)] => argD w S b ls y
  | rs => ∃ ys, y = .tuple ys.toArray ∧ ArgsD w S rs ys

/-- what a call of function g is to do -/
def FnOK (P : Program) (g : Nat) (sp : Spec) : Prop :=
  ∀ (w : World) (args : Res) (vs : List Value) (pre : Prop) (res : Res), sp args = some (pre, res) → pre → ArgsD w (fun b => b < w.heap.size) args vs →
    Calls P g vs.toArray w fun e w' => (∃ v, e = .returned v ∧ ResD w' (fun b => w.heap.size ≤ b ∧ b < w'.heap.size) res v) ∧ Below w.heap.size w w'

def Enters (P : Program) (g : Nat) : Prop := ∀ (args : Array Value) (w : World), (callFunc g args).run P w = .ok (.enter g args) w

/-- the captured variables and the row, as a state -/
def memS (q : Nat) (is : List Nat) (ts : List (Nat × CV)) (out : List CV) : SS := mkS [] (outB q is ts out) (match outR out with
  | some r => [(q, r)]
  | none => []) 0 0
/-- what a call of a closure is to do that writes what it captured: the captured variables under the names 0, 1, .., the row behind them -/
def ClOK (P : Program) (g : Nat) (csp : ClSpec) : Prop :=
  ∀ (base : Nat) (cx : Cx) (w : World) (args : Res) (vs : List Value) (ts : List (Nat × CV)) (pre : Prop) (res : Res) (out : List CV),
    csp.f args (ts.map (·.2)) = some (pre, res, out) → pre → likeV ts out false = true → allLitR res = true → ArgsD w (fun _ => False) args vs → base ≤ w.heap.size → (∀ b, cx.S b → b < w.heap.size) → (∀ i, cx.D i ↔ i < ts.length + 1) →
    Mem base cx w (memS ts.length (List.range ts.length) ts (ts.map (·.2))) →
    Calls P g (vs ++ (List.range ts.length).map fun j => Value.pointer (some ⟨cx.β j, 0, none⟩)).toArray w fun e w' => ∃ v cx' n' q, e = .returned v ∧ ResD w' (fun _ => False) res v ∧ Fr cx cx' w w' (An.W ⟨base, cx, w⟩) 0 n' ∧ (∀ b, cx'.S b → b < w'.heap.size) ∧
      Mem base cx' w' (memS q (List.range ts.length) ts out)

/-- the same, where the result may lead to what the arguments led to -/
def FnOKo (P : Program) (g : Nat) (sp : Spec) : Prop :=
  ∀ (S : Nat → Prop) (w : World) (args : Res) (vs : List Value) (pre : Prop) (res : Res), sp args = some (pre, res) → pre → (∀ b, S b → b < w.heap.size) → ArgsD w S args vs →
    Calls P g vs.toArray w fun e w' => (∃ v, e = .returned v ∧ ResD w' (fun b => S b ∨ (w.heap.size ≤ b ∧ b < w'.heap.size)) res v) ∧ Below w.heap.size w w'
/-- a call at these data comes to these results, which may lead to what the arguments led to -/
def FnOld (P : Program) (g : Nat) (args res : Res) : Prop := Enters P g ∧ ∀ (S : Nat → Prop) (w : World) (vs : List Value), (∀ b, S b → b < w.heap.size) → ArgsD w S args vs →
    Calls P g vs.toArray w fun e w' => (∃ v, e = .returned v ∧ ResD w' (fun b => S b ∨ (w.heap.size ≤ b ∧ b < w'.heap.size)) res v) ∧ Below w.heap.size w w'
/-- a call at these data comes to these results -/
def FnAt (P : Program) (g : Nat) (args res : Res) : Prop := Enters P g ∧ ∀ (w : World) (vs : List Value), ArgsD w (fun b => b < w.heap.size) args vs →
    Calls P g vs.toArray w fun e w' => (∃ v, e = .returned v ∧ ResD w' (fun b => w.heap.size ≤ b ∧ b < w'.heap.size) res v) ∧ Below w.heap.size w w'
/-- a call of a closure at these data, its captured variables holding these, comes to these -/
def ClAt (P : Program) (g : Nat) (args : Res) (cv : List CV) (res : Res) (out : List CV) : Prop := Enters P g ∧
  ∀ (base : Nat) (cx : Cx) (w : World) (vs : List Value) (ts : List (Nat × CV)), ts.map (·.2) = cv →
    likeV ts out false = true → allLitR res = true → ArgsD w (fun _ => False) args vs → base ≤ w.heap.size → (∀ b, cx.S b → b < w.heap.size) → (∀ i, cx.D i ↔ i < ts.length + 1) →
    Mem base cx w (memS ts.length (List.range ts.length) ts (ts.map (·.2))) →
    Calls P g (vs ++ (List.range ts.length).map fun j => Value.pointer (some ⟨cx.β j, 0, none⟩)).toArray w fun e w' => ∃ v cx' n' q, e = .returned v ∧ ResD w' (fun _ => False) res v ∧ Fr cx cx' w w' (An.W ⟨base, cx, w⟩) 0 n' ∧ (∀ b, cx'.S b → b < w'.heap.size) ∧
      Mem base cx' w' (memS q (List.range ts.length) ts out)

def svrels (base : Nat) (cx : Cx) (w : World) : List SV → List Value → Prop
  | [], [] => True
  | x :: xs, y :: ys => svrel base cx w x y ∧ svrels base cx w xs ys
  | _, _ => False
def LM.ss (M : LM) : SS := mkS [] M.bs M.os M.nx 0
/-- a call that turns memory: at these arguments and this memory (by local names) it comes to this result and that memory -/
def HvAt (P : Program) (g : Nat) (xs : List SV) (M : LM) (x : SV) (M' : LM) : Prop := Enters P g ∧ M.nx ≤ M'.nx ∧
  ∀ (base : Nat) (cx : Cx) (w : World) (vs : List Value), base ≤ w.heap.size → (∀ b, cx.S b → b < w.heap.size) → (∀ i, cx.D i ↔ i < M.nx) → Mem base cx w M.ss → svrels base cx w xs vs →
    Calls P g vs.toArray w fun e w' => ∃ v cx', e = .returned v ∧ svrel base cx' w' x v ∧ Fr cx cx' w w' (An.W ⟨base, cx, w⟩) 0 M'.nx ∧ (∀ b, cx'.S b → b < w'.heap.size) ∧ Mem base cx' w' M'.ss

/-- data, as a temporary's value -/
def litSV (q : Bool × List L) : SV := match q with
  | (true, ls) => .a (ls.map (ofL false))
  | (false, ls) => match ls with
    | [l] => .o (ofL false l)
    | _ => .o .any
/-- a call that takes a row of the caller's own and hands it back, grown -/
def ApAt (P : Program) (g : Nat) (r : OR) (ls : Res) (r' : OR) : Prop := (∀ a, a < r'.n → ∀ j, j < r'.sz → allLitL [r'.f a j] = true) ∧
  HvAt P g (.o (.h 0) :: ls.map litSV) ⟨[], [(0, r)], 1⟩ (.o (.h 1)) ⟨[], [(1, r')], 2⟩

/-- an iterator over a captured block of numbers: what it hands out, in order -/
def SqAt (P : Program) (g T : Nat) (gv : List Value) (ι : Type) (enc : ι → List Value) (full : List ι → Prop) (N : Nat) : Prop := Enters P g ∧
  ∀ (b : Nat) (w : World), w.heap[b]? = some (.cells gv.toArray T (0, 0)) → ∃ Sp, SeqStopsK Fence.wide 0 P g #[.pointer (some ⟨b, 0, none⟩)] (fun x => (enc x).toArray) (fun W W' => W'.heap[b]? = W.heap[b]?) full Sp N w

structure EnvOK (P : Program) (E : Env) : Prop where
  tt : ∀ T ti, E.tt T = some ti → TIok P T ti
  cl : ∀ g sp, E.cl g = some sp → Enters P g ∧ ClOK P g sp
  ct : ∀ g sp, E.ct g = some sp → Enters P g ∧ match E.old g with
    | false => FnOK P g sp
    | true => FnOKo P g sp
  call : ∀ g args res, E.call g args res → match E.old g with
    | false => FnAt P g args res
    | true => FnOld P g args res
  clo : ∀ g args cv res out, E.clo g args cv res out → ClAt P g args cv res out
  hv : ∀ g xs M x M', E.hv g xs M x M' → HvAt P g xs M x M'
  sq : ∀ g T gv ι enc full N, E.sq g T gv ι enc full N → SqAt P g T gv ι enc full N
  ap : ∀ g F, E.ap g = some F → ∀ r ls r', F r ls = some r' → ApAt P g r ls r'
  apR : ∀ g r ls r', E.apR g r ls r' → ApAt P g r ls r'

theorem enters_of' {P : Program} {g : Nat} {fn : Func} (hf : P.funcs[g]? = some fn) (hname : (fn.name == "runtime.NumGoroutine") = false) (hb : fn.body.isSome = true) : Enters P g := fun args w => by
  have h1 : fn.name ≠ "runtime.NumGoroutine" := by simpa using hname
  obtain ⟨c, hc⟩ := Option.isSome_iff_exists.1 hb
  simp [callFunc, hf, h1, hc]

/-- which blocks an effect turns -/
def Eff.W (e : Eff) (cx : Cx) : Nat → Prop := match e with
  | .clo bs old _ => fun b => (∃ p ∈ bs, b = cx.β p.1) ∨ ∃ o, old = some o ∧ (cx.η o).ownBlock = some b
  | .set i _ _ => fun b => b = cx.β i
  | .app i _ => fun b => (cx.η i).ownBlock = some b
  | .appB i _ => fun b => b = cx.β i
  | .seta i _ => fun b => (cx.η i).ownBlock = some b
  | _ => fun _ => False

/-- what is to be shown of a world that an operation comes to -/
def Post (base : Nat) (cx : Cx) (w : World) (s : SS) (x : SV) (e : Eff) (K : Value → World → Prop) : Prop :=
  ∀ y w' cx', Fr cx cx' w w' (e.W cx) s.nx (e.apply s).nx → svrel base cx' w' x y → Mem base cx' w' (e.apply s) → (∀ b, cx'.S b → b < w'.heap.size) → K y w'

section
variable {P : Program} {E : Env} {base : Nat} {cx : Cx} {w w' : World} {s : SS} {a : Act} {o : Oper} {next : Act → World → Prop} {Q : Exit → Act → World → Prop}

theorem val_ok {y : Value} (hrun : (execOp a.eval o).run P w = .ok (.value y) w') (h : next (a.put o.dst y) w') : o.wp P a w next Q := by
  unfold Oper.wp
  rw [hrun]
  exact h
theorem skip_ok (hrun : (execOp a.eval o).run P w = .ok .skip w') (h : next (a.put o.dst undef) w') : o.wp P a w next Q := by
  unfold Oper.wp
  rw [hrun]
  exact h
theorem pure_ok {x : SV} {y : Value} (hm : Mem base cx w s) (hS : ∀ b, cx.S b → b < w.heap.size) (hp : Post base cx w s x .no fun y w' => next (a.put o.dst y) w')
    (hrun : (execOp a.eval o).run P w = .ok (.value y) w) (hx : svrel base cx w x y) : o.wp P a w next Q :=
  val_ok hrun (hp y w cx (Fr.refl cx w _ s.nx) hx hm hS)

theorem one_iff (x : Value) : one x = x.oneCell' := by cases x <;> rfl
theorem allOne_mem : ∀ {xs : List Value}, allOne xs = true → ∀ x ∈ xs, one x = true
  | [], _, x, h => by cases h
  | y :: xs, h, x, hx => by
    unfold allOne at h
    split at h
    · rename_i hy
      rcases List.mem_cons.1 hx with rfl | hx
      · exact hy
      · exact allOne_mem h x hx
    · cases h

theorem opv_ok (h : ∀ t, svrel base cx w (s.tm t) (a.tmps.getD t undef)) (x : Operand) : svrel base cx w (opv s x) (a.eval x) := by
  cases x with
  | tmp t => exact h t
  | const v =>
    show svrel base cx w (constSV v) v
    unfold constSV
    split
    · rename_i cs
      split
      · rename_i hc
        exact ⟨cs.toList, by simp, crels.map_k _ (allOne_mem hc)⟩
      · exact ⟨trivial, trivial⟩
    · exact ⟨trivial, trivial⟩
    · exact ⟨rfl, rfl⟩
  | global g => exact ⟨trivial, trivial⟩
  | func g => exact ⟨⟨(fun i hi => nomatch hi), rfl⟩, rfl⟩

/-! ### what a relation says of the value -/
theorem rel_k {x y : Value} (h : svrel base cx w (.o (.k x)) y) : y = x := h.1
theorem rel_v {x y : Value} (h : svrel base cx w (.o (.v x)) y) : y = x ∧ one x = true := ⟨h.1, by have := h.2; rw [show y = x from h.1] at this; exact this⟩
theorem sv_k (x : Value) : svrel base cx w (.o (.k x)) x := ⟨rfl, rfl⟩
theorem sv_v {x : Value} (h : one x = true) : svrel base cx w (.o (.v x)) x := ⟨rfl, h⟩
theorem sv_of {c : C} {y : Value} (h : crel base cx w c y) (h1 : one y = true) : svrel base cx w (.o c) y := by
  refine ⟨h, ?_⟩
  cases c with
  | any => trivial
  | k x => exact h
  | _ => exact h1

theorem move_ok (hE : EnvOK P E) (hm : Mem base cx w s) (hS : ∀ b, cx.S b → b < w.heap.size) (hv : ∀ x, svrel base cx w (opv s x) (a.eval x)) {x : Operand} (ho : o.op = .move x ∨ o.op = .assign x)
    (hp : Post base cx w s (opv s x) .no fun y w' => next (a.put o.dst y) w') : o.wp P a w next Q := by
  refine pure_ok hm hS hp (y := a.eval x) ?_ (hv x)
  rcases ho with ho | ho <;> simp [execOp, ho]

theorem info_run {T : Nat} {ti : TI} (h : TIok P T ti) : ∃ i zv, P.info? T = some i ∧ i.size = ti.sz ∧ i.bytes = ti.byt ∧ i.zero = some zv ∧ zv.cells.toList = ti.z ∧ ti.z.length = ti.sz ∧ (∀ x ∈ ti.z, one x = true) := by
  obtain ⟨i, zv, h1, h2, h3, h4, h5, h6, h7⟩ := h.info
  exact ⟨i, zv, h1, h2, h3, h4, h5, h6, allOne_mem h7⟩

theorem run_zero {T : Nat} {ti : TI} (h : TIok P T ti) (w : World) : ∃ zv, (zeroValue T).run P w = .ok zv w ∧ zv.cells = ti.z.toArray := by
  obtain ⟨i, zv, h1, h2, h3, h4, h5, h6, h7⟩ := h.info
  exact ⟨zv, by simp [zeroValue, typeInfo, h1, h4], by rw [← h5]⟩
theorem run_size {T : Nat} {ti : TI} (h : TIok P T ti) (w : World) : (sizeOf T).run P w = .ok ti.sz w := by
  obtain ⟨i, zv, h1, h2, _⟩ := h.info
  simp [sizeOf, typeInfo, h1, h2]
theorem run_agg {T : Nat} {ti : TI} (h : TIok P T ti) (w : World) : (isAgg T).run P w = .ok ti.agg w := by
  have hk := h.kd
  unfold TI.agg
  cases hkd : ti.kd with
  | sc =>
    rw [hkd] at hk
    obtain ⟨d, hd, h1⟩ := hk
    simp only [isAgg, Sem.run_bind, run_underlying hd, Result.andThen_ok]
    cases d <;> first | rfl | simp [scD] at h1
  | str => rw [hkd] at hk; simp [isAgg, run_underlying hk]
  | bl => rw [hkd] at hk; simp [isAgg, run_underlying hk]
  | pt e => rw [hkd] at hk; simp [isAgg, run_underlying hk]
  | int k => rw [hkd] at hk; simp [isAgg, run_underlying hk]
  | st fs => rw [hkd] at hk; obtain ⟨f, hf, _⟩ := hk; simp [isAgg, run_underlying hf]
  | ar n e => rw [hkd] at hk; simp [isAgg, run_underlying hk]
  | sl e => rw [hkd] at hk; simp [isAgg, run_underlying hk]

/-- a new block -/
theorem new_ok (hb : base ≤ w.heap.size) (hm : Mem base cx w s) (hS : ∀ b, cx.S b → b < w.heap.size) (hD : ∀ i, cx.D i → i ≠ s.nx) {T : Nat} {cs : List C} {ys : List Value} (hc : crels base cx w cs ys) {K : Value → World → Prop} {x : SV} {y : Value}
    (hx : ∀ cx' : Cx, cx'.D s.nx → cx'.β s.nx = w.heap.size → svrel base cx' (w.alloc (.cells ys.toArray T)) x y)
    (hp : Post base cx w s x (.new T cs) K) : K y (w.alloc (.cells ys.toArray T)) := by
  let cx' : Cx := { D := fun i => cx.D i ∨ i = s.nx, β := upd cx.β s.nx w.heap.size, η := upd cx.η s.nx (.slice none 0 0), S := cx.S }
  have hβ : cx'.β s.nx = w.heap.size := upd_same ..
  have hβ' : ∀ i, i ≠ s.nx → cx'.β i = cx.β i := fun i hi => upd_ne _ _ hi
  have hη' : ∀ i, i ≠ s.nx → cx'.η i = cx.η i := fun i hi => upd_ne _ _ hi
  have hη : cx'.η s.nx = .slice none 0 0 := upd_same ..
  have hF : Fr cx cx' w (w.alloc (.cells ys.toArray T)) (Eff.W (.new T cs) cx) s.nx ((Eff.new T cs).apply s).nx := by
    refine ⟨fun i h => .inl h, ?_, fun i h => hβ' i (hD i h), fun i h => hη' i (hD i h), fun b h => h, fun b h => .inl h, by simp, rfl, rfl, rfl, fun b hb _ => Below.heap_alloc w _ b hb, ?_, ?_⟩
    · rintro i (h | rfl)
      · exact .inl h
      · exact .inr ⟨Nat.le_refl _, Nat.lt_succ_self _⟩
    · rintro i (h | rfl) h'
      · exact absurd h h'
      · rw [hβ]; exact Nat.le_refl _
    · rintro i g (h | rfl) h' hg
      · exact absurd h h'
      · rw [hη] at hg; simp [Value.ownBlock] at hg
  have hs : ∀ b, cx.S b → b < w.heap.size ∧ ¬ Eff.W (.new T cs) cx b := fun b h => ⟨hS b h, id⟩
  refine hp y _ cx' hF (hx cx' (.inr rfl) hβ) ⟨?_, ?_, ?_, ?_, ?_⟩ (fun b h => by simp; exact Nat.lt_succ_of_lt (hS b h))
  · intro i T' cs' h
    simp only [Eff.apply] at h
    by_cases hi : i = s.nx
    · subst hi
      rw [upd_same] at h
      simp only [Option.some.injEq, Prod.mk.injEq] at h
      obtain ⟨rfl, rfl⟩ := h
      refine ⟨.inr rfl, by rw [hβ]; exact hb, by rw [hβ]; exact fun h => Nat.lt_irrefl _ (hS _ h), ys, by rw [hβ]; exact heap_alloc_new w _, hF.crels hs hc⟩
    · rw [upd_ne _ _ hi] at h
      obtain ⟨h1, h2, h3, zs, h4, h5⟩ := hm.bl i T' cs' h
      refine ⟨.inl h1, by rw [hβ' i hi]; exact h2, by rw [hβ' i hi]; exact h3, zs, ?_, hF.crels hs h5⟩
      rw [hβ' i hi, Below.heap_alloc w _ _ (Array.getElem?_eq_some_iff.1 h4).1]
      exact h4
  · have key : ∀ i, (∃ b, ((Eff.new T cs).apply s).bl i = some b) → i = s.nx ∨ (i ≠ s.nx ∧ (∃ b, s.bl i = some b) ∧ cx.β i < w.heap.size) := by
      rintro i ⟨b, h⟩
      by_cases hi : i = s.nx
      · exact .inl hi
      · simp only [Eff.apply] at h
        rw [upd_ne _ _ hi] at h
        obtain ⟨_, _, _, zs, h4, _⟩ := hm.bl i b.1 b.2 h
        exact .inr ⟨hi, ⟨b, h⟩, (Array.getElem?_eq_some_iff.1 h4).1⟩
    intro i j h1 h2 h3
    rcases key i h1 with rfl | ⟨hi, hi1, hi2⟩ <;> rcases key j h2 with rfl | ⟨hj, hj1, hj2⟩
    · rfl
    · rw [hβ, hβ' j hj] at h3; omega
    · rw [hβ, hβ' i hi] at h3; omega
    · rw [hβ' i hi, hβ' j hj] at h3; exact hm.inj i j hi1 hj1 h3
  · intro i r h
    obtain ⟨h1, cells, h2, h3⟩ := hm.ow i r h
    have hi : i ≠ s.nx := hD i h1
    refine ⟨.inl h1, cells, by rw [hη' i hi]; exact h2.alloc _, fun a ha j hj => ?_⟩
    obtain ⟨z, hz, hd⟩ := h3 a ha j hj
    exact ⟨z, hz, hF.den hs hd⟩
  · intro i r g h hg
    obtain ⟨h1, cells, h2, _⟩ := hm.ow i r h
    have hi : i ≠ s.nx := hD i h1
    rw [hη' i hi] at hg
    obtain ⟨h4, h5⟩ := hm.owS i r g h hg
    refine ⟨h4, fun j hj => ?_⟩
    obtain ⟨b, hj⟩ := hj
    by_cases hjn : j = s.nx
    · subst hjn; rw [hβ]; have := (h2.lt g hg).2; omega
    · rw [hβ' j hjn]; refine h5 j ⟨b, ?_⟩; simp only [Eff.apply] at hj; rw [upd_ne _ _ hjn] at hj; exact hj
  · intro i j r r' g h1 h2 h3 h4
    rw [hη' i (hD i (hm.ow i r h1).1)] at h3
    rw [hη' j (hD j (hm.ow j r' h2).1)] at h4
    exact hm.owi i j r r' g h1 h2 h3 h4

theorem alloc_ok (hE : EnvOK P E) (hb : base ≤ w.heap.size) (hm : Mem base cx w s) (hS : ∀ b, cx.S b → b < w.heap.size) (hD : ∀ i, cx.D i → i ≠ s.nx) {T : Nat} {ti : TI} (ht : E.tt T = some ti) (ho : o.op = .alloc T)
    (hp : Post base cx w s (.o (.p s.nx 0)) (.new T (ti.z.map .k)) fun y w' => next (a.put o.dst y) w') : o.wp P a w next Q := by
  have hti := hE.tt T ti ht
  obtain ⟨zv, h1, h2⟩ := run_zero hti w
  obtain ⟨_, _, _, _, _, _, _, _, h7⟩ := info_run hti
  have hrun : (execOp a.eval o).run P w = .ok (.value (.pointer (some ⟨w.heap.size, 0, none⟩))) (w.alloc (.cells ti.z.toArray T)) := by
    simp [execOp, ho, Instr.alloc, h1, newVar, newRow, h2]
  exact val_ok hrun (new_ok (x := .o (.p s.nx 0)) (K := fun y w' => next (a.put o.dst y) w') hb hm hS hD (crels.map_k _ h7) (fun cx' h h' => ⟨⟨h, by rw [h']⟩, rfl⟩) hp)

theorem cells_ok {x : SV} {y : Value} {cs : List C} (h : svrel base cx w x y) (hc : x.cells = some cs) : ∃ ys, y.cells = ys.toArray ∧ crels base cx w cs ys := by
  cases x with
  | o c =>
    simp only [SV.cells] at hc
    split at hc
    · rename_i hk
      simp only [Option.some.injEq] at hc
      subst hc
      have h1 : one y = true := by
        have h2 := h.2
        cases c with
        | any => simp [okC] at hk
        | k z => simp only at h2; rw [h2]; exact hk
        | _ => exact h2
      refine ⟨[y], ?_, h.1, h1, trivial⟩
      cases y <;> first | rfl | simp [SX.one] at h1
    · cases hc
  | a ds =>
    simp only [SV.cells, Option.some.injEq] at hc
    subst hc
    obtain ⟨ys, rfl, h2⟩ := h
    exact ⟨ys, rfl, h2⟩
  | t vs => simp [SV.cells] at hc
end
end Go.Proofs.YtggappbiedkopaaGreat.SX
