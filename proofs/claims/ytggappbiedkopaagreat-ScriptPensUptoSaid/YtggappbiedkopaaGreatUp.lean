/- A law's call where what comes in is of a bounded bulk. -/
import Derived.Test.YtggappbiedkopaaGreatSr
import Derived.Test.YtggappbiedkopaaGreatRows
namespace Go.Proofs.YtggappbiedkopaaGreat.SX
open Go Go.RowKit
set_option linter.unusedVariables false

section
variable {H : Type} {enc : TypeId × Value → H} {P : Program} {w : World} {tt : Nat → Option TI}

theorem bulk_one {H : Type} (d : DataW H) : 1 ≤ Rows.uptoBulk d := by
  cases d with
  | lit l => cases l <;> simp [Rows.uptoBulk]
  | nil => simp [Rows.uptoBulk]
  | ptr d => simp [Rows.uptoBulk]
  | slice elems spare => simp [Rows.uptoBulk]
  | agg parts => simp [Rows.uptoBulk]
  | iface t d => simp [Rows.uptoBulk]
  | map entries => simp [Rows.uptoBulk]
  | held h => simp [Rows.uptoBulk]
theorem bulk_len {H : Type} (l : List (DataW H)) : l.length ≤ Rows.uptoBulkAll l := by
  induction l with
  | nil => simp [Rows.uptoBulkAll]
  | cons x r ih => have := bulk_one x; simp only [Rows.uptoBulkAll, List.length_cons]; omega
theorem argsD_get {S : Nat → Prop} : ∀ {args : Res} {vs : List Value}, ArgsD w S args vs → ∀ {j sz n : Nat} {f : Nat → Nat → L}, args[j]? = some (false, [L.sl sz n f]) → ∃ A cap, vs[j]? = some (Value.slice A n cap)
  | [], [], _, j, _, _, _, h => by simp at h
  | (b, ls) :: args, v :: vs, h, 0, sz, n, f, hj => by
    have hj : (b, ls) = (false, [.sl sz n f]) := by simpa using hj
    cases hj
    obtain ⟨A, cap, h1, _⟩ := h.1.1
    exact ⟨A, cap, by rw [h1]; rfl⟩
  | (b, ls) :: args, v :: vs, h, j + 1, sz, n, f, hj => by
    obtain ⟨A, cap, h1⟩ := argsD_get h.2 (j := j) (by simpa using hj)
    exact ⟨A, cap, by simpa using h1⟩
  | [], _ :: _, h, _, _, _, _, _ => h.elim
  | _ :: _, [], h, _, _, _, _, _ => h.elim
theorem trod_bulk {base : Nat} {T e : Nat} {A : Option Addr} {n cap : Nat} {d : DataW H} {p : List MemPlace} (hT : P.underlying T = some (.slice e)) (h : DataW.Trod enc P w 0 (fun _ => true) true T (.slice A n cap) d p) : n ≤ Rows.uptoBulk d := by
  obtain ⟨fuel, h⟩ := h
  rcases DataW.trod_slice hT h with ⟨h1, h2⟩ | ⟨a, len, cap', elems, rest, m, hm, h1, h2, hb, hlc, hcm, hl, hel, hre, _⟩
  · simp [Value.cells] at h1
    omega
  · simp [Value.cells] at h1
    obtain ⟨_, rfl, _⟩ := h1
    have h2 : d = .slice (elems.map (·.1)) (rest.map (·.1)) := congrArg Prod.fst h2
    rw [h2]
    have := bulk_len (elems.map (·.1))
    rw [List.length_map] at this
    simp only [Rows.uptoBulk]
    omega
theorem args_bulk (hT : ∀ T ti, tt T = some ti → TIok P T ti) : ∀ {ts : List Nat} {vs : List Value} {ds : List (DataW H)} {p : List MemPlace}, DataW.TrodAll enc P w 0 (fun _ => true) true ts vs ds p →
    ∀ {j : Nat} {A : Option Addr} {n cap : Nat} {T e : Nat}, ts[j]? = some T → P.underlying T = some (.slice e) → vs[j]? = some (Value.slice A n cap) → n ≤ Rows.uptoBulkAll ds
  | [], [], [], _, _, j, _, _, _, _, _, h, _, _ => by simp at h
  | T :: ts, v :: vs, d :: ds, _, h, 0, A, n, cap, T', e, hj, hu, hv => by
    obtain ⟨p, q, h1, h2, _⟩ := h
    have hj : T = T' := by simpa using hj
    have hv : v = .slice A n cap := by simpa using hv
    subst hj; subst hv
    have := trod_bulk (base := 0) hu h1
    simp only [Rows.uptoBulkAll]; omega
  | T :: ts, v :: vs, d :: ds, _, h, j + 1, A, n, cap, T', e, hj, hu, hv => by
    obtain ⟨p, q, h1, h2, _⟩ := h
    have := args_bulk hT h2 (j := j) (by simpa using hj) hu (by simpa using hv)
    simp only [Rows.uptoBulkAll]; omega
  | [], _ :: _, _, _, h, _, _, _, _, _, _, _, _, _ => by simp [DataW.TrodAll] at h
  | [], [], _ :: _, _, h, _, _, _, _, _, _, _, _, _ => by simp [DataW.TrodAll] at h
  | _ :: _, [], _, _, h, _, _, _, _, _, _, _, _, _ => by simp [DataW.TrodAll] at h
  | _ :: _, _ :: _, [], _, h, _, _, _, _, _, _, _, _, _ => by simp [DataW.TrodAll] at h
/-- the slices among the arguments are no longer than so -/
def shortA (tt : Nat → Option TI) (ts : List Nat) (B : Nat) (args : Res) : Prop := ∀ (j T : Nat) (ti : TI) (e sz n : Nat) (f : Nat → Nat → L), ts[j]? = some T → tt T = some ti → ti.kd = .sl e → args[j]? = some (false, [L.sl sz n f]) → n ≤ B
/-- a law's call, from its contract; what comes in is of a bounded bulk -/
theorem law_calls_upto (hT : ∀ T ti, tt T = some ti → TIok P T ti) (hl : laidOutB P = true) {g k base : Nat} {ts : List Nat} (hc : (ts.all fun T => covT tt k T) = true) (hr : (ts.all fun t => P.readableRec t && decide (t < P.types.size)) = true)
    (hat : ∀ args, TyArgs tt k ts args → shortA tt ts 1048576 args → FnAt P g args [(false, [.lit (.bool true)])]) {vs : Array Value} {ds : List (DataW H)} {p : List MemPlace} (h : DataW.TrodAll enc P w 0 (fun _ => true) true ts vs.toList ds p)
    (hw : (DataW.weightsEach P ts ds).all (· ≤ reachBytes) = true) (hok : ∀ (j : Nat) t v, ts[j]? = some t → vs.toList[j]? = some v → Value.okWide P w .any base t v) (hk : Rows.uptoSmall H ds = true) :
    Calls P g vs w fun e w' => e = .returned (.bool true) ∧ Below w.heap.size w w' ∧ DataW.TrodAll enc P w' 0 (fun b => decide (b < w.heap.size)) true ts vs.toList ds p := by
  obtain ⟨args, h1, h2⟩ := args_data hT h hc (fun n hn => by simpa using List.all_eq_true.1 hw n hn) hok
  have hk : Rows.uptoBulkAll ds ≤ 1048576 := of_decide_eq_true hk
  have hs : shortA tt ts 1048576 args := fun j T ti e sz n f q1 q2 q3 q4 => by
    obtain ⟨A, cap, q5⟩ := argsD_get h1 q4
    have hkd := (hT T ti q2).kd
    rw [q3] at hkd
    have := args_bulk hT h q1 hkd q5
    omega
  have := (hat args h2 hs).2 w vs.toList h1
  rw [Array.toArray_toList] at this
  refine this.mono ?_
  rintro e w' ⟨⟨v, rfl, hv⟩, hb⟩
  obtain ⟨hv, _⟩ := hv
  obtain ⟨rfl, _⟩ := hv
  exact ⟨rfl, hb, trodAll_back hl hb hr h⟩
end
end Go.Proofs.YtggappbiedkopaaGreat.SX
