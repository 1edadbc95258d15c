/- The environment with calls that turn the caller's memory. -/
import Derived.Test.YtggappbiedkopaaGreatPa
namespace Go.Proofs.YtggappbiedkopaaGreat
open Go SX
set_option linter.unusedVariables false
set_option maxRecDepth 100000

/-- which functions turn the caller's memory -/
def hvT' : Nat → Bool := fun g => SX.hasN g [
  1000000]
/-- which closures write what they captured, here -/
def kdT' : Nat → Option (List CK) := fun g => match kdT g with
  | some x => some x
  | none => SX.look [
  (1000000, [])] g
@[reducible] def EH : Env := { tt := tt, ct := fun _ => none, cl := fun _ => none, call := FnAt Tryz.prog, kd := kdT', clo := ClAt Tryz.prog, isHv := hvT', hv := HvAt Tryz.prog, sq := SqAt Tryz.prog }
theorem EH_ok : EnvOK Tryz.prog EH := ⟨tt_ok, (fun g sp h => by cases h), (fun g sp h => by cases h), (fun g a r h => h), (fun g a c r o h => h), (fun g a c r o h => h), (fun g T gv ι enc full N h => h), (fun g F h => by cases h), (fun g r ls r' h => h.elim)⟩
theorem all1 {P : Nat → Prop} {a : Nat} (h : P a) : ∀ i, i ∈ [a] → P i := fun i hi => by
  have := List.mem_singleton.1 hi
  subst this; exact h
theorem all2 {P : Nat → Prop} {a b : Nat} (h : P a) (h' : P b) : ∀ i, i ∈ [a, b] → P i := fun i hi => by
  rcases List.mem_cons.1 hi with rfl | hi
  · exact h
  · exact all1 h' i hi
theorem all3 {P : Nat → Prop} {a b c : Nat} (h : P a) (h' : P b) (h'' : P c) : ∀ i, i ∈ [a, b, c] → P i := fun i hi => by
  rcases List.mem_cons.1 hi with rfl | hi
  · exact h
  · exact all2 h' h'' i hi
theorem all4 {P : Nat → Prop} {a b c d : Nat} (h : P a) (h' : P b) (h'' : P c) (h3 : P d) : ∀ i, i ∈ [a, b, c, d] → P i := fun i hi => by
  rcases List.mem_cons.1 hi with rfl | hi
  · exact h
  · exact all3 h' h'' h3 i hi
theorem all5 {P : Nat → Prop} {a b c d e : Nat} (h : P a) (h' : P b) (h'' : P c) (h3 : P d) (h4 : P e) : ∀ i, i ∈ [a, b, c, d, e] → P i := fun i hi => by
  rcases List.mem_cons.1 hi with rfl | hi
  · exact h
  · exact all4 h' h'' h3 h4 i hi
end Go.Proofs.YtggappbiedkopaaGreat
