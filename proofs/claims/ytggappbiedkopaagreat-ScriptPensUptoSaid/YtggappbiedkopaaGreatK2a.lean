/- Law 22: words; contracts of key, short, flag, step. -/
import Derived.Test.YtggappbiedkopaaGreatHv
namespace Go.Proofs.YtggappbiedkopaaGreat
open Go SX
set_option linter.unusedVariables false
set_option maxRecDepth 100000
set_option maxHeartbeats 1000000

/-- the environment: step takes a row and hands it back; lt: how literals are kept -/
@[reducible] def EKf (lt : List (Nat × Bool)) : Env := { tt := tt, ct := fun _ => none, cl := fun _ => none, call := FnAt Tryz.prog, kd := kdT', clo := ClAt Tryz.prog, isHv := hvT', hv := HvAt Tryz.prog, sq := SqAt Tryz.prog, isAp := fun g => SX.hasN g [27], apR := ApAt Tryz.prog, lit := SX.look lt }
theorem EKf_ok (lt : List (Nat × Bool)) : EnvOK Tryz.prog (EKf lt) := ⟨tt_ok, (fun g sp h => by cases h), (fun g sp h => by cases h), (fun g a r h => h), (fun g a c r o h => h), (fun g a c r o h => h), (fun g T gv ι enc full N h => h), (fun g F h => by cases h), (fun g r ls r' h => h)⟩

@[reducible] def U (n : Int) : L := .lit (.int .u8 n)
@[reducible] def aU (n : Int) : Bool × List L := (false, [U n])
@[reducible] def uL (n : Int) : List L := [U n]
/-- a point of an outline -/
structure Gv where
  x : Int
  y : Int
  on : Bool
deriving DecidableEq, Inhabited
@[reducible] def vL (v : Gv) : List L := [I v.x, I v.y, Bo v.on]
@[reducible] def cL (c : List Gv) : List L := [.sl 3 c.length (rowOf vL c)]
@[reducible] def oSl (o : List (List Gv)) : L := .sl 1 o.length (rowOf cL o)
@[reducible] def aO (o : List (List Gv)) : Bool × List L := (true, [oSl o])
@[reducible] def bSl (b : List Int) : L := .sl 1 b.length (rowOf uL b)

def keyB : ByteArray := { data := #[97, 98, 99, 100, 101, 102, 103, 104] }
def keyS (c : Int) : ByteArray := keyB.extract (c % 8).toNat (c % 8 + 1).toNat
theorem u8_in {n : Int} (h : 0 ≤ n ∧ n ≤ 255) : IntKind.u8.wrap n = n := by
  simp only [IntKind.wrap, IntKind.signed, IntKind.bits]
  simp
  omega
theorem tmod_pos {a b : Int} (h : 0 ≤ a) : a.tmod b = a % b := Int.tmod_eq_emod_of_nonneg h
theorem key_at (c : Int) (hc : 0 ≤ c ∧ c ≤ 255) : FnAt Tryz.prog 17 [aU c] [(false, [.lit (.string (keyS c))])] := by
  have h1 : c.tmod 8 = c % 8 := tmod_pos hc.1
  have h2 : IntKind.u8.wrap (c.tmod 8 + 1) = c % 8 + 1 := by rw [h1]; exact u8_in (by omega)
  refine fn_at (E := EE) (fn := Tryz.f17) (c := Tryz.f17.body.getD .skip) (rs := Tryz.f17.results.toList) (nt := Tryz.f17.ntmps) EE_ok follows (by kernel_rfl) (by kernel_rfl) rfl rfl rfl [] rfl ?_
  refine ⟨⟨by show 0 ≤ c.tmod 8; omega, by show c.tmod 8 ≤ IntKind.u8.wrap (c.tmod 8 + 1); omega, by show IntKind.u8.wrap (c.tmod 8 + 1) ≤ 8; omega⟩, ?_⟩
  refine ⟨⟨?_, trivial⟩, trivial⟩
  show Value.string (keyB.extract (c.tmod 8).toNat (IntKind.u8.wrap (c.tmod 8 + 1)).toNat) = _
  rw [h1, ← h1, h2, h1]; rfl
def shortB (n : Int) : Bool := decide (n ≥ -128) && decide (n < 128)
theorem short_at (n : Int) : FnAt Tryz.prog 42 [aI n] [aB (shortB n)] := by
  refine fn_at (E := EE) (fn := Tryz.f42) (c := Tryz.f42.body.getD .skip) (rs := Tryz.f42.results.toList) (nt := Tryz.f42.ntmps) EE_ok follows (by kernel_rfl) (by kernel_rfl) rfl rfl rfl [] rfl ?_
  refine if_dec (fun h => ?_) (fun h => ?_)
  · have h : n ≥ -128 := h
    refine ⟨⟨vB ?_, trivial⟩, trivial⟩
    unfold shortB; rw [decide_eq_true h, Bool.true_and]
  · have h : ¬ n ≥ -128 := h
    refine ⟨⟨kB ?_, trivial⟩, trivial⟩
    unfold shortB; rw [decide_eq_false h, Bool.false_and]
def orU (a b : Int) : Int := IntKind.u8.wrap (BitVec.ofInt 8 a ||| BitVec.ofInt 8 b).toNat
def flagF (on : Bool) (dx dy : Int) : Int :=
  let f0 := if on = true then orU 0 1 else 0
  let f1 := if shortB dx = true then f0 else orU f0 2
  if shortB dy = true then f1 else orU f1 4
theorem flag_at (v : Gv) (dx dy : Int) : FnAt Tryz.prog 26 [(true, vL v), aI dx, aI dy] [aU (flagF v.on dx dy)] := by
  obtain ⟨x, y, on⟩ := v
  refine fn_at (E := EE) (fn := Tryz.f26) (c := Tryz.f26.body.getD .skip) (rs := Tryz.f26.results.toList) (nt := Tryz.f26.ntmps) EE_ok follows (by kernel_rfl) (by kernel_rfl) rfl rfl rfl [] rfl ?_
  refine if_b (fun h => ?_) (fun h => ?_) <;> (
    have h : on = _ := h
    subst h
    refine ⟨_, short_at dx, ?_⟩
    refine if_nb (fun h1 => ?_) (fun h1 => ?_) <;> (
      refine ⟨_, short_at dy, ?_⟩
      refine if_nb (fun h2 => ?_) (fun h2 => ?_) <;> (
        refine ⟨⟨?_, trivial⟩, trivial⟩
        first
          | (refine vI ?_; simp only [flagF, h1, h2, Bool.false_eq_true, if_true, if_false]; done)
          | (refine kI ?_; simp only [flagF, h1, h2, Bool.false_eq_true, if_true, if_false]; done)
          | (refine vI ?_; simp only [flagF, h1, h2, Bool.false_eq_true, if_true, if_false]; rfl)
          | (refine kI ?_; simp only [flagF, h1, h2, Bool.false_eq_true, if_true, if_false]; rfl))))
theorem subR_two {x y : Int} {es es' : List Int} {T n : Nat} {f h : Nat → Nat → L} {fr fr' : Bool} (hn : n = es.length) (hf : f = rowOf uL es) (h0 : SameL (h 0 0) (U x)) (h1 : SameL (h 1 0) (U y)) (he : es' = es ++ [x, y]) (hfr : boolLe fr' fr = true) :
    subR ⟨T, 1, n + 2, appf f n h, fr⟩ ⟨T, 1, es'.length, rowOf uL es', fr'⟩ := by
  subst hn; subst hf; subst he
  refine ⟨rfl, rfl, by simp, hfr, fun a ha j hj => ?_⟩
  have ha : a < es.length + 2 := ha
  have hj : j = 0 := Nat.lt_one_iff.1 hj
  subst hj
  show SameL (appf (rowOf uL es) es.length h a 0) (nth (uL ((es ++ [x, y]).getD a default)) 0)
  rw [getD_app]
  unfold appf
  by_cases q : a < es.length
  · rw [if_pos q, if_pos q]; exact SameL.refl _
  · rw [if_neg q, if_neg q]
    have : a - es.length = 0 ∨ a - es.length = 1 := by omega
    rcases this with q | q <;> rw [q]
    · exact h0
    · exact h1
def stepF (n : Int) : List Int := if shortB n = true then [IntKind.u8.wrap n] else [IntKind.u8.wrap (n.fdiv (2 ^ (Int.toNat 8))), IntKind.u8.wrap n]
theorem step_ap (es : List Int) (n : Int) (hl : es.length ≤ 1000000) : ApAt Tryz.prog 27 ⟨5, 1, es.length, rowOf uL es, true⟩ [aI n] ⟨5, 1, (es ++ stepF n).length, rowOf uL (es ++ stepF n), true⟩ := by
  refine ⟨fun a _ j hj => by
    have h0 : j = 0 := Nat.lt_one_iff.1 hj
    subst h0; rfl, ?_⟩
  refine hv_at (E := EH) (fn := Tryz.f27) (c := Tryz.f27.body.getD .skip) (rs := Tryz.f27.results.toList) (nt := Tryz.f27.ntmps) EH_ok follows (by kernel_rfl) (by kernel_rfl) rfl rfl rfl [] rfl ?_
  refine ⟨_, short_at n, ?_⟩
  refine if_b (fun h => ?_) (fun h => ?_)
  · refine ⟨appB (n := es.length) (by omega) (by decide), ?_⟩
    refine ent_of (rl := [(1, 8)]) (nl := []) ⟨rfl, ?_, ?_, ⟨⟨Nat.le_of_ble_eq_true rfl, subR_snoc rfl rfl (fun j hj => elem1 rfl) (by unfold stepF; rw [if_pos h]) rfl⟩, trivial⟩, rfl, rfl, (by first | exact Nat.zero_le _ | exact Nat.le_of_ble_eq_true rfl), trivial, ⟨⟨(by first | exact Nat.zero_le _ | exact Nat.le_of_ble_eq_true rfl), (by first | exact Nat.zero_le _ | exact Nat.le_of_ble_eq_true rfl)⟩, trivial⟩⟩ <;> (repeat' (first | exact trivial | exact SameL.refl _ | exact ep_seal rfl rfl | assumption | exact congrArg (Value.int _) (by assumption) | exact rfl | exact Nat.le_of_ble_eq_true rfl | decide | apply And.intro | apply all1 | apply all2 | apply all3 | apply all4 | apply all5))
  · refine ⟨appM (n := es.length) (m := 2) (by omega) (by decide), ?_⟩
    have hs : stepF n = [IntKind.u8.wrap (n.fdiv (2 ^ (Int.toNat 8))), IntKind.u8.wrap n] := by unfold stepF; rw [if_neg (by rw [h]; decide)]
    refine ent_of (rl := [(1, 11)]) (nl := []) ⟨rfl, ?_, ?_, ⟨⟨Nat.le_of_ble_eq_true rfl, subR_two rfl rfl (SameL.refl _) (SameL.refl _) (by rw [hs]) rfl⟩, trivial⟩, rfl, rfl, (by first | exact Nat.zero_le _ | exact Nat.le_of_ble_eq_true rfl), trivial, ⟨⟨(by first | exact Nat.zero_le _ | exact Nat.le_of_ble_eq_true rfl), (by first | exact Nat.zero_le _ | exact Nat.le_of_ble_eq_true rfl)⟩, trivial⟩⟩ <;> (repeat' (first | exact trivial | exact SameL.refl _ | exact ep_seal rfl rfl | assumption | exact congrArg (Value.int _) (by assumption) | exact rfl | exact Nat.le_of_ble_eq_true rfl | decide | apply And.intro | apply all1 | apply all2 | apply all3 | apply all4 | apply all5))
end Go.Proofs.YtggappbiedkopaaGreat
