/- The contracts of law06.on, flat.Box, law06.awake. -/
import Derived.Test.YtgneeaoeafjngaaPm
namespace Go.Proofs.Ytgneeaoeafjngaa
open Go SX
set_option linter.unusedVariables false
set_option maxRecDepth 100000


/-! ### flat.Box -/
structure Bx where
  lo : Pt
  hi : Pt
def boxP (b : Bx) (p : Pt) : Bx := ⟨⟨min2I b.lo.x p.x, min2I b.lo.y p.y⟩, ⟨max2I b.hi.x p.x, max2I b.hi.y p.y⟩⟩
def boxE (b : Bx) (e : Ed) : Bx := boxP (boxP b e.a) e.b
def boxZ (es : List Ed) : Bx := ⟨(es.getD 0 default).a, (es.getD 0 default).a⟩
def boxTo (es : List Ed) (i : Nat) : Bx := match i with
  | 0 => ⟨⟨0, 0⟩, ⟨0, 0⟩⟩
  | i => (es.take i).foldl boxE (boxZ es)
def box (es : List Ed) : Bx := boxTo es es.length
noncomputable def SBox (es : List Ed) (i : Nat) : SS := mkS
  [(10, .o (.sl false 4 es.length (rowOf Ed.ls es))), (11, .o (.v (.int .i64 es.length))), (12, .o (.v (.int .i64 i))), (4, .o (.p 0 0)), (5, .o (.p 1 0)), (2, .o (.p 2 0)), (3, .o (.p 3 0))]
  [(0, 27, [.v (.int .i64 (boxTo es i).lo.x), .v (.int .i64 (boxTo es i).lo.y)]), (1, 27, [.v (.int .i64 (boxTo es i).hi.x), .v (.int .i64 (boxTo es i).hi.y)]), (2, 27, [.any, .any]), (3, 27, [.any, .any])] [] 4 Try.f24.ntmps
theorem box_at (es : List Ed) (h : es.length ≤ 9000000000000000000) : FnAt Try.prog 24 [aEds es] [aPt (box es).lo, aPt (box es).hi] := by
  refine fn_at (E := EE) (fn := Try.f24) (c := Try.f24.body.getD .skip) (rs := Try.f24.results.toList) (nt := Try.f24.ntmps) EE_ok follows (by kernel_rfl) (by kernel_rfl) rfl rfl rfl [] rfl ?_
  refine loop_nat es.length (SBox es) ?_ (fun i hi => ?_)
  · refine ent_of (rl := [(0, 2), (1, 3), (2, 0), (3, 1)]) (nl := []) ⟨rfl, ?_, ?_, trivial, rfl, rfl, Nat.zero_le _, trivial, ⟨⟨Nat.zero_le _, Nat.zero_le _⟩, ⟨Nat.zero_le _, Nat.zero_le _⟩, ⟨Nat.zero_le _, Nat.zero_le _⟩, ⟨Nat.zero_le _, Nat.zero_le _⟩, trivial⟩⟩ <;> (repeat' (first | exact trivial | exact SameL.refl _ | exact ep_seal rfl rfl | assumption | exact congrArg (Value.int _) (by assumption) | exact rfl | exact Nat.le_of_ble_eq_true rfl | decide | apply And.intro))
  refine if_dec (fun hlt => ?_) (fun hge => ?_)
  · have hlt : i < es.length := by omega
    have hw := w64_succ hlt (by omega)
    refine ⟨⟨by omega, by omega⟩, ?_⟩
    refine if_eq (fun h0 => ?_) (fun h0 => ?_)
    · obtain rfl : i = 0 := by omega
      have hb : boxTo es (0 + 1) = boxE (boxZ es) (es.getD 0 default) := foldl_take boxE (boxZ es) es 0 hlt
      refine Or.inl ⟨3, ?_⟩
      refine ⟨0 + 1, ⟨Nat.lt_succ_self _, hlt⟩, ?_⟩
      unfold SBox
      rw [hb]
      refine ent_of (rl := []) (nl := []) ⟨rfl, ?_, ?_, trivial, rfl, rfl, Nat.zero_le _, trivial, trivial⟩ <;> (repeat' (first | exact trivial | exact SameL.refl _ | exact ep_seal rfl rfl | assumption | exact congrArg (Value.int _) (by assumption) | exact rfl | exact Nat.le_of_ble_eq_true rfl | decide | apply And.intro))
    · obtain ⟨m, rfl⟩ : ∃ m, i = m + 1 := ⟨i - 1, by omega⟩
      have hb : boxTo es (m + 1 + 1) = boxE (boxTo es (m + 1)) (es.getD (m + 1) default) := foldl_take boxE (boxZ es) es (m + 1) hlt
      refine Or.inl ⟨3, ?_⟩
      refine ⟨m + 1 + 1, ⟨Nat.lt_succ_self _, hlt⟩, ?_⟩
      unfold SBox
      rw [hb]
      refine ent_of (rl := []) (nl := []) ⟨rfl, ?_, ?_, trivial, rfl, rfl, Nat.zero_le _, trivial, trivial⟩ <;> (repeat' (first | exact trivial | exact SameL.refl _ | exact ep_seal rfl rfl | assumption | exact congrArg (Value.int _) (by assumption) | exact rfl | exact Nat.le_of_ble_eq_true rfl | decide | apply And.intro))
  · have hin : i = es.length := by omega
    subst hin
    exact ⟨⟨rfl, rfl, trivial⟩, ⟨rfl, rfl, trivial⟩, trivial⟩

/-! ### the document's example -/
def s06 : List Sg := [⟨⟨0, 0⟩, ⟨2, 4⟩, ⟨4, 0⟩, true⟩, ⟨⟨4, 0⟩, ⟨4, 0⟩, ⟨0, 0⟩, false⟩]
def l06 : List Ed := [⟨⟨0, 0⟩, ⟨16, 24⟩⟩, ⟨⟨16, 24⟩, ⟨32, 32⟩⟩, ⟨⟨32, 32⟩, ⟨48, 24⟩⟩, ⟨⟨48, 24⟩, ⟨64, 0⟩⟩, ⟨⟨64, 0⟩, ⟨0, 0⟩⟩]
end Go.Proofs.Ytgneeaoeafjngaa
