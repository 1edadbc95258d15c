/- The contracts of grid: Check, Centre, Code. -/
import Derived.Test.YtpadocjddoenhaaPu
import Derived.Test.YtpadocjddoenhaaPx
namespace Go.Proofs.Ytpadocjddoenhaa
open Go SX
set_option linter.unusedVariables false
set_option maxRecDepth 100000
set_option maxHeartbeats 1000000

/-- a grid -/
structure Gd where
  x : Int
  y : Int
  pitch : Int
  w : Int
  h : Int
  spread : Int
deriving DecidableEq, Inhabited
def Gd.ls (g : Gd) : List L := [I g.x, I g.y, I g.pitch, I g.w, I g.h, I g.spread]
@[reducible] def aGd (g : Gd) : Bool × List L := (true, [.lit (.int .i64 g.x), .lit (.int .i64 g.y), .lit (.int .i64 g.pitch), .lit (.int .i64 g.w), .lit (.int .i64 g.h), .lit (.int .i64 g.spread)])
def inB (n lo hi : Int) : Bool := decide (n ≥ lo) && decide (n ≤ hi)
theorem inB_iff {n lo hi : Int} : inB n lo hi = true ↔ lo ≤ n ∧ n ≤ hi := by
  unfold inB
  simp only [Bool.and_eq_true, decide_eq_true_eq]
theorem inB_at (n lo hi : Int) : FnAt Try.prog 55 [aI n, aI lo, aI hi] [aB (inB n lo hi)] := by
  refine fn_at (E := EE) (fn := Try.f55) (c := Try.f55.body.getD .skip) (rs := Try.f55.results.toList) (nt := Try.f55.ntmps) EE_ok follows (by kernel_rfl) (by kernel_rfl) rfl rfl rfl [] rfl ?_
  refine if_dec (fun h => ?_) (fun h => ?_)
  · have h : n ≥ lo := h
    refine ⟨⟨vB ?_, trivial⟩, trivial⟩
    unfold inB; rw [decide_eq_true h, Bool.true_and]
  · have h : ¬ n ≥ lo := h
    refine ⟨⟨kB ?_, trivial⟩, trivial⟩
    unfold inB; rw [decide_eq_false h, Bool.false_and]
def okSide (g : Gd) : Bool := inB g.w 1 24 && inB g.h 1 24
def okArg (g : Gd) : Bool := inB g.x (-255) 255 && (inB g.y (-255) 255 && (inB g.pitch 1 16 && inB g.spread 1 64))
def checkG (g : Gd) : Int := if okSide g = true then (if okArg g = true then 0 else 4) else 6
theorem check_at (g : Gd) : FnAt Try.prog 33 [aGd g] [aI (checkG g)] := by
  refine fn_at (E := EE) (fn := Try.f33) (c := Try.f33.body.getD .skip) (rs := Try.f33.results.toList) (nt := Try.f33.ntmps) EE_ok follows (by kernel_rfl) (by kernel_rfl) rfl rfl rfl [] rfl ?_
  refine ⟨_, inB_at g.w 1 24, ?_⟩
  have k1 : ∀ b, inB g.w 1 24 = b → True := fun _ _ => trivial
  cases h1 : inB g.w 1 24
  · refine ⟨(fun h => nomatch h), fun _ => ?_⟩
    exact ⟨⟨kI (by unfold checkG okSide; rw [h1]; rfl), trivial⟩, trivial⟩
  refine ⟨fun _ => ?_, (fun h => nomatch h)⟩
  refine ⟨_, inB_at g.h 1 24, ?_⟩
  cases h2 : inB g.h 1 24
  · refine ⟨fun _ => ?_, (fun h => nomatch h)⟩
    exact ⟨⟨kI (by unfold checkG okSide; rw [h1, h2]; rfl), trivial⟩, trivial⟩
  refine ⟨(fun h => nomatch h), fun _ => ?_⟩
  have hs : okSide g = true := by unfold okSide; rw [h1, h2]; rfl
  refine ⟨_, inB_at g.x (-255) 255, ?_⟩
  cases q1 : inB g.x (-255) 255
  · refine ⟨(fun h => nomatch h), fun _ => ?_⟩
    exact ⟨⟨kI (by unfold checkG okArg; rw [hs, q1]; rfl), trivial⟩, trivial⟩
  refine ⟨fun _ => ?_, (fun h => nomatch h)⟩
  refine ⟨_, inB_at g.y (-255) 255, ?_⟩
  cases q2 : inB g.y (-255) 255
  · refine ⟨(fun h => nomatch h), fun _ => ?_⟩
    exact ⟨⟨kI (by unfold checkG okArg; rw [hs, q1, q2]; rfl), trivial⟩, trivial⟩
  refine ⟨fun _ => ?_, (fun h => nomatch h)⟩
  refine ⟨_, inB_at g.pitch 1 16, ?_⟩
  cases q3 : inB g.pitch 1 16
  · refine ⟨(fun h => nomatch h), fun _ => ?_⟩
    exact ⟨⟨kI (by unfold checkG okArg; rw [hs, q1, q2, q3]; rfl), trivial⟩, trivial⟩
  refine ⟨fun _ => ?_, (fun h => nomatch h)⟩
  refine ⟨_, inB_at g.spread 1 64, ?_⟩
  cases q4 : inB g.spread 1 64
  · refine ⟨fun _ => ?_, (fun h => nomatch h)⟩
    exact ⟨⟨kI (by unfold checkG okArg; rw [hs, q1, q2, q3, q4]; rfl), trivial⟩, trivial⟩
  refine ⟨(fun h => nomatch h), fun _ => ?_⟩
  exact ⟨⟨kI (by unfold checkG okArg; rw [hs, q1, q2, q3, q4]; rfl), trivial⟩, trivial⟩
def ofG (from' n pitch : Int) : Int := w64 (w64 (w64 (from' * 32) + w64 (w64 (n * pitch) * 32)) + w64 ((w64 (pitch * 32)).tdiv 2))
def centre (g : Gd) (i k : Int) : Pt := ⟨ofG g.x i g.pitch, ofG g.y k g.pitch⟩
theorem ofG_at (a n : Int) (g : Gd) : FnAt Try.prog 42 [aI a, aI n, (false, [.pt 6 (nth g.ls)])] [aI (ofG a n g.pitch)] := by
  refine fn_at (E := EE) (fn := Try.f42) (c := Try.f42.body.getD .skip) (rs := Try.f42.results.toList) (nt := Try.f42.ntmps) EE_ok follows (by kernel_rfl) (by kernel_rfl) rfl rfl rfl [] rfl ?_
  exact ⟨⟨rfl, trivial⟩, trivial⟩
theorem centre_at (g : Gd) (i k : Int) : FnAt Try.prog 21 [aGd g, aI i, aI k] [aPt (centre g i k)] := by
  refine fn_at (E := EE) (fn := Try.f21) (c := Try.f21.body.getD .skip) (rs := Try.f21.results.toList) (nt := Try.f21.ntmps) EE_ok follows (by kernel_rfl) (by kernel_rfl) rfl rfl rfl [] rfl ?_
  refine ⟨_, ofG_at g.x i g, ?_⟩
  refine ⟨_, ofG_at g.y k g, ?_⟩
  exact ⟨⟨rfl, rfl, trivial⟩, trivial⟩
def codeN (s sign eight : Int) : Int := IntKind.u8.wrap (w64 (128 + w64 (sign * (if eight < w64 (256 * s) then w64 ((w64 (eight * 127)).tdiv (w64 (256 * s))) else 127))))
theorem code_at (g : Gd) (sign eight : Int) (hs : 1 ≤ g.spread ∧ g.spread ≤ 64) : FnAt Try.prog 25 [aGd g, aI sign, aI eight] [(false, [.lit (.int .u8 (codeN g.spread sign eight))])] := by
  have h0 : w64 (256 * g.spread) = 256 * g.spread := w64_in (by omega)
  refine fn_at (E := EE) (fn := Try.f25) (c := Try.f25.body.getD .skip) (rs := Try.f25.results.toList) (nt := Try.f25.ntmps) EE_ok follows (by kernel_rfl) (by kernel_rfl) rfl rfl rfl [] rfl ?_
  refine if_dec (fun h => ?_) (fun h => ?_)
  · have h : eight < w64 (256 * g.spread) := h
    refine ⟨by show w64 (256 * g.spread) ≠ 0; rw [h0]; omega, ?_⟩
    refine ⟨⟨vI ?_, trivial⟩, trivial⟩
    unfold codeN; rw [if_pos h]
  · have h : ¬ eight < w64 (256 * g.spread) := h
    refine ⟨⟨vI ?_, trivial⟩, trivial⟩
    unfold codeN; rw [if_neg h]
end Go.Proofs.Ytpadocjddoenhaa
