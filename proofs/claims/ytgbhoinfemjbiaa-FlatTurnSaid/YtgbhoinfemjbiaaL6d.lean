/- The contract of law06.FlatTurn. -/
import Derived.Test.YtgbhoinfemjbiaaL6c
import Derived.Test.YtgbhoinfemjbiaaPb
namespace Go.Proofs.Ytgbhoinfemjbiaa
open Go SX
set_option linter.unusedVariables false
set_option maxRecDepth 100000

def flipE (e : Ed) : Ed := ⟨e.b, e.a⟩
def flipS (s : Sg) : Sg := ⟨s.c, s.b, s.a, s.cv⟩
theorem lin_flip (k x y z : Int) (hk : 0 ≤ k ∧ k ≤ 4) : lin k x y z = lin (4 - k) z y x := by
  have hk : k = 0 ∨ k = 1 ∨ k = 2 ∨ k = 3 ∨ k = 4 := by omega
  unfold lin
  rcases hk with rfl | rfl | rfl | rfl | rfl <;> omega
theorem linP_flip (s : Sg) (k : Int) (hk : 0 ≤ k ∧ k ≤ 4) : linP s k = linP (flipS s) (4 - k) := by
  unfold linP flipS
  rw [lin_flip k _ _ _ hk, lin_flip k _ _ _ hk]
theorem flipS_in {s : Sg} (h : sgIn 1100 s) : sgIn 1100 (flipS s) := ⟨h.2.2, h.2.1, h.1⟩
theorem edges_one {s : Sg} (h : sgIn 1100 s) : edges [s] = match s.cv with
    | false => putE [] (linP s 0) (linP s 4)
    | true => putE (putE (putE (putE [] (linP s 0) (linP s 1)) (linP s 1) (linP s 2)) (linP s 2) (linP s 3)) (linP s 3) (linP s 4) := by
  show segE [] s = _
  rw [seg_eq h]
  unfold segL
  rw [lonP_lin (by decide) h, lonP_lin (by decide) h, lonP_lin (by decide) h, lonP_lin (by decide) h, lonP_lin (by decide) h]
  cases s.cv <;> rfl
theorem edges_flip {s : Sg} (h : sgIn 1100 s) : edges [flipS s] = ((edges [s]).map flipE).reverse := by
  have e0 := linP_flip s 0 (by decide)
  have e1 := linP_flip s 1 (by decide)
  have e2 := linP_flip s 2 (by decide)
  have e3 := linP_flip s 3 (by decide)
  have e4 := linP_flip s 4 (by decide)
  rw [edges_one h, edges_one (flipS_in h), show linP (flipS s) 0 = linP s 4 from e4.symm, show linP (flipS s) 1 = linP s 3 from e3.symm, show linP (flipS s) 2 = linP s 2 from e2.symm, show linP (flipS s) 3 = linP s 1 from e1.symm, show linP (flipS s) 4 = linP s 0 from e0.symm]
  show (match s.cv with | false => _ | true => _) = _
  cases s.cv with
  | false =>
    unfold putE
    by_cases h1 : linP s 0 = linP s 4
    · rw [if_pos h1, if_pos h1.symm]; rfl
    · rw [if_neg h1, if_neg (Ne.symm h1)]; rfl
  | true =>
    generalize linP s 0 = p0
    generalize linP s 1 = p1
    generalize linP s 2 = p2
    generalize linP s 3 = p3
    generalize linP s 4 = p4
    have key : ∀ (es : List Ed) (a b : Pt), putE es a b = es ++ putE [] a b := by
      intro es a b; unfold putE; split <;> simp
    have fl : ∀ a b : Pt, putE [] b a = ((putE [] a b).map flipE).reverse := by
      intro a b; unfold putE
      by_cases h : a = b
      · rw [if_pos h, if_pos h.symm]; rfl
      · rw [if_neg h, if_neg (Ne.symm h)]; rfl
    rw [key (putE (putE (putE [] p4 p3) p3 p2) p2 p1), key (putE (putE [] p4 p3) p3 p2), key (putE [] p4 p3), key (putE (putE (putE [] p0 p1) p1 p2) p2 p3), key (putE (putE [] p0 p1) p1 p2), key (putE [] p0 p1)]
    rw [fl p0 p1, fl p1 p2, fl p2 p3, fl p3 p4]
    simp
theorem rev_get {es : List Ed} {i : Nat} (h : i < es.length) : ((es.map flipE).reverse).getD (es.length - 1 - i) default = flipE (es.getD i default) := by
  rw [List.getD_eq_getElem?_getD, List.getElem?_reverse (by simp; omega), List.getElem?_map, List.length_map, show es.length - 1 - (es.length - 1 - i) = i by omega, List.getD_eq_getElem?_getD, List.getElem?_eq_getElem h]
  rfl
noncomputable def STurn (s : Sg) (k : Int) (es fs : List Ed) (i : Nat) : SS := mkS
  [(1, .o (.v (.int .u8 k))), (2, .o (.p 0 0)), (7, .o (.p 1 0)), (8, .o (.sl true 4 es.length (rowOf Ed.ls es))), (9, .o (.sl true 4 fs.length (rowOf Ed.ls fs))), (60, .o (.v (.int .i64 es.length))), (61, .o (.v (.int .i64 i)))]
  [(0, 25, [.v (.int .i64 s.a.x), .v (.int .i64 s.a.y), .v (.int .i64 s.b.x), .v (.int .i64 s.b.y), .v (.int .i64 s.c.x), .v (.int .i64 s.c.y), .v (.bool s.cv)]),
   (1, 25, [.v (.int .i64 s.c.x), .v (.int .i64 s.c.y), .v (.int .i64 s.b.x), .v (.int .i64 s.b.y), .v (.int .i64 s.a.x), .v (.int .i64 s.a.y), .v (.bool s.cv)])] [] 2 Try.f6.ntmps
theorem flatTurn_at (s : Sg) (k : Int) (hk : 0 ≤ k) : FnAt Try.prog 6 [aSg s, aU8 k] [aB true] := by
  obtain ⟨k1, k2, k3⟩ := u8mod hk
  have hs := cutS_in s
  have hE := edges_at [flipS (cutS s)] (by simp)
  rw [edges_flip hs] at hE
  refine fn_at (E := EE) (fn := Try.f6) (c := Try.f6.body.getD .skip) (rs := Try.f6.results.toList) (nt := Try.f6.ntmps) EE_ok follows (by kernel_rfl) (by kernel_rfl) rfl rfl rfl [] rfl ?_
  refine ⟨_, awake06_at, ?_⟩
  refine ⟨(fun h => nomatch h), fun _ => ?_⟩
  refine Or.inl ⟨4, ?_⟩
  refine ⟨_, (edges_at [cutS s] (by simp)).args ⟨rfl, ⟨lit_same [cutS s] (fun _ => rfl) rfl rfl, trivial⟩, trivial⟩, ?_⟩
  refine ⟨_, hE.args ⟨rfl, ⟨lit_same [flipS (cutS s)] (fun _ => rfl) rfl rfl, trivial⟩, trivial⟩, ?_⟩
  refine if_ne (fun h => ?_) (fun hl => ?_)
  · exact absurd (by simp) h
  have hlen : (edges [cutS s]).length ≤ 4 := edges_len [cutS s]
  have hfl : (((edges [cutS s]).map flipE).reverse).length = (edges [cutS s]).length := by simp
  generalize hes : edges [cutS s] = es at *
  generalize hfs : ((es.map flipE).reverse) = fs at *
  refine loop_nat es.length (STurn (cutS s) k es fs) ?_ (fun i hi => ?_)
  · refine ent_of (rl := [(1, 92)]) (nl := []) ⟨rfl, ?_, ?_, trivial, rfl, rfl, Nat.zero_le _, trivial, ⟨⟨Nat.zero_le _, Nat.zero_le _⟩, trivial⟩⟩ <;> (repeat' (first | exact trivial | exact SameL.refl _ | exact congrArg (Value.int .i64) (by assumption) | exact rfl | exact Nat.le_of_ble_eq_true rfl | decide | apply And.intro))
  refine if_dec (fun hlt => ?_) (fun hge => ?_)
  · have hlt : i < es.length := by omega
    have hw := w64_succ hlt (by omega)
    have hi1 : w64 (w64 ((fs.length : Int) - 1) - (i : Int)) = (es.length - 1 - i : Nat) := by
      rw [w64_in (n := (fs.length : Int) - 1) (by omega), w64_in (by omega)]; omega
    have hi2 : 0 ≤ w64 (w64 ((fs.length : Int) - 1) - (i : Int)) ∧ w64 (w64 ((fs.length : Int) - 1) - (i : Int)) < (fs.length : Int) := by rw [hi1]; omega
    have hg : fs.getD (w64 (w64 ((fs.length : Int) - 1) - (i : Int))).toNat default = flipE (es.getD i default) := by
      rw [hi1, Int.toNat_natCast, ← hfs]; exact rev_get hlt
    have h1 : (es.getD (i : Int).toNat default).a = (fs.getD (w64 (w64 ((fs.length : Int) - 1) - (i : Int))).toNat default).b := by rw [hg]; rfl
    have h2 : (es.getD (i : Int).toNat default).b = (fs.getD (w64 (w64 ((fs.length : Int) - 1) - (i : Int))).toNat default).a := by rw [hg]; rfl
    refine ⟨⟨by omega, by omega⟩, hi2, ?_⟩
    refine if_npt_f (fun _ => ?_) (fun h => absurd h1 h)
    refine ⟨⟨by omega, by omega⟩, hi2, ?_⟩
    refine if_npt (fun h => absurd h2 h) (fun _ => ?_)
    refine ⟨i + 1, ⟨Nat.lt_succ_self _, hlt⟩, ?_⟩
    refine ent_of (rl := []) (nl := []) ⟨rfl, ?_, ?_, trivial, rfl, rfl, Nat.zero_le _, trivial, trivial⟩ <;> (repeat' (first | exact trivial | exact SameL.refl _ | exact congrArg (Value.int .i64) (by assumption) | exact rfl | exact Nat.le_of_ble_eq_true rfl | decide | apply And.intro))
  · refine ⟨_, on_at (cutS s) (w64 (k.tmod 5)), ?_⟩
    refine ⟨_, on_at (flipS (cutS s)) (w64 (4 - w64 (k.tmod 5))), ?_⟩
    have he : onP (cutS s) (w64 (k.tmod 5)) = onP (flipS (cutS s)) (w64 (4 - w64 (k.tmod 5))) := by
      rw [k1, w64_in (n := 4 - k.tmod 5) (by omega), onP_lin ⟨k2, k3⟩ hs, onP_lin (by omega) (flipS_in hs)]
      exact linP_flip _ _ ⟨k2, k3⟩
    refine if_pt (fun _ => ?_) (fun h => absurd he h)
    refine ⟨_, dot_at ⟨1, 0⟩ ⟨1, 0⟩, ?_⟩
    refine ⟨_, sqrt_at 1 1 (by decide) (by decide) (by decide) (by decide), ?_⟩
    exact ⟨⟨vB (by decide), trivial⟩, trivial⟩
theorem FlatTurn_row : ∀ args, TyArgs tt 8 [25, 5] args → FnAt Try.prog 6 args [(false, [.lit (.bool true)])] := by
  intro args h
  match args, h with
  | [(b1, l1), (b2, l2)], ⟨⟨e1, h1⟩, ⟨e2, h2⟩, _⟩ =>
    have e1 : b1 = true := e1
    have e2 : b2 = false := e2
    subst e1
    subst e2
    obtain ⟨s, rfl⟩ := ty_sg (k := 5) h1
    obtain ⟨k, rfl, hk, _⟩ := ty_u8 (k := 7) h2
    exact flatTurn_at s k hk
end Go.Proofs.Ytgbhoinfemjbiaa
