/- Law 22: contracts of same, frame.Right, and of what makes a world. -/
import Derived.Test.YtggappbiedkopaaGreatK2g
import Derived.Test.YtggappbiedkopaaGreatK2r
namespace Go.Proofs.YtggappbiedkopaaGreat
open Go SX Go.RowKit
set_option linter.unusedVariables false
set_option maxRecDepth 100000
set_option maxHeartbeats 1000000

theorem if_tt {b : Bool} {A B : Prop} (hb : b = true) (h : A) : (b = true → A) ∧ (b = false → B) := ⟨fun _ => h, fun e => by rw [hb] at e; cases e⟩
theorem text_ok (l : List Int) : ∀ i, i < l.length → isByte (rowOf uL l i 0) := fun _ _ => trivial
theorem same_at (a : Ac) : FnAt Tryz.prog 8 [aAc a, aAc a] [aB true] := by
  refine fn_at (E := EE) (fn := Tryz.f8) (c := Tryz.f8.body.getD .skip) (rs := Tryz.f8.results.toList) (nt := Tryz.f8.ntmps) EE_ok follows (by kernel_rfl) (by kernel_rfl) rfl rfl rfl [] rfl ?_
  refine if_tt (by simp) ?_
  refine if_tt (by simp) ?_
  refine ⟨text_ok a.text, ?_⟩
  refine ⟨text_ok a.text, ?_⟩
  refine if_tt (by simp) ?_
  refine ⟨⟨vB ?_, trivial⟩, trivial⟩
  simp [SX.eqL, SX.eq1]
theorem Right_at (n d : Int) (hn : 0 < n ∧ n ≤ 64) (hd : 0 < d ∧ d ≤ 64) : FnAt Tryz.prog 10 [(true, [I n, I d])] [aB true] := by
  refine fn_at (E := EE) (fn := Tryz.f10) (c := Tryz.f10.body.getD .skip) (rs := Tryz.f10.results.toList) (nt := Tryz.f10.ntmps) EE_ok follows (by kernel_rfl) (by kernel_rfl) rfl rfl rfl [] rfl ?_
  refine if_tt (decide_eq_true (show n > 0 by omega)) ?_
  refine if_tt (decide_eq_true (show n ≤ 64 by omega)) ?_
  refine if_tt (decide_eq_true (show d > 0 by omega)) ?_
  refine ⟨⟨vB ?_, trivial⟩, trivial⟩
  exact (decide_eq_true (show d ≤ 64 by omega)).symm
theorem Repeat_at (f : Nat → Nat → L) (hf : f 0 0 = U 0) : FnAt Tryz.prog 29 [(false, [.sl 1 1 f]), aI 400] [(false, [.sl 1 400 (fun _ _ => U 0)])] := by
  refine ⟨enters_of' (fn := Tryz.f29) (by kernel_rfl) (by kernel_rfl) (by kernel_rfl), fun w vs hargs => ?_⟩
  match vs, hargs with
  | [y0, y1], hargs =>
    obtain ⟨⟨⟨A, cap, h1, h2, h3, h4⟩, _⟩, ⟨⟨h5, _⟩, _⟩, _⟩ := hargs
    obtain ⟨ad, rfl, h6, h7⟩ := h4 (by omega)
    obtain ⟨z, h8, h9⟩ := h7 0 (by omega) 0 (by omega)
    rw [hf] at h9
    have h9 := h9.1
    subst h9
    subst h1
    have h5 : y1 = .int .i64 400 := h5
    subst h5
    refine (repeat_run ad cap w ?_).mono ?_
    · rw [World.cell?_of_block (w := w)]
      · exact h8
      · rw [add_block]; exact Below.heap_alloc w _ _ h6
    · rintro e w' ⟨rfl, hz⟩
      have hsz : w'.heap.size = w.heap.size + 1 := by rw [hz.1]; simp
      refine ⟨⟨_, rfl, ⟨_, 400, rfl, Nat.le_refl _, by simp [maxLen], fun _ => ⟨_, rfl, ⟨Nat.le_refl _, by rw [hsz]; exact Nat.lt_succ_self _⟩, fun i hi j hj => ⟨.int .u8 0, ?_, rfl, rfl⟩⟩⟩, trivial⟩, ?_⟩
      · have hj : j = 0 := Nat.lt_one_iff.1 hj
        subst hj
        exact zrW_cell hz (j := i * 1 + 0) (by omega)
      · exact ⟨hz.2.2.1, hz.2.1, hz.2.2.2, by omega, fun k hk => by rw [hz.1]; exact Below.heap_alloc w _ k hk⟩
@[reducible] def P0 : L := .pt 0 (fun _ => .lit undef)
@[reducible] def aP0 : Bool × List L := (false, [P0])
theorem skyOf_at : FnAt Tryz.prog 28 [aI 30, aI 30] [aP0] := by
  refine fn_at (E := EE) (fn := Tryz.f28) (c := Tryz.f28.body.getD .skip) (rs := Tryz.f28.results.toList) (nt := Tryz.f28.ntmps) EE_ok follows (by kernel_rfl) (by kernel_rfl) rfl rfl rfl [] rfl ?_
  refine if_tt (by decide) ?_
  refine ⟨⟨?_, trivial⟩, trivial⟩
  trivial
theorem frameOf_at : FnAt Tryz.prog 21 [aI 20, aI 20, aU 0] [aP0] := by
  refine fn_at (E := EE) (fn := Tryz.f21) (c := Tryz.f21.body.getD .skip) (rs := Tryz.f21.results.toList) (nt := Tryz.f21.ntmps) EE_ok follows (by kernel_rfl) (by kernel_rfl) rfl rfl rfl [] rfl ?_
  refine ⟨_, Repeat_at _ rfl, ?_⟩
  refine ⟨⟨?_, trivial⟩, trivial⟩
  trivial
@[reducible] def nilS : L := .sl 1 0 (fun _ _ => .lit undef)
@[reducible] def atlasG : Nat → L := nth [I 30, I 30, .sl 1 900 (fun _ _ => U 0), I 0, P0, nilS]
theorem atlasOf_at : FnAt Tryz.prog 20 [aI 30, aI 30, aI 0] [(false, [.pt 6 atlasG])] := by
  refine fn_at (E := EE) (fn := Tryz.f20) (c := Tryz.f20.body.getD .skip) (rs := Tryz.f20.results.toList) (nt := Tryz.f20.ntmps) EE_ok follows (by kernel_rfl) (by kernel_rfl) rfl rfl rfl [] rfl ?_
  refine ⟨⟨rfl, by decide, by decide, by decide⟩, ?_⟩
  refine ⟨_, skyOf_at, ?_⟩
  refine ⟨⟨?_, trivial⟩, trivial⟩
  refine ⟨rfl, rfl, ⟨rfl, rfl, fun a ha j hj => ?_⟩, rfl, ⟨rfl, SameL.refl _⟩, ⟨rfl, rfl⟩, trivial⟩
  have hj : j = 0 := Nat.lt_one_iff.1 hj
  subst hj
  exact ⟨rfl, rfl⟩
theorem Index_at (x : ByteArray) : FnAt Tryz.prog 60 [(false, [nilS]), (false, [Tx8 x])] [aI (-1)] := by
  refine fn_at (E := EE) (fn := Tryz.f60) (c := Tryz.f60.body.getD .skip) (rs := Tryz.f60.results.toList) (nt := Tryz.f60.ntmps) EE_ok follows (by kernel_rfl) (by kernel_rfl) rfl rfl rfl [] rfl ?_
  refine Or.inl ⟨1, ?_⟩
  refine if_dec (fun h => ?_) (fun h => ?_)
  · have h : (0 : Int) < ((0 : Nat) : Int) := h
    omega
  exact ⟨⟨⟨rfl, rfl⟩, trivial⟩, trivial⟩
theorem Contains_at (x : ByteArray) : FnAt Tryz.prog 59 [(false, [nilS]), (false, [Tx8 x])] [aB false] := by
  refine fn_at (E := EE) (fn := Tryz.f59) (c := Tryz.f59.body.getD .skip) (rs := Tryz.f59.results.toList) (nt := Tryz.f59.ntmps) EE_ok follows (by kernel_rfl) (by kernel_rfl) rfl rfl rfl [] rfl ?_
  refine ⟨_, Index_at x, ?_⟩
  exact ⟨⟨rfl, trivial⟩, trivial⟩
theorem Has_at (x : ByteArray) : FnAt Tryz.prog 35 [(false, [.pt 1 (fun j => atlasG (5 + j))]), (false, [Tx8 x])] [aB false] := by
  refine fn_at (E := EE) (fn := Tryz.f35) (c := Tryz.f35.body.getD .skip) (rs := Tryz.f35.results.toList) (nt := Tryz.f35.ntmps) EE_ok follows (by kernel_rfl) (by kernel_rfl) rfl rfl rfl [] rfl ?_
  refine ⟨_, Contains_at x, ?_⟩
  exact ⟨⟨rfl, trivial⟩, trivial⟩
theorem Touch_at (x : ByteArray) : FnAt Tryz.prog 23 [(false, [.pt 6 atlasG]), (false, [Tx8 x])] [aB false] := by
  refine fn_at (E := EE) (fn := Tryz.f23) (c := Tryz.f23.body.getD .skip) (rs := Tryz.f23.results.toList) (nt := Tryz.f23.ntmps) EE_ok follows (by kernel_rfl) (by kernel_rfl) rfl rfl rfl [] rfl ?_
  refine ⟨_, Has_at x, ?_⟩
  refine ⟨(fun h => nomatch h), fun _ => ?_⟩
  exact ⟨⟨⟨rfl, rfl⟩, trivial⟩, trivial⟩
@[reducible] def worldG : Nat → L := fun _ => .pt 6 atlasG
theorem worldOf_at : FnAt Tryz.prog 15 [(true, [I 4, I 8, I 1, I 30, I 0, I 20, I 2])] [(false, [.pt 1 worldG])] := by
  refine fn_at (E := EE) (fn := Tryz.f15) (c := Tryz.f15.body.getD .skip) (rs := Tryz.f15.results.toList) (nt := Tryz.f15.ntmps) EE_ok follows (by kernel_rfl) (by kernel_rfl) rfl rfl rfl [] rfl ?_
  refine ⟨_, atlasOf_at, ?_⟩
  refine ⟨_, frameOf_at, ?_⟩
  exact ⟨⟨⟨⟨rfl, SameL.refl _⟩, trivial⟩, trivial⟩, trivial⟩
@[reducible] def aAct0 (k : Int) (x : ByteArray) : Bool × List L := (true, [I k, Tx8 x, .lit (.slice none 0 0), I 0, I 0, I 0, I 0, I 0, I 0, U 0])
theorem DoTouch_at (x : ByteArray) : FnAt Tryz.prog 16 [(false, [.pt 1 worldG]), aAct0 1 x] [aI 5] := by
  refine fn_at (E := EE) (fn := Tryz.f16) (c := Tryz.f16.body.getD .skip) (rs := Tryz.f16.results.toList) (nt := Tryz.f16.ntmps) EE_ok follows (by kernel_rfl) (by kernel_rfl) rfl rfl rfl [] rfl ?_
  refine ⟨(fun h => nomatch h), fun _ => ?_⟩
  refine ⟨fun _ => ?_, (fun h => nomatch h)⟩
  refine ⟨_, Touch_at x, ?_⟩
  refine ⟨fun _ => ?_, (fun h => nomatch h)⟩
  exact ⟨⟨⟨rfl, rfl⟩, trivial⟩, trivial⟩
theorem DoNone_at (x : ByteArray) : FnAt Tryz.prog 16 [(false, [.pt 1 worldG]), aAct0 9 x] [aI 4] := by
  refine fn_at (E := EE) (fn := Tryz.f16) (c := Tryz.f16.body.getD .skip) (rs := Tryz.f16.results.toList) (nt := Tryz.f16.ntmps) EE_ok follows (by kernel_rfl) (by kernel_rfl) rfl rfl rfl [] rfl ?_
  refine ⟨(fun h => nomatch h), fun _ => ?_⟩
  refine ⟨(fun h => nomatch h), fun _ => ?_⟩
  refine ⟨(fun h => nomatch h), fun _ => ?_⟩
  refine ⟨(fun h => nomatch h), fun _ => ?_⟩
  exact ⟨⟨⟨rfl, rfl⟩, trivial⟩, trivial⟩
end Go.Proofs.YtggappbiedkopaaGreat
