/- Law 22: the contract of the law's glyph. -/
import Derived.Test.YtggappbiedkopaaGreatK2d
namespace Go.Proofs.YtggappbiedkopaaGreat
open Go SX
set_option linter.unusedVariables false
set_option maxRecDepth 100000
set_option maxHeartbeats 1000000

theorem on_at (n d : Int) (hn : 0 ≤ n) (h' : n ≤ 1000) (hd : 0 < d) : FnAt Tryz.prog 19 [aI n, aI d] [aB (bit n d)] := by
  refine fn_at (E := EE) (fn := Tryz.f19) (c := Tryz.f19.body.getD .skip) (rs := Tryz.f19.results.toList) (nt := Tryz.f19.ntmps) EE_ok follows (by kernel_rfl) (by kernel_rfl) rfl rfl rfl [] rfl ?_
  refine ⟨by omega, ?_⟩
  refine ⟨⟨?_, trivial⟩, trivial⟩
  have h1 : w64 (n.tdiv d) = n / d := divs hn h' hd
  have h2 : 0 ≤ n / d := Int.ediv_nonneg hn (Int.le_of_lt hd)
  refine vB ?_
  unfold bit
  rw [show IntKind.i64.wrap (n.tdiv d) = n / d from h1, tmod_pos h2]
@[reducible] def EKl : Env := EKf [(33, true), (76, false)]
theorem EKl_ok : EnvOK Tryz.prog EKl := EKf_ok _
noncomputable def SH (a b c : Int) (l : List Gv) : SS := mkS
  [(0, .o (.v (.int .i64 a))), (1, .o (.v (.int .i64 b))), (2, .o (.v (.int .i64 c))), (6, .o (.p 0 0)), (7, .o (.v (.int .i64 (a % 64 + 8)))), (8, .o (.v (.int .i64 (b % 64 + 8)))), (9, .o (.v (.int .i64 (c % 16)))), (10, .o (.f 19 [])), (11, .o (.h 1))]
  [(0, 39, [.k (.slice none 0 0)])] [(1, ⟨55, 3, l.length, rowOf vL l, true⟩)] 2 Tryz.f13.ntmps
theorem glyph_at (a b c : Int) (ha : uIn a) (hb : uIn b) (hc : uIn c) : FnAt Tryz.prog 13 [aI a, aI b, aI c] [aO (glyF a b c)] := by
  have ha0 := ha.1
  have ha1 := ha.2
  have hb0 := hb.1
  have hb1 := hb.2
  have hc0 := hc.1
  have hc1 := hc.2
  have hx : w64 (a.tmod 64 + 8) = a % 64 + 8 := by rw [tmod_pos ha.1, w64_in (by omega)]
  have hy : w64 (b.tmod 64 + 8) = b % 64 + 8 := by rw [tmod_pos hb.1, w64_in (by omega)]
  have hz : c.tmod 16 = c % 16 := tmod_pos hc.1
  have hxz : w64 (w64 (a.tmod 64 + 8) - c.tmod 16) = a % 64 + 8 - c % 16 := by rw [hx, hz, w64_in (by omega)]
  have hyz : w64 (b % 64 + 8 + c % 16) = b % 64 + 8 + c % 16 := w64_in (by omega)
  refine fn_at (E := EKl) (fn := Tryz.f13) (c := Tryz.f13.body.getD .skip) (rs := Tryz.f13.results.toList) (nt := Tryz.f13.ntmps) EKl_ok follows (by kernel_rfl) (by kernel_rfl) rfl rfl rfl [1000004, 6, 1000009] rfl ?_
  refine ⟨_, on_at a 64 (by omega) (by omega) (by omega), ?_⟩
  refine ⟨SH a b c (firstG a b c), ?_, ?_⟩
  · refine ent_of (rl := [(1, 25)]) (nl := []) ⟨rfl, ?_, ?_, ⟨⟨Nat.le_of_ble_eq_true rfl, subR_litl (firstG a b c) (fun _ => rfl) rfl (lc rfl (lc rfl (lc rfl (lc (cI hx) (lc (cI hz) (lc rfl (lc (cI hxz) (lc (cI hy) rfl)))))))) rfl⟩, trivial⟩, rfl, rfl, (by first | exact Nat.zero_le _ | exact Nat.le_of_ble_eq_true rfl), trivial, ⟨⟨(by first | exact Nat.zero_le _ | exact Nat.le_of_ble_eq_true rfl), (by first | exact Nat.zero_le _ | exact Nat.le_of_ble_eq_true rfl)⟩, trivial⟩⟩ <;> (repeat' (first | exact trivial | exact SameL.refl _ | exact ep_seal rfl rfl | assumption | exact congrArg (Value.int _) (by assumption) | exact rfl | exact Nat.le_of_ble_eq_true rfl | decide | apply And.intro | apply all1 | apply all2 | apply all3 | apply all4 | apply all5))
  refine ⟨Unit, fun _ => sealS 1 ⟨55, 3, (outerG a b c).length, rowOf vL (outerG a b c), true⟩ (SH a b c (outerG a b c)), ?_, fun _ => ?_⟩
  · refine ⟨_, on_at b 64 (by omega) (by omega) (by omega), ?_⟩
    refine if_nb (fun h => ?_) (fun h => ?_)
    · have hb64 : bit b 64 = false := h
      refine ⟨_, on_at c 16 (by omega) (by omega) (by omega), ?_⟩
      refine ⟨appB (n := 3) (by omega) (by decide), ?_⟩
      refine ⟨(), Ent.trans ?_ (ent_seal rfl)⟩
      unfold outerG
      rw [if_neg (by rw [hb64]; decide)]
      refine ent_of (rl := [(1, 16)]) (nl := []) ⟨rfl, ?_, ?_, ⟨⟨Nat.le_of_ble_eq_true rfl, subR_snoc rfl rfl (fun j hj => elem1 (lc rfl (lc (cI hyz) (lc rfl rfl)))) rfl rfl⟩, trivial⟩, rfl, rfl, (by first | exact Nat.zero_le _ | exact Nat.le_of_ble_eq_true rfl), trivial, ⟨⟨(by first | exact Nat.zero_le _ | exact Nat.le_of_ble_eq_true rfl), (by first | exact Nat.zero_le _ | exact Nat.le_of_ble_eq_true rfl)⟩, trivial⟩⟩ <;> (repeat' (first | exact trivial | exact SameL.refl _ | exact ep_seal rfl rfl | assumption | exact congrArg (Value.int _) (by assumption) | exact rfl | exact Nat.le_of_ble_eq_true rfl | decide | apply And.intro | apply all1 | apply all2 | apply all3 | apply all4 | apply all5))
    · have hb64 : bit b 64 = true := h
      refine ⟨(), Ent.trans ?_ (ent_seal rfl)⟩
      unfold outerG
      rw [if_pos hb64]
      refine ent_of (rl := []) (nl := []) ⟨rfl, ?_, ?_, ⟨⟨Nat.le_of_ble_eq_true rfl, subR.refl _⟩, trivial⟩, rfl, rfl, (by first | exact Nat.zero_le _ | exact Nat.le_of_ble_eq_true rfl), trivial, trivial⟩ <;> (repeat' (first | exact trivial | exact SameL.refl _ | exact ep_seal rfl rfl | assumption | exact congrArg (Value.int _) (by assumption) | exact rfl | exact Nat.le_of_ble_eq_true rfl | decide | apply And.intro | apply all1 | apply all2 | apply all3 | apply all4 | apply all5))
  refine ⟨_, on_at c 32 (by omega) (by omega) (by omega), ?_⟩
  refine if_nb (fun h => ?_) (fun h => ?_)
  · have hc32 : bit c 32 = false := h
    refine ⟨_, on_at c 64 (by omega) (by omega) (by omega), ?_⟩
    refine ⟨appB (n := 1) (by omega) (by decide), ?_⟩
    refine ⟨_, Ent.refl _ _, ?_⟩
    unfold glyF
    rw [if_neg (by rw [hc32]; decide)]
    refine ⟨⟨⟨rfl, rfl, fun q hq j hj => ⟨rfl, ?_⟩⟩, trivial⟩, trivial⟩
    have hj0 : j = 0 := Nat.lt_one_iff.1 hj
    subst hj0
    have hq : q = 0 ∨ q = 1 := by have h : q < 2 := hq; omega
    rcases hq with rfl | rfl
    · exact SameL.refl _
    · refine ⟨rfl, rfl, fun i hi k hk => .of_eq ?_⟩
      have e : ∀ ls : List L, ls = (innerG a b c).flatMap vL → nth ls (i * 3 + k) = rowOf vL (innerG a b c) i k := fun ls h => by rw [h]; exact flat_nth (sz := 3) (fun _ => rfl) (innerG a b c) i k hi hk
      exact e _ (lc (cI (divs (by omega) (by omega) (by omega))) (lc (cI (divs (by omega) (by omega) (by omega))) (lc rfl (lc (cI (divs (by omega) (by omega) (by omega))) (lc (cI (divs (by omega) (by omega) (by omega))) (lc rfl (lc (cI (divs (by omega) (by omega) (by omega))) (lc (cI (divs (by omega) (by omega) (by omega))) (lc rfl rfl)))))))))
  · have hc32 : bit c 32 = true := h
    refine ⟨_, ent_sealP (i := 3) (m := 1) rfl rfl rfl, ?_⟩
    unfold glyF
    rw [if_pos hc32]
    refine ⟨⟨⟨rfl, rfl, rfl, fun q hq j hj => ?_⟩, trivial⟩, trivial⟩
    have hq0 : q = 0 := Nat.lt_one_iff.1 hq
    have hj0 : j = 0 := Nat.lt_one_iff.1 hj
    subst hq0; subst hj0
    exact SameL.refl _
end Go.Proofs.YtggappbiedkopaaGreat
