/- Law 22: contracts of script.Glyph and of the law's glyph. -/
import Derived.Test.YtggappbiedkopaaGreatK2c
import Derived.Test.YtggappbiedkopaaGreatK2s
namespace Go.Proofs.YtggappbiedkopaaGreat
open Go SX
set_option linter.unusedVariables false
set_option maxRecDepth 100000
set_option maxHeartbeats 1000000

def bit (n b : Int) : Bool := n / b % 2 == 0
def firstG (a b c : Int) : List Gv := [⟨0, 0, true⟩, ⟨a % 64 + 8, c % 16, bit a 64⟩, ⟨a % 64 + 8 - c % 16, b % 64 + 8, true⟩]
def fourG (b c : Int) : Gv := ⟨c % 16, b % 64 + 8 + c % 16, bit c 16⟩
def outerG (a b c : Int) : List Gv := if bit b 64 = true then firstG a b c else firstG a b c ++ [fourG b c]
def innerG (a b c : Int) : List Gv := [⟨(a % 64 + 8) / 4, (b % 64 + 8) / 4, true⟩, ⟨(a % 64 + 8) / 4, (b % 64 + 8) / 2, bit c 64⟩, ⟨(a % 64 + 8) / 2, (b % 64 + 8) / 2, true⟩]
def glyF (a b c : Int) : List (List Gv) := if bit c 32 = true then [outerG a b c] else [outerG a b c] ++ [innerG a b c]
def uIn (n : Int) : Prop := 0 ≤ n ∧ n ≤ 255
theorem fin_of {P : Int → Prop} (h : ∀ n : Fin 256, P (n.val : Int)) {n : Int} (hn : uIn n) : P n := by
  have := h ⟨n.toNat, by have := hn.1; have := hn.2; omega⟩
  have e : ((n.toNat : Nat) : Int) = n := by have := hn.1; omega
  rwa [show (((⟨n.toNat, by have := hn.1; have := hn.2; omega⟩ : Fin 256).val : Nat) : Int) = n from e] at this
theorem and64 {n : Int} (h : uIn n) : (IntKind.u8.wrap (BitVec.ofInt IntKind.u8.bits n &&& BitVec.ofInt IntKind.u8.bits 64).toNat == 0) = bit n 64 := fin_of (P := fun n => (IntKind.u8.wrap (BitVec.ofInt IntKind.u8.bits n &&& BitVec.ofInt IntKind.u8.bits 64).toNat == 0) = bit n 64) (by decide +kernel) h
theorem and32 {n : Int} (h : uIn n) : (IntKind.u8.wrap (BitVec.ofInt IntKind.u8.bits n &&& BitVec.ofInt IntKind.u8.bits 32).toNat == 0) = bit n 32 := fin_of (P := fun n => (IntKind.u8.wrap (BitVec.ofInt IntKind.u8.bits n &&& BitVec.ofInt IntKind.u8.bits 32).toNat == 0) = bit n 32) (by decide +kernel) h
theorem and16 {n : Int} (h : uIn n) : (IntKind.u8.wrap (BitVec.ofInt IntKind.u8.bits n &&& BitVec.ofInt IntKind.u8.bits 16).toNat == 0) = bit n 16 := fin_of (P := fun n => (IntKind.u8.wrap (BitVec.ofInt IntKind.u8.bits n &&& BitVec.ofInt IntKind.u8.bits 16).toNat == 0) = bit n 16) (by decide +kernel) h
theorem subR_litl {α : Type} [Inhabited α] {g : α → List L} {sz n T : Nat} {ls : List L} {fr fr' : Bool} (es : List α) (hg : ∀ x, (g x).length = sz) (hn : n = es.length) (hl : ls = es.flatMap g) (hfr : boolLe fr' fr = true) : subR ⟨T, sz, n, fun a b => nth ls (a * sz + b), fr⟩ ⟨T, sz, es.length, rowOf g es, fr'⟩ := by
  subst hn; subst hl
  exact ⟨rfl, rfl, rfl, hfr, fun i hi j hj => .of_eq (flat_nth hg es i j hi hj)⟩
theorem lc {l l' : L} {ls ls' : List L} (h : l = l') (t : ls = ls') : l :: ls = l' :: ls' := by rw [h, t]
theorem cI {k : IntKind} {x y : Int} (h : x = y) : L.lit (.int k x) = L.lit (.int k y) := by rw [h]
theorem cB {x y : Bool} (h : x = y) : L.lit (.bool x) = L.lit (.bool y) := by rw [h]
@[reducible] def EKg : Env := EKf [(34, true), (80, false)]
theorem EKg_ok : EnvOK Tryz.prog EKg := EKf_ok _
noncomputable def SG (a b c : Int) (l : List Gv) : SS := mkS
  [(0, .o (.v (.int .u8 a))), (1, .o (.v (.int .u8 b))), (2, .o (.v (.int .u8 c))), (6, .o (.p 0 0)), (7, .o (.v (.int .i64 (a % 64 + 8)))), (8, .o (.v (.int .i64 (b % 64 + 8)))), (9, .o (.v (.int .i64 (c % 16)))), (10, .o (.p 3 0))]
  [(0, 39, [.k (.slice none 0 0)]), (2, 56, [.h 1]), (3, 39, [.s 2 1])] [(1, ⟨55, 3, l.length, rowOf vL l, true⟩)] 4 Tryz.f11.ntmps
theorem divs {n d : Int} (h : 0 ≤ n) (h' : n ≤ 1000) (hd : 0 < d) : w64 (n.tdiv d) = n / d := by
  rw [Int.tdiv_eq_ediv_of_nonneg h]
  have h1 := Int.ediv_nonneg h (Int.le_of_lt hd)
  have h2 := Int.ediv_le_self d h
  exact w64_in (by omega)
theorem Glyph_at (a b c : Int) (ha : uIn a) (hb : uIn b) (hc : uIn c) : FnAt Tryz.prog 11 [aU a, aU b, aU c] [aO (glyF a b c)] := by
  have hx : w64 (w64 (a.tmod 64) + 8) = a % 64 + 8 := by have := ha.1; rw [tmod_pos ha.1, w64_in (n := a % 64) (by omega), w64_in (by omega)]
  have hy : w64 (w64 (b.tmod 64) + 8) = b % 64 + 8 := by have := hb.1; rw [tmod_pos hb.1, w64_in (n := b % 64) (by omega), w64_in (by omega)]
  have hz : w64 (c.tmod 16) = c % 16 := by have := hc.1; rw [tmod_pos hc.1, w64_in (by omega)]
  have hxz : w64 (w64 (w64 (a.tmod 64) + 8) - w64 (c.tmod 16)) = a % 64 + 8 - c % 16 := by rw [hx, hz, w64_in (by omega)]
  have hyz : w64 (b % 64 + 8 + c % 16) = b % 64 + 8 + c % 16 := w64_in (by omega)
  have h16 := and16 hc
  have h1 := and64 ha
  have h2 := and64 hb
  have h3 := and32 hc
  refine fn_at (E := EKg) (fn := Tryz.f11) (c := Tryz.f11.body.getD .skip) (rs := Tryz.f11.results.toList) (nt := Tryz.f11.ntmps) EKg_ok follows (by kernel_rfl) (by kernel_rfl) rfl rfl rfl [1000003, 5, 1000007] rfl ?_
  refine ⟨SG a b c (firstG a b c), ?_, ?_⟩
  · refine ent_of (rl := [(3, 30), (2, 28), (1, 27)]) (nl := []) ⟨rfl, ?_, ?_, ⟨⟨Nat.le_of_ble_eq_true rfl, subR_litl (firstG a b c) (fun _ => rfl) rfl (lc rfl (lc rfl (lc rfl (lc (cI hx) (lc (cI hz) (lc (cB h1) (lc (cI hxz) (lc (cI hy) rfl)))))))) rfl⟩, trivial⟩, rfl, rfl, (by first | exact Nat.zero_le _ | exact Nat.le_of_ble_eq_true rfl), trivial, ⟨⟨(by first | exact Nat.zero_le _ | exact Nat.le_of_ble_eq_true rfl), (by first | exact Nat.zero_le _ | exact Nat.le_of_ble_eq_true rfl)⟩, ⟨(by first | exact Nat.zero_le _ | exact Nat.le_of_ble_eq_true rfl), (by first | exact Nat.zero_le _ | exact Nat.le_of_ble_eq_true rfl)⟩, ⟨(by first | exact Nat.zero_le _ | exact Nat.le_of_ble_eq_true rfl), (by first | exact Nat.zero_le _ | exact Nat.le_of_ble_eq_true rfl)⟩, trivial⟩⟩ <;> (repeat' (first | exact trivial | exact SameL.refl _ | exact ep_seal rfl rfl | assumption | exact congrArg (Value.int _) (by assumption) | exact rfl | exact Nat.le_of_ble_eq_true rfl | decide | apply And.intro | apply all1 | apply all2 | apply all3 | apply all4 | apply all5))
  refine ⟨Unit, fun _ => sealS 1 ⟨55, 3, (outerG a b c).length, rowOf vL (outerG a b c), true⟩ (SG a b c (outerG a b c)), ?_, fun _ => ?_⟩
  · refine if_ne (fun h => ?_) (fun h => ?_)
    · have hb64 : bit b 64 = false := by rw [← h2]; simpa using h
      refine ⟨appB (n := 3) (by omega) (by decide), ?_⟩
      refine ⟨(), Ent.trans ?_ (ent_seal rfl)⟩
      unfold outerG
      rw [if_neg (by rw [hb64]; decide)]
      refine ent_of (rl := [(1, 22)]) (nl := []) ⟨rfl, ?_, ?_, ⟨⟨Nat.le_of_ble_eq_true rfl, subR_snoc rfl rfl (fun j hj => elem1 (lc rfl (lc (cI hyz) (lc (cB h16) rfl)))) rfl rfl⟩, trivial⟩, rfl, rfl, (by first | exact Nat.zero_le _ | exact Nat.le_of_ble_eq_true rfl), trivial, ⟨⟨(by first | exact Nat.zero_le _ | exact Nat.le_of_ble_eq_true rfl), (by first | exact Nat.zero_le _ | exact Nat.le_of_ble_eq_true rfl)⟩, trivial⟩⟩ <;> (repeat' (first | exact trivial | exact SameL.refl _ | exact ep_seal rfl rfl | assumption | exact congrArg (Value.int _) (by assumption) | exact rfl | exact Nat.le_of_ble_eq_true rfl | decide | apply And.intro | apply all1 | apply all2 | apply all3 | apply all4 | apply all5))
    · have hb64 : bit b 64 = true := by rw [← h2]; simpa using h
      refine ⟨(), Ent.trans ?_ (ent_seal rfl)⟩
      unfold outerG
      rw [if_pos hb64]
      refine ent_of (rl := []) (nl := []) ⟨rfl, ?_, ?_, ⟨⟨Nat.le_of_ble_eq_true rfl, subR.refl _⟩, trivial⟩, rfl, rfl, (by first | exact Nat.zero_le _ | exact Nat.le_of_ble_eq_true rfl), trivial, trivial⟩ <;> (repeat' (first | exact trivial | exact SameL.refl _ | exact ep_seal rfl rfl | assumption | exact congrArg (Value.int _) (by assumption) | exact rfl | exact Nat.le_of_ble_eq_true rfl | decide | apply And.intro | apply all1 | apply all2 | apply all3 | apply all4 | apply all5))
  refine if_ne (fun h => ?_) (fun h => ?_)
  · have hc32 : bit c 32 = false := by rw [← h3]; simpa using h
    refine ⟨appB (n := 1) (by omega) (by decide), ?_⟩
    refine ⟨_, Ent.refl _ _, ?_⟩
    unfold glyF
    rw [if_neg (by rw [hc32]; decide)]
    refine ⟨⟨⟨rfl, rfl, fun q hq j hj => ⟨rfl, ?_⟩⟩, trivial⟩, trivial⟩
    have hj0 : j = 0 := Nat.lt_one_iff.1 hj
    subst hj0
    have hq : q = 0 ∨ q = 1 := by have h : q < 2 := hq; omega
    rcases hq with rfl | rfl
    · exact SameL.refl _
    · refine ⟨rfl, rfl, fun i hi k hk => .of_eq ?_⟩
      have e : ∀ ls : List L, ls = (innerG a b c).flatMap vL → nth ls (i * 3 + k) = rowOf vL (innerG a b c) i k := fun ls h => by rw [h]; exact flat_nth (sz := 3) (fun _ => rfl) (innerG a b c) i k hi hk
      exact e _ (lc (cI (divs (by omega) (by omega) (by omega))) (lc (cI (divs (by omega) (by omega) (by omega))) (lc rfl (lc (cI (divs (by omega) (by omega) (by omega))) (lc (cI (divs (by omega) (by omega) (by omega))) (lc (cB (and64 hc)) (lc (cI (divs (by omega) (by omega) (by omega))) (lc (cI (divs (by omega) (by omega) (by omega))) (lc rfl rfl)))))))))
  · have hc32 : bit c 32 = true := by rw [← h3]; simpa using h
    refine ⟨_, ent_sealP (i := 2) (m := 1) rfl rfl rfl, ?_⟩
    unfold glyF
    rw [if_pos hc32]
    refine ⟨⟨⟨rfl, rfl, rfl, fun q hq j hj => ?_⟩, trivial⟩, trivial⟩
    have hq0 : q = 0 := Nat.lt_one_iff.1 hq
    have hj0 : j = 0 := Nat.lt_one_iff.1 hj
    subst hq0; subst hj0
    exact SameL.refl _
end Go.Proofs.YtggappbiedkopaaGreat
