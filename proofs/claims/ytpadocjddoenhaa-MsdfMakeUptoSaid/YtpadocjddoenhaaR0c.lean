/- The contracts of law09.Spec.Grid, law10: awake, SdfMake, SdfTexel, SdfWrong. -/
import Derived.Test.YtpadocjddoenhaaR0b
import Derived.Test.YtpadocjddoenhaaL7a
namespace Go.Proofs.Ytpadocjddoenhaa
open Go SX
set_option linter.unusedVariables false
set_option maxRecDepth 100000
set_option maxHeartbeats 1000000

/-- a grid by numbers -/
structure Sp where
  x : Int
  y : Int
  pitch : Int
  w : Int
  h : Int
  spread : Int
def spIn (s : Sp) : Prop := (0 ≤ s.x ∧ s.x ≤ 255) ∧ (0 ≤ s.y ∧ s.y ≤ 255) ∧ (0 ≤ s.pitch ∧ s.pitch ≤ 255) ∧ (0 ≤ s.w ∧ s.w ≤ 255) ∧ (0 ≤ s.h ∧ s.h ≤ 255) ∧ (0 ≤ s.spread ∧ s.spread ≤ 255)
@[reducible] def u8L (n : Int) : L := .lit (.int .u8 n)
@[reducible] def aSp (s : Sp) : Bool × List L := (true, [u8L s.x, u8L s.y, u8L s.pitch, u8L s.w, u8L s.h, u8L s.spread])
def specG (s : Sp) : Gd := ⟨w64 (w64 s.x - 128), w64 (w64 s.y - 128), w64 (1 + w64 (s.pitch.tmod 16)), w64 (1 + w64 (s.w.tmod 10)), w64 (1 + w64 (s.h.tmod 10)), w64 (1 + w64 (s.spread.tmod 64))⟩
theorem specG_eq {s : Sp} (h : spIn s) : specG s = ⟨s.x - 128, s.y - 128, 1 + s.pitch % 16, 1 + s.w % 10, 1 + s.h % 10, 1 + s.spread % 64⟩ := by
  obtain ⟨h1, h2, h3, h4, h5, h6⟩ := h
  unfold specG
  rw [tmod_u h3.1 (by decide), tmod_u h4.1 (by decide), tmod_u h5.1 (by decide), tmod_u h6.1 (by decide)]
  rw [w64_in (n := s.x) (by omega), w64_in (n := s.y) (by omega), w64_in (n := s.pitch % 16) (by omega), w64_in (n := s.w % 10) (by omega), w64_in (n := s.h % 10) (by omega), w64_in (n := s.spread % 64) (by omega)]
  rw [w64_in (n := s.x - 128) (by omega), w64_in (n := s.y - 128) (by omega), w64_in (n := 1 + s.pitch % 16) (by omega), w64_in (n := 1 + s.w % 10) (by omega), w64_in (n := 1 + s.h % 10) (by omega), w64_in (n := 1 + s.spread % 64) (by omega)]
theorem spec_in {s : Sp} (h : spIn s) : gdIn (specG s) := by
  rw [specG_eq h]
  unfold gdIn spIn at *; dsimp only; omega
theorem spec_10 {s : Sp} (h : spIn s) : (specG s).w ≤ 10 ∧ (specG s).h ≤ 10 := by
  rw [specG_eq h]; unfold spIn at h; dsimp only; omega
theorem spec_at (s : Sp) : FnAt Try.prog 16 [aSp s] [aGd (specG s)] := by
  refine fn_at (E := EE) (fn := Try.f16) (c := Try.f16.body.getD .skip) (rs := Try.f16.results.toList) (nt := Try.f16.ntmps) EE_ok follows (by kernel_rfl) (by kernel_rfl) rfl rfl rfl [] rfl ?_
  exact ⟨⟨rfl, rfl, rfl, rfl, rfl, rfl, trivial⟩, trivial⟩
theorem a_sp {k : Nat} {a : Bool × List L} (h : TyArgs tt (k + 2) [37] [a]) : ∃ s : Sp, a = aSp s ∧ spIn s := by
  obtain ⟨b, l⟩ := a
  obtain ⟨⟨e, h⟩, _⟩ := h
  have e : b = true := e
  subst e
  obtain ⟨hl, h⟩ : l.length = 6 ∧ ∀ p ∈ [(0, 5), (1, 5), (2, 5), (3, 5), (4, 5), (5, 5)], match tt p.2 with
    | none => False
    | some fi => TyL tt (k + 1) p.2 ((l.drop p.1).take fi.sz) := h
  match l, hl with
  | [a, b, c, d, e, f], _ =>
    obtain ⟨x0, hx0, h0⟩ := ty_u8 (k := k) (h (0, 5) (by simp))
    obtain ⟨x1, hx1, h1⟩ := ty_u8 (k := k) (h (1, 5) (by simp))
    obtain ⟨x2, hx2, h2⟩ := ty_u8 (k := k) (h (2, 5) (by simp))
    obtain ⟨x3, hx3, h3⟩ := ty_u8 (k := k) (h (3, 5) (by simp))
    obtain ⟨x4, hx4, h4⟩ := ty_u8 (k := k) (h (4, 5) (by simp))
    obtain ⟨x5, hx5, h5⟩ := ty_u8 (k := k) (h (5, 5) (by simp))
    have hx0 : [a] = [.lit (.int .u8 x0)] := hx0
    have hx1 : [b] = [.lit (.int .u8 x1)] := hx1
    have hx2 : [c] = [.lit (.int .u8 x2)] := hx2
    have hx3 : [d] = [.lit (.int .u8 x3)] := hx3
    have hx4 : [e] = [.lit (.int .u8 x4)] := hx4
    have hx5 : [f] = [.lit (.int .u8 x5)] := hx5
    cases hx0
    cases hx1
    cases hx2
    cases hx3
    cases hx4
    cases hx5
    exact ⟨⟨x0, x1, x2, x3, x4, x5⟩, rfl, by unfold spIn; dsimp only; omega⟩
/-! ### law10 -/
theorem fieldTo_get {es : List Ed} {g : Gd} : ∀ {k b a : Nat}, b < k → a < g.w.toNat → (fieldTo es g k).getD (b * g.w.toNat + a) default = texel es g (a : Int) (b : Int)
  | 0, b, a, h, _ => by omega
  | k + 1, b, a, h, ha => by
    rw [fieldTo_succ, getD_app, fieldTo_len]
    rcases Nat.lt_or_ge b k with hb | hb
    · have : (b + 1) * g.w.toNat ≤ k * g.w.toNat := Nat.mul_le_mul_right _ hb
      rw [Nat.add_mul] at this
      rw [if_pos (by omega), fieldTo_get hb ha]
    · obtain rfl : b = k := by omega
      rw [if_neg (by omega), show b * g.w.toNat + a - b * g.w.toNat = a by omega]
      unfold rowTo
      rw [List.getD_eq_getElem?_getD, List.getElem?_map, List.getElem?_range ha]
      rfl
theorem codeN_in (s sg e : Int) : 0 ≤ codeN s sg e ∧ codeN s sg e ≤ 255 := by
  unfold codeN
  generalize w64 (128 + w64 (sg * (if e < w64 (256 * s) then w64 ((w64 (e * 127)).tdiv (w64 (256 * s))) else 127))) = x
  rw [IntKind.wrap_u8]; omega
theorem texel_in (es : List Ed) (g : Gd) (i k : Int) : 0 ≤ texel es g i k ∧ texel es g i k ≤ 255 := by
  unfold texel
  split <;> exact codeN_in _ _ _
theorem fieldTo_in (es : List Ed) (g : Gd) (k : Nat) : ∀ c ∈ fieldTo es g k, 0 ≤ c ∧ c ≤ 255 := by
  intro c hc
  unfold fieldTo rowTo at hc
  obtain ⟨b, _, hb⟩ := List.mem_flatMap.1 hc
  obtain ⟨a, _, rfl⟩ := List.mem_map.1 hb
  exact texel_in _ _ _ _
theorem make_bad {es : List Ed} {g : Gd} (hg : checkG g ≠ 0) : FnAt Try.prog 27 [aEds es, aGd g] [aFd 0 0 [], aI (checkG g)] := by
  refine fn_at (E := EE) (fn := Try.f27) (c := Try.f27.body.getD .skip) (rs := Try.f27.results.toList) (nt := Try.f27.ntmps) EE_ok follows (by kernel_rfl) (by kernel_rfl) rfl rfl rfl [] rfl ?_
  refine ⟨_, check_at g, ?_⟩
  refine if_ne (fun _ => ?_) (fun h => absurd h hg)
  exact ⟨⟨⟨rfl, rfl⟩, ⟨rfl, rfl⟩, ⟨rfl, rfl⟩, trivial⟩, ⟨rfl, trivial⟩, trivial⟩
def l10 : List Ed := [⟨⟨0, 0⟩, ⟨320, 0⟩⟩, ⟨⟨320, 0⟩, ⟨0, 320⟩⟩, ⟨⟨0, 320⟩, ⟨0, 0⟩⟩]
def g10 : Gd := ⟨-2, -2, 2, 4, 4, 8⟩
theorem g10_in : gdIn g10 := by unfold gdIn g10; decide
theorem l10_in : edsIn l10 := by
  refine ⟨fun e he => ?_, by decide⟩
  simp only [l10, List.mem_cons, List.not_mem_nil, or_false] at he
  rcases he with rfl | rfl | rfl <;> (unfold edIn ptIn; decide)
theorem t10_0 : texel l10 g10 0 0 = 106 := by
  rw [texel_pos (by decide), eight_pos (by decide)]
  rw [show (near l10 (centre g10 0 0)).best = ⟨2048, 1⟩ by decide, show sign l10 (centre g10 0 0) = -1 by decide]
  rw [show eightF ⟨2048, 1⟩ = 362 from (by unfold eightF; exact isq_uniq (by decide) (by decide) (by decide) (by decide))]
  decide
theorem t10_5 : texel l10 g10 1 1 = 143 := by
  rw [texel_pos (by decide), eight_pos (by decide)]
  rw [show (near l10 (centre g10 1 1)).best = ⟨1024, 1⟩ by decide, show sign l10 (centre g10 1 1) = 1 by decide]
  rw [show eightF ⟨1024, 1⟩ = 256 from (by unfold eightF; exact isq_uniq (by decide) (by decide) (by decide) (by decide))]
  decide
theorem row_slice {es : List Ed} {g : Gd} {K b : Nat} {l h : Int} (hb : b < K) (hl : l = ((b * g.w.toNat : Nat) : Int)) (hh : h = ((b * g.w.toNat + g.w.toNat : Nat) : Int)) :
    ((bytesOf (rowTo es g (b : Int) g.w.toNat).length (rowOf bys (rowTo es g (b : Int) g.w.toNat))).toList == (bytesOf (h.toNat - l.toNat) (fun a j => rowOf bys (fieldTo es g K) (l.toNat + a) j)).toList) = true := by
  subst hl; subst hh
  rw [bytes_row, bytes_list, beq_iff_eq]
  unfold rowTo
  rw [List.map_map, Int.toNat_natCast, Int.toNat_natCast, Nat.add_sub_cancel_left]
  refine List.map_congr_left fun a ha => ?_
  have ha := List.mem_range.1 ha
  show toU8 (texel es g (a : Int) (b : Int)) = toU8 ((fieldTo es g K).getD (b * g.w.toNat + a) default)
  rw [fieldTo_get hb ha]
theorem a_gd {k : Nat} {a : Bool × List L} (h : TyArgs tt (k + 2) [46] [a]) : ∃ g : Gd, a = aGd g ∧ (in64 g.x ∧ in64 g.y ∧ in64 g.pitch ∧ in64 g.w ∧ in64 g.h ∧ in64 g.spread) := by
  obtain ⟨b, l⟩ := a
  obtain ⟨⟨e, h⟩, _⟩ := h
  have e : b = true := e
  subst e
  obtain ⟨hl, h⟩ : l.length = 6 ∧ ∀ p ∈ [(0, 3), (1, 3), (2, 3), (3, 3), (4, 3), (5, 3)], match tt p.2 with
    | none => False
    | some fi => TyL tt (k + 1) p.2 ((l.drop p.1).take fi.sz) := h
  match l, hl with
  | [a, b, c, d, e, f], _ =>
    obtain ⟨x0, hx0, h0⟩ := ty_int (k := k) (h (0, 3) (by simp))
    obtain ⟨x1, hx1, h1⟩ := ty_int (k := k) (h (1, 3) (by simp))
    obtain ⟨x2, hx2, h2⟩ := ty_int (k := k) (h (2, 3) (by simp))
    obtain ⟨x3, hx3, h3⟩ := ty_int (k := k) (h (3, 3) (by simp))
    obtain ⟨x4, hx4, h4⟩ := ty_int (k := k) (h (4, 3) (by simp))
    obtain ⟨x5, hx5, h5⟩ := ty_int (k := k) (h (5, 3) (by simp))
    have hx0 : [a] = [I x0] := hx0
    have hx1 : [b] = [I x1] := hx1
    have hx2 : [c] = [I x2] := hx2
    have hx3 : [d] = [I x3] := hx3
    have hx4 : [e] = [I x4] := hx4
    have hx5 : [f] = [I x5] := hx5
    cases hx0
    cases hx1
    cases hx2
    cases hx3
    cases hx4
    cases hx5
    exact ⟨⟨x0, x1, x2, x3, x4, x5⟩, rfl, h0, h1, h2, h3, h4, h5⟩
end Go.Proofs.Ytpadocjddoenhaa
