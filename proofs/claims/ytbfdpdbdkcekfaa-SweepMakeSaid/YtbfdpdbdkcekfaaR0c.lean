/- The contracts of law09.Spec.Grid, law10: awake, SdfMake, SdfTexel, SdfWrong. -/
import Derived.Test.YtbfdpdbdkcekfaaR0b
import Derived.Test.YtbfdpdbdkcekfaaL7a
namespace Go.Proofs.Ytbfdpdbdkcekfaa
open Go SX
set_option linter.unusedVariables false
set_option maxRecDepth 100000
set_option maxHeartbeats 1000000

/-- a grid by numbers -/
structure Sp where
  x : Int
  y : Int
  pitch : Int
  w : Int
  h : Int
  spread : Int
def spIn (s : Sp) : Prop := (0 ≤ s.x ∧ s.x ≤ 255) ∧ (0 ≤ s.y ∧ s.y ≤ 255) ∧ (0 ≤ s.pitch ∧ s.pitch ≤ 255) ∧ (0 ≤ s.w ∧ s.w ≤ 255) ∧ (0 ≤ s.h ∧ s.h ≤ 255) ∧ (0 ≤ s.spread ∧ s.spread ≤ 255)
@[reducible] def u8L (n : Int) : L := .lit (.int .u8 n)
@[reducible] def aSp (s : Sp) : Bool × List L := (true, [u8L s.x, u8L s.y, u8L s.pitch, u8L s.w, u8L s.h, u8L s.spread])
def specG (s : Sp) : Gd := ⟨w64 (w64 s.x - 128), w64 (w64 s.y - 128), w64 (1 + w64 (s.pitch.tmod 16)), w64 (1 + w64 (s.w.tmod 10)), w64 (1 + w64 (s.h.tmod 10)), w64 (1 + w64 (s.spread.tmod 64))⟩
theorem specG_eq {s : Sp} (h : spIn s) : specG s = ⟨s.x - 128, s.y - 128, 1 + s.pitch % 16, 1 + s.w % 10, 1 + s.h % 10, 1 + s.spread % 64⟩ := by
  obtain ⟨h1, h2, h3, h4, h5, h6⟩ := h
  unfold specG
  rw [tmod_u h3.1 (by decide), tmod_u h4.1 (by decide), tmod_u h5.1 (by decide), tmod_u h6.1 (by decide)]
  rw [w64_in (n := s.x) (by omega), w64_in (n := s.y) (by omega), w64_in (n := s.pitch % 16) (by omega), w64_in (n := s.w % 10) (by omega), w64_in (n := s.h % 10) (by omega), w64_in (n := s.spread % 64) (by omega)]
  rw [w64_in (n := s.x - 128) (by omega), w64_in (n := s.y - 128) (by omega), w64_in (n := 1 + s.pitch % 16) (by omega), w64_in (n := 1 + s.w % 10) (by omega), w64_in (n := 1 + s.h % 10) (by omega), w64_in (n := 1 + s.spread % 64) (by omega)]
theorem spec_in {s : Sp} (h : spIn s) : gdIn (specG s) := by
  rw [specG_eq h]
  unfold gdIn spIn at *; dsimp only; omega
theorem spec_10 {s : Sp} (h : spIn s) : (specG s).w ≤ 10 ∧ (specG s).h ≤ 10 := by
  rw [specG_eq h]; unfold spIn at h; dsimp only; omega
theorem spec_at (s : Sp) : FnAt Try.prog 18 [aSp s] [aGd (specG s)] := by
  refine fn_at (E := EE) (fn := Try.f18) (c := Try.f18.body.getD .skip) (rs := Try.f18.results.toList) (nt := Try.f18.ntmps) EE_ok follows (by kernel_rfl) (by kernel_rfl) rfl rfl rfl [] rfl ?_
  exact ⟨⟨rfl, rfl, rfl, rfl, rfl, rfl, trivial⟩, trivial⟩
theorem a_sp {k : Nat} {a : Bool × List L} (h : TyArgs tt (k + 2) [26] [a]) : ∃ s : Sp, a = aSp s ∧ spIn s := by
  obtain ⟨b, l⟩ := a
  obtain ⟨⟨e, h⟩, _⟩ := h
  have e : b = true := e
  subst e
  obtain ⟨hl, h⟩ : l.length = 6 ∧ ∀ p ∈ [(0, 5), (1, 5), (2, 5), (3, 5), (4, 5), (5, 5)], match tt p.2 with
    | none => False
    | some fi => TyL tt (k + 1) p.2 ((l.drop p.1).take fi.sz) := h
  match l, hl with
  | [a, b, c, d, e, f], _ =>
    obtain ⟨x0, hx0, h0⟩ := ty_u8 (k := k) (h (0, 5) (by simp))
    obtain ⟨x1, hx1, h1⟩ := ty_u8 (k := k) (h (1, 5) (by simp))
    obtain ⟨x2, hx2, h2⟩ := ty_u8 (k := k) (h (2, 5) (by simp))
    obtain ⟨x3, hx3, h3⟩ := ty_u8 (k := k) (h (3, 5) (by simp))
    obtain ⟨x4, hx4, h4⟩ := ty_u8 (k := k) (h (4, 5) (by simp))
    obtain ⟨x5, hx5, h5⟩ := ty_u8 (k := k) (h (5, 5) (by simp))
    have hx0 : [a] = [.lit (.int .u8 x0)] := hx0
    have hx1 : [b] = [.lit (.int .u8 x1)] := hx1
    have hx2 : [c] = [.lit (.int .u8 x2)] := hx2
    have hx3 : [d] = [.lit (.int .u8 x3)] := hx3
    have hx4 : [e] = [.lit (.int .u8 x4)] := hx4
    have hx5 : [f] = [.lit (.int .u8 x5)] := hx5
    cases hx0
    cases hx1
    cases hx2
    cases hx3
    cases hx4
    cases hx5
    exact ⟨⟨x0, x1, x2, x3, x4, x5⟩, rfl, by unfold spIn; dsimp only; omega⟩
/-! ### law10 -/
theorem fieldTo_get {es : List Ed} {g : Gd} : ∀ {k b a : Nat}, b < k → a < g.w.toNat → (fieldTo es g k).getD (b * g.w.toNat + a) default = texel es g (a : Int) (b : Int)
  | 0, b, a, h, _ => by omega
  | k + 1, b, a, h, ha => by
    rw [fieldTo_succ, getD_app, fieldTo_len]
    rcases Nat.lt_or_ge b k with hb | hb
    · have : (b + 1) * g.w.toNat ≤ k * g.w.toNat := Nat.mul_le_mul_right _ hb
      rw [Nat.add_mul] at this
      rw [if_pos (by omega), fieldTo_get hb ha]
    · obtain rfl : b = k := by omega
      rw [if_neg (by omega), show b * g.w.toNat + a - b * g.w.toNat = a by omega]
      unfold rowTo
      rw [List.getD_eq_getElem?_getD, List.getElem?_map, List.getElem?_range ha]
      rfl
theorem codeN_in (s sg e : Int) : 0 ≤ codeN s sg e ∧ codeN s sg e ≤ 255 := by
  unfold codeN
  generalize w64 (128 + w64 (sg * (if e < w64 (256 * s) then w64 ((w64 (e * 127)).tdiv (w64 (256 * s))) else 127))) = x
  rw [IntKind.wrap_u8]; omega
theorem texel_in (es : List Ed) (g : Gd) (i k : Int) : 0 ≤ texel es g i k ∧ texel es g i k ≤ 255 := by
  unfold texel
  split <;> exact codeN_in _ _ _
theorem fieldTo_in (es : List Ed) (g : Gd) (k : Nat) : ∀ c ∈ fieldTo es g k, 0 ≤ c ∧ c ≤ 255 := by
  intro c hc
  unfold fieldTo rowTo at hc
  obtain ⟨b, _, hb⟩ := List.mem_flatMap.1 hc
  obtain ⟨a, _, rfl⟩ := List.mem_map.1 hb
  exact texel_in _ _ _ _
theorem make_bad {es : List Ed} {g : Gd} (hg : checkG g ≠ 0) : FnAt Try.prog 20 [aEds es, aGd g] [aFd 0 0 [], aI (checkG g)] := by
  refine fn_at (E := EE) (fn := Try.f20) (c := Try.f20.body.getD .skip) (rs := Try.f20.results.toList) (nt := Try.f20.ntmps) EE_ok follows (by kernel_rfl) (by kernel_rfl) rfl rfl rfl [] rfl ?_
  refine ⟨_, check_at g, ?_⟩
  refine if_ne (fun _ => ?_) (fun h => absurd h hg)
  exact ⟨⟨⟨rfl, rfl⟩, ⟨rfl, rfl⟩, ⟨rfl, rfl⟩, trivial⟩, ⟨rfl, trivial⟩, trivial⟩
def l10 : List Ed := [⟨⟨0, 0⟩, ⟨320, 0⟩⟩, ⟨⟨320, 0⟩, ⟨0, 320⟩⟩, ⟨⟨0, 320⟩, ⟨0, 0⟩⟩]
def g10 : Gd := ⟨-2, -2, 2, 4, 4, 8⟩
theorem g10_in : gdIn g10 := by unfold gdIn g10; decide
theorem l10_in : edsIn l10 := by
  refine ⟨fun e he => ?_, by decide⟩
  simp only [l10, List.mem_cons, List.not_mem_nil, or_false] at he
  rcases he with rfl | rfl | rfl <;> (unfold edIn ptIn; decide)
theorem t10_0 : texel l10 g10 0 0 = 106 := by
  rw [texel_pos (by decide), eight_pos (by decide)]
  rw [show (near l10 (centre g10 0 0)).best = ⟨2048, 1⟩ by decide, show sign l10 (centre g10 0 0) = -1 by decide]
  rw [show eightF ⟨2048, 1⟩ = 362 from (by unfold eightF; exact isq_uniq (by decide) (by decide) (by decide) (by decide))]
  decide
theorem t10_5 : texel l10 g10 1 1 = 143 := by
  rw [texel_pos (by decide), eight_pos (by decide)]
  rw [show (near l10 (centre g10 1 1)).best = ⟨1024, 1⟩ by decide, show sign l10 (centre g10 1 1) = 1 by decide]
  rw [show eightF ⟨1024, 1⟩ = 256 from (by unfold eightF; exact isq_uniq (by decide) (by decide) (by decide) (by decide))]
  decide
theorem awake10_at : FnAt Try.prog 22 [] [aB true] := by
  have n1 := make_at l10_in g10_in
  have n2 := make_bad (es := l10) (g := ⟨0, 0, 0, 0, 0, 0⟩) (by decide)
  rw [show checkG ⟨0, 0, 0, 0, 0, 0⟩ = 6 by decide] at n2
  refine fn_at (E := EE) (fn := Try.f22) (c := Try.f22.body.getD .skip) (rs := Try.f22.results.toList) (nt := Try.f22.ntmps) EE_ok follows (by kernel_rfl) (by kernel_rfl) rfl rfl rfl [] rfl ?_
  refine ⟨_, n1.args ⟨rfl, ⟨lit_same l10 (fun _ => rfl) rfl rfl, trivial⟩, rfl, sameLs_refl _, trivial⟩, ?_⟩
  refine ⟨_, n2.args ⟨rfl, ⟨lit_same l10 (fun _ => rfl) rfl rfl, trivial⟩, rfl, sameLs_refl _, trivial⟩, ?_⟩
  refine ⟨fun _ => ?_, (fun h => nomatch h)⟩
  refine ⟨fun _ => ?_, (fun h => nomatch h)⟩
  have hl : (fieldTo l10 g10 4).length = 16 := fieldTo_len _ _ _
  refine if_eq (fun _ => ?_) (fun h => absurd (show (((fieldTo l10 g10 4).length : Nat) : Int) = 16 by rw [hl]; rfl) h)
  have e0 : (fieldTo l10 g10 4).getD 0 default = 106 := (fieldTo_get (k := 4) (b := 0) (a := 0) (by decide) (by decide)).trans t10_0
  have e5 : (fieldTo l10 g10 4).getD 5 default = 143 := (fieldTo_get (k := 4) (b := 1) (a := 1) (by decide) (by decide)).trans t10_5
  refine ⟨⟨by decide, by show (0 : Int) < ((fieldTo l10 g10 4).length : Nat); rw [hl]; decide⟩, ?_⟩
  refine if_dec (fun _ => ?_) (fun h => absurd (show (fieldTo l10 g10 4).getD 0 default < 128 by rw [e0]; decide) h)
  refine ⟨⟨by decide, by show (5 : Int) < ((fieldTo l10 g10 4).length : Nat); rw [hl]; decide⟩, ?_⟩
  refine if_dec (fun _ => ?_) (fun h => absurd (show (fieldTo l10 g10 4).getD 5 default > 128 by rw [e5]; decide) h)
  exact ⟨⟨rfl, trivial⟩, trivial⟩
theorem sdfMake_at (cs : List (List Vx)) {s : Sp} (hs : spIn s) : FnAt Try.prog 4 [aSl dsL 1 cs, aSp s] [aB true] := by
  have hi := glyph_in cs
  have hg := spec_in hs
  have hsp := spec_at s
  refine fn_at (E := EE) (fn := Try.f4) (c := Try.f4.body.getD .skip) (rs := Try.f4.results.toList) (nt := Try.f4.ntmps) EE_ok follows (by kernel_rfl) (by kernel_rfl) rfl rfl rfl [] rfl ?_
  refine ⟨_, awake10_at, ?_⟩
  refine ⟨(fun h => nomatch h), fun _ => ?_⟩
  refine ⟨_, glyph_at cs, ?_⟩
  refine ⟨_, spec_at s, ?_⟩
  generalize glyph cs = es at *
  generalize specG s = g at *
  have l1 := hi.2
  refine ⟨_, make_at hi hg, ?_⟩
  refine ⟨fun _ => ?_, (fun h => nomatch h)⟩
  refine ⟨_, hsp, ?_⟩
  refine ⟨_, field_at hi hg, ?_⟩
  refine ⟨_, same_at g.w g.h g.w g.h _ _ (fieldTo_in es g _) (fieldTo_in es g _), ?_⟩
  exact ⟨⟨vB (decide_eq_true ⟨rfl, rfl, rfl⟩).symm, trivial⟩, trivial⟩
theorem row_slice {es : List Ed} {g : Gd} {K b : Nat} {l h : Int} (hb : b < K) (hl : l = ((b * g.w.toNat : Nat) : Int)) (hh : h = ((b * g.w.toNat + g.w.toNat : Nat) : Int)) :
    ((bytesOf (rowTo es g (b : Int) g.w.toNat).length (rowOf bys (rowTo es g (b : Int) g.w.toNat))).toList == (bytesOf (h.toNat - l.toNat) (fun a j => rowOf bys (fieldTo es g K) (l.toNat + a) j)).toList) = true := by
  subst hl; subst hh
  rw [bytes_row, bytes_list, beq_iff_eq]
  unfold rowTo
  rw [List.map_map, Int.toNat_natCast, Int.toNat_natCast, Nat.add_sub_cancel_left]
  refine List.map_congr_left fun a ha => ?_
  have ha := List.mem_range.1 ha
  show toU8 (texel es g (a : Int) (b : Int)) = toU8 ((fieldTo es g K).getD (b * g.w.toNat + a) default)
  rw [fieldTo_get hb ha]
theorem sdfTexel_at (cs : List (List Vx)) {s : Sp} (hs : spIn s) {i k : Int} (hi' : 0 ≤ i ∧ i ≤ 255) (hk' : 0 ≤ k ∧ k ≤ 255) : FnAt Try.prog 5 [aSl dsL 1 cs, aSp s, aU8' i, aU8' k] [aB true] := by
  have hi := glyph_in cs
  have hg := spec_in hs
  refine fn_at (E := EE) (fn := Try.f5) (c := Try.f5.body.getD .skip) (rs := Try.f5.results.toList) (nt := Try.f5.ntmps) EE_ok follows (by kernel_rfl) (by kernel_rfl) rfl rfl rfl [] rfl ?_
  refine ⟨_, awake10_at, ?_⟩
  refine ⟨(fun h => nomatch h), fun _ => ?_⟩
  refine ⟨_, glyph_at cs, ?_⟩
  refine ⟨_, spec_at s, ?_⟩
  generalize glyph cs = es at *
  generalize specG s = g at *
  have l1 := hi.2
  refine ⟨_, field_at hi hg, ?_⟩
  have hw := hg.1
  have hh := hg.2.1
  refine ⟨by show g.w ≠ 0; omega, ?_⟩
  refine ⟨by show g.h ≠ 0; omega, ?_⟩
  have e1 : (w64 i).tmod g.w = ((i.toNat % g.w.toNat : Nat) : Int) := by
    rw [w64_in (by omega), tmod_u (by omega) (by omega), Int.natCast_emod, Int.toNat_of_nonneg hi'.1, Int.toNat_of_nonneg (by omega)]
  have e2 : (w64 k).tmod g.h = ((k.toNat % g.h.toNat : Nat) : Int) := by
    rw [w64_in (by omega), tmod_u (by omega) (by omega), Int.natCast_emod, Int.toNat_of_nonneg hk'.1, Int.toNat_of_nonneg (by omega)]
  have ha : i.toNat % g.w.toNat < g.w.toNat := Nat.mod_lt _ (by omega)
  have hb : k.toNat % g.h.toNat < g.h.toNat := Nat.mod_lt _ (by omega)
  rw [e1, e2]
  generalize i.toNat % g.w.toNat = a at *
  generalize k.toNat % g.h.toNat = b at *
  refine ⟨_, texel_at hi hg (by omega) (by omega), ?_⟩
  have hL := fieldTo_len es g g.h.toNat
  have hR := rowTo_len es g (b : Int) g.w.toNat
  have m1 : b * g.w.toNat ≤ 23 * 24 := Nat.mul_le_mul (by omega) (by omega)
  have m2 : (b + 1) * g.w.toNat ≤ g.h.toNat * g.w.toNat := Nat.mul_le_mul_right _ hb
  have m3 : (b + 1) * g.w.toNat = b * g.w.toNat + g.w.toNat := by rw [Nat.add_mul, Nat.one_mul]
  have w0 : (b : Int) * g.w = ((b * g.w.toNat : Nat) : Int) := by rw [Int.natCast_mul, Int.toNat_of_nonneg (by omega)]
  have w1 : w64 (w64 ((b : Int) * g.w) + (a : Int)) = ((b * g.w.toNat + a : Nat) : Int) := by
    rw [w0, w64_in (n := ((b * g.w.toNat : Nat) : Int)) (by omega), w64_in (by omega)]; omega
  have w2 : w64 ((b : Int) * g.w) = ((b * g.w.toNat : Nat) : Int) := by rw [w0, w64_in (by omega)]
  have w3 : w64 (w64 ((b : Int) + 1) * g.w) = ((b * g.w.toNat + g.w.toNat : Nat) : Int) := by
    rw [w64_in (n := (b : Int) + 1) (by omega), Int.add_mul, Int.one_mul, w0, w64_in (by omega)]; omega
  refine ⟨⟨by show 0 ≤ w64 _; rw [w1]; omega, by show w64 _ < _; rw [w1]; omega⟩, ?_⟩
  refine if_eq (fun _ => ?_) (fun h => absurd ?_ h)
  · refine ⟨_, row_at hi hg (by omega), ?_⟩
    refine ⟨fun i _ => trivial, ?_⟩
    refine ⟨⟨by show 0 ≤ w64 _; rw [w2]; omega, by show w64 _ ≤ w64 _; rw [w2, w3]; omega, by show w64 _ ≤ _; rw [w3]; omega⟩, ?_⟩
    refine ⟨fun i _ => trivial, ?_⟩
    refine ⟨⟨vB (row_slice hb w2 w3).symm, trivial⟩, trivial⟩
  · show texel es g _ _ = (fieldTo es g g.h.toNat).getD (Int.toNat (w64 _)) default
    rw [w1, Int.toNat_natCast, fieldTo_get hb ha]
theorem sdfWrong_at (cs : List (List Vx)) (g : Gd) : FnAt Try.prog 6 [aSl dsL 1 cs, aGd g] [aB true] := by
  have hi := glyph_in cs
  refine fn_at (E := EE) (fn := Try.f6) (c := Try.f6.body.getD .skip) (rs := Try.f6.results.toList) (nt := Try.f6.ntmps) EE_ok follows (by kernel_rfl) (by kernel_rfl) rfl rfl rfl [] rfl ?_
  refine ⟨_, awake10_at, ?_⟩
  refine ⟨(fun h => nomatch h), fun _ => ?_⟩
  refine ⟨_, glyph_at cs, ?_⟩
  generalize glyph cs = es at *
  have l1 := hi.2
  by_cases hg : checkG g = 0
  · refine ⟨_, make_at hi (check_in.1 hg), ?_⟩
    refine ⟨_, check_at g, ?_⟩
    refine if_ne (fun h => absurd hg h) (fun _ => ?_)
    refine ⟨fun _ => ?_, (fun h => nomatch h)⟩
    have hw := (check_in.1 hg).1
    have hh := (check_in.1 hg).2.1
    refine ⟨⟨vB (beq_iff_eq.2 ?_).symm, trivial⟩, trivial⟩
    rw [fieldTo_len]
    have hm := mul_bd (x := g.w) (y := g.h) (B := 24) (C := 24) (by omega) (by omega)
    show _ = w64 _
    rw [w64_in (by omega), Int.natCast_mul, Int.toNat_of_nonneg (by omega), Int.toNat_of_nonneg (by omega), Int.mul_comm]
  · refine ⟨_, make_bad hg, ?_⟩
    refine ⟨_, check_at g, ?_⟩
    refine if_ne (fun _ => ?_) (fun h => absurd h hg)
    refine if_eq (fun _ => ?_) (fun h => absurd rfl h)
    refine ⟨fun _ => ?_, (fun h => nomatch h)⟩
    exact ⟨⟨rfl, trivial⟩, trivial⟩
theorem SdfMake_row : ∀ args, TyArgs tt 8 [45, 26] args → FnAt Try.prog 4 args [(false, [.lit (.bool true)])] := by
  intro args h
  obtain ⟨a1, a2, rfl, h1, h2⟩ := tyA2 h
  obtain ⟨l, cs, rfl, hcs⟩ := a_dots (k := 4) h1
  obtain ⟨s, rfl, hs⟩ := a_sp (k := 6) h2
  exact (sdfMake_at cs hs).args ⟨rfl, hcs, rfl, sameLs_refl _, trivial⟩
theorem SdfTexel_row : ∀ args, TyArgs tt 8 [45, 26, 5, 5] args → FnAt Try.prog 5 args [(false, [.lit (.bool true)])] := by
  intro args h
  obtain ⟨a1, a2, a3, a4, rfl, h1, h2, h3, h4⟩ := tyA4 h
  obtain ⟨l, cs, rfl, hcs⟩ := a_dots (k := 4) h1
  obtain ⟨s, rfl, hs⟩ := a_sp (k := 6) h2
  obtain ⟨i, rfl, hi⟩ := a_u8 (k := 7) h3
  obtain ⟨k, rfl, hk⟩ := a_u8 (k := 7) h4
  exact (sdfTexel_at cs hs hi hk).args ⟨rfl, hcs, rfl, sameLs_refl _, rfl, sameLs_refl _, rfl, sameLs_refl _, trivial⟩
theorem a_gd {k : Nat} {a : Bool × List L} (h : TyArgs tt (k + 2) [35] [a]) : ∃ g : Gd, a = aGd g ∧ (in64 g.x ∧ in64 g.y ∧ in64 g.pitch ∧ in64 g.w ∧ in64 g.h ∧ in64 g.spread) := by
  obtain ⟨b, l⟩ := a
  obtain ⟨⟨e, h⟩, _⟩ := h
  have e : b = true := e
  subst e
  obtain ⟨hl, h⟩ : l.length = 6 ∧ ∀ p ∈ [(0, 3), (1, 3), (2, 3), (3, 3), (4, 3), (5, 3)], match tt p.2 with
    | none => False
    | some fi => TyL tt (k + 1) p.2 ((l.drop p.1).take fi.sz) := h
  match l, hl with
  | [a, b, c, d, e, f], _ =>
    obtain ⟨x0, hx0, h0⟩ := ty_int (k := k) (h (0, 3) (by simp))
    obtain ⟨x1, hx1, h1⟩ := ty_int (k := k) (h (1, 3) (by simp))
    obtain ⟨x2, hx2, h2⟩ := ty_int (k := k) (h (2, 3) (by simp))
    obtain ⟨x3, hx3, h3⟩ := ty_int (k := k) (h (3, 3) (by simp))
    obtain ⟨x4, hx4, h4⟩ := ty_int (k := k) (h (4, 3) (by simp))
    obtain ⟨x5, hx5, h5⟩ := ty_int (k := k) (h (5, 3) (by simp))
    have hx0 : [a] = [I x0] := hx0
    have hx1 : [b] = [I x1] := hx1
    have hx2 : [c] = [I x2] := hx2
    have hx3 : [d] = [I x3] := hx3
    have hx4 : [e] = [I x4] := hx4
    have hx5 : [f] = [I x5] := hx5
    cases hx0
    cases hx1
    cases hx2
    cases hx3
    cases hx4
    cases hx5
    exact ⟨⟨x0, x1, x2, x3, x4, x5⟩, rfl, h0, h1, h2, h3, h4, h5⟩
theorem SdfWrong_row : ∀ args, TyArgs tt 8 [45, 35] args → FnAt Try.prog 6 args [(false, [.lit (.bool true)])] := by
  intro args h
  obtain ⟨a1, a2, rfl, h1, h2⟩ := tyA2 h
  obtain ⟨l, cs, rfl, hcs⟩ := a_dots (k := 4) h1
  obtain ⟨g, rfl, _⟩ := a_gd (k := 6) h2
  exact (sdfWrong_at cs g).args ⟨rfl, hcs, rfl, sameLs_refl _, trivial⟩
end Go.Proofs.Ytbfdpdbdkcekfaa
