/- The contracts of law10.SdfSign, SdfSmooth. -/
import Derived.Test.YtbfdpdbdkcekfaaR0c
import Derived.Test.YtbfdpdbdkcekfaaSq
namespace Go.Proofs.Ytbfdpdbdkcekfaa
open Go SX
set_option linter.unusedVariables false
set_option maxRecDepth 100000
set_option maxHeartbeats 1000000

/-- what a texel holds, in plain words -/
def nOf (s e : Int) : Int := if e < 256 * s then e * 127 / (256 * s) else 127
theorem nOf_in {s e : Int} (hs : 1 ≤ s ∧ s ≤ 64) (he : 0 ≤ e) : 0 ≤ nOf s e ∧ nOf s e ≤ 127 := by
  unfold nOf
  split
  · refine ⟨Int.ediv_nonneg (by omega) (by omega), ?_⟩
    refine Int.ediv_le_of_le_mul (by omega) ?_
    omega
  · decide
theorem codeN_eq {s sg e : Int} (hs : 1 ≤ s ∧ s ≤ 64) (he : 0 ≤ e) (hsg : -1 ≤ sg ∧ sg ≤ 1) : codeN s sg e = 128 + sg * nOf s e := by
  obtain ⟨h1, h2⟩ := nOf_in hs he
  have h0 : w64 (256 * s) = 256 * s := w64_in (by omega)
  have hn : (if e < w64 (256 * s) then w64 ((w64 (e * 127)).tdiv (w64 (256 * s))) else 127) = nOf s e := by
    rw [h0]
    unfold nOf at h1 h2 ⊢
    split
    · rename_i hlt
      rw [if_pos hlt] at h1 h2
      rw [w64_in (n := e * 127) (by omega), Int.tdiv_eq_ediv_of_nonneg (by omega), w64_in (by omega)]
    · rfl
  unfold codeN
  rw [hn]
  generalize nOf s e = n at *
  have hm : -127 ≤ sg * n ∧ sg * n ≤ 127 := by have := mul_bd (x := sg) (y := n) (B := 1) (C := 127) hsg (by omega); omega
  rw [w64_in (n := sg * n) (by omega), w64_in (by omega), IntKind.wrap_u8]
  omega
theorem sign_in (es : List Ed) (p : Pt) : -1 ≤ sign es p ∧ sign es p ≤ 1 := by
  unfold sign
  repeat' split
  all_goals decide
theorem eight_ge0 {es : List Ed} {p : Pt} (h : edsIn es) (hp : ptIn 33000 p) (h0 : 0 < es.length) : 0 ≤ eight es p := by
  rw [eight_pos h0]
  exact (eightF_ok (near_pos h hp h0).2.2.2).1
theorem texel_val {es : List Ed} {g : Gd} {i k : Int} (h : edsIn es) (hg : gdIn g) (hi : 0 ≤ i ∧ i < 24) (hk : 0 ≤ k ∧ k < 24) (h0 : 0 < es.length) :
    texel es g i k = 128 + sign es (centre g i k) * nOf g.spread (eight es (centre g i k)) ∧ 0 ≤ nOf g.spread (eight es (centre g i k)) ∧ nOf g.spread (eight es (centre g i k)) ≤ 127 := by
  have he := eight_ge0 h (centre_in hg hi hk) h0
  have hs := hg.2.2.2.2.2
  rw [texel_pos h0]
  exact ⟨codeN_eq hs he (sign_in _ _), nOf_in hs he⟩
def inB' (es : List Ed) (p : Pt) : Bool := decide (windN es p ≠ 0) || es.any (onE p)
theorem texel_sign {es : List Ed} {g : Gd} {i k : Int} (h : edsIn es) (hg : gdIn g) (hi : 0 ≤ i ∧ i < 24) (hk : 0 ≤ k ∧ k < 24) :
    (inB' es (centre g i k) = true → ¬ texel es g i k < 128) ∧ (inB' es (centre g i k) = false → ¬ texel es g i k > 128) := by
  rcases Nat.eq_zero_or_pos es.length with h0 | h0
  · obtain rfl := List.eq_nil_of_length_eq_zero h0
    refine ⟨(fun h => by cases h), fun _ => ?_⟩
    rw [texel_nil hg]; decide
  · obtain ⟨e, h1, h2⟩ := texel_val h hg hi hk h0
    rw [e]
    generalize nOf g.spread (eight es (centre g i k)) = n at *
    unfold inB' sign
    cases ha : es.any (onE (centre g i k)) with
    | true => simp
    | false =>
      by_cases hw : windN es (centre g i k) = 0
      · rw [if_neg (by decide), if_neg (fun h => h hw)]
        simp [hw]; omega
      · rw [if_neg (by decide), if_pos hw]
        simp [hw]; omega
@[reducible] def gdC (g : Gd) : List C := [.v (.int .i64 g.x), .v (.int .i64 g.y), .v (.int .i64 g.pitch), .v (.int .i64 g.w), .v (.int .i64 g.h), .v (.int .i64 g.spread)]
theorem gd_24 {g : Gd} (h : gdIn g) : 0 ≤ g.w ∧ g.w ≤ 1000 ∧ 0 ≤ g.h ∧ g.h ≤ 1000 := by unfold gdIn at h; omega
@[reducible] def tlSs : List (Nat × SV) := [(4, .o (.p 0 0)), (5, .o (.p 1 0)), (6, .o (.p 2 0)), (7, .o (.p 3 0)), (39, .o (.f 47 [4]))]
@[reducible] noncomputable def bsSs (es : List Ed) (g : Gd) : List (Nat × Nat × List C) :=
  [(0, 4, [.any]), (1, 33, [.sl true 4 es.length (rowOf Ed.ls es)]), (2, 35, gdC g), (3, 39, [.v (.int .i64 g.w), .v (.int .i64 g.h), .sl true 1 (fieldTo es g g.h.toNat).length (rowOf bys (fieldTo es g g.h.toNat))]), (4, 35, gdC g)]
theorem sdfSign_at (cs : List (List Vx)) {s : Sp} (hs : spIn s) : FnAt Try.prog 9 [aSl dsL 1 cs, aSp s] [aB true] := by
  have hi := glyph_in cs
  have hg := spec_in hs
  refine fn_at (E := EH) (fn := Try.f9) (c := Try.f9.body.getD .skip) (rs := Try.f9.results.toList) (nt := Try.f9.ntmps) EH_ok follows (by kernel_rfl) (by kernel_rfl) rfl rfl rfl [] rfl ?_
  refine ⟨_, awake10_at, ?_⟩
  refine ⟨(fun h => nomatch h), fun _ => ?_⟩
  refine ⟨_, glyph_at cs, ?_⟩
  refine ⟨_, spec_at s, ?_⟩
  generalize glyph cs = es at *
  generalize specG s = g at *
  have l1 := hi.2
  refine ⟨_, make_at hi hg, ?_⟩
  refine ⟨fun _ => ?_, (fun h => nomatch h)⟩
  have hlen : ((fieldTo es g g.h.toNat).length : Int) = w64 (g.w * g.h) := by
    have hw := hg.1
    have hh := hg.2.1
    have hm := mul_bd (x := g.w) (y := g.h) (B := 24) (C := 24) (by omega) (by omega)
    rw [fieldTo_len, w64_in (by omega), Int.natCast_mul, Int.toNat_of_nonneg (by omega), Int.toNat_of_nonneg (by omega), Int.mul_comm]
  refine if_ne (fun h => absurd hlen h) (fun _ => ?_)
  refine ⟨_, _, _, _, [], [], each_at g, (by refine ⟨?_, ?_, ?_, ?_, ?_, ?_⟩ <;> (repeat' (first | exact trivial | exact subR.refl _ | exact SameL.refl _ | assumption | exact congrArg (Value.int _) (by assumption) | exact congrArg (Value.int _) (Eq.symm (by assumption)) | exact rfl | exact Nat.le_of_ble_eq_true rfl | decide | apply And.intro))), ?_⟩
  refine ⟨Tx g.w.toNat g.h.toNat, 47, 4, 35, _, 5, 5, gvOf g, Tx.enc, _, tlSs, fun _ => bsSs es g, fun _ => [], fun _ _ => bsSs es g, fun _ _ => [], each1_sq (gd_24 hg), rfl, fun x => ⟨rfl, tx_one x⟩, fun _ => ⟨rfl, rfl, rfl⟩, ?_, fun pre x _ => ?_, fun _ _ => ⟨Nat.le_refl _, rfl⟩, fun _ _ _ => Ent.refl _ _, fun xs _ => ?_⟩
  · refine ent_of (rl := [(0, 1), (1, 6), (2, 10), (3, 18), (4, 36)]) (nl := []) ⟨rfl, ?_, ?_, trivial, rfl, rfl, (by first | exact Nat.zero_le _ | exact Nat.le_of_ble_eq_true rfl), trivial, ⟨⟨(by first | exact Nat.zero_le _ | exact Nat.le_of_ble_eq_true rfl), (by first | exact Nat.zero_le _ | exact Nat.le_of_ble_eq_true rfl)⟩, ⟨(by first | exact Nat.zero_le _ | exact Nat.le_of_ble_eq_true rfl), (by first | exact Nat.zero_le _ | exact Nat.le_of_ble_eq_true rfl)⟩, ⟨(by first | exact Nat.zero_le _ | exact Nat.le_of_ble_eq_true rfl), (by first | exact Nat.zero_le _ | exact Nat.le_of_ble_eq_true rfl)⟩, ⟨(by first | exact Nat.zero_le _ | exact Nat.le_of_ble_eq_true rfl), (by first | exact Nat.zero_le _ | exact Nat.le_of_ble_eq_true rfl)⟩, ⟨(by first | exact Nat.zero_le _ | exact Nat.le_of_ble_eq_true rfl), (by first | exact Nat.zero_le _ | exact Nat.le_of_ble_eq_true rfl)⟩, trivial⟩⟩ <;> (repeat' (first | exact trivial | exact SameL.refl _ | exact ep_seal rfl rfl | assumption | exact congrArg (Value.int _) (by assumption) | exact rfl | exact Nat.le_of_ble_eq_true rfl | decide | apply And.intro | apply all1 | apply all2 | apply all3 | apply all4 | apply all5))
  · obtain ⟨⟨i, k⟩, hi', hk'⟩ := x
    have hi' : i < g.w.toNat := hi'
    have hk' : k < g.h.toNat := hk'
    have hw := hg.1
    have hh := hg.2.1
    have hL := fieldTo_len es g g.h.toNat
    have m2 : (k + 1) * g.w.toNat ≤ g.h.toNat * g.w.toNat := Nat.mul_le_mul_right _ hk'
    have m1 : (k + 1) * g.w.toNat ≤ 24 * 24 := Nat.mul_le_mul (by omega) (by omega)
    have m3 : (k + 1) * g.w.toNat = k * g.w.toNat + g.w.toNat := by rw [Nat.add_mul, Nat.one_mul]
    have w0 : (k : Int) * g.w = ((k * g.w.toNat : Nat) : Int) := by rw [Int.natCast_mul, Int.toNat_of_nonneg (by omega)]
    have w1 : w64 (w64 ((k : Int) * g.w) + (i : Int)) = ((k * g.w.toNat + i : Nat) : Int) := by
      rw [w0, w64_in (n := ((k * g.w.toNat : Nat) : Int)) (by omega), w64_in (by omega)]; omega
    refine ⟨⟨by show 0 ≤ w64 _; rw [w1]; omega, by show w64 _ < _; rw [w1]; omega⟩, ?_⟩
    have hc := centre_in hg (i := i) (k := k) (by omega) (by omega)
    have ht : (fieldTo es g g.h.toNat).getD (Int.toNat (w64 (w64 ((k : Int) * g.w) + (i : Int)))) default = texel es g i k := by
      rw [w1, Int.toNat_natCast, fieldTo_get hk' hi']
    obtain ⟨s1, s2⟩ := texel_sign (i := i) (k := k) hi hg (by omega) (by omega)
    refine ⟨_, centre_at g i k, ?_⟩
    refine ⟨_, wIn_at hi hc, ?_⟩
    refine if_b (fun hb => ?_) (fun hb => ?_)
    · have q := s1 hb
      rw [← ht] at q
      refine if_dec_f (fun _ => ?_) (fun h => absurd h q)
      refine if_nb (fun h => absurd (hb.symm.trans h) (by decide)) (fun _ => ?_)
      refine ent_of (rl := []) (nl := []) ⟨rfl, ?_, ?_, trivial, rfl, rfl, (by first | exact Nat.zero_le _ | exact Nat.le_of_ble_eq_true rfl), trivial, trivial⟩ <;> (repeat' (first | exact trivial | exact SameL.refl _ | exact ep_seal rfl rfl | assumption | exact congrArg (Value.int _) (by assumption) | exact rfl | exact Nat.le_of_ble_eq_true rfl | decide | apply And.intro | apply all1 | apply all2 | apply all3 | apply all4 | apply all5))
    · have q := s2 hb
      rw [← ht] at q
      refine if_nb (fun _ => ?_) (fun h => by rw [hb] at h; cases h)
      refine if_dec (fun h => absurd h q) (fun _ => ?_)
      refine ent_of (rl := []) (nl := []) ⟨rfl, ?_, ?_, trivial, rfl, rfl, (by first | exact Nat.zero_le _ | exact Nat.le_of_ble_eq_true rfl), trivial, trivial⟩ <;> (repeat' (first | exact trivial | exact SameL.refl _ | exact ep_seal rfl rfl | assumption | exact congrArg (Value.int _) (by assumption) | exact rfl | exact Nat.le_of_ble_eq_true rfl | decide | apply And.intro | apply all1 | apply all2 | apply all3 | apply all4 | apply all5))
  · exact ⟨⟨kB rfl, trivial⟩, trivial⟩
theorem SdfSign_row : ∀ args, TyArgs tt 8 [45, 26] args → FnAt Try.prog 9 args [(false, [.lit (.bool true)])] := by
  intro args h
  obtain ⟨a1, a2, rfl, h1, h2⟩ := tyA2 h
  obtain ⟨l, cs, rfl, hcs⟩ := a_dots (k := 4) h1
  obtain ⟨s, rfl, hs⟩ := a_sp (k := 6) h2
  exact (sdfSign_at cs hs).args ⟨rfl, hcs, rfl, sameLs_refl _, trivial⟩
end Go.Proofs.Ytbfdpdbdkcekfaa
