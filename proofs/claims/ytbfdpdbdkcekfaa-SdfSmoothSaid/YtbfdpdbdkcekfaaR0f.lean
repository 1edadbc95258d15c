/- SdfSmooth: texels side by side. Plain law, and grid.At. -/
import Derived.Test.YtbfdpdbdkcekfaaR0e
import Derived.Test.YtbfdpdbdkcekfaaPj
namespace Go.Proofs.Ytbfdpdbdkcekfaa
open Go SX
set_option linter.unusedVariables false
set_option maxRecDepth 100000
set_option maxHeartbeats 1000000

theorem nOf_near {s e f p : Int} (hs : 1 ≤ s ∧ s ≤ 64) (hp : 0 ≤ p) (he : 0 ≤ e) (hf : 0 ≤ f) (h : e ≤ f + 256 * p + 1) : nOf s e ≤ nOf s f + 127 * p / s + 2 := by
  have hq : 0 ≤ 127 * p / s := Int.ediv_nonneg (by omega) (by omega)
  have h1 := nOf_in hs he
  by_cases hf' : f < 256 * s
  · have ha : nOf s e ≤ e * 127 / (256 * s) := by
      unfold nOf
      split
      · exact Int.le_refl _
      · rename_i hn
        refine Int.le_ediv_of_mul_le (by omega) ?_
        omega
    have hb : e * 127 / (256 * s) < f * 127 / (256 * s) + 127 * p / s + 2 := by
      refine Int.ediv_lt_of_lt_mul (by omega) ?_
      have c1 := Int.lt_mul_ediv_self_add (x := f * 127) (k := 256 * s) (by omega)
      have c2 := Int.lt_mul_ediv_self_add (x := 127 * p) (k := s) (by omega)
      generalize f * 127 / (256 * s) = x at *
      generalize 127 * p / s = y at *
      have e1 : 256 * s * x = 256 * (s * x) := by grind
      have e2 : (x + y + 2) * (256 * s) = 256 * (s * x) + 256 * (s * y) + 512 * s := by grind
      generalize s * x = u at *
      generalize s * y = v at *
      omega
    have hc : nOf s f = f * 127 / (256 * s) := by unfold nOf; rw [if_pos hf']
    omega
  · have hc : nOf s f = 127 := by unfold nOf; rw [if_neg hf']
    omega
theorem nOf_sum {s e f p : Int} (hs : 1 ≤ s ∧ s ≤ 64) (he : 0 ≤ e) (hf : 0 ≤ f) (h : e + f ≤ 256 * p) : nOf s e + nOf s f ≤ 127 * p / s := by
  have ha : ∀ e : Int, 0 ≤ e → nOf s e ≤ e * 127 / (256 * s) := fun e he => by
    unfold nOf
    split
    · exact Int.le_refl _
    · rename_i hn
      refine Int.le_ediv_of_mul_le (by omega) ?_
      omega
  refine Int.le_ediv_of_mul_le (by omega) ?_
  have a := ha e he
  have b := ha f hf
  have c1 := Int.ediv_mul_le (e * 127) (b := 256 * s) (by omega)
  have c2 := Int.ediv_mul_le (f * 127) (b := 256 * s) (by omega)
  have d1 := Int.mul_le_mul_of_nonneg_right a (show 0 ≤ 256 * s by omega)
  have d2 := Int.mul_le_mul_of_nonneg_right b (show 0 ≤ 256 * s by omega)
  generalize nOf s e = x at *
  generalize nOf s f = y at *
  have e1 : x * (256 * s) = 256 * (x * s) := by grind
  have e2 : y * (256 * s) = 256 * (y * s) := by grind
  have e3 : (x + y) * s = x * s + y * s := by grind
  generalize x * s = u at *
  generalize y * s = v at *
  omega
theorem eight_on {es : List Ed} {p : Pt} (h : edsIn es) (hp : ptIn 33000 p) (hon : es.any (onE p) = true) : eight es p ≤ 0 := by
  rw [List.any_eq_true] at hon
  obtain ⟨e, he, ho⟩ := hon
  have ho : ((sqN e p).num == 0) = true := ho
  have h1 := eight_le h hp he
  have hf := sqN_in (h.1 e he) hp
  obtain ⟨x0, x1, _⟩ := eightF_ok hf
  unfold frIn at hf
  rw [beq_iff_eq.1 ho] at x1
  generalize eightF (sqN e p) = x at *
  rcases Int.lt_or_le 0 x with h' | h'
  · have := Int.mul_pos (Int.mul_pos h' h') (show 0 < (sqN e p).den by omega)
    omega
  · omega
theorem ctr_step {g : Gd} (hg : gdIn g) {i k i' k' : Int} (hi : 0 ≤ i ∧ i < 24) (hk : 0 ≤ k ∧ k < 24) (hi' : 0 ≤ i' ∧ i' < 24) (hk' : 0 ≤ k' ∧ k' < 24) (hn : (i' = i + 1 ∧ k' = k) ∨ (i' = i ∧ k' = k + 1)) :
    ((centre g i' k').x = (centre g i k).x + 32 * g.pitch ∧ (centre g i' k').y = (centre g i k).y) ∨ ((centre g i' k').x = (centre g i k).x ∧ (centre g i' k').y = (centre g i k).y + 32 * g.pitch) := by
  rw [centre_eq hg (by omega) (by omega), centre_eq hg (by omega) (by omega)]
  dsimp only
  rcases hn with ⟨rfl, rfl⟩ | ⟨rfl, rfl⟩
  · left
    rw [Int.mul_add]; omega
  · right
    rw [Int.mul_add]; omega
theorem way_sq {a b : Pt} {d : Int} (h : (b.x = a.x + d ∧ b.y = a.y) ∨ (b.x = a.x ∧ b.y = a.y + d)) : dt (way a b) (way a b) = d * d ∧ dt (way b a) (way b a) = d * d := by
  unfold dt way
  dsimp only
  rcases h with ⟨h1, h2⟩ | ⟨h1, h2⟩ <;> (rw [h1, h2]; constructor <;> grind)
theorem texel_near {l : List (List Ed)} {g : Gd} (hc : ∀ es ∈ l, closedE es) (hi' : edsIn l.flatten) (hg : gdIn g) {i k i' k' : Int} (hi : 0 ≤ i ∧ i < 24) (hk : 0 ≤ k ∧ k < 24) (hI : 0 ≤ i' ∧ i' < 24) (hK : 0 ≤ k' ∧ k' < 24)
    (hn : (i' = i + 1 ∧ k' = k) ∨ (i' = i ∧ k' = k + 1)) : texel l.flatten g i' k' - texel l.flatten g i k ≤ 127 * g.pitch / g.spread + 4 ∧ texel l.flatten g i k - texel l.flatten g i' k' ≤ 127 * g.pitch / g.spread + 4 := by
  have hs := hg.2.2.2.2.2
  have hp := hg.2.2.2.2.1
  have hq : 0 ≤ 127 * g.pitch / g.spread := Int.ediv_nonneg (by omega) (by omega)
  rcases Nat.eq_zero_or_pos l.flatten.length with h0 | h0
  · rw [List.eq_nil_of_length_eq_zero h0, texel_nil hg, texel_nil hg]; omega
  have hne : ∀ e ∈ l.flatten, e.a ≠ e.b := fun e he => by
    obtain ⟨es, h1, h2⟩ := List.mem_flatten.1 he
    obtain ⟨b, hb⟩ := hc es h1
    exact (hb.2 e h2).2
  have ca := centre_in hg hi hk
  have cb := centre_in hg hI hK
  have hst := ctr_step hg hi hk hI hK hn
  obtain ⟨w1, w2⟩ := way_sq hst
  obtain ⟨v1, v2, v3⟩ := texel_val hi' hg hi hk h0
  obtain ⟨u1, u2, u3⟩ := texel_val hi' hg hI hK h0
  have ga := eight_ge0 hi' ca h0
  have gb := eight_ge0 hi' cb h0
  have sum := eight_sum hc hi' ca cb (d := 32 * g.pitch) (by omega) hst
  have hsq : 64 * (32 * g.pitch * (32 * g.pitch)) < (256 * g.pitch + 1) * (256 * g.pitch + 1) := by
    have e1 : 64 * (32 * g.pitch * (32 * g.pitch)) = 65536 * (g.pitch * g.pitch) := by grind
    have e2 : (256 * g.pitch + 1) * (256 * g.pitch + 1) = 65536 * (g.pitch * g.pitch) + 512 * g.pitch + 1 := by grind
    omega
  have d1 := eight_step hi' hne ca cb (s := 256 * g.pitch) (by omega) (by rw [w1]; exact hsq)
  have d2 := eight_step hi' hne cb ca (s := 256 * g.pitch) (by omega) (by rw [w2]; exact hsq)
  have z1 := eight_on (es := l.flatten) hi' ca
  have z2 := eight_on (es := l.flatten) hi' cb
  rw [v1, u1]
  generalize centre g i k = a at *
  generalize centre g i' k' = b at *
  generalize l.flatten = es at *
  have t1 := nOf_near hs (p := g.pitch) (by omega) ga gb (by omega)
  have t2 := nOf_near hs (p := g.pitch) (by omega) gb ga (by omega)
  have t3 := fun h => nOf_sum hs (p := g.pitch) ga gb h
  have n0 : nOf g.spread 0 = 0 := by unfold nOf; rw [if_pos (by omega)]; simp
  unfold sign
  generalize hA : es.any (onE a) = A at *
  generalize hB : es.any (onE b) = B at *
  cases A <;> cases B
  · rw [if_neg (show ¬ (false = true) by decide), if_neg (show ¬ (false = true) by decide)]
    by_cases ha : windN es a = 0 <;> by_cases hb : windN es b = 0
    · rw [if_neg (show ¬ windN es a ≠ 0 from fun h => h ha), if_neg (show ¬ windN es b ≠ 0 from fun h => h hb)]; omega
    · rw [if_neg (show ¬ windN es a ≠ 0 from fun h => h ha), if_pos (show windN es b ≠ 0 from hb)]
      have := t3 (by have := sum (by rw [ha]; exact fun h => hb h.symm); omega)
      omega
    · rw [if_pos (show windN es a ≠ 0 from ha), if_neg (show ¬ windN es b ≠ 0 from fun h => h hb)]
      have := t3 (by have := sum (by rw [hb]; exact ha); omega)
      omega
    · rw [if_pos (show windN es a ≠ 0 from ha), if_pos (show windN es b ≠ 0 from hb)]; omega
  · have e0 : eight es b = 0 := by have := z2 rfl; omega
    rw [e0] at t1 t2 ⊢
    rw [n0] at t1 t2 ⊢
    rw [if_pos rfl, if_neg (show ¬ (false = true) by decide)]
    split <;> omega
  · have e0 : eight es a = 0 := by have := z1 rfl; omega
    rw [e0] at t1 t2 ⊢
    rw [n0] at t1 t2 ⊢
    rw [if_neg (show ¬ (false = true) by decide), if_pos rfl]
    split <;> omega
  · rw [if_pos rfl, if_pos rfl]; omega
theorem at_in {w h i k : Int} {t : List Int} (hi : 0 ≤ i ∧ i < w) (hk : 0 ≤ k ∧ k < h) (hl : w64 (w64 (k * w) + i) < t.length) (h0 : 0 ≤ w64 (w64 (k * w) + i)) : FnAt Try.prog 32 [aFd w h t, aI i, aI k] [aU8' (t.getD (Int.toNat (w64 (w64 (k * w) + i))) default), aB true] := by
  refine fn_at (E := EE) (fn := Try.f32) (c := Try.f32.body.getD .skip) (rs := Try.f32.results.toList) (nt := Try.f32.ntmps) EE_ok follows (by kernel_rfl) (by kernel_rfl) rfl rfl rfl [] rfl ?_
  refine if_dec_f (fun _ => ?_) (fun q => absurd (show i < 0 from q) (by omega))
  refine if_dec_f (fun _ => ?_) (fun q => absurd (show k < 0 from q) (by omega))
  refine if_dec_f (fun _ => ?_) (fun q => absurd (show i ≥ w from q) (by omega))
  refine if_dec_f (fun _ => ?_) (fun q => absurd (show k ≥ h from q) (by omega))
  refine if_dec (fun q => absurd (show w64 (w64 (k * w) + i) ≥ (t.length : Int) from q) (by omega)) (fun _ => ?_)
  refine ⟨⟨h0, hl⟩, ?_⟩
  exact ⟨⟨rfl, trivial⟩, ⟨kB rfl, trivial⟩, trivial⟩
theorem at_out {w h i k : Int} {t : List Int} (hi : 0 ≤ i) (hk : 0 ≤ k) (ho : w ≤ i ∨ h ≤ k) : FnAt Try.prog 32 [aFd w h t, aI i, aI k] [aU8' 0, aB false] := by
  refine fn_at (E := EE) (fn := Try.f32) (c := Try.f32.body.getD .skip) (rs := Try.f32.results.toList) (nt := Try.f32.ntmps) EE_ok follows (by kernel_rfl) (by kernel_rfl) rfl rfl rfl [] rfl ?_
  refine if_dec_f (fun _ => ?_) (fun q => absurd (show i < 0 from q) (by omega))
  refine if_dec_f (fun _ => ?_) (fun q => absurd (show k < 0 from q) (by omega))
  refine if_dec_f (fun q1 => ?_) (fun q => ?_)
  rotate_left
  · exact ⟨⟨kI rfl, trivial⟩, ⟨kB rfl, trivial⟩, trivial⟩
  refine if_dec_f (fun q2 => ?_) (fun q => ?_)
  rotate_left
  · exact ⟨⟨kI rfl, trivial⟩, ⟨kB rfl, trivial⟩, trivial⟩
  have q1 : ¬ i ≥ w := q1
  have q2 : ¬ k ≥ h := q2
  omega
@[reducible] def tlSo : List (Nat × SV) := [(4, .o (.p 0 0)), (6, .o (.p 1 0)), (7, .o (.p 2 0)), (9, .o (.p 3 0)), (50, .o (.f 47 [4]))]
@[reducible] noncomputable def bsSo (es : List Ed) (g : Gd) : List (Nat × Nat × List C) :=
  [(0, 4, [.any]), (1, 35, gdC g), (2, 39, [.v (.int .i64 g.w), .v (.int .i64 g.h), .sl true 1 (fieldTo es g g.h.toNat).length (rowOf bys (fieldTo es g g.h.toNat))]), (3, 3, [.v (.int .i64 (w64 (w64 ((w64 (127 * g.pitch)).tdiv g.spread) + 4)))]), (4, 35, gdC g)]
theorem sdfSmooth_at (cs : List (List Vx)) {s : Sp} (hs : spIn s) : FnAt Try.prog 10 [aSl dsL 1 cs, aSp s] [aB true] := by
  have hi := glyph_in cs
  have hg := spec_in hs
  have hnear := fun {i k i' k' : Int} h1 h2 h3 h4 h5 => texel_near (g := specG s) (i := i) (k := k) (i' := i') (k' := k') (fun es he => (contours_ok (cs := cs) es he).1) (by rw [← glyph_flat]; exact hi) hg h1 h2 h3 h4 h5
  rw [← glyph_flat] at hnear
  refine fn_at (E := EH) (fn := Try.f10) (c := Try.f10.body.getD .skip) (rs := Try.f10.results.toList) (nt := Try.f10.ntmps) EH_ok follows (by kernel_rfl) (by kernel_rfl) rfl rfl rfl [] rfl ?_
  refine ⟨_, awake10_at, ?_⟩
  refine ⟨(fun h => nomatch h), fun _ => ?_⟩
  refine ⟨_, glyph_at cs, ?_⟩
  refine ⟨_, spec_at s, ?_⟩
  generalize glyph cs = es at *
  generalize specG s = g at *
  have l1 := hi.2
  refine ⟨_, make_at hi hg, ?_⟩
  refine ⟨fun _ => ?_, (fun h => nomatch h)⟩
  have hlen : ((fieldTo es g g.h.toNat).length : Int) = w64 (g.w * g.h) := by
    have hw := hg.1
    have hh := hg.2.1
    have hm := mul_bd (x := g.w) (y := g.h) (B := 24) (C := 24) (by omega) (by omega)
    rw [fieldTo_len, w64_in (by omega), Int.natCast_mul, Int.toNat_of_nonneg (by omega), Int.toNat_of_nonneg (by omega), Int.mul_comm]
  refine if_ne (fun h => absurd hlen h) (fun _ => ?_)
  refine ⟨by show g.spread ≠ 0; have := hg.2.2.2.2.2; omega, ?_⟩
  refine ⟨_, _, _, _, [], [], each_at g, (by refine ⟨?_, ?_, ?_, ?_, ?_, ?_⟩ <;> (repeat' (first | exact trivial | exact subR.refl _ | exact SameL.refl _ | assumption | exact congrArg (Value.int _) (by assumption) | exact congrArg (Value.int _) (Eq.symm (by assumption)) | exact rfl | exact Nat.le_of_ble_eq_true rfl | decide | apply And.intro))), ?_⟩
  refine ⟨Tx g.w.toNat g.h.toNat, 47, 4, 35, _, 5, 5, gvOf g, Tx.enc, _, tlSo, fun _ => bsSo es g, fun _ => [], fun _ _ => bsSo es g, fun _ _ => [], each1_sq (gd_24 hg), rfl, fun x => ⟨rfl, tx_one x⟩, fun _ => ⟨rfl, rfl, rfl⟩, ?_, fun pre x _ => ?_, fun _ _ => ⟨Nat.le_refl _, rfl⟩, fun _ _ _ => Ent.refl _ _, fun xs _ => ?_⟩
  · refine ent_of (rl := [(0, 1), (1, 9), (2, 17), (3, 40), (4, 44)]) (nl := []) ⟨rfl, ?_, ?_, trivial, rfl, rfl, (by first | exact Nat.zero_le _ | exact Nat.le_of_ble_eq_true rfl), trivial, ⟨⟨(by first | exact Nat.zero_le _ | exact Nat.le_of_ble_eq_true rfl), (by first | exact Nat.zero_le _ | exact Nat.le_of_ble_eq_true rfl)⟩, ⟨(by first | exact Nat.zero_le _ | exact Nat.le_of_ble_eq_true rfl), (by first | exact Nat.zero_le _ | exact Nat.le_of_ble_eq_true rfl)⟩, ⟨(by first | exact Nat.zero_le _ | exact Nat.le_of_ble_eq_true rfl), (by first | exact Nat.zero_le _ | exact Nat.le_of_ble_eq_true rfl)⟩, ⟨(by first | exact Nat.zero_le _ | exact Nat.le_of_ble_eq_true rfl), (by first | exact Nat.zero_le _ | exact Nat.le_of_ble_eq_true rfl)⟩, ⟨(by first | exact Nat.zero_le _ | exact Nat.le_of_ble_eq_true rfl), (by first | exact Nat.zero_le _ | exact Nat.le_of_ble_eq_true rfl)⟩, trivial⟩⟩ <;> (repeat' (first | exact trivial | exact SameL.refl _ | exact ep_seal rfl rfl | assumption | exact congrArg (Value.int _) (by assumption) | exact rfl | exact Nat.le_of_ble_eq_true rfl | decide | apply And.intro | apply all1 | apply all2 | apply all3 | apply all4 | apply all5))
  · obtain ⟨⟨i, k⟩, hi', hk'⟩ := x
    have hi' : i < g.w.toNat := hi'
    have hk' : k < g.h.toNat := hk'
    have hw := hg.1
    have hh := hg.2.1
    have hL := fieldTo_len es g g.h.toNat
    have m2 : (k + 1) * g.w.toNat ≤ g.h.toNat * g.w.toNat := Nat.mul_le_mul_right _ hk'
    have m1 : (k + 1) * g.w.toNat ≤ 24 * 24 := Nat.mul_le_mul (by omega) (by omega)
    have m3 : (k + 1) * g.w.toNat = k * g.w.toNat + g.w.toNat := by rw [Nat.add_mul, Nat.one_mul]
    have w0 : (k : Int) * g.w = ((k * g.w.toNat : Nat) : Int) := by rw [Int.natCast_mul, Int.toNat_of_nonneg (by omega)]
    have w1 : w64 (w64 ((k : Int) * g.w) + (i : Int)) = ((k * g.w.toNat + i : Nat) : Int) := by
      rw [w0, w64_in (n := ((k * g.w.toNat : Nat) : Int)) (by omega), w64_in (by omega)]; omega
    have ht : (fieldTo es g g.h.toNat).getD (Int.toNat (w64 (w64 ((k : Int) * g.w) + (i : Int)))) default = texel es g i k := by
      rw [w1, Int.toNat_natCast, fieldTo_get hk' hi']
    have i1 : w64 ((i : Int) + 1) = ((i + 1 : Nat) : Int) := by rw [w64_in (by omega)]; omega
    have i0 : w64 ((i : Int) + 0) = (i : Int) := by rw [w64_in (by omega)]; omega
    have k1 : w64 ((k : Int) + 1) = ((k + 1 : Nat) : Int) := by rw [w64_in (by omega)]; omega
    have k0 : w64 ((k : Int) + 0) = (k : Int) := by rw [w64_in (by omega)]; omega
    have tin := fun i k => texel_in es g i k
    have hmost : w64 (w64 ((w64 (127 * g.pitch)).tdiv g.spread) + 4) = 127 * g.pitch / g.spread + 4 := by
      have hp := hg.2.2.2.2.1
      have hsp := hg.2.2.2.2.2
      have q1 := Int.ediv_nonneg (a := 127 * g.pitch) (b := g.spread) (by omega) (by omega)
      have q2 := Int.ediv_le_self (b := g.spread) (show 0 ≤ 127 * g.pitch by omega)
      rw [w64_in (n := 127 * g.pitch) (by omega), Int.tdiv_eq_ediv_of_nonneg (by omega), w64_in (n := 127 * g.pitch / g.spread) (by omega), w64_in (by omega)]
    have key : ∀ a b m : Int, 0 ≤ a ∧ a ≤ 255 → 0 ≤ b ∧ b ≤ 255 → a - b ≤ m → b - a ≤ m → ¬ max2I (w64 (w64 a - w64 b)) (w64 (0 - w64 (w64 a - w64 b))) > m := fun a b m h1 h2 h3 h4 => by
      rw [w64_in (n := a) (by omega), w64_in (n := b) (by omega), w64_in (n := a - b) (by omega), w64_in (n := 0 - (a - b)) (by omega)]
      unfold max2I
      split <;> omega
    have hL' : (fieldTo es g g.h.toNat).length = g.h.toNat * g.w.toNat := hL
    have at1 : ∃ c ok, FnAt Try.prog 32 [aFd g.w g.h (fieldTo es g g.h.toNat), aI (w64 ((i : Int) + 1)), aI (w64 ((k : Int) + 0))] [aU8' c, aB ok] ∧ (0 ≤ c ∧ c ≤ 255) ∧ (ok = true → c - texel es g i k ≤ 127 * g.pitch / g.spread + 4 ∧ texel es g i k - c ≤ 127 * g.pitch / g.spread + 4) := by
      by_cases hr : i + 1 < g.w.toNat
      · have w2 : w64 (w64 (w64 ((k : Int) + 0) * g.w) + w64 ((i : Int) + 1)) = ((k * g.w.toNat + (i + 1) : Nat) : Int) := by
          rw [i1, k0, w0, w64_in (n := ((k * g.w.toNat : Nat) : Int)) (by omega), w64_in (by omega)]; omega
        refine ⟨_, true, at_in (by rw [i1]; omega) (by rw [k0]; omega) (by rw [w2]; omega) (by rw [w2]; omega), ?_, fun _ => ?_⟩
        · rw [w2, Int.toNat_natCast, fieldTo_get hk' hr]; exact tin _ _
        · rw [w2, Int.toNat_natCast, fieldTo_get hk' hr]
          exact hnear (by omega) (by omega) (by omega) (by omega) (.inl ⟨by omega, rfl⟩)
      · exact ⟨0, false, at_out (by rw [i1]; omega) (by rw [k0]; omega) (by rw [i1]; omega), by decide, fun h => by cases h⟩
    have at2 : ∃ c ok, FnAt Try.prog 32 [aFd g.w g.h (fieldTo es g g.h.toNat), aI (w64 ((i : Int) + 0)), aI (w64 ((k : Int) + 1))] [aU8' c, aB ok] ∧ (0 ≤ c ∧ c ≤ 255) ∧ (ok = true → c - texel es g i k ≤ 127 * g.pitch / g.spread + 4 ∧ texel es g i k - c ≤ 127 * g.pitch / g.spread + 4) := by
      by_cases hr : k + 1 < g.h.toNat
      · have m4 : (k + 1 + 1) * g.w.toNat ≤ g.h.toNat * g.w.toNat := Nat.mul_le_mul_right _ hr
        have m5 : (k + 1 + 1) * g.w.toNat = (k + 1) * g.w.toNat + g.w.toNat := by rw [Nat.add_mul, Nat.one_mul]
        have w2 : w64 (w64 (w64 ((k : Int) + 1) * g.w) + w64 ((i : Int) + 0)) = (((k + 1) * g.w.toNat + i : Nat) : Int) := by
          have e : ((k + 1 : Nat) : Int) * g.w = (((k + 1) * g.w.toNat : Nat) : Int) := by rw [Int.natCast_mul, Int.toNat_of_nonneg (by omega)]
          rw [i0, k1, e, w64_in (n := (((k + 1) * g.w.toNat : Nat) : Int)) (by omega), w64_in (by omega)]; omega
        refine ⟨_, true, at_in (by rw [i0]; omega) (by rw [k1]; omega) (by rw [w2]; omega) (by rw [w2]; omega), ?_, fun _ => ?_⟩
        · rw [w2, Int.toNat_natCast, fieldTo_get hr hi']; exact tin _ _
        · rw [w2, Int.toNat_natCast, fieldTo_get hr hi']
          exact hnear (by omega) (by omega) (by omega) (by omega) (.inr ⟨rfl, by omega⟩)
      · exact ⟨0, false, at_out (by rw [i0]; omega) (by rw [k1]; omega) (by rw [k1]; omega), by decide, fun h => by cases h⟩
    obtain ⟨c1, o1, f1, b1, g1⟩ := at1
    obtain ⟨c2, o2, f2, b2, g2⟩ := at2
    have hb : 0 ≤ w64 (w64 ((k : Int) * g.w) + (i : Int)) ∧ w64 (w64 ((k : Int) * g.w) + (i : Int)) < ((fieldTo es g g.h.toNat).length : Int) := by rw [w1]; omega
    have q1 := fun h => key c1 (texel es g i k) _ b1 (tin _ _) (g1 h).1 (g1 h).2
    have q2 := fun h => key c2 (texel es g i k) _ b2 (tin _ _) (g2 h).1 (g2 h).2
    rw [← hmost, ← ht] at q1 q2
    refine .inl ⟨3, ?_⟩
    refine ⟨_, f1, ?_⟩
    refine ⟨hb, ?_⟩
    refine if_b (fun h => ?_) (fun _ => ?_)
    · refine if_dec (fun q => absurd q (q1 h)) (fun _ => ?_)
      refine ⟨_, f2, ?_⟩
      refine ⟨hb, ?_⟩
      refine if_b (fun h' => ?_) (fun _ => ?_)
      · refine if_dec (fun q => absurd q (q2 h')) (fun _ => ?_)
        refine ent_of (rl := []) (nl := []) ⟨rfl, ?_, ?_, trivial, rfl, rfl, (by first | exact Nat.zero_le _ | exact Nat.le_of_ble_eq_true rfl), trivial, trivial⟩ <;> (repeat' (first | exact trivial | exact SameL.refl _ | exact ep_seal rfl rfl | assumption | exact congrArg (Value.int _) (by assumption) | exact rfl | exact Nat.le_of_ble_eq_true rfl | decide | apply And.intro | apply all1 | apply all2 | apply all3 | apply all4 | apply all5))
      · refine ent_of (rl := []) (nl := []) ⟨rfl, ?_, ?_, trivial, rfl, rfl, (by first | exact Nat.zero_le _ | exact Nat.le_of_ble_eq_true rfl), trivial, trivial⟩ <;> (repeat' (first | exact trivial | exact SameL.refl _ | exact ep_seal rfl rfl | assumption | exact congrArg (Value.int _) (by assumption) | exact rfl | exact Nat.le_of_ble_eq_true rfl | decide | apply And.intro | apply all1 | apply all2 | apply all3 | apply all4 | apply all5))
    · refine ⟨_, f2, ?_⟩
      refine ⟨hb, ?_⟩
      refine if_b (fun h' => ?_) (fun _ => ?_)
      · refine if_dec (fun q => absurd q (q2 h')) (fun _ => ?_)
        refine ent_of (rl := []) (nl := []) ⟨rfl, ?_, ?_, trivial, rfl, rfl, (by first | exact Nat.zero_le _ | exact Nat.le_of_ble_eq_true rfl), trivial, trivial⟩ <;> (repeat' (first | exact trivial | exact SameL.refl _ | exact ep_seal rfl rfl | assumption | exact congrArg (Value.int _) (by assumption) | exact rfl | exact Nat.le_of_ble_eq_true rfl | decide | apply And.intro | apply all1 | apply all2 | apply all3 | apply all4 | apply all5))
      · refine ent_of (rl := []) (nl := []) ⟨rfl, ?_, ?_, trivial, rfl, rfl, (by first | exact Nat.zero_le _ | exact Nat.le_of_ble_eq_true rfl), trivial, trivial⟩ <;> (repeat' (first | exact trivial | exact SameL.refl _ | exact ep_seal rfl rfl | assumption | exact congrArg (Value.int _) (by assumption) | exact rfl | exact Nat.le_of_ble_eq_true rfl | decide | apply And.intro | apply all1 | apply all2 | apply all3 | apply all4 | apply all5))
  · exact ⟨⟨kB rfl, trivial⟩, trivial⟩
theorem SdfSmooth_row : ∀ args, TyArgs tt 8 [45, 26] args → FnAt Try.prog 10 args [(false, [.lit (.bool true)])] := by
  intro args h
  obtain ⟨a1, a2, rfl, h1, h2⟩ := tyA2 h
  obtain ⟨l, cs, rfl, hcs⟩ := a_dots (k := 4) h1
  obtain ⟨s, rfl, hs⟩ := a_sp (k := 6) h2
  exact (sdfSmooth_at cs hs).args ⟨rfl, hcs, rfl, sameLs_refl _, trivial⟩
end Go.Proofs.Ytbfdpdbdkcekfaa
