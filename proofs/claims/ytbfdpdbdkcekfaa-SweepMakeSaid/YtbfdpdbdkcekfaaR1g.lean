/- SweepKnown, SweepMake. -/
import Derived.Test.YtbfdpdbdkcekfaaR1f
import Derived.Test.YtbfdpdbdkcekfaaR1d
namespace Go.Proofs.Ytbfdpdbdkcekfaa
open Go SX
set_option linter.unusedVariables false
set_option maxRecDepth 100000
set_option maxHeartbeats 1000000

noncomputable def SKn (l : List Int) (n : Nat) : SS := mkS
  [(7, .o (.sl true 1 l.length (rowOf ints l))), (8, .o (.sl true 1 l.length (rowOf ints l))), (28, .o (.v (.int .i64 l.length))), (29, .o (.v (.int .i64 n)))]
  [] [] 0 Try.f11.ntmps
theorem sweepKnown_at (cs : List (List Vx)) {s : Sp} (hs : spIn s) : FnAt Try.prog 11 [aSl dsL 1 cs, aSp s] [aB true] := by
  have hi := glyph_in cs
  have hg := spec_in hs
  refine fn_at (E := EE) (fn := Try.f11) (c := Try.f11.body.getD .skip) (rs := Try.f11.results.toList) (nt := Try.f11.ntmps) EE_ok follows (by kernel_rfl) (by kernel_rfl) rfl rfl rfl [] rfl ?_
  refine ⟨_, awake13_at, ?_⟩
  refine ⟨(fun h => nomatch h), fun _ => ?_⟩
  refine ⟨_, glyph_at cs, ?_⟩
  refine ⟨_, spec_at s, ?_⟩
  generalize glyph cs = es at *
  generalize specG s = g at *
  refine ⟨_, known_at hi hg, ?_⟩
  refine ⟨_, lknown_at hi hg, ?_⟩
  have hok := (knownL_ok (es := es) hg).1
  have hsz := szG_le hg
  generalize knownL es g = l at *
  refine if_ne (fun h => absurd rfl h) (fun _ => ?_)
  refine loop_nat l.length (SKn l) ?_ (fun n hn => ?_)
  · refine ent_of (rl := []) (nl := []) ⟨rfl, ?_, ?_, trivial, rfl, rfl, Nat.zero_le _, trivial, trivial⟩ <;> (repeat' (first | exact trivial | exact SameL.refl _ | exact ep_seal rfl rfl | assumption | exact congrArg (Value.int _) (by assumption) | exact rfl | exact Nat.le_of_ble_eq_true rfl | decide | apply And.intro))
  refine if_dec (fun hlt => ?_) (fun hge => ?_)
  rotate_left
  · exact ⟨⟨kB rfl, trivial⟩, trivial⟩
  have hlt : n < l.length := by omega
  have hn' := w64_succ hlt (by omega)
  refine ⟨⟨by omega, by omega⟩, ?_⟩
  refine ⟨⟨by omega, by omega⟩, ?_⟩
  refine if_ne (fun h => absurd rfl h) (fun _ => ?_)
  refine ⟨n + 1, ⟨Nat.lt_succ_self _, hlt⟩, ?_⟩
  refine ent_of (rl := []) (nl := []) ⟨rfl, ?_, ?_, trivial, rfl, rfl, Nat.zero_le _, trivial, trivial⟩ <;> (repeat' (first | exact trivial | exact SameL.refl _ | exact ep_seal rfl rfl | assumption | exact congrArg (Value.int _) (by assumption) | exact rfl | exact Nat.le_of_ble_eq_true rfl | decide | apply And.intro))
theorem if_nef {a b : Int} {A B : Prop} (h : a = b → A) (h' : a ≠ b → B) : ((a != b) = false → A) ∧ ((a != b) = true → B) := ⟨fun e => h (by simpa using e), fun e => h' (by simpa using e)⟩
theorem code_one {g : Gd} (hg : gdIn g) : codeN g.spread (-1) (w64 (256 * g.spread)) = 1 := texel_nil hg 0 0
noncomputable def SMq (es : List Ed) (g raw : Gd) (l t : List Int) (n : Nat) : SS := mkS
  [(5, .o (.p 0 0)), (7, .o (.sl true 4 (es.length) (rowOf Ed.ls es))), (8, .o (.p 1 0)), (9, .o (.p 2 0)), (58, .o (.sl true 1 (l.length) (rowOf ints l))), (59, .o (.v (.int .i64 l.length))), (60, .o (.v (.int .i64 n)))]
  [(0, 35, gdC' raw), (1, 35, gdC' g), (2, 39, [.v (.int .i64 g.w), .v (.int .i64 g.h), .sl true 1 t.length (rowOf bys t)])] [] 3 Try.f12.ntmps
theorem sweepMake_at (cs : List (List Vx)) {s : Sp} (hs : spIn s) (raw : Gd) : FnAt Try.prog 12 [aSl dsL 1 cs, aSp s, aGd raw] [aB true] := by
  have hi := glyph_in cs
  have hg := spec_in hs
  refine fn_at (E := EE) (fn := Try.f12) (c := Try.f12.body.getD .skip) (rs := Try.f12.results.toList) (nt := Try.f12.ntmps) EE_ok follows (by kernel_rfl) (by kernel_rfl) rfl rfl rfl [] rfl ?_
  refine ⟨_, awake13_at, ?_⟩
  refine ⟨(fun h => nomatch h), fun _ => ?_⟩
  refine ⟨_, glyph_at cs, ?_⟩
  refine ⟨_, spec_at s, ?_⟩
  generalize glyph cs = es at *
  generalize specG s = g at *
  have l1 := hi.2
  have hw := hg.1
  have hh := hg.2.1
  have hm := mul_bd (x := g.w) (y := g.h) (B := 24) (C := 24) (by omega) (by omega)
  have hLa : (genF (swTx es g (knownL es g)) g.w.toNat g.h.toNat).length = g.h.toNat * g.w.toNat := genF_len _ _ _
  have hL : ((genF (swTx es g (knownL es g)) g.w.toNat g.h.toNat).length : Int) = w64 (g.w * g.h) := by
    rw [hLa, w64_in (by omega), Int.natCast_mul, Int.toNat_of_nonneg (by omega), Int.toNat_of_nonneg (by omega), Int.mul_comm]
  have hsz := szG_le hg
  have hok := knownL_ok (es := es) hg
  refine ⟨_, smake_at hi hg, ?_⟩
  refine ⟨fun _ => ?_, (fun h => nomatch h)⟩
  refine if_nef (fun _ => ?_) (fun h => absurd rfl h)
  refine if_nef (fun _ => ?_) (fun h => absurd rfl h)
  refine if_ne (fun h => absurd hL h) (fun _ => ?_)
  refine ⟨_, lknown_at hi hg, ?_⟩
  have key : ∀ i k : Nat, k < g.h.toNat → i < g.w.toNat → (genF (swTx es g (knownL es g)) g.w.toNat g.h.toNat).getD (k * g.w.toNat + i) default =
      if 0 ≤ (knownL es g).getD (ixG g i k) default then codeN g.spread (sign es (centre g i k)) (eightF (sqN (es.getD ((knownL es g).getD (ixG g i k) default).toNat default) (centre g i k))) else 1 := fun i k h1 h2 => by
    rw [genF_get h1 h2]; unfold swTx; rw [code_one hg]
  generalize hA : genF (swTx es g (knownL es g)) g.w.toNat g.h.toNat = A at *
  generalize knownL es g = l at *
  have hl1 := hok.1
  refine loop_nat l.length (SMq es g raw l A) ?_ (fun n hn => ?_)
  · refine ent_of (rl := [(0, 1), (1, 10), (2, 18)]) (nl := []) ⟨rfl, ?_, ?_, trivial, rfl, rfl, Nat.zero_le _, trivial, ⟨⟨Nat.zero_le _, Nat.zero_le _⟩, ⟨Nat.zero_le _, Nat.zero_le _⟩, ⟨Nat.zero_le _, Nat.zero_le _⟩, trivial⟩⟩ <;> (repeat' (first | exact trivial | exact SameL.refl _ | exact ep_seal rfl rfl | assumption | exact congrArg (Value.int _) (by assumption) | exact rfl | exact Nat.le_of_ble_eq_true rfl | decide | apply And.intro))
  refine if_dec (fun hlt => ?_) (fun hge => ?_)
  rotate_left
  · by_cases hr : checkG raw = 0
    · refine ⟨_, smake_at hi (check_in.1 hr), ?_⟩
      refine ⟨_, check_at raw, ?_⟩
      exact ⟨⟨vB (beq_iff_eq.2 hr.symm).symm, trivial⟩, trivial⟩
    · refine ⟨_, smake_bad hr, ?_⟩
      refine ⟨_, check_at raw, ?_⟩
      exact ⟨⟨vB (beq_iff_eq.2 rfl).symm, trivial⟩, trivial⟩
  have hlt : n < l.length := by omega
  have hn' := w64_succ hlt (by omega)
  have hw0 : 0 < g.w.toNat := by omega
  have e : n = n / g.w.toNat * g.w.toNat + n % g.w.toNat := by have := Nat.div_add_mod n g.w.toNat; rw [Nat.mul_comm] at this; omega
  have hr := Nat.mod_lt n hw0
  have hq : n / g.w.toNat < g.h.toNat := Nat.div_lt_of_lt_mul (by rw [hl1] at hlt; unfold szG at hlt; rw [Nat.mul_comm]; exact hlt)
  have m1 : ((n : Int).tmod g.w) = ((n % g.w.toNat : Nat) : Int) := by rw [tmod_u (by omega) (by omega), Int.natCast_emod, Int.toNat_of_nonneg (by omega)]
  have m2 : w64 ((n : Int).tdiv g.w) = ((n / g.w.toNat : Nat) : Int) := by rw [Int.tdiv_eq_ediv_of_nonneg (by omega), w64_in (by have := Int.ediv_nonneg (a := (n : Int)) (b := g.w) (by omega) (by omega); have := Int.ediv_le_self (b := g.w) (show 0 ≤ (n : Int) by omega); omega), Int.natCast_ediv, Int.toNat_of_nonneg (by omega)]
  generalize n / g.w.toNat = k at *
  generalize n % g.w.toNat = i at *
  have hv := key i k hq hr
  rw [← e] at hv
  have hin : inG g i k := by unfold inG; omega
  have hnx : ixG g i k = n := by unfold ixG; rw [Int.toNat_natCast, Int.toNat_natCast]; exact e.symm
  rw [hnx] at hv
  have hm2 := hok.2 _ (getD_mem' (l := l) (i := n) hlt)
  have hc := centre_in hg (i := i) (k := k) (by unfold inG at hin; omega) (by unfold inG at hin; omega)
  have hce := centre_at g i k
  rw [← m1, ← m2] at hce hc hv
  have hce := hce
  refine ⟨⟨by omega, by omega⟩, ?_⟩
  refine ⟨by show g.w ≠ 0; omega, ?_⟩
  refine ⟨by show g.w ≠ 0; omega, ?_⟩
  refine ⟨_, hce, ?_⟩
  refine if_dec (fun q => ?_) (fun q => ?_)
  · have q : l.getD (Int.toNat (n : Int)) default ≥ 0 := q
    have q' := q
    rw [Int.toNat_natCast] at q'
    have he := hi.1 _ (getD_mem' (l := es) (i := (l.getD n default).toNat) (by omega))
    have hsq := square_at he hc
    have hsc := scaled_at (sqN_in he hc) (by have := eight_q (sqN_in he hc) (sqN_le he hc); omega)
    rw [if_pos (show 0 ≤ l.getD n default from q')] at hv
    refine ⟨_, sign_at hi hc, ?_⟩
    refine ⟨⟨q, by show l.getD (Int.toNat (n : Int)) default < _; rw [Int.toNat_natCast]; omega⟩, ?_⟩
    refine ⟨_, hsq, ?_⟩
    refine ⟨_, hsc, ?_⟩
    refine ⟨_, code_at g _ _ hg.2.2.2.2.2, ?_⟩
    refine ⟨⟨by omega, by show (n : Int) < (A.length : Int); unfold szG at hl1; omega⟩, ?_⟩
    refine if_ne (fun h => absurd hv h) (fun _ => ?_)
    refine ⟨n + 1, ⟨Nat.lt_succ_self _, hlt⟩, ?_⟩
    refine ent_of (rl := []) (nl := []) ⟨rfl, ?_, ?_, trivial, rfl, rfl, Nat.zero_le _, trivial, trivial⟩ <;> (repeat' (first | exact trivial | exact SameL.refl _ | exact ep_seal rfl rfl | assumption | exact congrArg (Value.int _) (by assumption) | exact rfl | exact Nat.le_of_ble_eq_true rfl | decide | apply And.intro))
  · have q : ¬ l.getD (Int.toNat (n : Int)) default ≥ 0 := q
    rw [Int.toNat_natCast] at q
    rw [if_neg (show ¬ 0 ≤ l.getD n default from q)] at hv
    refine ⟨⟨by omega, by show (n : Int) < (A.length : Int); unfold szG at hl1; omega⟩, ?_⟩
    refine if_ne (fun h => absurd hv h) (fun _ => ?_)
    refine ⟨n + 1, ⟨Nat.lt_succ_self _, hlt⟩, ?_⟩
    refine ent_of (rl := []) (nl := []) ⟨rfl, ?_, ?_, trivial, rfl, rfl, Nat.zero_le _, trivial, trivial⟩ <;> (repeat' (first | exact trivial | exact SameL.refl _ | exact ep_seal rfl rfl | assumption | exact congrArg (Value.int _) (by assumption) | exact rfl | exact Nat.le_of_ble_eq_true rfl | decide | apply And.intro))
theorem SweepKnown_row : ∀ args, TyArgs tt 8 [45, 26] args → FnAt Try.prog 11 args [(false, [.lit (.bool true)])] := row_css fun cs _ hs => sweepKnown_at cs hs
theorem SweepMake_row : ∀ args, TyArgs tt 8 [45, 26, 35] args → FnAt Try.prog 12 args [(false, [.lit (.bool true)])] := by
  intro args h
  obtain ⟨a1, a2, a3, rfl, h1, h2, h3⟩ := tyA3 h
  obtain ⟨l, cs, rfl, hcs⟩ := a_dots (k := 4) h1
  obtain ⟨s, rfl, hs⟩ := a_sp (k := 6) h2
  obtain ⟨g, rfl, hg⟩ := a_gd (k := 6) h3
  exact (sweepMake_at cs hs g).args ⟨rfl, hcs, rfl, sameLs_refl _, rfl, sameLs_refl _, trivial⟩
end Go.Proofs.Ytbfdpdbdkcekfaa
