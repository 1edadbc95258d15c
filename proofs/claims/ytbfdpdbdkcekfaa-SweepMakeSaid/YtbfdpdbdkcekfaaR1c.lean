/- The contract of sweep.Make. -/
import Derived.Test.YtbfdpdbdkcekfaaR1b
namespace Go.Proofs.Ytbfdpdbdkcekfaa
open Go SX
set_option linter.unusedVariables false
set_option maxRecDepth 100000
set_option maxHeartbeats 1000000

/-- a field, texel by texel -/
def genF (f : Nat → Nat → Int) (W H : Nat) : List Int := (txs W H).map fun p => f p.1 p.2
def genTo {W H : Nat} (f : Nat → Nat → Int) (pre : List (Tx W H)) : List Int := pre.map fun x => f x.1.1 x.1.2
theorem genTo_snoc {W H : Nat} (f : Nat → Nat → Int) (pre : List (Tx W H)) (x : Tx W H) : genTo f (pre ++ [x]) = genTo f pre ++ [f x.1.1 x.1.2] := by unfold genTo; rw [List.map_append]; rfl
theorem genTo_full {W H : Nat} {f : Nat → Nat → Int} {xs : List (Tx W H)} (h : xs.map (·.1) = txs W H) : genTo f xs = genF f W H := by
  unfold genTo genF
  rw [← h, List.map_map]
  rfl
theorem genTo_len {W H : Nat} (f : Nat → Nat → Int) (pre : List (Tx W H)) : (genTo f pre).length = pre.length := List.length_map ..
theorem genF_len (f : Nat → Nat → Int) (W H : Nat) : (genF f W H).length = H * W := by unfold genF; rw [List.length_map, txs_len]
noncomputable def swTx (es : List Ed) (g : Gd) (l : List Int) (i k : Nat) : Int :=
  if 0 ≤ l.getD (ixG g i k) default then codeN g.spread (sign es (centre g i k)) (eightF (sqN (es.getD (l.getD (ixG g i k) default).toNat default) (centre g i k)))
  else codeN g.spread (-1) (w64 (256 * g.spread))
theorem knownL_ok {es : List Ed} {g : Gd} (hg : gdIn g) : atOK es g (knownL es g) := row2_ok hg (row1_ok hg (seedTo_ok (Nat.le_refl _)) _) _
@[reducible] def tlSm : List (Nat × SV) := [(2, .o (.p 0 0)), (3, .o (.p 1 0)), (4, .o (.p 2 0)), (7, .o (.p 3 0)), (8, .o (.p 4 0)), (30, .o (.f 47 [5]))]
@[reducible] noncomputable def bsSm (es : List Ed) (g : Gd) (l : List Int) (r : Nat) : List (Nat × Nat × List C) :=
  [(0, 33, [.sl false 4 es.length (rowOf Ed.ls es)]), (1, 35, gdC' g), (2, 39, [.any, .any, .any]), (3, 39, [.v (.int .i64 g.w), .v (.int .i64 g.h), .h r]), (4, 65, [.sl true 1 l.length (rowOf ints l)]), (5, 35, gdC' g)]
theorem gd_24' {g : Gd} (h : gdIn g) : 0 ≤ g.w ∧ g.w ≤ 1000 ∧ 0 ≤ g.h ∧ g.h ≤ 1000 := by unfold gdIn at h; omega
theorem tx_in {g : Gd} (hg : gdIn g) (x : Tx g.w.toNat g.h.toNat) : (x.1.1 < g.w.toNat ∧ x.1.2 < g.h.toNat) ∧ inG g (x.1.1 : Int) (x.1.2 : Int) ∧ ptIn 33000 (centre g (x.1.1 : Int) (x.1.2 : Int)) ∧ ixG g (x.1.1 : Int) (x.1.2 : Int) = x.1.2 * g.w.toNat + x.1.1 := by
  obtain ⟨⟨i, k⟩, hi, hk⟩ := x
  have hi : i < g.w.toNat := hi
  have hk : k < g.h.toNat := hk
  have hw := hg.1
  have hh := hg.2.1
  refine ⟨⟨hi, hk⟩, ?_, centre_in hg (by dsimp only; omega) (by dsimp only; omega), by unfold ixG; rfl⟩
  unfold inG; dsimp only; omega
theorem smake_at {es : List Ed} {g : Gd} (hes : edsIn es) (hg : gdIn g) : FnAt Try.prog 19 [aEds es, aGd g] [aFd g.w g.h (genF (swTx es g (knownL es g)) g.w.toNat g.h.toNat), aI 0] := by
  have hok := knownL_ok (es := es) hg
  have hkn := known_at hes hg
  generalize knownL es g = l at *
  refine fn_at (E := EH) (fn := Try.f19) (c := Try.f19.body.getD .skip) (rs := Try.f19.results.toList) (nt := Try.f19.ntmps) EH_ok follows (by kernel_rfl) (by kernel_rfl) rfl rfl rfl [] rfl ?_
  have hc := check_at g
  rw [check_in.2 hg] at hc
  refine ⟨_, hc, ?_⟩
  refine if_ne (fun h => absurd rfl h) (fun _ => ?_)
  refine ⟨_, hkn, ?_⟩
  refine ⟨_, _, _, _, [], [], each_at g, (by refine ⟨?_, ?_, ?_, ?_, ?_, ?_⟩ <;> (repeat' (first | exact trivial | exact subR.refl _ | exact SameL.refl _ | assumption | exact congrArg (Value.int _) (by assumption) | exact congrArg (Value.int _) (Eq.symm (by assumption)) | exact rfl | exact Nat.le_of_ble_eq_true rfl | decide | apply And.intro))), ?_⟩
  have hsz := szG_le hg
  refine ⟨Tx g.w.toNat g.h.toNat, 47, 5, 35, _, 7, 8, gvOf g, Tx.enc, _, tlSm, fun pre => bsSm es g l 6, fun pre => [(6, rB (genTo (swTx es g l) pre))], fun pre x => bsSm es g l 7, fun pre x => [(7, rB (genTo (swTx es g l) (pre ++ [x])))],
    each1_sq (gd_24' hg), rfl, fun x => ⟨rfl, tx_one x⟩, fun _ => ⟨rfl, rfl, rfl⟩, ?_, fun pre x hpre => ?_, fun _ _ => ⟨by decide, rfl⟩, fun pre x _ => ?_, fun xs hx => ?_⟩
  · refine ent_of (rl := [(3, 14), (4, 19), (5, 23)]) (nl := [6]) ⟨rfl, ?_, ?_, ⟨⟨Nat.le_of_ble_eq_true rfl, rfl⟩, trivial⟩, rfl, rfl, (by first | exact Nat.zero_le _ | exact Nat.le_of_ble_eq_true rfl), ⟨(by first | exact Nat.zero_le _ | exact Nat.le_of_ble_eq_true rfl), trivial⟩, ⟨⟨(by first | exact Nat.zero_le _ | exact Nat.le_of_ble_eq_true rfl), (by first | exact Nat.zero_le _ | exact Nat.le_of_ble_eq_true rfl)⟩, ⟨(by first | exact Nat.zero_le _ | exact Nat.le_of_ble_eq_true rfl), (by first | exact Nat.zero_le _ | exact Nat.le_of_ble_eq_true rfl)⟩, ⟨(by first | exact Nat.zero_le _ | exact Nat.le_of_ble_eq_true rfl), (by first | exact Nat.zero_le _ | exact Nat.le_of_ble_eq_true rfl)⟩, trivial⟩⟩ <;> (repeat' (first | exact trivial | exact SameL.refl _ | exact ep_seal rfl rfl | assumption | exact congrArg (Value.int _) (by assumption) | exact rfl | exact Nat.le_of_ble_eq_true rfl | decide | apply And.intro | apply all1 | apply all2 | apply all3 | apply all4 | apply all5))
  · have hx := tx_in hg x
    obtain ⟨⟨i, k⟩, hi', hk'⟩ := x
    obtain ⟨⟨hi, hk⟩, hin, hc, hixe⟩ := hx
    dsimp only at hi hk hin hc hixe
    have hix := ixG_w hg hin
    have hlt := ixG_lt hg hin
    have hm := hok.2 _ (getD_mem' (l := l) (i := ixG g i k) (by rw [hok.1]; exact hlt))
    have hl1 := hok.1
    have hpl : (genTo (swTx es g l) pre).length ≤ 4000000000000 := by
      rw [genTo_len]
      have : pre.length < g.h.toNat * g.w.toNat := hpre
      unfold szG at hsz; omega
    refine ⟨_, centre_at g i k, ?_⟩
    refine ⟨⟨by show 0 ≤ w64 _; rw [hix]; omega, by show w64 _ < (l.length : Int); rw [hix]; omega⟩, ?_⟩
    have hget : l.getD (Int.toNat (w64 (w64 ((k : Int) * g.w) + (i : Int)))) default = l.getD (ixG g i k) default := by rw [hix, Int.toNat_natCast]
    refine if_dec (fun q => ?_) (fun q => ?_)
    · have q : l.getD (Int.toNat (w64 (w64 ((k : Int) * g.w) + (i : Int)))) default ≥ 0 := q
      have q' := q
      rw [hget] at q'
      have he := hes.1 _ (getD_mem' (l := es) (i := (l.getD (ixG g i k) default).toNat) (by omega))
      have hsq := square_at he hc
      have hsc := scaled_at (sqN_in he hc) (by have := eight_q (sqN_in he hc) (sqN_le he hc); omega)
      have hval : swTx es g l i k = codeN g.spread (sign es (centre g i k)) (eightF (sqN (es.getD (l.getD (ixG g i k) default).toNat default) (centre g i k))) := by unfold swTx; rw [if_pos (by omega)]
      refine ⟨_, sign_at hes hc, ?_⟩
      refine ⟨⟨q, by show l.getD (Int.toNat (w64 (w64 ((k : Int) * g.w) + (i : Int)))) default < _; rw [hget]; omega⟩, ?_⟩
      rw [← hget] at hsq hsc hval
      refine ⟨_, hsq, ?_⟩
      refine ⟨_, hsc, ?_⟩
      refine ⟨_, code_at g _ _ hg.2.2.2.2.2, ?_⟩
      refine ⟨appB hpl (by decide), ?_⟩
      refine ent_of (rl := [(7, 49)]) (nl := []) ⟨rfl, ?_, ?_, ⟨⟨Nat.le_of_ble_eq_true rfl, subR_snoc rfl rfl (fun j hj => elem1 rfl) ((genTo_snoc _ _ _).trans (by rw [hval])) rfl⟩, trivial⟩, rfl, rfl, (by first | exact Nat.zero_le _ | exact Nat.le_of_ble_eq_true rfl), trivial, ⟨⟨(by first | exact Nat.zero_le _ | exact Nat.le_of_ble_eq_true rfl), (by first | exact Nat.zero_le _ | exact Nat.le_of_ble_eq_true rfl)⟩, trivial⟩⟩ <;> (repeat' (first | exact trivial | exact SameL.refl _ | exact ep_seal rfl rfl | assumption | exact congrArg (Value.int _) (by assumption) | exact rfl | exact Nat.le_of_ble_eq_true rfl | decide | apply And.intro | apply all1 | apply all2 | apply all3 | apply all4 | apply all5))
    · have q : ¬ l.getD (Int.toNat (w64 (w64 ((k : Int) * g.w) + (i : Int)))) default ≥ 0 := q
      rw [hget] at q
      have hval : swTx es g l i k = codeN g.spread (-1) (w64 (256 * g.spread)) := by unfold swTx; rw [if_neg (by omega)]
      refine ⟨_, code_at g _ _ hg.2.2.2.2.2, ?_⟩
      refine ⟨appB hpl (by decide), ?_⟩
      refine ent_of (rl := [(7, 37)]) (nl := []) ⟨rfl, ?_, ?_, ⟨⟨Nat.le_of_ble_eq_true rfl, subR_snoc rfl rfl (fun j hj => elem1 rfl) ((genTo_snoc _ _ _).trans (by rw [hval])) rfl⟩, trivial⟩, rfl, rfl, (by first | exact Nat.zero_le _ | exact Nat.le_of_ble_eq_true rfl), trivial, ⟨⟨(by first | exact Nat.zero_le _ | exact Nat.le_of_ble_eq_true rfl), (by first | exact Nat.zero_le _ | exact Nat.le_of_ble_eq_true rfl)⟩, trivial⟩⟩ <;> (repeat' (first | exact trivial | exact SameL.refl _ | exact ep_seal rfl rfl | assumption | exact congrArg (Value.int _) (by assumption) | exact rfl | exact Nat.le_of_ble_eq_true rfl | decide | apply And.intro | apply all1 | apply all2 | apply all3 | apply all4 | apply all5))
  · refine ent_of (rl := [(6, 7)]) (nl := []) ⟨rfl, ?_, ?_, ⟨⟨Nat.le_of_ble_eq_true rfl, subR.refl _⟩, trivial⟩, rfl, rfl, (by first | exact Nat.zero_le _ | exact Nat.le_of_ble_eq_true rfl), trivial, ⟨⟨(by first | exact Nat.zero_le _ | exact Nat.le_of_ble_eq_true rfl), (by first | exact Nat.zero_le _ | exact Nat.le_of_ble_eq_true rfl)⟩, trivial⟩⟩ <;> (repeat' (first | exact trivial | exact SameL.refl _ | exact ep_seal rfl rfl | assumption | exact congrArg (Value.int _) (by assumption) | exact rfl | exact Nat.le_of_ble_eq_true rfl | decide | apply And.intro | apply all1 | apply all2 | apply all3 | apply all4 | apply all5))
  · exact ⟨⟨rfl, rfl, row_ret (genTo_full hx), trivial⟩, ⟨⟨rfl, rfl⟩, trivial⟩, trivial⟩
theorem smake_bad {es : List Ed} {g : Gd} (hg : checkG g ≠ 0) : FnAt Try.prog 19 [aEds es, aGd g] [aFd 0 0 [], aI (checkG g)] := by
  refine fn_at (E := EH) (fn := Try.f19) (c := Try.f19.body.getD .skip) (rs := Try.f19.results.toList) (nt := Try.f19.ntmps) EH_ok follows (by kernel_rfl) (by kernel_rfl) rfl rfl rfl [] rfl ?_
  refine ⟨_, check_at g, ?_⟩
  refine if_ne (fun _ => ?_) (fun h => absurd h hg)
  exact ⟨⟨⟨rfl, rfl⟩, ⟨rfl, rfl⟩, ⟨rfl, rfl⟩, trivial⟩, ⟨rfl, trivial⟩, trivial⟩
end Go.Proofs.Ytbfdpdbdkcekfaa
