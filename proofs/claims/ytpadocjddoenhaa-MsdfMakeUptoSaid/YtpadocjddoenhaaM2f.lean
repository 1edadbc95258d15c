/- MsdfMake. -/
import Derived.Test.YtpadocjddoenhaaM2g
import Derived.Test.YtpadocjddoenhaaUp
namespace Go.Proofs.Ytpadocjddoenhaa
open Go SX
set_option linter.unusedVariables false
set_option maxRecDepth 100000
set_option maxHeartbeats 4000000

theorem mm_ix {g : Gd} (hg : gdIn g) {i k : Nat} (hi' : i < g.w.toNat) (hk' : k < g.h.toNat) : w64 (w64 ((k : Int) * g.w) + (i : Int)) = ((k * g.w.toNat + i : Nat) : Int) ∧ k * g.w.toNat + i < g.h.toNat * g.w.toNat := by
  have hw := hg.1
  have hh := hg.2.1
  have m2 : (k + 1) * g.w.toNat ≤ g.h.toNat * g.w.toNat := Nat.mul_le_mul_right _ hk'
  have m1 : (k + 1) * g.w.toNat ≤ 24 * 24 := Nat.mul_le_mul (by omega) (by omega)
  have m3 : (k + 1) * g.w.toNat = k * g.w.toNat + g.w.toNat := by rw [Nat.add_mul, Nat.one_mul]
  have w0 : (k : Int) * g.w = ((k * g.w.toNat : Nat) : Int) := by rw [Int.natCast_mul, Int.toNat_of_nonneg (by omega)]
  refine ⟨?_, by omega⟩
  rw [w0, w64_in (n := ((k * g.w.toNat : Nat) : Int)) (by omega), w64_in (by omega)]; omega
/-- colours by numbers -/
def paintTo (raw : List Int) (i : Nat) : List Int := (raw.take i).map fun c => w64 (c.tmod 9)
def paintN (l raw : List Int) : List Int := if raw.length = 0 then l else paintTo raw raw.length
theorem paint_succ {raw : List Int} {i : Nat} (h : i < raw.length) : paintTo raw (i + 1) = paintTo raw i ++ [w64 ((raw.getD i default).tmod 9)] := by
  unfold paintTo
  rw [List.take_succ_eq_append_getElem h, List.map_append, List.getD_eq_getElem?_getD, List.getElem?_eq_getElem h]; rfl
theorem paint_len {raw : List Int} {i : Nat} (h : i ≤ raw.length) : (paintTo raw i).length = i := by
  unfold paintTo; rw [List.length_map, List.length_take]; omega
theorem paint_in {l raw : List Int} (hl : colsIn l) (hr : ∀ x ∈ raw, 0 ≤ x ∧ x ≤ 255) : colsIn (paintN l raw) := by
  unfold paintN
  split
  · exact hl
  · intro x hx
    unfold paintTo at hx
    obtain ⟨c, hc, rfl⟩ := List.mem_map.1 hx
    have h0 := hr c (List.mem_of_mem_take hc)
    rw [tmod_u h0.1 (by decide), w64_in (by omega)]; omega
theorem paintN_len {l raw : List Int} (hl : l.length ≤ 2000000) (hr : raw.length ≤ 2000000) : (paintN l raw).length ≤ 2000000 := by
  unfold paintN
  split
  · exact hl
  · rw [paint_len (Nat.le_refl _)]; exact hr
noncomputable def SPt (raw : List Int) (i : Nat) : SS := mkS
  [(5, .o (.h 0)), (12, .o (.sl false 1 raw.length (rowOf bys raw))), (13, .o (.v (.int .i64 raw.length))), (14, .o (.v (.int .i64 i)))] [] [(0, rI (paintTo raw i))] 1 Try.f15.ntmps
theorem paint_at {l raw : List Int} (hr : raw.length ≤ 2000000) : HvAt Try.prog 15 [.o (.sl false 1 l.length (rowOf ints l)), .o (.sl false 1 raw.length (rowOf bys raw))] ⟨[], [], 0⟩ (.o (.sl false 1 (paintN l raw).length (rowOf ints (paintN l raw)))) ⟨[], [], 0⟩ := by
  refine hv_at (E := EH) (fn := Try.f15) (c := Try.f15.body.getD .skip) (rs := Try.f15.results.toList) (nt := Try.f15.ntmps) EH_ok follows (by kernel_rfl) (by kernel_rfl) rfl rfl rfl [1000009] rfl ?_
  refine if_eq (fun h => ?_) (fun h => ?_)
  · have h : raw.length = 0 := by have : ((raw.length : Nat) : Int) = 0 := h; omega
    have e : paintN l raw = l := by unfold paintN; rw [if_pos h]
    rw [e]
    refine ent_of (rl := []) (nl := []) ⟨rfl, ?_, ?_, trivial, rfl, rfl, (by first | exact Nat.zero_le _ | exact Nat.le_of_ble_eq_true rfl), trivial, trivial⟩ <;> (repeat' (first | exact trivial | exact SameL.refl _ | exact ep_seal rfl rfl | assumption | exact congrArg (Value.int _) (by assumption) | exact rfl | exact Nat.le_of_ble_eq_true rfl | decide | apply And.intro | apply all1 | apply all2 | apply all3 | apply all4 | apply all5))
  have h : ¬ raw.length = 0 := by have : ¬ ((raw.length : Nat) : Int) = 0 := h; omega
  have e : paintN l raw = paintTo raw raw.length := by unfold paintN; rw [if_neg h]
  rw [e]
  refine loop_nat raw.length (SPt raw) ?_ (fun i hi => ?_)
  · refine ent_of (rl := []) (nl := [0]) ⟨rfl, ?_, ?_, ⟨⟨Nat.le_of_ble_eq_true rfl, rfl⟩, trivial⟩, rfl, rfl, (by first | exact Nat.zero_le _ | exact Nat.le_of_ble_eq_true rfl), ⟨(by first | exact Nat.zero_le _ | exact Nat.le_of_ble_eq_true rfl), trivial⟩, trivial⟩ <;> (repeat' (first | exact trivial | exact SameL.refl _ | exact ep_seal rfl rfl | assumption | exact congrArg (Value.int _) (by assumption) | exact rfl | exact Nat.le_of_ble_eq_true rfl | decide | apply And.intro | apply all1 | apply all2 | apply all3 | apply all4 | apply all5))
  refine if_dec (fun hlt => ?_) (fun hge => ?_)
  · have hlt : i < raw.length := by omega
    have hw' := w64_succ hlt (by omega)
    have hl := paint_len (raw := raw) (i := i) (by omega)
    refine ⟨⟨by omega, by omega⟩, ?_⟩
    refine ⟨appB (n := (paintTo raw i).length) (by omega) (by decide), ?_⟩
    refine ⟨i + 1, ⟨Nat.lt_succ_self _, hlt⟩, ?_⟩
    refine ent_of (rl := [(0, 10)]) (nl := []) ⟨rfl, ?_, ?_, ⟨⟨Nat.le_of_ble_eq_true rfl, subR_snoc rfl rfl (fun j hj => elem1 rfl) (paint_succ hlt) rfl⟩, trivial⟩, rfl, rfl, (by first | exact Nat.zero_le _ | exact Nat.le_of_ble_eq_true rfl), trivial, ⟨⟨(by first | exact Nat.zero_le _ | exact Nat.le_of_ble_eq_true rfl), (by first | exact Nat.zero_le _ | exact Nat.le_of_ble_eq_true rfl)⟩, trivial⟩⟩ <;> (repeat' (first | exact trivial | exact SameL.refl _ | exact ep_seal rfl rfl | assumption | exact congrArg (Value.int _) (by assumption) | exact rfl | exact Nat.le_of_ble_eq_true rfl | decide | apply And.intro | apply all1 | apply all2 | apply all3 | apply all4 | apply all5))
  · have hin : i = raw.length := by omega
    subst hin
    refine ⟨_, ent_seal (i := 0) rfl, ?_⟩
    refine ent_of (rl := []) (nl := []) ⟨rfl, ?_, ?_, trivial, rfl, rfl, (by first | exact Nat.zero_le _ | exact Nat.le_of_ble_eq_true rfl), trivial, trivial⟩ <;> (repeat' (first | exact trivial | exact SameL.refl _ | exact ep_seal rfl rfl | assumption | exact congrArg (Value.int _) (by assumption) | exact rfl | exact Nat.le_of_ble_eq_true rfl | decide | apply And.intro | apply all1 | apply all2 | apply all3 | apply all4 | apply all5))
@[reducible] noncomputable def tlMm (es : List Ed) (l : List Int) (g : Gd) (c : Int) : List (Nat × SV) := [(6, .o (.p 0 0)), (7, .o (.p 1 0)), (8, .o (.p 2 0)), (9, .o (.p 3 0)), (12, .o (.p 4 0)), (13, .o (.p 5 0)), (38, .a [.v (.int .i64 g.w), .v (.int .i64 g.h), .sl true 1 ((genF (chTx es l g 0) g.w.toNat g.h.toNat).length) (rowOf bys (genF (chTx es l g 0) g.w.toNat g.h.toNat)), .v (.int .i64 g.w), .v (.int .i64 g.h), .sl true 1 ((genF (chTx es l g 1) g.w.toNat g.h.toNat).length) (rowOf bys (genF (chTx es l g 1) g.w.toNat g.h.toNat)), .v (.int .i64 g.w), .v (.int .i64 g.h), .sl true 1 ((genF (chTx es l g 2) g.w.toNat g.h.toNat).length) (rowOf bys (genF (chTx es l g 2) g.w.toNat g.h.toNat))]), (39, .o (.k (.int .i64 c))), (67, .o (.f 34 [6]))]
@[reducible] noncomputable def bsMm (es : List Ed) (l : List Int) (g : Gd) (c : Int) (f : List Int) : List (Nat × Nat × List C) :=
  [(0, 4, [.any]), (1, 38, [.sl true 4 es.length (rowOf Ed.ls es)]), (2, 39, [.sl false 1 l.length (rowOf ints l)]), (3, 46, gdM g), (4, 3, [.k (.int .i64 c)]), (5, 28, [.v (.int .i64 g.w), .v (.int .i64 g.h), .sl true 1 f.length (rowOf bys f)]), (6, 46, gdM g)]
theorem msdfMake_at (cs : List (List Vx)) {s : Sp} (hs : spIn s) {raw : List Int} (hr : raw.length ≤ 2000000) (hri : ∀ x ∈ raw, 0 ≤ x ∧ x ≤ 255) : FnAt Try.prog 5 [aSl dsL 1 cs, aSp s, aBys raw] [aB true] := by
  have hi := glyph_in cs
  have hg := spec_in hs
  have hci := paint_in (cols_in cs) hri
  have hcl := cols_len cs
  have l1 := hi.2
  have hpl := paintN_len (l := cols cs) (by omega) hr
  refine fn_at (E := EH) (fn := Try.f5) (c := Try.f5.body.getD .skip) (rs := Try.f5.results.toList) (nt := Try.f5.ntmps) EH_ok follows (by kernel_rfl) (by kernel_rfl) rfl rfl rfl [] rfl ?_
  refine ⟨_, awake12_at, ?_⟩
  refine ⟨(fun h => nomatch h), fun _ => ?_⟩
  refine ⟨_, contours_at cs, ?_⟩
  refine ⟨_, all_at cs, ?_⟩
  refine ⟨_, _, _, _, [], [], paint_at (l := cols cs) hr, (by refine ⟨?_, ?_, ?_, ?_, ?_, ?_⟩ <;> (repeat' (first | exact trivial | exact subR.refl _ | exact SameL.refl _ | assumption | exact congrArg (Value.int _) (by assumption) | exact congrArg (Value.int _) (Eq.symm (by assumption)) | exact rfl | exact Nat.le_of_ble_eq_true rfl | decide | apply And.intro))), ?_⟩
  refine ⟨_, spec_at s, ?_⟩
  generalize glyph cs = es at *
  generalize paintN (cols cs) raw = l at *
  generalize specG s = g at *
  have hw := hg.1
  have hh := hg.2.1
  refine ⟨_, mmake_at (l := l) hi (by omega) hg, ?_⟩
  refine if_ne (fun h => absurd rfl h) (fun _ => ?_)
  have hLn : ∀ c, ((genF (chTx es l g c) g.w.toNat g.h.toNat).length : Int) = w64 (g.w * g.h) := fun c => by
    have hm := mul_bd (x := g.w) (y := g.h) (B := 24) (C := 24) (by omega) (by omega)
    rw [genF_len, w64_in (by omega), Int.natCast_mul, Int.toNat_of_nonneg (by omega), Int.toNat_of_nonneg (by omega), Int.mul_comm]
  refine Or.inl ⟨4, ?_⟩
  refine if_nef (fun _ => ?_) (fun h => absurd rfl h)
  refine if_nef (fun _ => ?_) (fun h => absurd rfl h)
  refine if_ne (fun h => absurd (hLn 0) h) (fun _ => ?_)
  refine ⟨_, _, _, _, [], [], each_at g, (by refine ⟨?_, ?_, ?_, ?_, ?_, ?_⟩ <;> (repeat' (first | exact trivial | exact subR.refl _ | exact SameL.refl _ | assumption | exact congrArg (Value.int _) (by assumption) | exact congrArg (Value.int _) (Eq.symm (by assumption)) | exact rfl | exact Nat.le_of_ble_eq_true rfl | decide | apply And.intro))), ?_⟩
  refine ⟨Tx g.w.toNat g.h.toNat, 34, 6, 46, _, 7, 7, gvOf g, Tx.enc, _, tlMm es l g 0, fun _ => bsMm es l g 0 (genF (chTx es l g 0) g.w.toNat g.h.toNat), fun _ => [], fun _ _ => bsMm es l g 0 (genF (chTx es l g 0) g.w.toNat g.h.toNat), fun _ _ => [],
    each1_sq (gd_24m hg), rfl, fun x => ⟨rfl, tx_one x⟩, fun _ => ⟨rfl, rfl, rfl⟩, ?_, fun pre x _ => ?_, fun _ _ => ⟨Nat.le_refl _, rfl⟩, fun _ _ _ => Ent.refl _ _, fun xs0 _ => ?_⟩
  · refine ent_of (rl := [(0, 1), (1, 10), (2, 11), (3, 20), (4, 39), (5, 40), (6, 68)]) (nl := []) ⟨rfl, ?_, ?_, trivial, rfl, rfl, (by first | exact Nat.zero_le _ | exact Nat.le_of_ble_eq_true rfl), trivial, ⟨⟨(by first | exact Nat.zero_le _ | exact Nat.le_of_ble_eq_true rfl), (by first | exact Nat.zero_le _ | exact Nat.le_of_ble_eq_true rfl)⟩, ⟨(by first | exact Nat.zero_le _ | exact Nat.le_of_ble_eq_true rfl), (by first | exact Nat.zero_le _ | exact Nat.le_of_ble_eq_true rfl)⟩, ⟨(by first | exact Nat.zero_le _ | exact Nat.le_of_ble_eq_true rfl), (by first | exact Nat.zero_le _ | exact Nat.le_of_ble_eq_true rfl)⟩, ⟨(by first | exact Nat.zero_le _ | exact Nat.le_of_ble_eq_true rfl), (by first | exact Nat.zero_le _ | exact Nat.le_of_ble_eq_true rfl)⟩, ⟨(by first | exact Nat.zero_le _ | exact Nat.le_of_ble_eq_true rfl), (by first | exact Nat.zero_le _ | exact Nat.le_of_ble_eq_true rfl)⟩, ⟨(by first | exact Nat.zero_le _ | exact Nat.le_of_ble_eq_true rfl), (by first | exact Nat.zero_le _ | exact Nat.le_of_ble_eq_true rfl)⟩, ⟨(by first | exact Nat.zero_le _ | exact Nat.le_of_ble_eq_true rfl), (by first | exact Nat.zero_le _ | exact Nat.le_of_ble_eq_true rfl)⟩, trivial⟩⟩ <;> (repeat' (first | exact trivial | exact SameL.refl _ | exact ep_seal rfl rfl | assumption | exact congrArg (Value.int _) (by assumption) | exact rfl | exact Nat.le_of_ble_eq_true rfl | decide | apply And.intro | apply all1 | apply all2 | apply all3 | apply all4 | apply all5))
  · obtain ⟨⟨i, k⟩, hi', hk'⟩ := x
    have hi' : i < g.w.toNat := hi'
    have hk' : k < g.h.toNat := hk'
    obtain ⟨w1, w2⟩ := mm_ix hg hi' hk'
    have hget : (genF (chTx es l g 0) g.w.toNat g.h.toNat).getD (Int.toNat (w64 (w64 ((k : Int) * g.w) + (i : Int)))) default = chanN es l g i k 0 := by
      rw [w1, Int.toNat_natCast, genF_get hk' hi']; rfl
    have hlen : (genF (chTx es l g 0) g.w.toNat g.h.toNat).length = g.h.toNat * g.w.toNat := genF_len _ _ _
    refine ⟨⟨by show 0 ≤ w64 _; rw [w1]; omega, by show w64 _ < _; rw [w1, hlen]; omega⟩, ?_⟩
    refine ⟨_, lchan_at (l := l) (i := (i : Int)) (k := (k : Int)) (c := 0) hi (by omega) hci hg (by omega) (by omega) (by decide), ?_⟩
    refine if_ne (fun h => absurd hget h) (fun _ => ?_)
    refine ent_of (rl := []) (nl := []) ⟨rfl, ?_, ?_, trivial, rfl, rfl, (by first | exact Nat.zero_le _ | exact Nat.le_of_ble_eq_true rfl), trivial, trivial⟩ <;> (repeat' (first | exact trivial | exact SameL.refl _ | exact ep_seal rfl rfl | assumption | exact congrArg (Value.int _) (by assumption) | exact rfl | exact Nat.le_of_ble_eq_true rfl | decide | apply And.intro | apply all1 | apply all2 | apply all3 | apply all4 | apply all5))
  refine if_nef (fun _ => ?_) (fun h => absurd rfl h)
  refine if_nef (fun _ => ?_) (fun h => absurd rfl h)
  refine if_ne (fun h => absurd (hLn 1) h) (fun _ => ?_)
  refine ⟨_, _, _, _, [], [], each_at g, (by refine ⟨?_, ?_, ?_, ?_, ?_, ?_⟩ <;> (repeat' (first | exact trivial | exact subR.refl _ | exact SameL.refl _ | assumption | exact congrArg (Value.int _) (by assumption) | exact congrArg (Value.int _) (Eq.symm (by assumption)) | exact rfl | exact Nat.le_of_ble_eq_true rfl | decide | apply And.intro))), ?_⟩
  refine ⟨Tx g.w.toNat g.h.toNat, 34, 6, 46, _, 7, 7, gvOf g, Tx.enc, _, tlMm es l g 1, fun _ => bsMm es l g 1 (genF (chTx es l g 1) g.w.toNat g.h.toNat), fun _ => [], fun _ _ => bsMm es l g 1 (genF (chTx es l g 1) g.w.toNat g.h.toNat), fun _ _ => [],
    each1_sq (gd_24m hg), rfl, fun x => ⟨rfl, tx_one x⟩, fun _ => ⟨rfl, rfl, rfl⟩, ?_, fun pre x _ => ?_, fun _ _ => ⟨Nat.le_refl _, rfl⟩, fun _ _ _ => Ent.refl _ _, fun xs1 _ => ?_⟩
  · refine ent_of (rl := [(4, 12), (5, 13), (6, 41)]) (nl := []) ⟨rfl, ?_, ?_, trivial, rfl, rfl, (by first | exact Nat.zero_le _ | exact Nat.le_of_ble_eq_true rfl), trivial, ⟨⟨(by first | exact Nat.zero_le _ | exact Nat.le_of_ble_eq_true rfl), (by first | exact Nat.zero_le _ | exact Nat.le_of_ble_eq_true rfl)⟩, ⟨(by first | exact Nat.zero_le _ | exact Nat.le_of_ble_eq_true rfl), (by first | exact Nat.zero_le _ | exact Nat.le_of_ble_eq_true rfl)⟩, ⟨(by first | exact Nat.zero_le _ | exact Nat.le_of_ble_eq_true rfl), (by first | exact Nat.zero_le _ | exact Nat.le_of_ble_eq_true rfl)⟩, trivial⟩⟩ <;> (repeat' (first | exact trivial | exact SameL.refl _ | exact ep_seal rfl rfl | assumption | exact congrArg (Value.int _) (by assumption) | exact rfl | exact Nat.le_of_ble_eq_true rfl | decide | apply And.intro | apply all1 | apply all2 | apply all3 | apply all4 | apply all5))
  · obtain ⟨⟨i, k⟩, hi', hk'⟩ := x
    have hi' : i < g.w.toNat := hi'
    have hk' : k < g.h.toNat := hk'
    obtain ⟨w1, w2⟩ := mm_ix hg hi' hk'
    have hget : (genF (chTx es l g 1) g.w.toNat g.h.toNat).getD (Int.toNat (w64 (w64 ((k : Int) * g.w) + (i : Int)))) default = chanN es l g i k 1 := by
      rw [w1, Int.toNat_natCast, genF_get hk' hi']; rfl
    have hlen : (genF (chTx es l g 1) g.w.toNat g.h.toNat).length = g.h.toNat * g.w.toNat := genF_len _ _ _
    refine ⟨⟨by show 0 ≤ w64 _; rw [w1]; omega, by show w64 _ < _; rw [w1, hlen]; omega⟩, ?_⟩
    refine ⟨_, lchan_at (l := l) (i := (i : Int)) (k := (k : Int)) (c := 1) hi (by omega) hci hg (by omega) (by omega) (by decide), ?_⟩
    refine if_ne (fun h => absurd hget h) (fun _ => ?_)
    refine ent_of (rl := []) (nl := []) ⟨rfl, ?_, ?_, trivial, rfl, rfl, (by first | exact Nat.zero_le _ | exact Nat.le_of_ble_eq_true rfl), trivial, trivial⟩ <;> (repeat' (first | exact trivial | exact SameL.refl _ | exact ep_seal rfl rfl | assumption | exact congrArg (Value.int _) (by assumption) | exact rfl | exact Nat.le_of_ble_eq_true rfl | decide | apply And.intro | apply all1 | apply all2 | apply all3 | apply all4 | apply all5))
  refine if_nef (fun _ => ?_) (fun h => absurd rfl h)
  refine if_nef (fun _ => ?_) (fun h => absurd rfl h)
  refine if_ne (fun h => absurd (hLn 2) h) (fun _ => ?_)
  refine ⟨_, _, _, _, [], [], each_at g, (by refine ⟨?_, ?_, ?_, ?_, ?_, ?_⟩ <;> (repeat' (first | exact trivial | exact subR.refl _ | exact SameL.refl _ | assumption | exact congrArg (Value.int _) (by assumption) | exact congrArg (Value.int _) (Eq.symm (by assumption)) | exact rfl | exact Nat.le_of_ble_eq_true rfl | decide | apply And.intro))), ?_⟩
  refine ⟨Tx g.w.toNat g.h.toNat, 34, 6, 46, _, 7, 7, gvOf g, Tx.enc, _, tlMm es l g 2, fun _ => bsMm es l g 2 (genF (chTx es l g 2) g.w.toNat g.h.toNat), fun _ => [], fun _ _ => bsMm es l g 2 (genF (chTx es l g 2) g.w.toNat g.h.toNat), fun _ _ => [],
    each1_sq (gd_24m hg), rfl, fun x => ⟨rfl, tx_one x⟩, fun _ => ⟨rfl, rfl, rfl⟩, ?_, fun pre x _ => ?_, fun _ _ => ⟨Nat.le_refl _, rfl⟩, fun _ _ _ => Ent.refl _ _, fun xs2 _ => ?_⟩
  · refine ent_of (rl := [(4, 12), (5, 13), (6, 41)]) (nl := []) ⟨rfl, ?_, ?_, trivial, rfl, rfl, (by first | exact Nat.zero_le _ | exact Nat.le_of_ble_eq_true rfl), trivial, ⟨⟨(by first | exact Nat.zero_le _ | exact Nat.le_of_ble_eq_true rfl), (by first | exact Nat.zero_le _ | exact Nat.le_of_ble_eq_true rfl)⟩, ⟨(by first | exact Nat.zero_le _ | exact Nat.le_of_ble_eq_true rfl), (by first | exact Nat.zero_le _ | exact Nat.le_of_ble_eq_true rfl)⟩, ⟨(by first | exact Nat.zero_le _ | exact Nat.le_of_ble_eq_true rfl), (by first | exact Nat.zero_le _ | exact Nat.le_of_ble_eq_true rfl)⟩, trivial⟩⟩ <;> (repeat' (first | exact trivial | exact SameL.refl _ | exact ep_seal rfl rfl | assumption | exact congrArg (Value.int _) (by assumption) | exact rfl | exact Nat.le_of_ble_eq_true rfl | decide | apply And.intro | apply all1 | apply all2 | apply all3 | apply all4 | apply all5))
  · obtain ⟨⟨i, k⟩, hi', hk'⟩ := x
    have hi' : i < g.w.toNat := hi'
    have hk' : k < g.h.toNat := hk'
    obtain ⟨w1, w2⟩ := mm_ix hg hi' hk'
    have hget : (genF (chTx es l g 2) g.w.toNat g.h.toNat).getD (Int.toNat (w64 (w64 ((k : Int) * g.w) + (i : Int)))) default = chanN es l g i k 2 := by
      rw [w1, Int.toNat_natCast, genF_get hk' hi']; rfl
    have hlen : (genF (chTx es l g 2) g.w.toNat g.h.toNat).length = g.h.toNat * g.w.toNat := genF_len _ _ _
    refine ⟨⟨by show 0 ≤ w64 _; rw [w1]; omega, by show w64 _ < _; rw [w1, hlen]; omega⟩, ?_⟩
    refine ⟨_, lchan_at (l := l) (i := (i : Int)) (k := (k : Int)) (c := 2) hi (by omega) hci hg (by omega) (by omega) (by decide), ?_⟩
    refine if_ne (fun h => absurd hget h) (fun _ => ?_)
    refine ent_of (rl := []) (nl := []) ⟨rfl, ?_, ?_, trivial, rfl, rfl, (by first | exact Nat.zero_le _ | exact Nat.le_of_ble_eq_true rfl), trivial, trivial⟩ <;> (repeat' (first | exact trivial | exact SameL.refl _ | exact ep_seal rfl rfl | assumption | exact congrArg (Value.int _) (by assumption) | exact rfl | exact Nat.le_of_ble_eq_true rfl | decide | apply And.intro | apply all1 | apply all2 | apply all3 | apply all4 | apply all5))
  exact ⟨⟨kB rfl, trivial⟩, trivial⟩
theorem MsdfMake_row : ∀ args, TyArgs tt 8 [35, 37, 24] args → shortA tt [35, 37, 24] 1048576 args → FnAt Try.prog 5 args [(false, [.lit (.bool true)])] := by
  intro args h hB
  obtain ⟨a1, a2, a3, rfl, h1, h2, h3⟩ := tyA3 h
  obtain ⟨n, f, raw, rfl, hn, sr, _, hr⟩ := a_bys (k := 6) h3
  have hb := hB 2 24 _ _ 1 n f rfl rfl rfl rfl
  obtain ⟨l, cs, rfl, hcs⟩ := a_dots (k := 4) h1
  obtain ⟨s, rfl, hs⟩ := a_sp (k := 6) h2
  exact (msdfMake_at cs hs (by omega) hr).args ⟨rfl, hcs, rfl, sameLs_refl _, rfl, sr, trivial⟩
end Go.Proofs.Ytpadocjddoenhaa
