/- MsdfWhite. -/
import Derived.Test.YtpadocjddoenhaaM2e
namespace Go.Proofs.Ytpadocjddoenhaa
open Go SX
set_option linter.unusedVariables false
set_option maxRecDepth 100000
set_option maxHeartbeats 4000000

/-- here corner.All hands over rows of the caller's own -/
def hvW : Nat → Bool := fun g => SX.hasN g [13]
@[reducible] def EW : Env := { tt := tt, ct := fun _ => none, cl := fun _ => none, call := FnAt Try.prog, kd := kdT, clo := ClAt Try.prog, isHv := hvW, hv := HvAt Try.prog }
theorem EW_ok : EnvOK Try.prog EW := ⟨tt_ok, (fun g sp h => by cases h), (fun g sp h => by cases h), (fun g a r h => h), (fun g a c r o h => h), (fun g a c r o h => h), (fun g T gv ι enc full N h => by cases h)⟩
theorem cornerAllH_at (cs : List (List Ed)) (hl : cs.length ≤ 1000) (h : ∀ c ∈ cs, c.length ≤ 1000) : HvAt Try.prog 13 [.o (.sl false 1 cs.length (rowOf edsL cs))] ⟨[], [], 0⟩
    (.t [(false, [.h 0]), (false, [.h 1])]) ⟨[], [(0, rEf (cs.flatMap id)), (1, rI (cs.flatMap colours))], 2⟩ := by
  refine hv_at (E := EH) (fn := Try.f13) (c := Try.f13.body.getD .skip) (rs := Try.f13.results.toList) (nt := Try.f13.ntmps) EH_ok follows (by kernel_rfl) (by kernel_rfl) rfl rfl rfl [] rfl ?_
  refine loop_nat cs.length (SCa cs) ?_ (fun i hi => ?_)
  · refine ent_of (rl := []) (nl := [0, 1]) ⟨rfl, ?_, ?_, ⟨⟨Nat.le_of_ble_eq_true rfl, rfl⟩, ⟨Nat.le_of_ble_eq_true rfl, rfl⟩, trivial⟩, rfl, rfl, (by first | exact Nat.zero_le _ | exact Nat.le_of_ble_eq_true rfl), ⟨(by first | exact Nat.zero_le _ | exact Nat.le_of_ble_eq_true rfl), (by first | exact Nat.zero_le _ | exact Nat.le_of_ble_eq_true rfl), trivial⟩, trivial⟩ <;> (repeat' (first | exact trivial | exact SameL.refl _ | exact ep_seal rfl rfl | assumption | exact congrArg (Value.int _) (by assumption) | exact rfl | exact Nat.le_of_ble_eq_true rfl | decide | apply And.intro | apply all1 | apply all2 | apply all3 | apply all4 | apply all5))
  refine if_dec (fun hlt => ?_) (fun hge => ?_)
  · have hlt : i < cs.length := by omega
    have hw := w64_succ hlt (by omega)
    have hc := h _ (getD_mem hlt)
    have hti : (cs.take i).length ≤ 1000 := by simp; omega
    have b1 : ((cs.take i).flatMap id).length ≤ 1000 * 1000 := Nat.le_trans (flat_len (m := 1000) fun c hc => h c (List.mem_of_mem_take hc)) (Nat.mul_le_mul_right _ hti)
    have b2 : ((cs.take i).flatMap colours).length ≤ 1000 * 1000 := Nat.le_trans (flat_len (m := 1000) fun c hc => by rw [colours_len]; exact h c (List.mem_of_mem_take hc)) (Nat.mul_le_mul_right _ hti)
    have b3 := colours_len (cs.getD i default)
    refine ⟨⟨by omega, by omega⟩, ?_⟩
    refine ⟨appM (n := ((cs.take i).flatMap id).length) (m := (cs.getD i default).length) (by omega) (by decide), ?_⟩
    refine ⟨_, colours_at (cs.getD i default) (by omega), ?_⟩
    refine ⟨appM (n := ((cs.take i).flatMap colours).length) (m := (colours (cs.getD i default)).length) (by omega) (by decide), ?_⟩
    refine ⟨i + 1, ⟨Nat.lt_succ_self _, hlt⟩, ?_⟩
    refine ent_of (rl := [(0, 8), (1, 12)]) (nl := []) ⟨rfl, ?_, ?_, ⟨⟨Nat.le_of_ble_eq_true rfl, subR_app rfl rfl rfl rfl (flatMap_take_succ id cs hlt) rfl⟩, ⟨Nat.le_of_ble_eq_true rfl, subR_app rfl rfl rfl rfl (flatMap_take_succ colours cs hlt) rfl⟩, trivial⟩, rfl, rfl, (by first | exact Nat.zero_le _ | exact Nat.le_of_ble_eq_true rfl), trivial, ⟨⟨(by first | exact Nat.zero_le _ | exact Nat.le_of_ble_eq_true rfl), (by first | exact Nat.zero_le _ | exact Nat.le_of_ble_eq_true rfl)⟩, ⟨(by first | exact Nat.zero_le _ | exact Nat.le_of_ble_eq_true rfl), (by first | exact Nat.zero_le _ | exact Nat.le_of_ble_eq_true rfl)⟩, trivial⟩⟩ <;> (repeat' (first | exact trivial | exact SameL.refl _ | exact ep_seal rfl rfl | assumption | exact congrArg (Value.int _) (by assumption) | exact rfl | exact Nat.le_of_ble_eq_true rfl | decide | apply And.intro | apply all1 | apply all2 | apply all3 | apply all4 | apply all5))
  · have hin : i = cs.length := by omega
    subst hin
    have t1 : cs.take cs.length = cs := List.take_length
    refine ent_of (rl := []) (nl := []) ⟨rfl, ?_, ?_, ⟨⟨Nat.le_of_ble_eq_true rfl, subR_eq (by rw [t1]) rfl⟩, ⟨Nat.le_of_ble_eq_true rfl, subR_eq (by rw [t1]) rfl⟩, trivial⟩, rfl, rfl, (by first | exact Nat.zero_le _ | exact Nat.le_of_ble_eq_true rfl), trivial, trivial⟩ <;> (repeat' (first | exact trivial | exact SameL.refl _ | exact ep_seal rfl rfl | assumption | exact congrArg (Value.int _) (by assumption) | exact rfl | exact Nat.le_of_ble_eq_true rfl | decide | apply And.intro | apply all1 | apply all2 | apply all3 | apply all4 | apply all5))
theorem allH_at (cs : List (List Vx)) : HvAt Try.prog 13 [.o (.sl false 1 (contours cs).length (rowOf edsL (contours cs)))] ⟨[], [], 0⟩
    (.t [(false, [.h 0]), (false, [.h 1])]) ⟨[], [(0, rEf (glyph cs)), (1, rI (cols cs))], 2⟩ := by
  have h := cornerAllH_at (contours cs) (by have := contours_len cs; omega) (fun c hc => by have := (contours_ok c hc).2; omega)
  rw [glyph_fm] at h
  exact h
/-- the first k made white -/
def whTo (l : List Int) : Nat → List Int
  | 0 => l
  | k + 1 => (whTo l k).set k 7
theorem whTo_len (l : List Int) : ∀ k, (whTo l k).length = l.length
  | 0 => rfl
  | k + 1 => by unfold whTo; rw [List.length_set, whTo_len l k]
theorem whTo_get (l : List Int) : ∀ k, k ≤ l.length → ∀ j, j < k → (whTo l k)[j]? = some 7
  | 0, _, j, h => by omega
  | k + 1, hk, j, h => by
    unfold whTo
    have hl := whTo_len l k
    by_cases hj : j = k
    · subst hj
      rw [List.getElem?_set_self (by omega)]
    · rw [List.getElem?_set_ne (by omega)]
      exact whTo_get l k (by omega) j (by omega)
theorem whTo_white (l : List Int) : whB (whTo l l.length) = true := by
  unfold whB
  rw [List.all_eq_true]
  intro x hx
  obtain ⟨j, hj⟩ := List.getElem?_of_mem hx
  have hl := whTo_len l l.length
  have hlt : j < l.length := by
    have := (List.getElem?_eq_some_iff.1 hj).1
    omega
  have h7 := whTo_get l l.length (Nat.le_refl _) j hlt
  rw [hj] at h7
  cases h7
  rfl
theorem chan_white {es : List Ed} {l : List Int} {g : Gd} (h : whB l = true) (c : Int) : chTx es l g c = fun i k : Nat => texel es g i k := by
  funext i k
  unfold chTx chanN
  rw [if_pos (.inr h)]
theorem gen_texel (es : List Ed) (g : Gd) (H : Nat) : genF (fun i k : Nat => texel es g i k) g.w.toNat H = fieldTo es g H := by
  unfold genF txs fieldTo rowTo
  rw [List.map_flatMap]
  simp only [List.map_map]
  rfl
theorem med_same (a : List Int) : medTo a a a a.length = a := by
  unfold medTo
  refine List.ext_getElem (by simp) fun i h1 h2 => ?_
  rw [List.getElem_map, List.getElem_range, List.getD_eq_getElem?_getD, List.getElem?_eq_getElem h2]
  show medN a[i] a[i] a[i] = a[i]
  have := (med_ok a[i] a[i] a[i]).1
  omega
noncomputable def SWh (es : List Ed) (l : List Int) (s : Sp) (k : Nat) : SS := mkS
  [(3, .o (.p 0 0)), (5, .o (.h 1)), (6, .o (.h 2)), (24, .o (.v (.int .i64 l.length))), (25, .o (.v (.int .i64 k)))]
  [(0, 37, [.v (.int .u8 s.x), .v (.int .u8 s.y), .v (.int .u8 s.pitch), .v (.int .u8 s.w), .v (.int .u8 s.h), .v (.int .u8 s.spread)])] [(1, rEf es), (2, rI (whTo l k))] 3 Try.f8.ntmps
theorem msdfWhite_at (cs : List (List Vx)) {s : Sp} (hs : spIn s) : FnAt Try.prog 8 [aSl dsL 1 cs, aSp s] [aB true] := by
  have hi := glyph_in cs
  have hg := spec_in hs
  have hsp := spec_at s
  have hcl := cols_len cs
  have l1 := hi.2
  refine fn_at (E := EW) (fn := Try.f8) (c := Try.f8.body.getD .skip) (rs := Try.f8.results.toList) (nt := Try.f8.ntmps) EW_ok follows (by kernel_rfl) (by kernel_rfl) rfl rfl rfl [] rfl ?_
  refine ⟨_, awake12_at, ?_⟩
  refine ⟨(fun h => nomatch h), fun _ => ?_⟩
  refine ⟨_, contours_at cs, ?_⟩
  refine ⟨_, _, _, _, [], [], allH_at cs, (by refine ⟨?_, ?_, ?_, ?_, ?_, ?_⟩ <;> (repeat' (first | exact trivial | exact subR.refl _ | exact SameL.refl _ | assumption | exact congrArg (Value.int _) (by assumption) | exact congrArg (Value.int _) (Eq.symm (by assumption)) | exact rfl | exact Nat.le_of_ble_eq_true rfl | decide | apply And.intro))), ?_⟩
  generalize glyph cs = es at *
  generalize cols cs = l at *
  generalize specG s = g at *
  have hw := hg.1
  have hh := hg.2.1
  refine loop_nat l.length (SWh es l s) ?_ (fun k hk => ?_)
  · refine ent_of (rl := [(1, 7), (2, 8)]) (nl := []) ⟨rfl, ?_, ?_, ⟨⟨Nat.le_of_ble_eq_true rfl, subR.refl _⟩, ⟨Nat.le_of_ble_eq_true rfl, subR.refl _⟩, trivial⟩, rfl, rfl, (by first | exact Nat.zero_le _ | exact Nat.le_of_ble_eq_true rfl), trivial, ⟨⟨(by first | exact Nat.zero_le _ | exact Nat.le_of_ble_eq_true rfl), (by first | exact Nat.zero_le _ | exact Nat.le_of_ble_eq_true rfl)⟩, ⟨(by first | exact Nat.zero_le _ | exact Nat.le_of_ble_eq_true rfl), (by first | exact Nat.zero_le _ | exact Nat.le_of_ble_eq_true rfl)⟩, trivial⟩⟩ <;> (repeat' (first | exact trivial | exact SameL.refl _ | exact ep_seal rfl rfl | assumption | exact congrArg (Value.int _) (by assumption) | exact rfl | exact Nat.le_of_ble_eq_true rfl | decide | apply And.intro | apply all1 | apply all2 | apply all3 | apply all4 | apply all5))
  refine if_dec (fun hlt => ?_) (fun hge => ?_)
  · have hlt : k < l.length := by omega
    have hw' := w64_succ hlt (by omega)
    have hwl := whTo_len l k
    refine ⟨⟨by omega, by show (k : Int) < ((whTo l k).length : Int); omega⟩, ?_⟩
    refine ⟨by show (k : Int).toNat < (whTo l k).length; omega, ?_⟩
    refine ⟨k + 1, ⟨Nat.lt_succ_self _, hlt⟩, ?_⟩
    refine ent_of (rl := []) (nl := []) ⟨rfl, ?_, ?_, ⟨⟨Nat.le_of_ble_eq_true rfl, subR.refl _⟩, ⟨Nat.le_of_ble_eq_true rfl, subR_set (x := 7) rfl (by show k < (whTo l k).length; omega) rfl rfl rfl rfl rfl⟩, trivial⟩, rfl, rfl, (by first | exact Nat.zero_le _ | exact Nat.le_of_ble_eq_true rfl), trivial, trivial⟩ <;> (repeat' (first | exact trivial | exact SameL.refl _ | exact ep_seal rfl rfl | assumption | exact congrArg (Value.int _) (by assumption) | exact rfl | exact Nat.le_of_ble_eq_true rfl | decide | apply And.intro | apply all1 | apply all2 | apply all3 | apply all4 | apply all5))
  have hin : k = l.length := by omega
  subst hin
  have hW := whTo_white l
  have hWl := whTo_len l l.length
  have hmk := mmake_at (l := whTo l l.length) hi (by omega) hg
  rw [chan_white hW, chan_white hW, chan_white hW, gen_texel] at hmk
  have hfl : ((fieldTo es g g.h.toNat).length : Int) = w64 (g.w * g.h) := by
    have hm := mul_bd (x := g.w) (y := g.h) (B := 24) (C := 24) (by omega) (by omega)
    rw [fieldTo_len, w64_in (by omega), Int.natCast_mul, Int.toNat_of_nonneg (by omega), Int.toNat_of_nonneg (by omega), Int.mul_comm]
  have hfn : (fieldTo es g g.h.toNat).length ≤ 24 * 24 := by rw [fieldTo_len]; exact Nat.mul_le_mul (by omega) (by omega)
  have hme := merge_at (w := g.w) (h := g.h) (a := fieldTo es g g.h.toNat) (b := fieldTo es g g.h.toNat) (c := fieldTo es g g.h.toNat) (by omega) hfl hfl hfl
  rw [med_same] at hme
  have hsm := same_at g.w g.h g.w g.h (fieldTo es g g.h.toNat) (fieldTo es g g.h.toNat) (fieldTo_in es g _) (fieldTo_in es g _)
  have hd : decide (g.w = g.w ∧ g.h = g.h ∧ fieldTo es g g.h.toNat = fieldTo es g g.h.toNat) = true := decide_eq_true ⟨rfl, rfl, rfl⟩
  rw [hd] at hsm
  refine ⟨_, hsp, ?_⟩
  refine ⟨_, hmk, ?_⟩
  refine ⟨_, hme, ?_⟩
  refine ⟨_, make_at hi hg, ?_⟩
  refine ⟨fun _ => ?_, (fun h => nomatch h)⟩
  refine ⟨fun _ => ?_, (fun h => nomatch h)⟩
  refine ⟨fun _ => ?_, (fun h => nomatch h)⟩
  refine ⟨_, hsm, ?_⟩
  refine ⟨fun _ => ?_, (fun h => nomatch h)⟩
  refine ⟨_, hsm, ?_⟩
  refine ⟨fun _ => ?_, (fun h => nomatch h)⟩
  refine ⟨_, hsm, ?_⟩
  exact ⟨⟨rfl, trivial⟩, trivial⟩
theorem MsdfWhite_row : ∀ args, TyArgs tt 8 [35, 37] args → FnAt Try.prog 8 args [(false, [.lit (.bool true)])] := by
  intro args h
  obtain ⟨a1, a2, rfl, h1, h2⟩ := tyA2 h
  obtain ⟨l, cs, rfl, hcs⟩ := a_dots (k := 4) h1
  obtain ⟨s, rfl, hs⟩ := a_sp (k := 6) h2
  exact (msdfWhite_at cs hs).args ⟨rfl, hcs, rfl, sameLs_refl _, trivial⟩
end Go.Proofs.Ytpadocjddoenhaa
