/- MsdfMerge. -/
import Derived.Test.YtpadocjddoenhaaM2e
namespace Go.Proofs.Ytpadocjddoenhaa
open Go SX
set_option linter.unusedVariables false
set_option maxRecDepth 100000
set_option maxHeartbeats 4000000

/-- n bytes: the first of a text's, then zeros -/
def padT (t : List Int) (n : Nat) : List Int := t.take n ++ List.replicate (n - t.length) 0
theorem padT_len (t : List Int) (n : Nat) : (padT t n).length = n := by
  unfold padT; rw [List.length_append, List.length_take, List.length_replicate]; omega
/-- here the fields' texts are rows of the caller's own -/
def hvG : Nat → Bool := fun g => SX.hasN g [11]
@[reducible] def EG : Env := { tt := tt, ct := fun _ => none, cl := fun _ => none, call := FnAt Try.prog, kd := kdT, clo := ClAt Try.prog, isHv := hvG, hv := HvAt Try.prog }
theorem EG_ok : EnvOK Try.prog EG := ⟨tt_ok, (fun g sp h => by cases h), (fun g sp h => by cases h), (fun g a r h => h), (fun g a c r o h => h), (fun g a c r o h => h), (fun g T gv ι enc full N h => by cases h)⟩
def MM (n W H : Int) : LM := ⟨[(0, 3, [.v (.int .i64 n)]), (1, 26, [.v (.int .i8 W)]), (2, 26, [.v (.int .i8 H)])], [], 3⟩
@[reducible] def rBf (t : List Int) : OR := ⟨5, 1, t.length, rowOf bys t, false⟩
theorem row_same {r r' : OR} (h : subR r r') : SameL (.sl r.sz r.n r.f) (.sl r'.sz r'.n r'.f) := ⟨h.2.1, h.2.2.1, h.2.2.2.2⟩
theorem pad_at {t : List Int} {n : Nat} {W H : Int} (hn : n ≤ 1000) (ht : t.length ≤ 140737488355328) : HvAt Try.prog 11 [.o (.sl false 1 t.length (rowOf bys t)), .o (.p 0 0), .o (.p 1 0), .o (.p 2 0)] (MM n W H)
    (.a [.v (.int .i64 (w64 W)), .v (.int .i64 (w64 H)), .h 3]) ⟨(MM n W H).bs, [(3, rBf (padT t n))], 4⟩ := by
  have hm : (min2I (t.length : Int) n).toNat = min n t.length := min2_nat t.length n
  have hx : max2I 0 (w64 ((n : Int) - t.length)) = ((n - t.length : Nat) : Int) := by
    rw [w64_in (by omega)]; unfold max2I; split <;> omega
  refine hv_at (E := EH) (fn := Try.f11) (c := Try.f11.body.getD .skip) (rs := Try.f11.results.toList) (nt := Try.f11.ntmps) EH_ok follows (by kernel_rfl) (by kernel_rfl) rfl rfl rfl [] rfl ?_
  refine ⟨⟨by decide, by show 0 ≤ min2I _ _; unfold min2I; split <;> omega, by show min2I _ _ ≤ _; unfold min2I; split <;> omega⟩, ?_⟩
  refine ⟨⟨by show ((min2I (t.length : Int) n).toNat - Int.toNat 0) * 1 ≤ _; rw [hm]; omega, by show ((min2I (t.length : Int) n).toNat - Int.toNat 0) ≤ _; rw [hm]; unfold maxLen; omega⟩, ?_⟩
  refine ⟨⟨by show 0 ≤ max2I _ _; rw [hx]; omega, by show ((min2I (t.length : Int) n).toNat - Int.toNat 0 + (max2I 0 (w64 ((n : Int) - t.length))).toNat) * 1 ≤ _; rw [hm, hx]; omega, by show (min2I (t.length : Int) n).toNat - Int.toNat 0 + (max2I 0 (w64 ((n : Int) - t.length))).toNat ≤ _; rw [hm, hx]; unfold maxLen; omega⟩, ?_⟩
  have hsub : subR ⟨5, 1, (min2I (t.length : Int) n).toNat - Int.toNat 0 + (max2I 0 (w64 ((n : Int) - t.length))).toNat, appf (fun a b => rowOf bys t (Int.toNat 0 + a) b) ((min2I (t.length : Int) n).toNat - Int.toNat 0) (fun _ j => .lit (([.int .u8 0] : List Value).getD j undef)), false⟩ (rBf (padT t n)) := by
    rw [hm, hx, Int.toNat_natCast]
    have hpl := padT_len t n
    refine ⟨rfl, rfl, by show min n t.length - Int.toNat 0 + (n - t.length) = (padT t n).length; rw [hpl]; omega, rfl, fun a ha j hj => .of_eq ?_⟩
    have ha : a < min n t.length - Int.toNat 0 + (n - t.length) := ha
    have hj : j < 1 := hj
    obtain rfl : j = 0 := by omega
    show appf (fun a b => rowOf bys t (Int.toNat 0 + a) b) (min n t.length - Int.toNat 0) (fun _ j => L.lit (([.int .u8 0] : List Value).getD j undef)) a 0 = nth (bys ((padT t n).getD a default)) 0
    unfold appf padT
    split
    · rename_i h
      have h : a < min n t.length - Int.toNat 0 := h
      rw [getD_app, List.length_take, if_pos (by omega), List.getD_eq_getElem?_getD, List.getElem?_take_of_lt (by omega), ← List.getD_eq_getElem?_getD]
      show nth (bys (t.getD (Int.toNat 0 + a) default)) 0 = _
      rw [show Int.toNat 0 + a = a by omega]
    · rename_i h
      have h : ¬ a < min n t.length - Int.toNat 0 := h
      rw [getD_app, List.length_take, if_neg (by omega), List.getD_eq_getElem?_getD, List.getElem?_replicate, if_pos (by omega)]
      rfl
  refine ent_of (rl := [(3, 16)]) (nl := []) ⟨rfl, ?_, ?_, ⟨⟨Nat.le_of_ble_eq_true rfl, hsub⟩, trivial⟩, rfl, rfl, (by first | exact Nat.zero_le _ | exact Nat.le_of_ble_eq_true rfl), trivial, ⟨⟨(by first | exact Nat.zero_le _ | exact Nat.le_of_ble_eq_true rfl), (by first | exact Nat.zero_le _ | exact Nat.le_of_ble_eq_true rfl)⟩, trivial⟩⟩ <;> (repeat' (first | exact trivial | exact SameL.refl _ | exact ep_seal rfl rfl | assumption | exact congrArg (Value.int _) (by assumption) | exact rfl | exact Nat.le_of_ble_eq_true rfl | decide | apply And.intro | apply all1 | apply all2 | apply all3 | apply all4 | apply all5))
@[reducible] def aI8 (n : Int) : Bool × List L := (false, [.lit (.int .i8 n)])
noncomputable def SMm (W H odd : Int) (A B C' M : List Int) (k : Nat) : SS := mkS
  [(5, .o (.v (.int .u8 odd))), (15, .o (.p 0 0)), (16, .o (.p 1 0)), (75, .o (.v (.int .i64 M.length))), (76, .o (.v (.int .i64 k)))]
  [(0, 30, [.v (.int .i64 W), .v (.int .i64 H), .h 2, .v (.int .i64 W), .v (.int .i64 H), .h 3, .v (.int .i64 W), .v (.int .i64 H), .h 4]), (1, 28, [.v (.int .i64 W), .v (.int .i64 H), .sl true 1 M.length (rowOf bys M)])]
  [(2, rBf A), (3, rBf B), (4, rBf C')] 5 Try.f4.ntmps
theorem snoc_same {t : List Int} {n : Nat} (h : n = t.length) : SameL (.sl 1 (n + 1) (appf (rowOf bys t) n fun a b => nth [.lit (.int .u8 7)] (a * 1 + b))) (.sl 1 (t ++ [7]).length (rowOf bys (t ++ [7]))) := by
  subst h
  exact row_same (r := ⟨5, 1, t.length + 1, appf (rowOf bys t) t.length fun a b => nth [.lit (.int .u8 7)] (a * 1 + b), false⟩) (r' := rBf (t ++ [7])) (subR_snoc (g := bys) (x := 7) rfl rfl (fun j hj => elem1 rfl) rfl rfl)
theorem msdfMerge_at {a b c : List Int} (ha : a.length ≤ 140737488355328) (hb : b.length ≤ 140737488355328) (hc : c.length ≤ 140737488355328) {w h : Int} (hw : -128 ≤ w ∧ w ≤ 127) (hh : -128 ≤ h ∧ h ≤ 127) {odd : Int} (ho : 0 ≤ odd ∧ odd ≤ 255) :
    FnAt Try.prog 4 [aBys a, aBys b, aBys c, aI8 w, aI8 h, aU8' odd] [aB true] := by
  have w1 : 0 ≤ max2I w 0 ∧ max2I w 0 ≤ 127 := by unfold max2I; split <;> omega
  have h1 : 0 ≤ max2I h 0 ∧ max2I h 0 ≤ 127 := by unfold max2I; split <;> omega
  have w2 : 0 ≤ (max2I w 0).tmod 20 ∧ (max2I w 0).tmod 20 ≤ 19 := by rw [tmod_u w1.1 (by decide)]; omega
  have h2 : 0 ≤ (max2I h 0).tmod 20 ∧ (max2I h 0).tmod 20 ≤ 19 := by rw [tmod_u h1.1 (by decide)]; omega
  refine fn_at (E := EG) (fn := Try.f4) (c := Try.f4.body.getD .skip) (rs := Try.f4.results.toList) (nt := Try.f4.ntmps) EG_ok follows (by kernel_rfl) (by kernel_rfl) rfl rfl rfl [] rfl ?_
  refine ⟨_, awake12_at, ?_⟩
  refine ⟨(fun h => nomatch h), fun _ => ?_⟩
  have hm := mul_bd (x := ((max2I w 0).tmod 20)) (y := ((max2I h 0).tmod 20)) (B := 19) (C := 19) (by omega) (by omega)
  have hm0 := Int.mul_nonneg w2.1 h2.1
  have eW : w64 ((max2I w 0).tmod 20) = ((max2I w 0).tmod 20) := w64_in (by omega)
  have eH : w64 ((max2I h 0).tmod 20) = ((max2I h 0).tmod 20) := w64_in (by omega)
  obtain ⟨n, hn⟩ : ∃ n : Nat, w64 (w64 ((max2I w 0).tmod 20) * w64 ((max2I h 0).tmod 20)) = (n : Int) := ⟨(((max2I w 0).tmod 20) * ((max2I h 0).tmod 20)).toNat, by rw [eW, eH, w64_in (by omega)]; omega⟩
  have hnn : (n : Int) = ((max2I w 0).tmod 20) * ((max2I h 0).tmod 20) := by rw [← hn, eW, eH, w64_in (by omega)]
  have pA := pad_at (t := a) (n := n) (W := (max2I w 0).tmod 20) (H := (max2I h 0).tmod 20) (by omega) ha
  have pB := pad_at (t := b) (n := n) (W := (max2I w 0).tmod 20) (H := (max2I h 0).tmod 20) (by omega) hb
  have pC := pad_at (t := c) (n := n) (W := (max2I w 0).tmod 20) (H := (max2I h 0).tmod 20) (by omega) hc
  have lA := padT_len a n
  have lB := padT_len b n
  have lC := padT_len c n
  generalize padT a n = A at *
  generalize padT b n = B at *
  generalize padT c n = C' at *
  rw [← hn] at pA pB pC
  refine ⟨_, _, _, _, [(0, 18), (1, 0), (2, 1)], [], pA, (by refine ⟨?_, ?_, ?_, ?_, ?_, ?_⟩ <;> (repeat' (first | exact trivial | exact subR.refl _ | exact SameL.refl _ | assumption | exact congrArg (Value.int _) (by assumption) | exact congrArg (Value.int _) (Eq.symm (by assumption)) | exact rfl | exact Nat.le_of_ble_eq_true rfl | decide | apply And.intro))), ?_⟩
  refine ⟨_, _, _, _, [(0, 18), (1, 0), (2, 1)], [], pB, (by refine ⟨?_, ?_, ?_, ?_, ?_, ?_⟩ <;> (repeat' (first | exact trivial | exact subR.refl _ | exact SameL.refl _ | assumption | exact congrArg (Value.int _) (by assumption) | exact congrArg (Value.int _) (Eq.symm (by assumption)) | exact rfl | exact Nat.le_of_ble_eq_true rfl | decide | apply And.intro))), ?_⟩
  refine ⟨_, _, _, _, [(0, 18), (1, 0), (2, 1)], [], pC, (by refine ⟨?_, ?_, ?_, ?_, ?_, ?_⟩ <;> (repeat' (first | exact trivial | exact subR.refl _ | exact SameL.refl _ | assumption | exact congrArg (Value.int _) (by assumption) | exact congrArg (Value.int _) (Eq.symm (by assumption)) | exact rfl | exact Nat.le_of_ble_eq_true rfl | decide | apply And.intro))), ?_⟩
  have hnw : (n : Int) = w64 (w64 ((max2I w 0).tmod 20) * w64 ((max2I h 0).tmod 20)) := hn.symm
  refine ⟨_, merge_at (w := w64 ((max2I w 0).tmod 20)) (h := w64 ((max2I h 0).tmod 20)) (a := A) (b := B) (c := C') (by omega) (by omega) (by omega) (by omega), ?_⟩
  have lM := medTo_len A B C' A.length
  have gM : ∀ k, k < A.length → (medTo A B C' A.length).getD k default = medN (A.getD k default) (B.getD k default) (C'.getD k default) := fun k hk => by
    unfold medTo
    rw [List.getD_eq_getElem?_getD, List.getElem?_map, List.getElem?_range hk]; rfl
  obtain ⟨M, hM⟩ : ∃ M, medTo A B C' A.length = M := ⟨_, rfl⟩
  rw [hM] at lM gM
  rw [hM]
  refine ⟨fun _ => ?_, (fun h => nomatch h)⟩
  refine if_nef (fun _ => ?_) (fun h => absurd rfl h)
  refine if_nef (fun _ => ?_) (fun h => absurd rfl h)
  refine if_ne (fun q => absurd (by rw [lM, lA]; exact hnw) q) (fun _ => ?_)
  obtain ⟨W, hW⟩ : ∃ W, w64 ((max2I w 0).tmod 20) = W := ⟨_, rfl⟩
  obtain ⟨H, hH⟩ : ∃ H, w64 ((max2I h 0).tmod 20) = H := ⟨_, rfl⟩
  refine loop_nat M.length (SMm W H odd A B C' M) ?_ (fun k hk => ?_)
  · rw [← hW, ← hH]
    refine ent_of (rl := [(0, 44), (1, 51), (2, 28), (3, 35), (4, 42)]) (nl := []) ⟨rfl, ?_, ?_, ⟨⟨Nat.le_of_ble_eq_true rfl, subR.refl _⟩, ⟨Nat.le_of_ble_eq_true rfl, subR.refl _⟩, ⟨Nat.le_of_ble_eq_true rfl, subR.refl _⟩, trivial⟩, rfl, rfl, (by first | exact Nat.zero_le _ | exact Nat.le_of_ble_eq_true rfl), trivial, ⟨⟨(by first | exact Nat.zero_le _ | exact Nat.le_of_ble_eq_true rfl), (by first | exact Nat.zero_le _ | exact Nat.le_of_ble_eq_true rfl)⟩, ⟨(by first | exact Nat.zero_le _ | exact Nat.le_of_ble_eq_true rfl), (by first | exact Nat.zero_le _ | exact Nat.le_of_ble_eq_true rfl)⟩, ⟨(by first | exact Nat.zero_le _ | exact Nat.le_of_ble_eq_true rfl), (by first | exact Nat.zero_le _ | exact Nat.le_of_ble_eq_true rfl)⟩, ⟨(by first | exact Nat.zero_le _ | exact Nat.le_of_ble_eq_true rfl), (by first | exact Nat.zero_le _ | exact Nat.le_of_ble_eq_true rfl)⟩, ⟨(by first | exact Nat.zero_le _ | exact Nat.le_of_ble_eq_true rfl), (by first | exact Nat.zero_le _ | exact Nat.le_of_ble_eq_true rfl)⟩, trivial⟩⟩ <;> (repeat' (first | exact trivial | exact SameL.refl _ | exact ep_seal rfl rfl | assumption | exact congrArg (Value.int _) (by assumption) | exact rfl | exact Nat.le_of_ble_eq_true rfl | decide | apply And.intro | apply all1 | apply all2 | apply all3 | apply all4 | apply all5))
  refine if_dec (fun hlt => ?_) (fun hge => ?_)
  · have hlt : k < M.length := by omega
    have hw' := w64_succ hlt (by omega)
    refine ⟨⟨by omega, by omega⟩, ?_⟩
    refine ⟨⟨by omega, by show (k : Int) < (A.length : Int); omega⟩, ?_⟩
    refine ⟨by show (k : Int).toNat < A.length; omega, ?_⟩
    refine ⟨⟨by omega, by show (k : Int) < (B.length : Int); omega⟩, ?_⟩
    refine ⟨by show (k : Int).toNat < B.length; omega, ?_⟩
    refine ⟨⟨by omega, by show (k : Int) < (C'.length : Int); omega⟩, ?_⟩
    refine ⟨by show (k : Int).toNat < C'.length; omega, ?_⟩
    refine ⟨_, med_at (A.getD k default) (B.getD k default) (C'.getD k default), ?_⟩
    refine if_ne (fun q => absurd (gM k (by omega)) q) (fun _ => ?_)
    refine ⟨k + 1, ⟨Nat.lt_succ_self _, hlt⟩, ?_⟩
    refine ent_of (rl := []) (nl := []) ⟨rfl, ?_, ?_, ⟨⟨Nat.le_of_ble_eq_true rfl, subR.refl _⟩, ⟨Nat.le_of_ble_eq_true rfl, subR.refl _⟩, ⟨Nat.le_of_ble_eq_true rfl, subR.refl _⟩, trivial⟩, rfl, rfl, (by first | exact Nat.zero_le _ | exact Nat.le_of_ble_eq_true rfl), trivial, trivial⟩ <;> (repeat' (first | exact trivial | exact SameL.refl _ | exact ep_seal rfl rfl | assumption | exact congrArg (Value.int _) (by assumption) | exact rfl | exact Nat.le_of_ble_eq_true rfl | decide | apply And.intro | apply all1 | apply all2 | apply all3 | apply all4 | apply all5))
  have hin : k = M.length := by omega
  subst hin
  have W19 : 0 ≤ W ∧ W ≤ 19 := by rw [← hW, eW]; exact w2
  have H19 : 0 ≤ H ∧ H ≤ 19 := by rw [← hH, eH]; exact h2
  have hWH : (n : Int) = w64 (W * H) := by rw [← hW, ← hH]; exact hnw
  refine if_eq (fun _ => ?_) (fun _ => ?_)
  · have p1 := merge_bad (w := W) (h := H) (w1 := w64 (W + 1)) (h1 := H) (w2 := W) (h2 := H) (a := A) (b := B) (c := C') (fun q => by have q := q.1; rw [w64_in (by omega)] at q; omega)
    refine ⟨_, p1, ?_⟩
    refine ⟨fun _ => ?_, (fun h => nomatch h)⟩
    exact ⟨⟨rfl, trivial⟩, trivial⟩
  refine if_eq (fun _ => ?_) (fun _ => ?_)
  · have p1 := merge_bad (w := W) (h := H) (w1 := W) (h1 := H) (w2 := W) (h2 := w64 (H + 1)) (a := A) (b := B) (c := C') (fun q => by have q := q.2.2.2.1; rw [w64_in (by omega)] at q; omega)
    refine ⟨_, p1, ?_⟩
    refine ⟨fun _ => ?_, (fun h => nomatch h)⟩
    exact ⟨⟨rfl, trivial⟩, trivial⟩
  refine if_eq (fun _ => ?_) (fun _ => ?_)
  · have p1 := merge_bad (w := W) (h := H) (w1 := W) (h1 := H) (w2 := W) (h2 := H) (a := A) (b := B ++ [7]) (c := C') (fun q => by have q := q.2.2.2.2.2.1; rw [List.length_append, ← hWH] at q; simp at q; omega)
    refine ⟨appB (n := B.length) (by omega) (by decide), ?_⟩
    refine ⟨_, p1.args ⟨rfl, ⟨SameL.refl _, SameL.refl _, SameL.refl _, SameL.refl _, SameL.refl _, snoc_same rfl, SameL.refl _, SameL.refl _, SameL.refl _, trivial⟩, trivial⟩, ?_⟩
    refine ⟨fun _ => ?_, (fun h => nomatch h)⟩
    exact ⟨⟨rfl, trivial⟩, trivial⟩
  · have p1 := merge_bad (w := W) (h := H) (w1 := W) (h1 := H) (w2 := W) (h2 := H) (a := A ++ [7]) (b := B) (c := C') (fun q => by have q := q.2.2.2.2.1; rw [List.length_append, ← hWH] at q; simp at q; omega)
    refine ⟨appB (n := A.length) (by omega) (by decide), ?_⟩
    refine ⟨_, p1.args ⟨rfl, ⟨SameL.refl _, SameL.refl _, snoc_same rfl, SameL.refl _, SameL.refl _, SameL.refl _, SameL.refl _, SameL.refl _, SameL.refl _, trivial⟩, trivial⟩, ?_⟩
    refine ⟨fun _ => ?_, (fun h => nomatch h)⟩
    exact ⟨⟨rfl, trivial⟩, trivial⟩
theorem ty_u8I {k : Nat} {ls : List L} (h : TyL tt (k + 1) 5 ls) : ∃ x : Int, ls = [.lit (.int .u8 x)] ∧ 0 ≤ x ∧ x ≤ 255 := by
  obtain ⟨x, h1, h2⟩ := ty_u8 (k := k) h
  exact ⟨x, h1, h2⟩
theorem a_bys {k : Nat} {a : Bool × List L} (h : TyArgs tt (k + 2) [24] [a]) : ∃ (n : Nat) (f : Nat → Nat → L) (t : List Int), a = (false, [.sl 1 n f]) ∧ n = t.length ∧ sameLs [.sl 1 n f] [.sl 1 t.length (rowOf bys t)] ∧ t.length ≤ 140737488351232 ∧ ∀ x ∈ t, 0 ≤ x ∧ x ≤ 255 := by
  obtain ⟨b, l⟩ := a
  obtain ⟨⟨e, h⟩, _⟩ := h
  have e : b = false := e
  subst e
  obtain ⟨n, f, rfl, hb, hm, hs⟩ : ∃ n f, l = [.sl 1 n f] ∧ n * 1 ≤ 140737488351232 ∧ n ≤ 9223372036854775807 ∧ ∀ i, i < n → TyL tt (k + 1) 5 ((List.range 1).map (f i)) := h
  obtain ⟨t, rfl, htk, hQ⟩ := ty_list (g := bys) (Q := fun x => 0 ≤ x ∧ x ≤ 255) hs fun ls hl => by
    obtain ⟨x, rfl, hx⟩ := ty_u8I (k := k) hl
    exact ⟨x, sameLs_refl _, hx⟩
  exact ⟨_, _, t, rfl, rfl, ⟨sl_same rfl htk, trivial⟩, by omega, hQ⟩
theorem a_i8' {k : Nat} {a : Bool × List L} (h : TyArgs tt (k + 1) [26] [a]) : ∃ n : Int, a = aI8 n ∧ -128 ≤ n ∧ n ≤ 127 := by
  obtain ⟨b, l⟩ := a
  obtain ⟨⟨e, h⟩, _⟩ := h
  have e : b = false := e
  subst e
  obtain ⟨n, rfl, hw⟩ : ∃ n, l = [.lit (.int .i8 n)] ∧ (Lit.int .i8 n).wf = true := h
  refine ⟨n, rfl, ?_⟩
  simpa [Lit.wf, IntKind.min, IntKind.max, IntKind.signed, IntKind.bits] using hw
theorem MsdfMerge_row : ∀ args, TyArgs tt 8 [24, 24, 24, 26, 26, 5] args → FnAt Try.prog 4 args [(false, [.lit (.bool true)])] := by
  intro args h
  obtain ⟨a1, a2, a3, a4, a5, a6, rfl, h1, h2, h3, h4, h5, h6⟩ := tyA6 h
  obtain ⟨_, _, a, rfl, _, sa, la, _⟩ := a_bys (k := 6) h1
  obtain ⟨_, _, b, rfl, _, sb, lb, _⟩ := a_bys (k := 6) h2
  obtain ⟨_, _, c, rfl, _, sc, lc, _⟩ := a_bys (k := 6) h3
  obtain ⟨w, rfl, hw⟩ := a_i8' (k := 7) h4
  obtain ⟨v, rfl, hh⟩ := a_i8' (k := 7) h5
  obtain ⟨o, rfl, ho⟩ := a_u8 (k := 7) h6
  exact (msdfMerge_at (by omega) (by omega) (by omega) hw hh ho).args ⟨rfl, sa, rfl, sb, rfl, sc, rfl, sameLs_refl _, rfl, sameLs_refl _, rfl, sameLs_refl _, trivial⟩
end Go.Proofs.Ytpadocjddoenhaa
