/- The contract of msdf.Merge; law12.awake; MsdfMedian, MsdfChannel, MsdfNear, MsdfMake. -/
import Derived.Test.YtpadocjddoenhaaM2c
namespace Go.Proofs.Ytpadocjddoenhaa
open Go SX
set_option linter.unusedVariables false
set_option maxRecDepth 100000
set_option maxHeartbeats 2000000

theorem if_nef {a b : Int} {A B : Prop} (h : a = b → A) (h' : a ≠ b → B) : ((a != b) = false → A) ∧ ((a != b) = true → B) := ⟨fun e => h (by simpa using e), fun e => h' (by simpa using e)⟩
@[reducible] def aF3 (w h : Int) (a : List Int) (w1 h1 : Int) (b : List Int) (w2 h2 : Int) (c : List Int) : Bool × List L := (true, [I w, I h, .sl 1 a.length (rowOf bys a), I w1, I h1, .sl 1 b.length (rowOf bys b), I w2, I h2, .sl 1 c.length (rowOf bys c)])
def medTo (a b c : List Int) (i : Nat) : List Int := (List.range i).map fun k => medN (a.getD k default) (b.getD k default) (c.getD k default)
theorem medTo_succ (a b c : List Int) (i : Nat) : medTo a b c (i + 1) = medTo a b c i ++ [medN (a.getD i default) (b.getD i default) (c.getD i default)] := by
  unfold medTo; rw [List.range_succ, List.map_append]; rfl
theorem medTo_len (a b c : List Int) (i : Nat) : (medTo a b c i).length = i := by unfold medTo; simp
theorem merge_bad {w h w1 h1 w2 h2 : Int} {a b c : List Int} (hP : ¬ (w1 = w ∧ h1 = h ∧ w2 = w ∧ h2 = h ∧ (a.length : Int) = w64 (w * h) ∧ (b.length : Int) = w64 (w * h) ∧ (c.length : Int) = w64 (w * h))) :
    FnAt Try.prog 12 [aF3 w h a w1 h1 b w2 h2 c] [aFd 0 0 [], aI 6] := by
  refine fn_at (E := EE) (fn := Try.f12) (c := Try.f12.body.getD .skip) (rs := Try.f12.results.toList) (nt := Try.f12.ntmps) EE_ok follows (by kernel_rfl) (by kernel_rfl) rfl rfl rfl [] rfl ?_
  refine Or.inl ⟨4, ?_⟩
  refine if_nef (fun _ => ?_) (fun h => absurd rfl h)
  refine if_nef (fun _ => ?_) (fun h => absurd rfl h)
  refine if_ne (fun q => ?_) (fun p0 => ?_)
  · exact ⟨⟨⟨rfl, rfl⟩, ⟨rfl, rfl⟩, ⟨rfl, rfl⟩, trivial⟩, ⟨⟨rfl, rfl⟩, trivial⟩, trivial⟩
  refine if_nef (fun q1 => ?_) (fun q => ?_)
  rotate_left
  · exact ⟨⟨⟨rfl, rfl⟩, ⟨rfl, rfl⟩, ⟨rfl, rfl⟩, trivial⟩, ⟨⟨rfl, rfl⟩, trivial⟩, trivial⟩
  refine if_nef (fun q2 => ?_) (fun q => ?_)
  rotate_left
  · exact ⟨⟨⟨rfl, rfl⟩, ⟨rfl, rfl⟩, ⟨rfl, rfl⟩, trivial⟩, ⟨⟨rfl, rfl⟩, trivial⟩, trivial⟩
  refine if_ne (fun q => ?_) (fun p1 => ?_)
  · exact ⟨⟨⟨rfl, rfl⟩, ⟨rfl, rfl⟩, ⟨rfl, rfl⟩, trivial⟩, ⟨⟨rfl, rfl⟩, trivial⟩, trivial⟩
  refine if_nef (fun q3 => ?_) (fun q => ?_)
  rotate_left
  · exact ⟨⟨⟨rfl, rfl⟩, ⟨rfl, rfl⟩, ⟨rfl, rfl⟩, trivial⟩, ⟨⟨rfl, rfl⟩, trivial⟩, trivial⟩
  refine if_nef (fun q4 => ?_) (fun q => ?_)
  rotate_left
  · exact ⟨⟨⟨rfl, rfl⟩, ⟨rfl, rfl⟩, ⟨rfl, rfl⟩, trivial⟩, ⟨⟨rfl, rfl⟩, trivial⟩, trivial⟩
  refine if_ne (fun q => ?_) (fun p2 => ?_)
  · exact ⟨⟨⟨rfl, rfl⟩, ⟨rfl, rfl⟩, ⟨rfl, rfl⟩, trivial⟩, ⟨⟨rfl, rfl⟩, trivial⟩, trivial⟩
  exact absurd ⟨q1, q2, q3, q4, p0, p1, p2⟩ hP
noncomputable def SMg (w h : Int) (a b c : List Int) (i : Nat) : SS := mkS
  [(1, .o (.p 0 0)), (2, .o (.p 1 0)), (7, .o (.p 2 0)), (50, .o (.v (.int .i64 (w64 (w * h))))), (51, .o (.v (.int .i64 i)))]
  [(0, 30, [.v (.int .i64 w), .v (.int .i64 h), .sl false 1 a.length (rowOf bys a), .v (.int .i64 w), .v (.int .i64 h), .sl false 1 b.length (rowOf bys b), .v (.int .i64 w), .v (.int .i64 h), .sl false 1 c.length (rowOf bys c)]), (1, 28, [.any, .any, .any]), (2, 28, [.v (.int .i64 w), .v (.int .i64 h), .h 3])] [(3, rB (medTo a b c i))] 4 Try.f12.ntmps
theorem merge_at {w h : Int} {a b c : List Int} (hn : a.length ≤ 9000000000) (p0 : (a.length : Int) = w64 (w * h)) (p1 : (b.length : Int) = w64 (w * h)) (p2 : (c.length : Int) = w64 (w * h)) :
    FnAt Try.prog 12 [aF3 w h a w h b w h c] [aFd w h (medTo a b c a.length), aI 0] := by
  refine fn_at (E := EE) (fn := Try.f12) (c := Try.f12.body.getD .skip) (rs := Try.f12.results.toList) (nt := Try.f12.ntmps) EE_ok follows (by kernel_rfl) (by kernel_rfl) rfl rfl rfl [] rfl ?_
  refine Or.inl ⟨4, ?_⟩
  refine if_nef (fun _ => ?_) (fun h => absurd rfl h)
  refine if_nef (fun _ => ?_) (fun h => absurd rfl h)
  refine if_ne (fun q => absurd p0 q) (fun _ => ?_)
  refine if_nef (fun _ => ?_) (fun h => absurd rfl h)
  refine if_nef (fun _ => ?_) (fun h => absurd rfl h)
  refine if_ne (fun q => absurd p1 q) (fun _ => ?_)
  refine if_nef (fun _ => ?_) (fun h => absurd rfl h)
  refine if_nef (fun _ => ?_) (fun h => absurd rfl h)
  refine if_ne (fun q => absurd p2 q) (fun _ => ?_)
  refine loop_nat a.length (SMg w h a b c) ?_ (fun i hi => ?_)
  · refine ent_of (rl := [(2, 102)]) (nl := [3]) ⟨rfl, ?_, ?_, ⟨⟨Nat.le_of_ble_eq_true rfl, rfl⟩, trivial⟩, rfl, rfl, Nat.zero_le _, ⟨Nat.zero_le _, trivial⟩, ⟨⟨Nat.zero_le _, Nat.zero_le _⟩, trivial⟩⟩ <;> (repeat' (first | exact trivial | exact SameL.refl _ | exact ep_seal rfl rfl | assumption | exact congrArg (Value.int _) (by assumption) | exact rfl | exact Nat.le_of_ble_eq_true rfl | decide | apply And.intro))
  refine if_dec (fun hlt => ?_) (fun hge => ?_)
  · have hlt : i < a.length := by have : (i : Int) < w64 (w * h) := hlt; omega
    have hw' := w64_succ hlt (by omega)
    have hl := medTo_len a b c i
    refine ⟨⟨by omega, by omega⟩, ?_⟩
    refine ⟨⟨by omega, by omega⟩, ?_⟩
    refine ⟨⟨by omega, by omega⟩, ?_⟩
    refine ⟨_, med_at (a.getD i default) (b.getD i default) (c.getD i default), ?_⟩
    refine ⟨appB (n := (medTo a b c i).length) (by omega) (by decide), ?_⟩
    refine ⟨i + 1, ⟨Nat.lt_succ_self _, hlt⟩, ?_⟩
    refine ent_of (rl := [(3, 29)]) (nl := []) ⟨rfl, ?_, ?_, ⟨⟨Nat.le_of_ble_eq_true rfl, subR_snoc rfl rfl (fun j hj => elem1 rfl) (medTo_succ a b c i) rfl⟩, trivial⟩, rfl, rfl, Nat.zero_le _, trivial, ⟨⟨Nat.zero_le _, Nat.zero_le _⟩, trivial⟩⟩ <;> (repeat' (first | exact trivial | exact SameL.refl _ | exact ep_seal rfl rfl | assumption | exact congrArg (Value.int _) (by assumption) | exact rfl | exact Nat.le_of_ble_eq_true rfl | decide | apply And.intro))
  · have hin : i = a.length := by have : ¬ (i : Int) < w64 (w * h) := hge; omega
    subst hin
    exact ⟨⟨rfl, rfl, row_ret rfl, trivial⟩, ⟨⟨rfl, rfl⟩, trivial⟩, trivial⟩
theorem same_one {es : List Ed} {l : L} (h : SameL l (.sl 4 es.length (rowOf Ed.ls es))) : SameL (.sl 1 1 fun a b => nth [l] (a * 1 + b)) (.sl 1 [es].length (rowOf edsL [es])) := by
  refine ⟨rfl, rfl, fun a ha j hj => ?_⟩
  obtain rfl : a = 0 := by omega
  obtain rfl : j = 0 := by omega
  exact h
theorem chan_5 {c : Int} {n : Nat} (h1 : (someTo (tkC [5, 6, 3] c) l10 (centre g10 (1 : Nat) (1 : Nat)) l10.length).at' = (n : Int)) (h2 : lineN (l10.getD n default) (centre g10 (1 : Nat) (1 : Nat)) = ⟨1024, 1⟩) (h3 : sideW (l10.getD n default) (centre g10 (1 : Nat) (1 : Nat)) = 1) :
    chTx l10 [5, 6, 3] g10 c 1 1 = 143 := by
  unfold chTx chanN
  rw [h1, if_neg (by rintro (q | q); omega; revert q; decide), Int.toNat_natCast, h2, h3]
  rw [show eightF ⟨1024, 1⟩ = 256 from (by unfold eightF; exact isq_uniq (by decide) (by decide) (by decide) (by decide))]
  decide
theorem get_5 {c : Int} (h : chTx l10 [5, 6, 3] g10 c 1 1 = 143) : (genF (chTx l10 [5, 6, 3] g10 c) 4 4).getD 5 default = 143 :=
  (genF_get (W := 4) (H := 4) (k := 1) (i := 1) (by decide) (by decide)).trans h
theorem awake12_at : FnAt Try.prog 9 [] [aB true] := by
  have n1 := cornerAll_at [l10] (by decide) (by decide)
  rw [show [l10].flatMap id = l10 by decide, show [l10].flatMap colours = [5, 6, 3] by decide] at n1
  have n2 := mmake_at (l := [5, 6, 3]) l10_in (by decide) g10_in
  have q0 := get_5 (chan_5 (c := 0) (n := 0) (by decide) (by decide) (by decide))
  have q1 := get_5 (chan_5 (c := 1) (n := 2) (by decide) (by decide) (by decide))
  have q2 := get_5 (chan_5 (c := 2) (n := 0) (by decide) (by decide) (by decide))
  have L : ∀ c, (genF (chTx l10 [5, 6, 3] g10 c) 4 4).length = 16 := fun c => genF_len _ _ _
  have n2 : FnAt Try.prog 17 [aEds l10, aInts [5, 6, 3], aGd g10] [aFds 4 4 (genF (chTx l10 [5, 6, 3] g10 0) 4 4) (genF (chTx l10 [5, 6, 3] g10 1) 4 4) (genF (chTx l10 [5, 6, 3] g10 2) 4 4), aI 0] := n2
  have L0 := L 0
  have L1 := L 1
  have L2 := L 2
  clear L
  generalize genF (chTx l10 [5, 6, 3] g10 0) 4 4 = A at *
  generalize genF (chTx l10 [5, 6, 3] g10 1) 4 4 = B at *
  generalize genF (chTx l10 [5, 6, 3] g10 2) 4 4 = C' at *
  have n3 := merge_at (w := 4) (h := 4) (a := A) (b := B) (c := C') (by omega) (by rw [L0]; decide) (by rw [L1]; decide) (by rw [L2]; decide)
  have n4 := med_at 3 9 5
  rw [show medN 3 9 5 = 5 by decide] at n4
  have hm5 : (medTo A B C' A.length).getD 5 default = 143 := by
    unfold medTo
    rw [L0, List.getD_eq_getElem?_getD, List.getElem?_map, List.getElem?_range (by decide)]
    show medN (A.getD 5 default) (B.getD 5 default) (C'.getD 5 default) = 143
    rw [q0, q1, q2]; decide
  have hml : (medTo A B C' A.length).length = 16 := by rw [medTo_len, L0]
  generalize medTo A B C' A.length = M at *
  refine fn_at (E := EE) (fn := Try.f9) (c := Try.f9.body.getD .skip) (rs := Try.f9.results.toList) (nt := Try.f9.ntmps) EE_ok follows (by kernel_rfl) (by kernel_rfl) rfl rfl rfl [] rfl ?_
  refine ⟨_, n1.args ⟨rfl, ⟨same_one (lit_same l10 (fun _ => rfl) rfl rfl), trivial⟩, trivial⟩, ?_⟩
  refine ⟨_, n2, ?_⟩
  refine ⟨fun _ => ?_, (fun h => nomatch h)⟩
  refine if_nef (fun _ => ?_) (fun h => absurd (show ((A.length : Nat) : Int) = 16 by omega) h)
  refine if_ne (fun h => absurd (show ((C'.length : Nat) : Int) = 16 by omega) h) (fun _ => ?_)
  refine ⟨_, n3, ?_⟩
  refine ⟨fun _ => ?_, (fun h => nomatch h)⟩
  refine if_eq (fun _ => ?_) (fun h => absurd (show ((M.length : Nat) : Int) = 16 by omega) h)
  refine ⟨_, n4, ?_⟩
  refine ⟨fun _ => ?_, (fun h => nomatch h)⟩
  refine ⟨⟨by decide, by show (5 : Int) < (M.length : Nat); omega⟩, ?_⟩
  refine ⟨⟨vB (decide_eq_true (show M.getD 5 default > 128 by rw [hm5]; decide)).symm, trivial⟩, trivial⟩
end Go.Proofs.Ytpadocjddoenhaa
