/- The contracts of law06.Same, law06.edges, law06.FlatEdges. -/
import Derived.Test.YtgbhoinfemjbiaaL6a
namespace Go.Proofs.Ytgbhoinfemjbiaa
open Go SX
set_option linter.unusedVariables false
set_option maxRecDepth 100000

/-! ### law06.Same -/
noncomputable def SSame (es fs : List Ed) (i : Nat) : SS := mkS
  [(0, .o (.sl false 4 es.length (rowOf Ed.ls es))), (1, .o (.sl false 4 fs.length (rowOf Ed.ls fs))), (12, .o (.v (.int .i64 es.length))), (13, .o (.v (.int .i64 i)))] [] [] 0 Try.f18.ntmps
theorem list_ext {α : Type} [Inhabited α] {es fs : List α} (hl : es.length = fs.length) (h : ∀ k, k < es.length → es.getD k default = fs.getD k default) : es = fs := by
  refine List.ext_getElem hl fun k h1 h2 => ?_
  have := h k h1
  rwa [List.getD_eq_getElem?_getD, List.getD_eq_getElem?_getD, List.getElem?_eq_getElem h1, List.getElem?_eq_getElem h2] at this
theorem same_at (es fs : List Ed) (h : es.length ≤ 9000000000000000000) : FnAt Try.prog 18 [aEds es, aEds fs] [aB (decide (es = fs))] := by
  refine fn_at (E := EE) (fn := Try.f18) (c := Try.f18.body.getD .skip) (rs := Try.f18.results.toList) (nt := Try.f18.ntmps) EE_ok follows (by kernel_rfl) (by kernel_rfl) rfl rfl rfl [] rfl ?_
  refine if_ne (fun hl => ?_) (fun hl => ?_)
  · refine ⟨⟨kB (decide_eq_false ?_), trivial⟩, trivial⟩
    rintro rfl; exact hl rfl
  have hl : es.length = fs.length := by omega
  refine loop_natP es.length (fun i => ∀ k, k < i → es.getD k default = fs.getD k default) (SSame es fs) (fun k hk => by omega) ?_ (fun i hi hp => ?_)
  · refine ent_of (rl := []) (nl := []) ⟨rfl, ?_, ?_, trivial, rfl, rfl, Nat.zero_le _, trivial, trivial⟩ <;> (repeat' (first | exact trivial | exact SameL.refl _ | exact ep_seal rfl rfl | assumption | exact congrArg (Value.int .i64) (by assumption) | exact rfl | exact Nat.le_of_ble_eq_true rfl | decide | apply And.intro))
  refine if_dec (fun hlt => ?_) (fun hge => ?_)
  · have hlt : i < es.length := by omega
    have hw := w64_succ hlt (by omega)
    refine ⟨⟨by omega, by omega⟩, ⟨by omega, by omega⟩, ?_⟩
    refine if_ned (a := es.getD i default) (b := fs.getD i default) (fun hne => ?_) (fun heq => ?_)
    · refine ⟨⟨kB (decide_eq_false ?_), trivial⟩, trivial⟩
      rintro rfl; exact hne rfl
    · refine ⟨i + 1, ⟨Nat.lt_succ_self _, hlt, fun k hk => ?_⟩, ?_⟩
      · by_cases h' : k < i
        · exact hp k h'
        · obtain rfl : k = i := by omega
          exact heq
      · refine ent_of (rl := []) (nl := []) ⟨rfl, ?_, ?_, trivial, rfl, rfl, Nat.zero_le _, trivial, trivial⟩ <;> (repeat' (first | exact trivial | exact SameL.refl _ | exact ep_seal rfl rfl | assumption | exact congrArg (Value.int .i64) (by assumption) | exact rfl | exact Nat.le_of_ble_eq_true rfl | decide | apply And.intro))
  · have hin : i = es.length := by omega
    subst hin
    exact ⟨⟨kB (decide_eq_true (list_ext hl hp)), trivial⟩, trivial⟩

/-! ### law06.edges -/
def segL (es : List Ed) (s : Sg) : List Ed := match s.cv with
  | false => putE es (lonP s 0) (lonP s 4)
  | true => putE (putE (putE (putE es (lonP s 0) (lonP s 1)) (lonP s 1) (lonP s 2)) (lonP s 2) (lonP s 3)) (lonP s 3) (lonP s 4)
def edgesL (ss : List Sg) : List Ed := ss.foldl segL []
noncomputable def SLe (ss : List Sg) (i : Nat) : SS := mkS
  [(3, .o (.h 0)), (8, .o (.sl false 7 ss.length (rowOf Sg.ls ss))), (9, .o (.v (.int .i64 ss.length))), (10, .o (.v (.int .i64 i)))] [] [(0, rE (edgesL (ss.take i)))] 1 Try.f20.ntmps
theorem putE_ne {es : List Ed} {a b : Pt} (h : b ≠ a) : putE es a b = es ++ [⟨a, b⟩] := by unfold putE; rw [if_neg (Ne.symm h)]
theorem putE_same {es : List Ed} {a b : Pt} (h : b = a) : putE es a b = es := by unfold putE; rw [if_pos h.symm]
@[reducible] def c2 (p q : Pt) : List C := [.v (.int .i64 p.x), .v (.int .i64 p.y), .v (.int .i64 q.x), .v (.int .i64 q.y)]
@[reducible] def c5 (p q r s u : Pt) : List C := [.v (.int .i64 p.x), .v (.int .i64 p.y), .v (.int .i64 q.x), .v (.int .i64 q.y), .v (.int .i64 r.x), .v (.int .i64 r.y), .v (.int .i64 s.x), .v (.int .i64 s.y), .v (.int .i64 u.x), .v (.int .i64 u.y)]
theorem segL_len (es : List Ed) (s : Sg) : (segL es s).length ≤ es.length + 4 := by
  unfold segL
  split
  · have := putE_len es (lonP s 0) (lonP s 4); omega
  · have h1 := putE_len es (lonP s 0) (lonP s 1)
    have h2 := putE_len (putE es (lonP s 0) (lonP s 1)) (lonP s 1) (lonP s 2)
    have h3 := putE_len (putE (putE es (lonP s 0) (lonP s 1)) (lonP s 1) (lonP s 2)) (lonP s 2) (lonP s 3)
    have h4 := putE_len (putE (putE (putE es (lonP s 0) (lonP s 1)) (lonP s 1) (lonP s 2)) (lonP s 2) (lonP s 3)) (lonP s 3) (lonP s 4)
    omega
theorem edgesL_len (ss : List Sg) : (edgesL ss).length ≤ 4 * ss.length := by
  have key : ∀ (ss : List Sg) (es : List Ed), (ss.foldl segL es).length ≤ es.length + 4 * ss.length := by
    intro ss
    induction ss with
    | nil => intro es; exact Nat.le_refl _
    | cons s ss ih =>
      intro es
      have h1 := ih (segL es s)
      have h2 := segL_len es s
      simp only [List.foldl_cons, List.length_cons]; omega
  have := key ss []
  unfold edgesL; simpa using this
noncomputable def SLj (ss : List Sg) (i : Nat) (cs : List C) (n : Nat) (k : Int) (es : List Ed) : SS := mkS
  [(3, .o (.h 0)), (6, .o (.s 1 n)), (7, .o (.k (.int .i64 k))), (8, .o (.sl false 7 ss.length (rowOf Sg.ls ss))), (9, .o (.v (.int .i64 ss.length))), (10, .o (.v (.int .i64 i)))] [(1, 23, cs)] [(0, rE es)] 2 Try.f20.ntmps
set_option maxHeartbeats 2000000 in
theorem edgesL_at (ss : List Sg) (h : ss.length ≤ 900000000000) : FnAt Try.prog 20 [aSgs ss] [aEds (edgesL ss)] := by
  refine fn_at (E := EE) (fn := Try.f20) (c := Try.f20.body.getD .skip) (rs := Try.f20.results.toList) (nt := Try.f20.ntmps) EE_ok follows (by kernel_rfl) (by kernel_rfl) rfl rfl rfl [10] rfl ?_
  refine loop_nat ss.length (SLe ss) ?_ (fun i hi => ?_)
  · refine ent_of (rl := []) (nl := [0]) ⟨rfl, ?_, ?_, ⟨⟨Nat.le_of_ble_eq_true rfl, rfl⟩, trivial⟩, rfl, rfl, Nat.zero_le _, ⟨Nat.zero_le _, trivial⟩, trivial⟩ <;> (repeat' (first | exact trivial | exact SameL.refl _ | exact ep_seal rfl rfl | assumption | exact congrArg (Value.int .i64) (by assumption) | exact rfl | exact Nat.le_of_ble_eq_true rfl | decide | apply And.intro))
  have hlen := edgesL_len (ss.take i)
  rw [List.length_take, Nat.min_eq_left hi] at hlen
  refine if_dec (fun hlt => ?_) (fun hge => ?_)
  · have hlt : i < ss.length := by omega
    have hw := w64_succ hlt (by omega)
    have hf := foldl_take segL [] ss i hlt
    refine ⟨⟨by omega, by omega⟩, ?_⟩
    refine ⟨_, lon_at (ss.getD i default) 0, ?_⟩
    refine ⟨_, lon_at (ss.getD i default) 4, ?_⟩
    refine if_b (fun hcv => ?_) (fun hcv => ?_)
    · have hcv : (ss.getD i default).cv = true := hcv
      refine ⟨_, lon_at (ss.getD i default) 0, ?_⟩
      refine ⟨_, lon_at (ss.getD i default) 1, ?_⟩
      refine ⟨_, lon_at (ss.getD i default) 2, ?_⟩
      refine ⟨_, lon_at (ss.getD i default) 3, ?_⟩
      refine ⟨_, lon_at (ss.getD i default) 4, ?_⟩
      have l0 := putE_len (edgesL (ss.take i)) (lonP (ss.getD i default) 0) (lonP (ss.getD i default) 1)
      have l1 := putE_len (putE (edgesL (ss.take i)) (lonP (ss.getD i default) 0) (lonP (ss.getD i default) 1)) (lonP (ss.getD i default) 1) (lonP (ss.getD i default) 2)
      have l2 := putE_len (putE (putE (edgesL (ss.take i)) (lonP (ss.getD i default) 0) (lonP (ss.getD i default) 1)) (lonP (ss.getD i default) 1) (lonP (ss.getD i default) 2)) (lonP (ss.getD i default) 2) (lonP (ss.getD i default) 3)
      refine Or.inl ⟨5, ?_⟩
      refine ⟨Unit, fun _ => SLj ss i (c5 (lonP (ss.getD i default) 0) (lonP (ss.getD i default) 1) (lonP (ss.getD i default) 2) (lonP (ss.getD i default) 3) (lonP (ss.getD i default) 4)) 5 1 (putE (edgesL (ss.take i)) (lonP (ss.getD i default) 0) (lonP (ss.getD i default) 1)), ?_, fun _ => ?_⟩
      · refine if_npt (a := (lonP (ss.getD i default) 1)) (b := (lonP (ss.getD i default) 0)) (fun hne => ?_) (fun heq => ?_)
        · refine ⟨appB (n := (edgesL (ss.take i)).length) (by omega) (by decide), (), ?_⟩
          refine ent_of (rl := [(0, 53), (1, 24)]) (nl := []) ⟨rfl, ?_, ?_, ⟨⟨Nat.le_of_ble_eq_true rfl, subR_snoc (x := ⟨(lonP (ss.getD i default) 0), (lonP (ss.getD i default) 1)⟩) rfl rfl (fun j _ => elem1 rfl) (putE_ne hne) rfl⟩, trivial⟩, rfl, rfl, Nat.zero_le _, trivial, ⟨⟨Nat.zero_le _, Nat.zero_le _⟩, ⟨Nat.zero_le _, Nat.zero_le _⟩, trivial⟩⟩ <;> (repeat' (first | exact trivial | exact SameL.refl _ | exact ep_seal rfl rfl | assumption | exact congrArg (Value.int .i64) (by assumption) | exact rfl | exact Nat.le_of_ble_eq_true rfl | decide | apply And.intro))
        · refine ⟨(), ?_⟩
          refine ent_of (rl := [(1, 24)]) (nl := []) ⟨rfl, ?_, ?_, ⟨⟨Nat.le_of_ble_eq_true rfl, subR_eq (putE_same heq) rfl⟩, trivial⟩, rfl, rfl, Nat.zero_le _, trivial, ⟨⟨Nat.zero_le _, Nat.zero_le _⟩, trivial⟩⟩ <;> (repeat' (first | exact trivial | exact SameL.refl _ | exact ep_seal rfl rfl | assumption | exact congrArg (Value.int .i64) (by assumption) | exact rfl | exact Nat.le_of_ble_eq_true rfl | decide | apply And.intro))
      refine ⟨Unit, fun _ => SLj ss i (c5 (lonP (ss.getD i default) 0) (lonP (ss.getD i default) 1) (lonP (ss.getD i default) 2) (lonP (ss.getD i default) 3) (lonP (ss.getD i default) 4)) 5 2 (putE (putE (edgesL (ss.take i)) (lonP (ss.getD i default) 0) (lonP (ss.getD i default) 1)) (lonP (ss.getD i default) 1) (lonP (ss.getD i default) 2)), ?_, fun _ => ?_⟩
      · refine if_npt (a := (lonP (ss.getD i default) 2)) (b := (lonP (ss.getD i default) 1)) (fun hne => ?_) (fun heq => ?_)
        · refine ⟨appB (n := (putE (edgesL (ss.take i)) (lonP (ss.getD i default) 0) (lonP (ss.getD i default) 1)).length) (by omega) (by decide), (), ?_⟩
          refine ent_of (rl := [(0, 31)]) (nl := []) ⟨rfl, ?_, ?_, ⟨⟨Nat.le_of_ble_eq_true rfl, subR_snoc (x := ⟨(lonP (ss.getD i default) 1), (lonP (ss.getD i default) 2)⟩) rfl rfl (fun j _ => elem1 rfl) (putE_ne hne) rfl⟩, trivial⟩, rfl, rfl, Nat.zero_le _, trivial, ⟨⟨Nat.zero_le _, Nat.zero_le _⟩, trivial⟩⟩ <;> (repeat' (first | exact trivial | exact SameL.refl _ | exact ep_seal rfl rfl | assumption | exact congrArg (Value.int .i64) (by assumption) | exact rfl | exact Nat.le_of_ble_eq_true rfl | decide | apply And.intro))
        · refine ⟨(), ?_⟩
          refine ent_of (rl := []) (nl := []) ⟨rfl, ?_, ?_, ⟨⟨Nat.le_of_ble_eq_true rfl, subR_eq (putE_same heq) rfl⟩, trivial⟩, rfl, rfl, Nat.zero_le _, trivial, trivial⟩ <;> (repeat' (first | exact trivial | exact SameL.refl _ | exact ep_seal rfl rfl | assumption | exact congrArg (Value.int .i64) (by assumption) | exact rfl | exact Nat.le_of_ble_eq_true rfl | decide | apply And.intro))
      refine ⟨Unit, fun _ => SLj ss i (c5 (lonP (ss.getD i default) 0) (lonP (ss.getD i default) 1) (lonP (ss.getD i default) 2) (lonP (ss.getD i default) 3) (lonP (ss.getD i default) 4)) 5 3 (putE (putE (putE (edgesL (ss.take i)) (lonP (ss.getD i default) 0) (lonP (ss.getD i default) 1)) (lonP (ss.getD i default) 1) (lonP (ss.getD i default) 2)) (lonP (ss.getD i default) 2) (lonP (ss.getD i default) 3)), ?_, fun _ => ?_⟩
      · refine if_npt (a := (lonP (ss.getD i default) 3)) (b := (lonP (ss.getD i default) 2)) (fun hne => ?_) (fun heq => ?_)
        · refine ⟨appB (n := (putE (putE (edgesL (ss.take i)) (lonP (ss.getD i default) 0) (lonP (ss.getD i default) 1)) (lonP (ss.getD i default) 1) (lonP (ss.getD i default) 2)).length) (by omega) (by decide), (), ?_⟩
          refine ent_of (rl := [(0, 31)]) (nl := []) ⟨rfl, ?_, ?_, ⟨⟨Nat.le_of_ble_eq_true rfl, subR_snoc (x := ⟨(lonP (ss.getD i default) 2), (lonP (ss.getD i default) 3)⟩) rfl rfl (fun j _ => elem1 rfl) (putE_ne hne) rfl⟩, trivial⟩, rfl, rfl, Nat.zero_le _, trivial, ⟨⟨Nat.zero_le _, Nat.zero_le _⟩, trivial⟩⟩ <;> (repeat' (first | exact trivial | exact SameL.refl _ | exact ep_seal rfl rfl | assumption | exact congrArg (Value.int .i64) (by assumption) | exact rfl | exact Nat.le_of_ble_eq_true rfl | decide | apply And.intro))
        · refine ⟨(), ?_⟩
          refine ent_of (rl := []) (nl := []) ⟨rfl, ?_, ?_, ⟨⟨Nat.le_of_ble_eq_true rfl, subR_eq (putE_same heq) rfl⟩, trivial⟩, rfl, rfl, Nat.zero_le _, trivial, trivial⟩ <;> (repeat' (first | exact trivial | exact SameL.refl _ | exact ep_seal rfl rfl | assumption | exact congrArg (Value.int .i64) (by assumption) | exact rfl | exact Nat.le_of_ble_eq_true rfl | decide | apply And.intro))
      refine ⟨Unit, fun _ => SLj ss i (c5 (lonP (ss.getD i default) 0) (lonP (ss.getD i default) 1) (lonP (ss.getD i default) 2) (lonP (ss.getD i default) 3) (lonP (ss.getD i default) 4)) 5 4 (putE (putE (putE (putE (edgesL (ss.take i)) (lonP (ss.getD i default) 0) (lonP (ss.getD i default) 1)) (lonP (ss.getD i default) 1) (lonP (ss.getD i default) 2)) (lonP (ss.getD i default) 2) (lonP (ss.getD i default) 3)) (lonP (ss.getD i default) 3) (lonP (ss.getD i default) 4)), ?_, fun _ => ?_⟩
      · refine if_npt (a := (lonP (ss.getD i default) 4)) (b := (lonP (ss.getD i default) 3)) (fun hne => ?_) (fun heq => ?_)
        · refine ⟨appB (n := (putE (putE (putE (edgesL (ss.take i)) (lonP (ss.getD i default) 0) (lonP (ss.getD i default) 1)) (lonP (ss.getD i default) 1) (lonP (ss.getD i default) 2)) (lonP (ss.getD i default) 2) (lonP (ss.getD i default) 3)).length) (by omega) (by decide), (), ?_⟩
          refine ent_of (rl := [(0, 31)]) (nl := []) ⟨rfl, ?_, ?_, ⟨⟨Nat.le_of_ble_eq_true rfl, subR_snoc (x := ⟨(lonP (ss.getD i default) 3), (lonP (ss.getD i default) 4)⟩) rfl rfl (fun j _ => elem1 rfl) (putE_ne hne) rfl⟩, trivial⟩, rfl, rfl, Nat.zero_le _, trivial, ⟨⟨Nat.zero_le _, Nat.zero_le _⟩, trivial⟩⟩ <;> (repeat' (first | exact trivial | exact SameL.refl _ | exact ep_seal rfl rfl | assumption | exact congrArg (Value.int .i64) (by assumption) | exact rfl | exact Nat.le_of_ble_eq_true rfl | decide | apply And.intro))
        · refine ⟨(), ?_⟩
          refine ent_of (rl := []) (nl := []) ⟨rfl, ?_, ?_, ⟨⟨Nat.le_of_ble_eq_true rfl, subR_eq (putE_same heq) rfl⟩, trivial⟩, rfl, rfl, Nat.zero_le _, trivial, trivial⟩ <;> (repeat' (first | exact trivial | exact SameL.refl _ | exact ep_seal rfl rfl | assumption | exact congrArg (Value.int .i64) (by assumption) | exact rfl | exact Nat.le_of_ble_eq_true rfl | decide | apply And.intro))
      refine ⟨i + 1, ⟨Nat.lt_succ_self _, hlt⟩, ?_⟩
      refine ent_of (rl := []) (nl := []) ⟨rfl, ?_, ?_, ⟨⟨Nat.le_of_ble_eq_true rfl, subR_eq (by unfold edgesL; rw [hf]; unfold segL; rw [hcv]) rfl⟩, trivial⟩, rfl, rfl, Nat.zero_le _, trivial, trivial⟩ <;> (repeat' (first | exact trivial | exact SameL.refl _ | exact ep_seal rfl rfl | assumption | exact congrArg (Value.int .i64) (by assumption) | exact rfl | exact Nat.le_of_ble_eq_true rfl | decide | apply And.intro))
    · have hcv : (ss.getD i default).cv = false := hcv
      refine Or.inl ⟨2, ?_⟩
      refine ⟨Unit, fun _ => SLj ss i (c2 (lonP (ss.getD i default) 0) (lonP (ss.getD i default) 4)) 2 1 (putE (edgesL (ss.take i)) (lonP (ss.getD i default) 0) (lonP (ss.getD i default) 4)), ?_, fun _ => ?_⟩
      · refine if_npt (a := (lonP (ss.getD i default) 4)) (b := (lonP (ss.getD i default) 0)) (fun hne => ?_) (fun heq => ?_)
        · refine ⟨appB (n := (edgesL (ss.take i)).length) (by omega) (by decide), (), ?_⟩
          refine ent_of (rl := [(0, 41), (1, 10)]) (nl := []) ⟨rfl, ?_, ?_, ⟨⟨Nat.le_of_ble_eq_true rfl, subR_snoc (x := ⟨(lonP (ss.getD i default) 0), (lonP (ss.getD i default) 4)⟩) rfl rfl (fun j _ => elem1 rfl) (putE_ne hne) rfl⟩, trivial⟩, rfl, rfl, Nat.zero_le _, trivial, ⟨⟨Nat.zero_le _, Nat.zero_le _⟩, ⟨Nat.zero_le _, Nat.zero_le _⟩, trivial⟩⟩ <;> (repeat' (first | exact trivial | exact SameL.refl _ | exact ep_seal rfl rfl | assumption | exact congrArg (Value.int .i64) (by assumption) | exact rfl | exact Nat.le_of_ble_eq_true rfl | decide | apply And.intro))
        · refine ⟨(), ?_⟩
          refine ent_of (rl := [(1, 10)]) (nl := []) ⟨rfl, ?_, ?_, ⟨⟨Nat.le_of_ble_eq_true rfl, subR_eq (putE_same heq) rfl⟩, trivial⟩, rfl, rfl, Nat.zero_le _, trivial, ⟨⟨Nat.zero_le _, Nat.zero_le _⟩, trivial⟩⟩ <;> (repeat' (first | exact trivial | exact SameL.refl _ | exact ep_seal rfl rfl | assumption | exact congrArg (Value.int .i64) (by assumption) | exact rfl | exact Nat.le_of_ble_eq_true rfl | decide | apply And.intro))
      refine ⟨i + 1, ⟨Nat.lt_succ_self _, hlt⟩, ?_⟩
      refine ent_of (rl := []) (nl := []) ⟨rfl, ?_, ?_, ⟨⟨Nat.le_of_ble_eq_true rfl, subR_eq (by unfold edgesL; rw [hf]; unfold segL; rw [hcv]) rfl⟩, trivial⟩, rfl, rfl, Nat.zero_le _, trivial, trivial⟩ <;> (repeat' (first | exact trivial | exact SameL.refl _ | exact ep_seal rfl rfl | assumption | exact congrArg (Value.int .i64) (by assumption) | exact rfl | exact Nat.le_of_ble_eq_true rfl | decide | apply And.intro))
  · have hin : i = ss.length := by omega
    subst hin
    exact ⟨⟨row_ret (by rw [List.take_length]), trivial⟩, trivial⟩
end Go.Proofs.Ytgbhoinfemjbiaa
