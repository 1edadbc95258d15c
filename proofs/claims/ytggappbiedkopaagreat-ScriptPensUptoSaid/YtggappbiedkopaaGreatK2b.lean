/- Law 22: contracts of Check and Same. -/
import Derived.Test.YtggappbiedkopaaGreatK2a
namespace Go.Proofs.YtggappbiedkopaaGreat
open Go SX
set_option linter.unusedVariables false
set_option maxRecDepth 100000
set_option maxHeartbeats 1000000

def okV (v : Gv) : Prop := -255 ≤ v.x ∧ v.x ≤ 255 ∧ -255 ≤ v.y ∧ v.y ≤ 255
def total (o : List (List Gv)) : Nat := (o.map List.length).sum
structure okO (o : List (List Gv)) : Prop where
  n : o.length ≤ 8
  t : total o ≤ 64
  c : ∀ c ∈ o, 0 < c.length ∧ ∀ v ∈ c, okV v
theorem getD_memG {α : Type} [Inhabited α] {l : List α} {i : Nat} (h : i < l.length) : l.getD i default ∈ l := by
  rw [List.getD_eq_getElem?_getD, List.getElem?_eq_getElem h]; exact List.getElem_mem h
theorem total_take {o : List (List Gv)} {i : Nat} (h : i < o.length) : total (o.take (i + 1)) = total (o.take i) + (o.getD i default).length := by
  unfold total
  rw [List.take_add_one, List.map_append, List.sum_append, List.getD_eq_getElem?_getD, List.getElem?_eq_getElem h]
  simp
theorem total_le (o : List (List Gv)) (i : Nat) : total (o.take i) ≤ total o := by
  conv => rhs; rw [← List.take_append_drop i o]
  unfold total
  rw [List.map_append, List.sum_append]
  omega
theorem eqL_self (v : Gv) : SX.eqL [.int .i64 v.x, .int .i64 v.y, .bool v.on] [.int .i64 v.x, .int .i64 v.y, .bool v.on] = true := by simp [SX.eqL, SX.eq1]
noncomputable def SCk (o : List (List Gv)) (i : Nat) : SS := mkS
  [(3, .o (.v (.int .i64 (total (o.take i) : Nat)))), (13, .o (.sl false 1 o.length (rowOf cL o))), (14, .o (.v (.int .i64 o.length))), (15, .o (.v (.int .i64 i)))] [] [] 0 Tryz.f14.ntmps
noncomputable def SCi (o : List (List Gv)) (c : List Gv) (i k : Nat) : SS := mkS
  [(3, .o (.v (.int .i64 (total (o.take (i + 1)) : Nat)))), (13, .o (.sl false 1 o.length (rowOf cL o))), (14, .o (.v (.int .i64 o.length))), (15, .o (.v (.int .i64 i))), (30, .o (.sl false 3 c.length (rowOf vL c))), (31, .o (.v (.int .i64 c.length))), (32, .o (.v (.int .i64 k)))] [] [] 0 Tryz.f14.ntmps
theorem checkO_at (o : List (List Gv)) (ho : okO o) : FnAt Tryz.prog 14 [aO o] [aI 0] := by
  have h8 := ho.n
  have h64 := ho.t
  refine fn_at (E := EE) (fn := Tryz.f14) (c := Tryz.f14.body.getD .skip) (rs := Tryz.f14.results.toList) (nt := Tryz.f14.ntmps) EE_ok follows (by kernel_rfl) (by kernel_rfl) rfl rfl rfl [] rfl ?_
  refine if_dec (fun h => ?_) (fun h => ?_)
  · have h : (o.length : Int) > 8 := h
    omega
  refine loop_nat o.length (SCk o) ?_ (fun i hi => ?_)
  · refine ent_of (rl := []) (nl := []) ⟨rfl, ?_, ?_, trivial, rfl, rfl, Nat.zero_le _, trivial, trivial⟩ <;> (repeat' (first | exact trivial | exact SameL.refl _ | exact ep_seal rfl rfl | assumption | exact congrArg (Value.int _) (by assumption) | exact rfl | exact Nat.le_of_ble_eq_true rfl | decide | apply And.intro))
  refine if_dec (fun hlt => ?_) (fun hge => ?_)
  · have hlt : i < o.length := by omega
    have hw := w64_succ hlt (by omega)
    obtain ⟨hc1, hc2⟩ := ho.c _ (getD_memG hlt)
    have ht := total_take hlt
    have hle := total_le o (i + 1)
    have hwt : w64 ((total (o.take i) : Nat) + ((o.getD i default).length : Int)) = (total (o.take (i + 1)) : Nat) := by rw [w64_in (by omega)]; omega
    refine ⟨⟨by omega, by omega⟩, ?_⟩
    refine if_dec (fun h => ?_) (fun h => ?_)
    · have h : w64 ((total (o.take i) : Nat) + ((o.getD i default).length : Int)) > 64 := h
      omega
    refine if_eq (fun h => ?_) (fun h => ?_)
    · have h : ((o.getD i default).length : Int) = 0 := h
      omega
    refine loop_nat (o.getD i default).length (SCi o (o.getD i default) i) ?_ (fun k hk => ?_)
    · refine ent_of (rl := []) (nl := []) ⟨rfl, ?_, ?_, trivial, rfl, rfl, Nat.zero_le _, trivial, trivial⟩ <;> (repeat' (first | exact trivial | exact SameL.refl _ | exact ep_seal rfl rfl | assumption | exact congrArg (Value.int _) (by assumption) | exact rfl | exact Nat.le_of_ble_eq_true rfl | decide | apply And.intro))
    refine if_dec (fun hlt2 => ?_) (fun hge2 => ?_)
    · have hlt2 : k < (o.getD i default).length := by omega
      have hw2 := w64_succ hlt2 (by omega)
      obtain ⟨v1, v2, v3, v4⟩ := hc2 _ (getD_memG hlt2)
      refine ⟨⟨by omega, by omega⟩, ?_⟩
      generalize hv : (o.getD i default).getD k default = v at *
      refine if_dec_f (fun h => ?_) (fun h => ?_)
      rotate_left
      · have h : ((o.getD i default).getD k default).x < -255 := h
        rw [hv] at h; omega
      refine if_dec_f (fun h => ?_) (fun h => ?_)
      rotate_left
      · have h : ((o.getD i default).getD k default).x > 255 := h
        rw [hv] at h; omega
      refine if_dec_f (fun h => ?_) (fun h => ?_)
      rotate_left
      · have h : ((o.getD i default).getD k default).y < -255 := h
        rw [hv] at h; omega
      refine if_dec (fun h => ?_) (fun h => ?_)
      · have h : ((o.getD i default).getD k default).y > 255 := h
        rw [hv] at h; omega
      refine ⟨k + 1, ⟨Nat.lt_succ_self _, hlt2⟩, ?_⟩
      refine ent_of (rl := []) (nl := []) ⟨rfl, ?_, ?_, trivial, rfl, rfl, Nat.zero_le _, trivial, trivial⟩ <;> (repeat' (first | exact trivial | exact SameL.refl _ | exact ep_seal rfl rfl | assumption | exact congrArg (Value.int _) (by assumption) | exact rfl | exact Nat.le_of_ble_eq_true rfl | decide | apply And.intro))
    · refine ⟨i + 1, ⟨Nat.lt_succ_self _, hlt⟩, ?_⟩
      refine ent_of (rl := []) (nl := []) ⟨rfl, ?_, ?_, trivial, rfl, rfl, Nat.zero_le _, trivial, trivial⟩ <;> (repeat' (first | exact trivial | exact SameL.refl _ | exact ep_seal rfl rfl | assumption | exact congrArg (Value.int _) (by assumption) | exact rfl | exact Nat.le_of_ble_eq_true rfl | decide | apply And.intro))
  · exact ⟨⟨⟨rfl, rfl⟩, trivial⟩, trivial⟩
noncomputable def SSo (o : List (List Gv)) (i : Nat) : SS := mkS
  [(3, .o (.p 1 0)), (17, .o (.sl false 1 o.length (rowOf cL o))), (18, .o (.v (.int .i64 o.length))), (19, .o (.v (.int .i64 i)))] [(1, 39, [.sl false 1 o.length (rowOf cL o)])] [] 2 Tryz.f12.ntmps
noncomputable def SSi (o : List (List Gv)) (c : List Gv) (i k : Nat) : SS := mkS
  [(3, .o (.p 1 0)), (5, .o (.v (.int .i64 i))), (17, .o (.sl false 1 o.length (rowOf cL o))), (18, .o (.v (.int .i64 o.length))), (19, .o (.v (.int .i64 i))), (33, .o (.sl false 3 c.length (rowOf vL c))), (34, .o (.v (.int .i64 c.length))), (35, .o (.v (.int .i64 k)))] [(1, 39, [.sl false 1 o.length (rowOf cL o)])] [] 2 Tryz.f12.ntmps
theorem sameO_at (o : List (List Gv)) (h8 : o.length ≤ 8) (hc : ∀ c ∈ o, c.length ≤ 64) : FnAt Tryz.prog 12 [aO o, aO o] [aB true] := by
  refine fn_at (E := EE) (fn := Tryz.f12) (c := Tryz.f12.body.getD .skip) (rs := Tryz.f12.results.toList) (nt := Tryz.f12.ntmps) EE_ok follows (by kernel_rfl) (by kernel_rfl) rfl rfl rfl [] rfl ?_
  refine if_ne (fun h => ?_) (fun h => ?_)
  · exact absurd rfl h
  refine loop_nat o.length (SSo o) ?_ (fun i hi => ?_)
  · refine ent_of (rl := []) (nl := []) ⟨rfl, ?_, ?_, trivial, rfl, rfl, Nat.zero_le _, trivial, trivial⟩ <;> (repeat' (first | exact trivial | exact SameL.refl _ | exact ep_seal rfl rfl | assumption | exact congrArg (Value.int _) (by assumption) | exact rfl | exact Nat.le_of_ble_eq_true rfl | decide | apply And.intro))
  refine if_dec (fun hlt => ?_) (fun hge => ?_)
  · have hlt : i < o.length := by omega
    have hw := w64_succ hlt (by omega)
    have hcl := hc _ (getD_memG hlt)
    refine ⟨⟨by omega, by omega⟩, ?_⟩
    refine ⟨⟨by omega, by omega⟩, ?_⟩
    refine if_ne (fun h => ?_) (fun h => ?_)
    · exact absurd rfl h
    refine loop_nat (o.getD i default).length (SSi o (o.getD i default) i) ?_ (fun k hk => ?_)
    · refine ent_of (rl := []) (nl := []) ⟨rfl, ?_, ?_, trivial, rfl, rfl, Nat.zero_le _, trivial, trivial⟩ <;> (repeat' (first | exact trivial | exact SameL.refl _ | exact ep_seal rfl rfl | assumption | exact congrArg (Value.int _) (by assumption) | exact rfl | exact Nat.le_of_ble_eq_true rfl | decide | apply And.intro))
    refine if_dec (fun hlt2 => ?_) (fun hge2 => ?_)
    · have hlt2 : k < (o.getD i default).length := by omega
      have hw2 := w64_succ hlt2 (by omega)
      refine ⟨⟨by omega, by omega⟩, ?_⟩
      refine ⟨⟨by omega, by omega⟩, ?_⟩
      refine ⟨⟨by omega, by show (k : Int) < ((o.getD i default).length : Int); omega⟩, ?_⟩
      refine if_nb (fun h => ?_) (fun h => ?_)
      · exact absurd (h.symm.trans (eqL_self ((o.getD i default).getD k default))) (by decide)
      refine ⟨k + 1, ⟨Nat.lt_succ_self _, hlt2⟩, ?_⟩
      refine ent_of (rl := []) (nl := []) ⟨rfl, ?_, ?_, trivial, rfl, rfl, Nat.zero_le _, trivial, trivial⟩ <;> (repeat' (first | exact trivial | exact SameL.refl _ | exact ep_seal rfl rfl | assumption | exact congrArg (Value.int _) (by assumption) | exact rfl | exact Nat.le_of_ble_eq_true rfl | decide | apply And.intro))
    · refine ⟨i + 1, ⟨Nat.lt_succ_self _, hlt⟩, ?_⟩
      refine ent_of (rl := []) (nl := []) ⟨rfl, ?_, ?_, trivial, rfl, rfl, Nat.zero_le _, trivial, trivial⟩ <;> (repeat' (first | exact trivial | exact SameL.refl _ | exact ep_seal rfl rfl | assumption | exact congrArg (Value.int _) (by assumption) | exact rfl | exact Nat.le_of_ble_eq_true rfl | decide | apply And.intro))
  · exact ⟨⟨⟨rfl, rfl⟩, trivial⟩, trivial⟩
end Go.Proofs.YtggappbiedkopaaGreat
