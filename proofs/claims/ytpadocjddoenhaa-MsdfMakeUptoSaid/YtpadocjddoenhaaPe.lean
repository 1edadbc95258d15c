/- The contracts of path: half, at, Segs, All. -/
import Derived.Test.YtpadocjddoenhaaPf
import Derived.Test.YtpadocjddoenhaaPc
namespace Go.Proofs.Ytpadocjddoenhaa
open Go SX
set_option linter.unusedVariables false
set_option maxRecDepth 100000

def atV (v : Vx) : Pt := ⟨w64 (2 * v.x), w64 (2 * v.y)⟩
def halfV (a b : Vx) : Pt := ⟨w64 (a.x + b.x), w64 (a.y + b.y)⟩
theorem atV_at (v : Vx) : FnAt Try.prog 67 [aVx v] [aPt (atV v)] := by
  refine fn_at (E := EE) (fn := Try.f67) (c := Try.f67.body.getD .skip) (rs := Try.f67.results.toList) (nt := Try.f67.ntmps) EE_ok follows (by kernel_rfl) (by kernel_rfl) rfl rfl rfl [] rfl ?_
  exact ⟨⟨rfl, rfl, trivial⟩, trivial⟩
theorem halfV_at (a b : Vx) : FnAt Try.prog 66 [aVx a, aVx b] [aPt (halfV a b)] := by
  refine fn_at (E := EE) (fn := Try.f66) (c := Try.f66.body.getD .skip) (rs := Try.f66.results.toList) (nt := Try.f66.ntmps) EE_ok follows (by kernel_rfl) (by kernel_rfl) rfl rfl rfl [] rfl ?_
  exact ⟨⟨rfl, rfl, trivial⟩, trivial⟩

/-! ### the closure 'end' -/
@[reducible] def rSg (es : List Sg) : OR := ⟨106, 7, es.length, rowOf Sg.ls es, true⟩
theorem endN_at (here : Pt) (out : List Sg) (p : Pt) (h : out.length ≤ 2000000000000) : ClAt Try.prog 68 [aPt p] [.d [.lit (.pointer none)], .r (rSg out), .d here.ls] [] [.d [.lit (.pointer none)], .r (rSg (out ++ [⟨here, here, p, false⟩])), .d p.ls] := by
  refine cl_at (E := EE) (fn := Try.f68) (c := Try.f68.body.getD .skip) (rs := Try.f68.results.toList) (nt := Try.f68.ntmps) EE_ok follows (by kernel_rfl) (by kernel_rfl) rfl rfl rfl [] ?_
  intro ts hts
  match ts, hts with
  | [(T1, v1), (T2, v2), (T3, v3)], hts =>
  simp only [List.map_cons, List.map_nil, List.cons.injEq, and_true] at hts
  obtain ⟨rfl, rfl, rfl⟩ := hts
  refine ⟨Nat.le_of_ble_eq_true rfl, ?_⟩
  refine ⟨appC (n := out.length) h (by decide), ?_⟩
  exact ⟨trivial, 13, ⟨rfl, sameLs_refl _⟩, ⟨rfl, rfl, subR_snoc (x := ⟨here, here, p, false⟩) rfl rfl (fun j _ => elem1 rfl) rfl rfl⟩, ⟨rfl, sameLs_refl _⟩, trivial⟩
theorem endS_at (here : Pt) (v : Vx) (out : List Sg) (p : Pt) (h : out.length ≤ 2000000000000) : ClAt Try.prog 68 [aPt p] [.d [.pt 3 (nth v.ls)], .r (rSg out), .d here.ls] [] [.d [.pt 3 (nth v.ls)], .r (rSg (out ++ [⟨here, atV v, p, true⟩])), .d p.ls] := by
  refine cl_at (E := EE) (fn := Try.f68) (c := Try.f68.body.getD .skip) (rs := Try.f68.results.toList) (nt := Try.f68.ntmps) EE_ok follows (by kernel_rfl) (by kernel_rfl) rfl rfl rfl [] ?_
  intro ts hts
  match ts, hts with
  | [(T1, v1), (T2, v2), (T3, v3)], hts =>
  simp only [List.map_cons, List.map_nil, List.cons.injEq, and_true] at hts
  obtain ⟨rfl, rfl, rfl⟩ := hts
  refine ⟨Nat.le_of_ble_eq_true rfl, ?_⟩
  refine ⟨_, atV_at v, ?_⟩
  refine ⟨appC (n := out.length) h (by decide), ?_⟩
  exact ⟨trivial, 16, ⟨rfl, sameLs_refl _⟩, ⟨rfl, rfl, subR_snoc (x := ⟨here, atV v, p, true⟩) rfl rfl (fun j _ => elem1 rfl) rfl rfl⟩, ⟨rfl, sameLs_refl _⟩, trivial⟩
/-! ### path.Segs -/
structure SgSt where
  here : Pt
  pull : Option Vx
  out : List Sg
def sgEnd (s : SgSt) (p : Pt) : SgSt := ⟨p, s.pull, s.out ++ [match s.pull with
  | none => ⟨s.here, s.here, p, false⟩
  | some q => ⟨s.here, atV q, p, true⟩]⟩
def sgStep (s : SgSt) (v : Vx) : SgSt := match v.on with
  | true => ⟨atV v, none, (sgEnd s (atV v)).out⟩
  | false => match s.pull with
    | some q => ⟨halfV q v, some v, (sgEnd s (halfV q v)).out⟩
    | none => ⟨s.here, some v, s.out⟩
/-- how many points ahead are not on the line -/
def offs (c : List Vx) : Nat := match c with
  | [] => 0
  | v :: c => match v.on with
    | true => 0
    | false => offs c + 1
theorem offs_le : ∀ c : List Vx, offs c ≤ c.length
  | [] => Nat.le_refl _
  | v :: c => by
    unfold offs
    split
    · exact Nat.zero_le _
    · exact Nat.succ_le_succ (offs_le c)
theorem offs_off : ∀ (c : List Vx) (k : Nat), k < offs c → (c.getD k default).on = false
  | [], k, h => by simp [offs] at h
  | v :: c, k, h => by
    unfold offs at h
    split at h
    · omega
    · rename_i hv
      cases k with
      | zero => exact hv
      | succ k => exact offs_off c k (by omega)
theorem offs_on : ∀ (c : List Vx), offs c < c.length → (c.getD (offs c) default).on = true
  | [], h => by simp at h
  | v :: c, h => by
    unfold offs at h ⊢
    split
    · rename_i hv; exact hv
    · rename_i hv
      split at h
      · rename_i hv'; rw [hv] at hv'; cases hv'
      · exact offs_on c (by simpa using h)
theorem offs_is {c : List Vx} {i : Nat} (hi : i ≤ c.length) (h : ∀ k, k < i → (c.getD k default).on = false) (h' : i = c.length ∨ (c.getD i default).on = true) : i = offs c := by
  have h1 := offs_le c
  rcases Nat.lt_trichotomy i (offs c) with h2 | h2 | h2
  · rcases h' with h' | h'
    · omega
    · rw [offs_off c i h2] at h'; cases h'
  · exact h2
  · have := h _ h2
    rw [offs_on c (by omega)] at this
    cases this
/-- from where on, how many, from which point -/
def sgFrom (c : List Vx) : Nat := if offs c < c.length then offs c + 1 else offs c
def sgMany (c : List Vx) : Nat := if offs c < c.length then c.length - 1 else c.length
def sgHere (c : List Vx) : Pt := if offs c < c.length then atV (c.getD (offs c) default) else halfV (c.getD (c.length - 1) default) (c.getD 0 default)
def sgTo (c : List Vx) (k : Nat) : SgSt := (List.range k).foldl (fun s k => sgStep s (c.getD ((sgFrom c + k) % c.length) default)) ⟨sgHere c, none, []⟩
theorem sgTo_succ (c : List Vx) (k : Nat) : sgTo c (k + 1) = sgStep (sgTo c k) (c.getD ((sgFrom c + k) % c.length) default) := by
  unfold sgTo; rw [List.range_succ, List.foldl_append]; rfl
def segs (c : List Vx) : List Sg := match c with
  | [] => []
  | c => (sgEnd (sgTo c (sgMany c)) (sgHere c)).out
theorem sgTo_len (c : List Vx) (k : Nat) : (sgTo c k).out.length ≤ k := by
  induction k with
  | zero => exact Nat.le_refl _
  | succ k ih =>
    rw [sgTo_succ]
    unfold sgStep sgEnd
    split
    · simp; omega
    · split
      · simp; omega
      · show (sgTo c k).out.length ≤ k + 1; omega
noncomputable def SSg1 (c : List Vx) (i : Nat) : SS := mkS
  [(0, .o (.sl false 3 c.length (rowOf Vx.ls c))), (3, .o (.v (.int .i64 c.length))), (4, .o (.v (.int .i64 i))), (5, .o (.v (.int .i64 c.length)))] [] [] 0 Try.f51.ntmps
noncomputable def SSg2 (c : List Vx) : SS := mkS
  [(0, .o (.sl false 3 c.length (rowOf Vx.ls c))), (3, .o (.v (.int .i64 c.length))), (4, .o (.v (.int .i64 (sgFrom c)))), (5, .o (.v (.int .i64 (sgMany c)))), (6, .o (.p 0 0))] [(0, 56, [.v (.int .i64 (sgHere c).x), .v (.int .i64 (sgHere c).y)])] [] 1 Try.f51.ntmps
noncomputable def SSgN (c : List Vx) (k : Nat) (s : SgSt) : SS := mkS
  [(0, .o (.sl false 3 c.length (rowOf Vx.ls c))), (3, .o (.v (.int .i64 c.length))), (4, .o (.v (.int .i64 (sgFrom c)))), (7, .o (.p 1 0)), (8, .o (.p 2 0)), (9, .o (.p 3 0)), (10, .o (.f 68 [3, 1, 0])), (54, .o (.v (.int .i64 (sgMany c)))), (55, .o (.v (.int .i64 k)))]
  [(0, 56, [.v (.int .i64 s.here.x), .v (.int .i64 s.here.y)]), (1, 79, [.h 4]), (2, 56, [.v (.int .i64 (sgHere c).x), .v (.int .i64 (sgHere c).y)]), (3, 123, [.v (.pointer none)])] [(4, rSg s.out)] 5 Try.f51.ntmps
noncomputable def SSgS (c : List Vx) (k : Nat) (s : SgSt) (v : Vx) : SS := mkS
  [(0, .o (.sl false 3 c.length (rowOf Vx.ls c))), (3, .o (.v (.int .i64 c.length))), (4, .o (.v (.int .i64 (sgFrom c)))), (7, .o (.p 1 0)), (8, .o (.p 2 0)), (9, .o (.p 3 0)), (10, .o (.f 68 [3, 1, 0])), (54, .o (.v (.int .i64 (sgMany c)))), (55, .o (.v (.int .i64 k)))]
  [(0, 56, [.v (.int .i64 s.here.x), .v (.int .i64 s.here.y)]), (1, 79, [.h 4]), (2, 56, [.v (.int .i64 (sgHere c).x), .v (.int .i64 (sgHere c).y)]), (3, 123, [.ep true 3 (nth v.ls)])] [(4, rSg s.out)] 5 Try.f51.ntmps
noncomputable def SSg3 (c : List Vx) (k : Nat) : SS := match (sgTo c k).pull with
  | none => SSgN c k (sgTo c k)
  | some v => SSgS c k (sgTo c k) v
theorem SSg3_none {c : List Vx} {k : Nat} (h : (sgTo c k).pull = none) : SSg3 c k = SSgN c k (sgTo c k) := by unfold SSg3; rw [h]
theorem SSg3_some {c : List Vx} {k : Nat} {v : Vx} (h : (sgTo c k).pull = some v) : SSg3 c k = SSgS c k (sgTo c k) v := by unfold SSg3; rw [h]
theorem sgStep_on {s : SgSt} {v : Vx} (h : v.on = true) : sgStep s v = ⟨atV v, none, (sgEnd s (atV v)).out⟩ := by unfold sgStep; rw [h]
theorem sgStep_off {s : SgSt} {v : Vx} (h : v.on = false) (hp : s.pull = none) : sgStep s v = ⟨s.here, some v, s.out⟩ := by unfold sgStep; rw [h, hp]
theorem sgStep_off' {s : SgSt} {v q : Vx} (h : v.on = false) (hp : s.pull = some q) : sgStep s v = ⟨halfV q v, some v, (sgEnd s (halfV q v)).out⟩ := by unfold sgStep; rw [h, hp]
theorem sgEnd_n {s : SgSt} {p : Pt} (hp : s.pull = none) : (sgEnd s p).out = s.out ++ [⟨s.here, s.here, p, false⟩] := by unfold sgEnd; rw [hp]
theorem sgEnd_s {s : SgSt} {p : Pt} {q : Vx} (hp : s.pull = some q) : (sgEnd s p).out = s.out ++ [⟨s.here, atV q, p, true⟩] := by unfold sgEnd; rw [hp]
@[reducible] def sgV (c : List Vx) (k : Nat) : Vx := c.getD ((w64 (((sgFrom c : Nat) : Int) + (k : Int))).tmod (c.length : Int)).toNat default
set_option maxHeartbeats 1000000 in
theorem segs_at (c : List Vx) (h : c.length ≤ 1000) : FnAt Try.prog 51 [aSl Vx.ls 3 c] [aSgs (segs c)] := by
  refine fn_at (E := EE) (fn := Try.f51) (c := Try.f51.body.getD .skip) (rs := Try.f51.results.toList) (nt := Try.f51.ntmps) EE_ok follows (by kernel_rfl) (by kernel_rfl) rfl rfl rfl [7, 12, 1000027] rfl ?_
  refine if_eq (fun h0 => ?_) (fun h0 => ?_)
  · obtain rfl : c = [] := List.eq_nil_of_length_eq_zero (by omega)
    exact ⟨⟨⟨rfl, rfl⟩, trivial⟩, trivial⟩
  have hn : 0 < c.length := by omega
  have hol := offs_le c
  refine ⟨Unit, fun _ => SSg1 c (offs c), ?_, fun _ => ?_⟩
  · refine loop_natP c.length (fun i => ∀ k, k < i → (c.getD k default).on = false) (SSg1 c) (fun k hk => by omega) ?_ (fun i hi hp => ?_)
    · refine ent_of (rl := []) (nl := []) ⟨rfl, ?_, ?_, trivial, rfl, rfl, Nat.zero_le _, trivial, trivial⟩ <;> (repeat' (first | exact trivial | exact SameL.refl _ | exact ep_seal rfl rfl | assumption | exact congrArg (Value.int _) (by assumption) | exact rfl | exact Nat.le_of_ble_eq_true rfl | decide | apply And.intro))
    refine if_dec (fun hlt => ?_) (fun hge => ?_)
    · have hlt : i < c.length := by omega
      have hw := w64_succ hlt (by omega)
      refine ⟨⟨by omega, by omega⟩, ?_⟩
      refine if_nb (fun hoff => ?_) (fun hon => ?_)
      · refine ⟨i + 1, ⟨Nat.lt_succ_self _, hlt, fun k hk => ?_⟩, ?_⟩
        · by_cases h' : k < i
          · exact hp k h'
          · obtain rfl : k = i := by omega
            exact hoff
        · refine ent_of (rl := []) (nl := []) ⟨rfl, ?_, ?_, trivial, rfl, rfl, Nat.zero_le _, trivial, trivial⟩ <;> (repeat' (first | exact trivial | exact SameL.refl _ | exact ep_seal rfl rfl | assumption | exact congrArg (Value.int _) (by assumption) | exact rfl | exact Nat.le_of_ble_eq_true rfl | decide | apply And.intro))
      · rw [← offs_is hi hp (.inr hon)]
        refine ⟨(), ?_⟩
        refine ent_of (rl := []) (nl := []) ⟨rfl, ?_, ?_, trivial, rfl, rfl, Nat.zero_le _, trivial, trivial⟩ <;> (repeat' (first | exact trivial | exact SameL.refl _ | exact ep_seal rfl rfl | assumption | exact congrArg (Value.int _) (by assumption) | exact rfl | exact Nat.le_of_ble_eq_true rfl | decide | apply And.intro))
    · rw [← offs_is hi hp (.inl (by omega))]
      refine ⟨(), ?_⟩
      refine ent_of (rl := []) (nl := []) ⟨rfl, ?_, ?_, trivial, rfl, rfl, Nat.zero_le _, trivial, trivial⟩ <;> (repeat' (first | exact trivial | exact SameL.refl _ | exact ep_seal rfl rfl | assumption | exact congrArg (Value.int _) (by assumption) | exact rfl | exact Nat.le_of_ble_eq_true rfl | decide | apply And.intro))
  have e1 : w64 ((c.length : Int) - 1) = ((c.length - 1 : Nat) : Int) := by rw [w64_in (by omega)]; omega
  refine ⟨by show 0 ≤ w64 ((c.length : Int) - 1) ∧ w64 ((c.length : Int) - 1) < c.length; omega, ⟨by omega, by omega⟩, ?_⟩
  refine ⟨_, halfV_at (c.getD (w64 ((c.length : Int) - 1)).toNat default) (c.getD 0 default), ?_⟩
  refine ⟨Unit, fun _ => SSg2 c, ?_, fun _ => ?_⟩
  · refine if_dec (fun hlt => ?_) (fun hge => ?_)
    · have hlt : offs c < c.length := by omega
      refine ⟨⟨by omega, by omega⟩, ?_⟩
      refine ⟨_, atV_at (c.getD (offs c) default), ?_⟩
      refine ⟨(), ?_⟩
      have e2 : w64 (((offs c : Nat) : Int) + 1) = ((sgFrom c : Nat) : Int) := by unfold sgFrom; rw [if_pos hlt, w64_in (by omega)]; rfl
      have e3 : w64 ((c.length : Int) - 1) = ((sgMany c : Nat) : Int) := by unfold sgMany; rw [if_pos hlt]; exact e1
      have e4 : atV (c.getD (offs c) default) = sgHere c := by unfold sgHere; rw [if_pos hlt]
      have e5 := congrArg Pt.x e4
      have e6 := congrArg Pt.y e4
      refine ent_of (rl := [(0, 9)]) (nl := []) ⟨rfl, ?_, ?_, trivial, rfl, rfl, Nat.zero_le _, trivial, ⟨⟨Nat.zero_le _, Nat.zero_le _⟩, trivial⟩⟩ <;> (repeat' (first | exact trivial | exact SameL.refl _ | exact ep_seal rfl rfl | assumption | exact congrArg (Value.int _) (by assumption) | exact rfl | exact Nat.le_of_ble_eq_true rfl | decide | apply And.intro))
    · refine ⟨(), ?_⟩
      have hge : ¬ offs c < c.length := by omega
      have e2 : ((offs c : Nat) : Int) = ((sgFrom c : Nat) : Int) := by unfold sgFrom; rw [if_neg hge]
      have e3 : (c.length : Int) = ((sgMany c : Nat) : Int) := by unfold sgMany; rw [if_neg hge]
      have e4 : halfV (c.getD (w64 ((c.length : Int) - 1)).toNat default) (c.getD 0 default) = sgHere c := by unfold sgHere; rw [if_neg hge, e1, Int.toNat_natCast]
      have e5 := congrArg Pt.x e4
      have e6 := congrArg Pt.y e4
      refine ent_of (rl := [(0, 9)]) (nl := []) ⟨rfl, ?_, ?_, trivial, rfl, rfl, Nat.zero_le _, trivial, ⟨⟨Nat.zero_le _, Nat.zero_le _⟩, trivial⟩⟩ <;> (repeat' (first | exact trivial | exact SameL.refl _ | exact ep_seal rfl rfl | assumption | exact congrArg (Value.int _) (by assumption) | exact rfl | exact Nat.le_of_ble_eq_true rfl | decide | apply And.intro))
  have hf : sgFrom c ≤ c.length := by unfold sgFrom; split <;> omega
  have hm : sgMany c ≤ c.length := by unfold sgMany; split <;> omega
  refine loop_nat (sgMany c) (SSg3 c) ?_ (fun k hk => ?_)
  · show Ent _ _ (SSgN c 0 (sgTo c 0))
    refine ent_of (rl := [(4, 9), (2, 3), (3, 5)]) (nl := [4]) ⟨rfl, ?_, ?_, ⟨⟨Nat.le_of_ble_eq_true rfl, rfl⟩, trivial⟩, rfl, rfl, Nat.zero_le _, ⟨Nat.zero_le _, trivial⟩, ⟨⟨Nat.zero_le _, Nat.zero_le _⟩, ⟨Nat.zero_le _, Nat.zero_le _⟩, ⟨Nat.zero_le _, Nat.zero_le _⟩, trivial⟩⟩ <;> (repeat' (first | exact trivial | exact SameL.refl _ | exact ep_seal rfl rfl | assumption | exact congrArg (Value.int _) (by assumption) | exact rfl | exact Nat.le_of_ble_eq_true rfl | decide | apply And.intro))
  have hlen := sgTo_len c k
  have hix : (w64 (((sgFrom c : Nat) : Int) + (k : Int))).tmod (c.length : Int) = (((sgFrom c + k) % c.length : Nat) : Int) := by
    rw [w64_in (by omega), Int.tmod_eq_emod_of_nonneg (by omega)]
    exact (Int.natCast_emod _ _).symm
  have hmod : (sgFrom c + k) % c.length < c.length := Nat.mod_lt _ (by omega)
  have hst := sgTo_succ c k
  have hv : c.getD ((sgFrom c + k) % c.length) default = sgV c k := by unfold sgV; rw [hix, Int.toNat_natCast]
  rw [hv] at hst
  cases hp : (sgTo c k).pull with
  | none =>
    rw [SSg3_none hp]
    refine if_dec (fun hlt => ?_) (fun hge => ?_)
    · have hlt : k < sgMany c := by omega
      have hw := w64_succ hlt (by omega)
      refine ⟨by omega, by show 0 ≤ (w64 (((sgFrom c : Nat) : Int) + (k : Int))).tmod (c.length : Int) ∧ _; rw [hix]; omega, ?_⟩
      refine if_b (fun hon => ?_) (fun hoff => ?_)
      · rw [sgStep_on hon, sgEnd_n hp] at hst
        refine ⟨_, atV_at (sgV c k), ?_⟩
        refine ⟨_, _, endN_at (sgTo c k).here (sgTo c k).out (atV (sgV c k)) (by omega), rfl, ?_⟩
        refine ⟨_, Ent.refl _ _, ?_⟩
        refine ⟨k + 1, ⟨Nat.lt_succ_self _, hlt⟩, ?_⟩
        rw [SSg3_none (by rw [hst]), hst]
        refine ent_of (rl := [(4, 24)]) (nl := []) ⟨rfl, ?_, ?_, ⟨⟨Nat.le_of_ble_eq_true rfl, subR.refl _⟩, trivial⟩, rfl, rfl, Nat.zero_le _, trivial, ⟨⟨Nat.zero_le _, Nat.zero_le _⟩, trivial⟩⟩ <;> (repeat' (first | exact trivial | exact SameL.refl _ | exact ep_seal rfl rfl | assumption | exact congrArg (Value.int _) (by assumption) | exact rfl | exact Nat.le_of_ble_eq_true rfl | decide | apply And.intro))
      · rw [sgStep_off hoff hp] at hst
        refine ⟨_, ent_sealB (i := 16) rfl rfl rfl, ?_⟩
        refine ⟨k + 1, ⟨Nat.lt_succ_self _, hlt⟩, ?_⟩
        rw [SSg3_some (by rw [hst]), hst]
        refine ent_of (rl := []) (nl := []) ⟨rfl, ?_, ?_, ⟨⟨Nat.le_of_ble_eq_true rfl, subR.refl _⟩, trivial⟩, rfl, rfl, Nat.zero_le _, trivial, trivial⟩ <;> (repeat' (first | exact trivial | exact SameL.refl _ | exact ep_seal rfl rfl | assumption | exact congrArg (Value.int _) (by assumption) | exact rfl | exact Nat.le_of_ble_eq_true rfl | decide | apply And.intro))
    · have hin : k = sgMany c := by omega
      subst hin
      refine ⟨_, _, endN_at (sgTo c (sgMany c)).here (sgTo c (sgMany c)).out (sgHere c) (by omega), rfl, ?_⟩
      refine ⟨⟨row_ret ?_, trivial⟩, trivial⟩
      unfold segs
      split
      · exact absurd rfl (Nat.ne_of_gt hn)
      · exact (sgEnd_n hp).symm
  | some q =>
    rw [SSg3_some hp]
    refine if_dec (fun hlt => ?_) (fun hge => ?_)
    · have hlt : k < sgMany c := by omega
      have hw := w64_succ hlt (by omega)
      refine ⟨by omega, by show 0 ≤ (w64 (((sgFrom c : Nat) : Int) + (k : Int))).tmod (c.length : Int) ∧ _; rw [hix]; omega, ?_⟩
      refine if_b (fun hon => ?_) (fun hoff => ?_)
      · rw [sgStep_on hon, sgEnd_s hp] at hst
        refine ⟨_, atV_at (sgV c k), ?_⟩
        refine ⟨_, _, endS_at (sgTo c k).here q (sgTo c k).out (atV (sgV c k)) (by omega), rfl, ?_⟩
        refine ⟨_, Ent.refl _ _, ?_⟩
        refine ⟨k + 1, ⟨Nat.lt_succ_self _, hlt⟩, ?_⟩
        rw [SSg3_none (by rw [hst]), hst]
        refine ent_of (rl := [(4, 24)]) (nl := []) ⟨rfl, ?_, ?_, ⟨⟨Nat.le_of_ble_eq_true rfl, subR.refl _⟩, trivial⟩, rfl, rfl, Nat.zero_le _, trivial, ⟨⟨Nat.zero_le _, Nat.zero_le _⟩, trivial⟩⟩ <;> (repeat' (first | exact trivial | exact SameL.refl _ | exact ep_seal rfl rfl | assumption | exact congrArg (Value.int _) (by assumption) | exact rfl | exact Nat.le_of_ble_eq_true rfl | decide | apply And.intro))
      · rw [sgStep_off' hoff hp, sgEnd_s hp] at hst
        refine ⟨_, halfV_at q (sgV c k), ?_⟩
        refine ⟨_, _, endS_at (sgTo c k).here q (sgTo c k).out (halfV q (sgV c k)) (by omega), rfl, ?_⟩
        refine ⟨_, ent_sealB (i := 16) rfl rfl rfl, ?_⟩
        refine ⟨k + 1, ⟨Nat.lt_succ_self _, hlt⟩, ?_⟩
        rw [SSg3_some (by rw [hst]), hst]
        refine ent_of (rl := [(4, 30)]) (nl := []) ⟨rfl, ?_, ?_, ⟨⟨Nat.le_of_ble_eq_true rfl, subR.refl _⟩, trivial⟩, rfl, rfl, Nat.zero_le _, trivial, ⟨⟨Nat.zero_le _, Nat.zero_le _⟩, trivial⟩⟩ <;> (repeat' (first | exact trivial | exact SameL.refl _ | exact ep_seal rfl rfl | assumption | exact congrArg (Value.int _) (by assumption) | exact rfl | exact Nat.le_of_ble_eq_true rfl | decide | apply And.intro))
    · have hin : k = sgMany c := by omega
      subst hin
      refine ⟨_, _, endS_at (sgTo c (sgMany c)).here q (sgTo c (sgMany c)).out (sgHere c) (by omega), rfl, ?_⟩
      refine ⟨⟨row_ret ?_, trivial⟩, trivial⟩
      unfold segs
      split
      · exact absurd rfl (Nat.ne_of_gt hn)
      · exact (sgEnd_s hp).symm

end Go.Proofs.Ytpadocjddoenhaa
