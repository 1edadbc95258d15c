/- The contracts of sweep: texel, offer, knows. -/
import Derived.Test.YtbfdpdbdkcekfaaR0c
import Derived.Test.YtbfdpdbdkcekfaaSq
namespace Go.Proofs.Ytbfdpdbdkcekfaa
open Go SX
set_option linter.unusedVariables false
set_option maxRecDepth 100000
set_option maxHeartbeats 1000000

@[reducible] def gdC' (g : Gd) : List C := [.v (.int .i64 g.x), .v (.int .i64 g.y), .v (.int .i64 g.pitch), .v (.int .i64 g.w), .v (.int .i64 g.h), .v (.int .i64 g.spread)]
/-- is a place a texel's? -/
def inG (g : Gd) (i k : Int) : Prop := 0 ≤ i ∧ 0 ≤ k ∧ i < g.w ∧ k < g.h
instance (g : Gd) (i k : Int) : Decidable (inG g i k) := by unfold inG; exact inferInstance
def szG (g : Gd) : Nat := g.h.toNat * g.w.toNat
def ixG (g : Gd) (i k : Int) : Nat := k.toNat * g.w.toNat + i.toNat
theorem ixG_lt {g : Gd} (hg : gdIn g) {i k : Int} (h : inG g i k) : ixG g i k < szG g := by
  unfold inG at h
  have hw := hg.1
  have hh := hg.2.1
  unfold ixG szG
  have : (k.toNat + 1) * g.w.toNat ≤ g.h.toNat * g.w.toNat := Nat.mul_le_mul_right _ (by omega)
  rw [Nat.add_mul] at this
  omega
theorem szG_le {g : Gd} (hg : gdIn g) : szG g ≤ 576 := by
  have hw := hg.1
  have hh := hg.2.1
  show g.h.toNat * g.w.toNat ≤ 24 * 24
  exact Nat.mul_le_mul (by omega) (by omega)
theorem ixG_w {g : Gd} (hg : gdIn g) {i k : Int} (h : inG g i k) : w64 (w64 (k * g.w) + i) = (ixG g i k : Int) := by
  have hs := szG_le hg
  have hlt := ixG_lt hg h
  unfold inG at h
  have hw := hg.1
  have e : ((k.toNat * g.w.toNat : Nat) : Int) = k * g.w := by rw [Int.natCast_mul, Int.toNat_of_nonneg (by omega), Int.toNat_of_nonneg (by omega)]
  unfold ixG at hlt ⊢
  rw [← e, w64_in (n := ((k.toNat * g.w.toNat : Nat) : Int)) (by omega), w64_in (by omega)]
  omega
theorem fdiv_t {n m : Int} (hm : 1 ≤ m) : n / m = if n.tmod m < 0 then n.tdiv m - 1 else n.tdiv m := by
  have h1 := Int.mul_tdiv_add_tmod n m
  have h2 := tmod_in n (show 0 < m by omega)
  split
  · rename_i h
    exact ((Int.ediv_emod_unique (r := n.tmod m + m) (q := n.tdiv m - 1) (show 0 < m by omega)).2 ⟨by rw [Int.mul_sub]; omega, by omega, by omega⟩).1
  · rename_i h
    exact ((Int.ediv_emod_unique (r := n.tmod m) (q := n.tdiv m) (show 0 < m by omega)).2 ⟨by omega, by omega, by omega⟩).1
theorem tdiv_bd {n m B : Int} (hm : 1 ≤ m) (h : -B ≤ n ∧ n ≤ B) : -B ≤ n.tdiv m ∧ n.tdiv m ≤ B := by
  have h1 : (n.tdiv m).natAbs ≤ n.natAbs := by rw [Int.natAbs_tdiv]; exact Nat.div_le_self _ _
  omega
theorem floor_at {n m : Int} (hn : -1000000 ≤ n ∧ n ≤ 1000000) (hm : 1 ≤ m ∧ m ≤ 1000000) : FnAt Try.prog 40 [aI n, aI m] [aI (n / m)] := by
  refine fn_at (E := EE) (fn := Try.f40) (c := Try.f40.body.getD .skip) (rs := Try.f40.results.toList) (nt := Try.f40.ntmps) EE_ok follows (by kernel_rfl) (by kernel_rfl) rfl rfl rfl [] rfl ?_
  have hb := tdiv_bd hm.1 hn
  refine ⟨by show m ≠ 0; omega, ?_⟩
  refine if_dec (fun h => ?_) (fun h => ?_)
  · have h : n.tmod m < 0 := h
    refine ⟨by show m ≠ 0; omega, ?_⟩
    refine ⟨⟨vI ?_, trivial⟩, trivial⟩
    show n / m = w64 (w64 (n.tdiv m) - 1)
    rw [fdiv_t hm.1, if_pos h, w64_in (n := n.tdiv m) (by omega), w64_in (by omega)]
  · have h : ¬ n.tmod m < 0 := h
    refine ⟨by show m ≠ 0; omega, ?_⟩
    refine ⟨⟨vI ?_, trivial⟩, trivial⟩
    show n / m = w64 (n.tdiv m)
    rw [fdiv_t hm.1, if_neg h, w64_in (by omega)]
@[reducible] def rI' (at' : List Int) : OR := ⟨3, 1, at'.length, rowOf ints at', true⟩
def MT (es : List Ed) (g : Gd) (l : List Int) : LM := ⟨[(0, 90, .sl false 4 es.length (rowOf Ed.ls es) :: (gdC' g ++ [.h 1]))], [(1, rI' l)], 2⟩
def knG (g : Gd) (l : List Int) (i k : Int) : Int := if inG g i k then l.getD (ixG g i k) default else -1
theorem knows_at (es : List Ed) {g : Gd} {l : List Int} (hg : gdIn g) (hl : l.length = szG g) (i k : Int) : HvAt Try.prog 53 [.o (.p 0 0), .o (.v (.int .i64 i)), .o (.v (.int .i64 k))] (MT es g l) (.o (.v (.int .i64 (knG g l i k)))) (MT es g l) := by
  have hno : ∀ {x : Int}, ¬ inG g i k → knG g l i k = -1 := fun h => by unfold knG; rw [if_neg h]
  refine hv_at (E := EH) (fn := Try.f53) (c := Try.f53.body.getD .skip) (rs := Try.f53.results.toList) (nt := Try.f53.ntmps) EH_ok follows (by kernel_rfl) (by kernel_rfl) rfl rfl rfl [] rfl ?_
  refine if_dec_f (fun h1 => ?_) (fun h1 => ?_)
  rotate_left
  · rw [show knG g l i k = -1 from hno (x := 0) (fun h => by unfold inG at h; omega)]
    refine ent_of (rl := []) (nl := []) ⟨rfl, ?_, ?_, ⟨⟨Nat.le_of_ble_eq_true rfl, subR.refl _⟩, trivial⟩, rfl, rfl, (by first | exact Nat.zero_le _ | exact Nat.le_of_ble_eq_true rfl), trivial, trivial⟩ <;> (repeat' (first | exact trivial | exact SameL.refl _ | exact ep_seal rfl rfl | assumption | exact congrArg (Value.int _) (by assumption) | exact rfl | exact Nat.le_of_ble_eq_true rfl | decide | apply And.intro | apply all1 | apply all2 | apply all3 | apply all4 | apply all5))
  refine if_dec_f (fun h2 => ?_) (fun h2 => ?_)
  rotate_left
  · rw [show knG g l i k = -1 from hno (x := 0) (fun h => by unfold inG at h; omega)]
    refine ent_of (rl := []) (nl := []) ⟨rfl, ?_, ?_, ⟨⟨Nat.le_of_ble_eq_true rfl, subR.refl _⟩, trivial⟩, rfl, rfl, (by first | exact Nat.zero_le _ | exact Nat.le_of_ble_eq_true rfl), trivial, trivial⟩ <;> (repeat' (first | exact trivial | exact SameL.refl _ | exact ep_seal rfl rfl | assumption | exact congrArg (Value.int _) (by assumption) | exact rfl | exact Nat.le_of_ble_eq_true rfl | decide | apply And.intro | apply all1 | apply all2 | apply all3 | apply all4 | apply all5))
  refine if_dec_f (fun h3 => ?_) (fun h3 => ?_)
  rotate_left
  · rw [show knG g l i k = -1 from hno (x := 0) (fun h => by unfold inG at h; omega)]
    refine ent_of (rl := []) (nl := []) ⟨rfl, ?_, ?_, ⟨⟨Nat.le_of_ble_eq_true rfl, subR.refl _⟩, trivial⟩, rfl, rfl, (by first | exact Nat.zero_le _ | exact Nat.le_of_ble_eq_true rfl), trivial, trivial⟩ <;> (repeat' (first | exact trivial | exact SameL.refl _ | exact ep_seal rfl rfl | assumption | exact congrArg (Value.int _) (by assumption) | exact rfl | exact Nat.le_of_ble_eq_true rfl | decide | apply And.intro | apply all1 | apply all2 | apply all3 | apply all4 | apply all5))
  refine if_dec (fun h4 => ?_) (fun h4 => ?_)
  · rw [show knG g l i k = -1 from hno (x := 0) (fun h => by unfold inG at h; omega)]
    refine ent_of (rl := []) (nl := []) ⟨rfl, ?_, ?_, ⟨⟨Nat.le_of_ble_eq_true rfl, subR.refl _⟩, trivial⟩, rfl, rfl, (by first | exact Nat.zero_le _ | exact Nat.le_of_ble_eq_true rfl), trivial, trivial⟩ <;> (repeat' (first | exact trivial | exact SameL.refl _ | exact ep_seal rfl rfl | assumption | exact congrArg (Value.int _) (by assumption) | exact rfl | exact Nat.le_of_ble_eq_true rfl | decide | apply And.intro | apply all1 | apply all2 | apply all3 | apply all4 | apply all5))
  have hi : inG g i k := ⟨by omega, by omega, by omega, by omega⟩
  have hx := ixG_w hg hi
  have hlt := ixG_lt hg hi
  have e : knG g l i k = l.getD (Int.toNat (w64 (w64 (k * g.w) + i))) default := by unfold knG; rw [if_pos hi, hx, Int.toNat_natCast]
  refine ⟨⟨by show 0 ≤ w64 _; rw [hx]; omega, by show w64 _ < (l.length : Int); rw [hx]; omega⟩, ?_⟩
  refine ⟨by show Int.toNat (w64 _) < l.length; rw [hx, Int.toNat_natCast]; omega, ?_⟩
  rw [e]
  refine ent_of (rl := []) (nl := []) ⟨rfl, ?_, ?_, ⟨⟨Nat.le_of_ble_eq_true rfl, subR.refl _⟩, trivial⟩, rfl, rfl, (by first | exact Nat.zero_le _ | exact Nat.le_of_ble_eq_true rfl), trivial, trivial⟩ <;> (repeat' (first | exact trivial | exact SameL.refl _ | exact ep_seal rfl rfl | assumption | exact congrArg (Value.int _) (by assumption) | exact rfl | exact Nat.le_of_ble_eq_true rfl | decide | apply And.intro | apply all1 | apply all2 | apply all3 | apply all4 | apply all5))
/-- a texel is told of an edge -/
def offG (es : List Ed) (g : Gd) (l : List Int) (i k e : Int) : List Int :=
  if 0 ≤ e ∧ inG g i k ∧ (l.getD (ixG g i k) default < 0 ∨ cmpF (sqN (es.getD e.toNat default) (centre g i k)) (sqN (es.getD (l.getD (ixG g i k) default).toNat default) (centre g i k)) < 0) then l.set (ixG g i k) e else l
/-- what the texels know, as it may be -/
def atOK (es : List Ed) (g : Gd) (l : List Int) : Prop := l.length = szG g ∧ ∀ x ∈ l, -1 ≤ x ∧ x < es.length
theorem offG_ok {es : List Ed} {g : Gd} {l : List Int} {i k e : Int} (h : atOK es g l) (he : e < es.length) : atOK es g (offG es g l i k e) := by
  unfold offG
  split
  · refine ⟨by rw [List.length_set]; exact h.1, fun x hx => ?_⟩
    rcases List.mem_or_eq_of_mem_set hx with hx | rfl
    · exact h.2 x hx
    · omega
  · exact h
theorem offer_at {es : List Ed} {g : Gd} {l : List Int} (hes : edsIn es) (hg : gdIn g) (hl : atOK es g l) {i k e : Int} (he : e < es.length) : HvAt Try.prog 52 [.o (.p 0 0), .o (.v (.int .i64 i)), .o (.v (.int .i64 k)), .o (.v (.int .i64 e))] (MT es g l) (.t []) (MT es g (offG es g l i k e)) := by
  have hno : ¬ (0 ≤ e ∧ inG g i k) → offG es g l i k e = l := fun h => by unfold offG; rw [if_neg (fun h' => h ⟨h'.1, h'.2.1⟩)]
  refine hv_at (E := EH) (fn := Try.f52) (c := Try.f52.body.getD .skip) (rs := Try.f52.results.toList) (nt := Try.f52.ntmps) EH_ok follows (by kernel_rfl) (by kernel_rfl) rfl rfl rfl [] rfl ?_
  refine if_dec_f (fun h0 => ?_) (fun h0 => ?_)
  rotate_left
  · rw [hno (fun h => by omega)]
    refine ent_of (rl := []) (nl := []) ⟨rfl, ?_, ?_, ⟨⟨Nat.le_of_ble_eq_true rfl, subR.refl _⟩, trivial⟩, rfl, rfl, (by first | exact Nat.zero_le _ | exact Nat.le_of_ble_eq_true rfl), trivial, trivial⟩ <;> (repeat' (first | exact trivial | exact SameL.refl _ | exact ep_seal rfl rfl | assumption | exact congrArg (Value.int _) (by assumption) | exact rfl | exact Nat.le_of_ble_eq_true rfl | decide | apply And.intro | apply all1 | apply all2 | apply all3 | apply all4 | apply all5))
  refine if_dec_f (fun h1 => ?_) (fun h1 => ?_)
  rotate_left
  · rw [hno (fun h => by unfold inG at h; omega)]
    refine ent_of (rl := []) (nl := []) ⟨rfl, ?_, ?_, ⟨⟨Nat.le_of_ble_eq_true rfl, subR.refl _⟩, trivial⟩, rfl, rfl, (by first | exact Nat.zero_le _ | exact Nat.le_of_ble_eq_true rfl), trivial, trivial⟩ <;> (repeat' (first | exact trivial | exact SameL.refl _ | exact ep_seal rfl rfl | assumption | exact congrArg (Value.int _) (by assumption) | exact rfl | exact Nat.le_of_ble_eq_true rfl | decide | apply And.intro | apply all1 | apply all2 | apply all3 | apply all4 | apply all5))
  refine if_dec_f (fun h2 => ?_) (fun h2 => ?_)
  rotate_left
  · rw [hno (fun h => by unfold inG at h; omega)]
    refine ent_of (rl := []) (nl := []) ⟨rfl, ?_, ?_, ⟨⟨Nat.le_of_ble_eq_true rfl, subR.refl _⟩, trivial⟩, rfl, rfl, (by first | exact Nat.zero_le _ | exact Nat.le_of_ble_eq_true rfl), trivial, trivial⟩ <;> (repeat' (first | exact trivial | exact SameL.refl _ | exact ep_seal rfl rfl | assumption | exact congrArg (Value.int _) (by assumption) | exact rfl | exact Nat.le_of_ble_eq_true rfl | decide | apply And.intro | apply all1 | apply all2 | apply all3 | apply all4 | apply all5))
  refine if_dec_f (fun h3 => ?_) (fun h3 => ?_)
  rotate_left
  · rw [hno (fun h => by unfold inG at h; omega)]
    refine ent_of (rl := []) (nl := []) ⟨rfl, ?_, ?_, ⟨⟨Nat.le_of_ble_eq_true rfl, subR.refl _⟩, trivial⟩, rfl, rfl, (by first | exact Nat.zero_le _ | exact Nat.le_of_ble_eq_true rfl), trivial, trivial⟩ <;> (repeat' (first | exact trivial | exact SameL.refl _ | exact ep_seal rfl rfl | assumption | exact congrArg (Value.int _) (by assumption) | exact rfl | exact Nat.le_of_ble_eq_true rfl | decide | apply And.intro | apply all1 | apply all2 | apply all3 | apply all4 | apply all5))
  refine if_dec (fun h4 => ?_) (fun h4 => ?_)
  · rw [hno (fun h => by unfold inG at h; omega)]
    refine ent_of (rl := []) (nl := []) ⟨rfl, ?_, ?_, ⟨⟨Nat.le_of_ble_eq_true rfl, subR.refl _⟩, trivial⟩, rfl, rfl, (by first | exact Nat.zero_le _ | exact Nat.le_of_ble_eq_true rfl), trivial, trivial⟩ <;> (repeat' (first | exact trivial | exact SameL.refl _ | exact ep_seal rfl rfl | assumption | exact congrArg (Value.int _) (by assumption) | exact rfl | exact Nat.le_of_ble_eq_true rfl | decide | apply And.intro | apply all1 | apply all2 | apply all3 | apply all4 | apply all5))
  have hi : inG g i k := ⟨by omega, by omega, by omega, by omega⟩
  have hx := ixG_w hg hi
  have hlt := ixG_lt hg hi
  have hc := centre_in hg (i := i) (k := k) (by unfold inG at hi; have := hg.1; omega) (by unfold inG at hi; have := hg.2.1; omega)
  obtain ⟨hl1, hl2⟩ := hl
  have hm := hl2 _ (getD_mem' (l := l) (i := ixG g i k) (by omega))
  have he0 : ¬ e < 0 := h0
  have heu := hes.1 _ (getD_mem' (l := es) (i := e.toNat) (by omega))
  have hix : l.getD (Int.toNat (w64 (w64 (k * g.w) + i))) default = l.getD (ixG g i k) default := by rw [hx, Int.toNat_natCast]
  have hset : Int.toNat (w64 (w64 (k * g.w) + i)) = ixG g i k := by rw [hx, Int.toNat_natCast]
  refine ⟨_, centre_at g i k, ?_⟩
  refine ⟨⟨by show 0 ≤ w64 _; rw [hx]; omega, by show w64 _ < (l.length : Int); rw [hx]; omega⟩, ?_⟩
  refine ⟨by show Int.toNat (w64 _) < l.length; rw [hx, Int.toNat_natCast]; omega, ?_⟩
  refine if_dec_f (fun q1 => ?_) (fun q1 => ?_)
  · have q1 : ¬ l.getD (Int.toNat (w64 (w64 (k * g.w) + i))) default < 0 := q1
    rw [hix] at q1
    have hem := hes.1 _ (getD_mem' (l := es) (i := (l.getD (ixG g i k) default).toNat) (by omega))
    refine ⟨⟨by omega, by omega⟩, ?_⟩
    refine ⟨_, square_at heu hc, ?_⟩
    refine ⟨⟨by show 0 ≤ w64 _; rw [hx]; omega, by show w64 _ < (l.length : Int); rw [hx]; omega⟩, ?_⟩
    refine ⟨by show Int.toNat (w64 _) < l.length; rw [hx, Int.toNat_natCast]; omega, ?_⟩
    refine ⟨⟨by show 0 ≤ l.getD (Int.toNat (w64 (w64 (k * g.w) + i))) default; rw [hix]; omega, by show l.getD (Int.toNat (w64 (w64 (k * g.w) + i))) default < _; rw [hix]; omega⟩, ?_⟩
    have hsq := square_at hem hc
    rw [← hix] at hsq
    refine ⟨_, hsq, ?_⟩
    rw [hix]
    refine ⟨_, rcmp_at (sqN_in heu hc) (sqN_in hem hc), ?_⟩
    refine if_dec (fun q2 => ?_) (fun q2 => ?_)
    · have q2 : cmpF (sqN (es.getD e.toNat default) (centre g i k)) (sqN (es.getD (l.getD (ixG g i k) default).toNat default) (centre g i k)) < 0 := q2
      have ho : offG es g l i k e = l.set (ixG g i k) e := by unfold offG; rw [if_pos ⟨by omega, hi, .inr q2⟩]
      rw [ho]
      refine ⟨⟨by show 0 ≤ w64 _; rw [hx]; omega, by show w64 _ < (l.length : Int); rw [hx]; omega⟩, ?_⟩
      refine ⟨by show Int.toNat (w64 _) < l.length; rw [hx, Int.toNat_natCast]; omega, ?_⟩
      refine ent_of (rl := []) (nl := []) ⟨rfl, ?_, ?_, ⟨⟨Nat.le_of_ble_eq_true rfl, subR_set (x := e) rfl (by rw [hset]; omega) rfl rfl rfl (by rw [hset]) rfl⟩, trivial⟩, rfl, rfl, (by first | exact Nat.zero_le _ | exact Nat.le_of_ble_eq_true rfl), trivial, trivial⟩ <;> (repeat' (first | exact trivial | exact SameL.refl _ | exact ep_seal rfl rfl | assumption | exact congrArg (Value.int _) (by assumption) | exact rfl | exact Nat.le_of_ble_eq_true rfl | decide | apply And.intro | apply all1 | apply all2 | apply all3 | apply all4 | apply all5))
    · have q2 : ¬ cmpF (sqN (es.getD e.toNat default) (centre g i k)) (sqN (es.getD (l.getD (ixG g i k) default).toNat default) (centre g i k)) < 0 := q2
      have ho : offG es g l i k e = l := by unfold offG; rw [if_neg (fun h => h.2.2.elim q1 q2)]
      rw [ho]
      refine ent_of (rl := []) (nl := []) ⟨rfl, ?_, ?_, ⟨⟨Nat.le_of_ble_eq_true rfl, subR.refl _⟩, trivial⟩, rfl, rfl, (by first | exact Nat.zero_le _ | exact Nat.le_of_ble_eq_true rfl), trivial, trivial⟩ <;> (repeat' (first | exact trivial | exact SameL.refl _ | exact ep_seal rfl rfl | assumption | exact congrArg (Value.int _) (by assumption) | exact rfl | exact Nat.le_of_ble_eq_true rfl | decide | apply And.intro | apply all1 | apply all2 | apply all3 | apply all4 | apply all5))
  · have q1 : l.getD (Int.toNat (w64 (w64 (k * g.w) + i))) default < 0 := q1
    rw [hix] at q1
    have ho : offG es g l i k e = l.set (ixG g i k) e := by unfold offG; rw [if_pos ⟨by omega, hi, .inl q1⟩]
    rw [ho]
    refine ⟨⟨by show 0 ≤ w64 _; rw [hx]; omega, by show w64 _ < (l.length : Int); rw [hx]; omega⟩, ?_⟩
    refine ⟨by show Int.toNat (w64 _) < l.length; rw [hx, Int.toNat_natCast]; omega, ?_⟩
    refine ent_of (rl := []) (nl := []) ⟨rfl, ?_, ?_, ⟨⟨Nat.le_of_ble_eq_true rfl, subR_set (x := e) rfl (by rw [hset]; omega) rfl rfl rfl (by rw [hset]) rfl⟩, trivial⟩, rfl, rfl, (by first | exact Nat.zero_le _ | exact Nat.le_of_ble_eq_true rfl), trivial, trivial⟩ <;> (repeat' (first | exact trivial | exact SameL.refl _ | exact ep_seal rfl rfl | assumption | exact congrArg (Value.int _) (by assumption) | exact rfl | exact Nat.le_of_ble_eq_true rfl | decide | apply And.intro | apply all1 | apply all2 | apply all3 | apply all4 | apply all5))
end Go.Proofs.Ytbfdpdbdkcekfaa
