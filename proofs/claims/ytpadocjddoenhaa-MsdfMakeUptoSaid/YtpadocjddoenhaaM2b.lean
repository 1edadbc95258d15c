/- The contracts of slices.ContainsFunc (of a function of the text), msdf.Channel, law12.channel. -/
import Derived.Test.YtpadocjddoenhaaM2a
import Derived.Test.YtpadocjddoenhaaR0c
import Derived.Test.YtpadocjddoenhaaSq
import Derived.Test.YtpadocjddoenhaaL11a
import Derived.Test.YtpadocjddoenhaaL8p
namespace Go.Proofs.Ytpadocjddoenhaa
open Go SX
set_option linter.unusedVariables false
set_option maxRecDepth 100000
set_option maxHeartbeats 2000000

/-! ### colours, bit by bit -/
def andV (a b : Int) : Int := w64 ((BitVec.ofInt 64 a &&& BitVec.ofInt 64 b).toNat : Nat)
def bitB (a c : Int) : Bool := andV (a.fdiv (2 ^ c.toNat)) 1 == 1
theorem bit_iff {a c : Int} (ha : 0 ≤ a ∧ a ≤ 8) (hc : 0 ≤ c ∧ c ≤ 2) : bitB a c = true ↔ andV a (w64 (1 * 2 ^ c.toNat)) ≠ 0 := by
  have h1 : a = 0 ∨ a = 1 ∨ a = 2 ∨ a = 3 ∨ a = 4 ∨ a = 5 ∨ a = 6 ∨ a = 7 ∨ a = 8 := by omega
  have h2 : c = 0 ∨ c = 1 ∨ c = 2 := by omega
  rcases h2 with rfl | rfl | rfl <;> rcases h1 with rfl | rfl | rfl | rfl | rfl | rfl | rfl | rfl | rfl <;> decide
/-- has the k-th edge this colour? -/
def tkC (l : List Int) (c : Int) (k : Nat) : Bool := if k < l.length then bitB (l.getD k default) c else false
def colsIn (l : List Int) : Prop := ∀ x ∈ l, 0 ≤ x ∧ x ≤ 8
/-- all white? -/
def whB (l : List Int) : Bool := l.all fun x => x == 7
def idxFrom : List Int → Nat → Int
  | [], _ => -1
  | x :: l, i => if x ≠ 7 then (i : Int) else idxFrom l (i + 1)
theorem idx_cons (x : Int) (l : List Int) (i : Nat) : idxFrom (x :: l) i = if x ≠ 7 then (i : Int) else idxFrom l (i + 1) := rfl
theorem idx_white : ∀ (l : List Int) (i : Nat), decide (idxFrom l i ≥ 0) = !(whB l)
  | [], i => rfl
  | x :: l, i => by
    unfold idxFrom
    split
    · rename_i h
      have : whB (x :: l) = false := by unfold whB; rw [List.all_cons, beq_eq_false_iff_ne.2 h]; rfl
      rw [this]
      exact decide_eq_true (by omega)
    · rename_i h
      have h : x = 7 := by omega
      subst h
      rw [idx_white l (i + 1)]
      unfold whB; rw [List.all_cons]; rfl
/-- what a texel holds of a colour -/
noncomputable def chanN (es : List Ed) (l : List Int) (g : Gd) (i k c : Int) : Int :=
  if (someTo (tkC l c) es (centre g i k) es.length).at' < 0 ∨ whB l = true then texel es g i k
  else codeN g.spread (sideW (es.getD (someTo (tkC l c) es (centre g i k) es.length).at'.toNat default) (centre g i k)) (eightF (lineN (es.getD (someTo (tkC l c) es (centre g i k) es.length).at'.toNat default) (centre g i k)))
@[reducible] def aFn' (g : Nat) : Bool × List L := (false, [.lit (.func (.func g) #[] #[])])
theorem ne7_at (x : Int) : FnAt Try.prog 40 [aI x] [aB (x != 7)] := by
  refine fn_at (E := EE) (fn := Try.f40) (c := Try.f40.body.getD .skip) (rs := Try.f40.results.toList) (nt := Try.f40.ntmps) EE_ok follows (by kernel_rfl) (by kernel_rfl) rfl rfl rfl [] rfl ?_
  exact ⟨⟨rfl, trivial⟩, trivial⟩
noncomputable def SIx (l : List Int) (i : Nat) : SS := mkS
  [(0, .o (.sl false 1 l.length (rowOf ints l))), (1, .o (.v (.func (.func 40) #[] #[]))), (7, .o (.v (.int .i64 l.length))), (8, .o (.v (.int .i64 i)))] [] [] 0 Try.f61.ntmps
theorem index_at {l : List Int} (hl : l.length ≤ 9000000000000000) : FnAt Try.prog 61 [aInts l, aFn' 40] [aI (idxFrom l 0)] := by
  refine fn_at (E := EE) (fn := Try.f61) (c := Try.f61.body.getD .skip) (rs := Try.f61.results.toList) (nt := Try.f61.ntmps) EE_ok follows (by kernel_rfl) (by kernel_rfl) rfl rfl rfl [] rfl ?_
  refine loop_natP l.length (fun i => idxFrom l 0 = idxFrom (l.drop i) i) (SIx l) rfl ?_ (fun i hi hp => ?_)
  · refine ent_of (rl := []) (nl := []) ⟨rfl, ?_, ?_, trivial, rfl, rfl, (by first | exact Nat.zero_le _ | exact Nat.le_of_ble_eq_true rfl), trivial, trivial⟩ <;> (repeat' (first | exact trivial | exact SameL.refl _ | exact ep_seal rfl rfl | assumption | exact congrArg (Value.int _) (by assumption) | exact rfl | exact Nat.le_of_ble_eq_true rfl | decide | apply And.intro | apply all1 | apply all2 | apply all3 | apply all4 | apply all5))
  refine if_dec (fun hlt => ?_) (fun hge => ?_)
  · have hlt : i < l.length := by omega
    have hw := w64_succ hlt (by omega)
    have hd : l.drop i = l.getD i default :: l.drop (i + 1) := by
      rw [List.drop_eq_getElem_cons hlt, List.getD_eq_getElem?_getD, List.getElem?_eq_getElem hlt]; rfl
    rw [hd, idx_cons] at hp
    refine ⟨⟨by omega, by omega⟩, ?_⟩
    refine ⟨_, ne7_at (l.getD i default), ?_⟩
    refine if_ne (fun h => ?_) (fun h => ?_)
    · have h : l.getD i default ≠ 7 := h
      rw [if_pos h] at hp
      refine ⟨⟨vI ?_, trivial⟩, trivial⟩
      exact hp
    · have h : l.getD i default = 7 := h
      rw [if_neg (fun q => q h)] at hp
      refine ⟨i + 1, ⟨Nat.lt_succ_self _, hlt, hp⟩, ?_⟩
      refine ent_of (rl := []) (nl := []) ⟨rfl, ?_, ?_, trivial, rfl, rfl, (by first | exact Nat.zero_le _ | exact Nat.le_of_ble_eq_true rfl), trivial, trivial⟩ <;> (repeat' (first | exact trivial | exact SameL.refl _ | exact ep_seal rfl rfl | assumption | exact congrArg (Value.int _) (by assumption) | exact rfl | exact Nat.le_of_ble_eq_true rfl | decide | apply And.intro | apply all1 | apply all2 | apply all3 | apply all4 | apply all5))
  · have hin : i = l.length := by omega
    subst hin
    rw [List.drop_length] at hp
    exact ⟨⟨kI hp, trivial⟩, trivial⟩
theorem contains_at {l : List Int} (hl : l.length ≤ 9000000000000000) : FnAt Try.prog 39 [aInts l, aFn' 40] [aB (!(whB l))] := by
  refine fn_at (E := EE) (fn := Try.f39) (c := Try.f39.body.getD .skip) (rs := Try.f39.results.toList) (nt := Try.f39.ntmps) EE_ok follows (by kernel_rfl) (by kernel_rfl) rfl rfl rfl [] rfl ?_
  refine ⟨_, index_at hl, ?_⟩
  exact ⟨⟨vB (idx_white l 0).symm, trivial⟩, trivial⟩
@[reducible] def slI (l : List Int) : L := .sl 1 l.length (rowOf ints l)
theorem tk_at {l : List Int} {c : Int} (hc : 0 ≤ c ∧ c ≤ 2) (k : Nat) : FnAt Try.prog 41 [aI k, (false, [.pt 1 (nth [slI l])]), (false, [.pt 1 (nth [I c])])] [aB (tkC l c k)] := by
  refine fn_at (E := EE) (fn := Try.f41) (c := Try.f41.body.getD .skip) (rs := Try.f41.results.toList) (nt := Try.f41.ntmps) EE_ok follows (by kernel_rfl) (by kernel_rfl) rfl rfl rfl [] rfl ?_
  refine if_dec (fun h => ?_) (fun h => ?_)
  · have h : k < l.length := by omega
    refine ⟨⟨by omega, by omega⟩, ?_⟩
    refine ⟨by show 0 ≤ c ∧ c ≤ 64; omega, ?_⟩
    refine ⟨⟨vB ?_, trivial⟩, trivial⟩
    unfold tkC; rw [if_pos h]; rfl
  · have h : ¬ k < l.length := by omega
    refine ⟨⟨kB ?_, trivial⟩, trivial⟩
    unfold tkC; rw [if_neg h]
def MC (l : List Int) (c : Int) : LM := ⟨[(0, 39, [.sl false 1 l.length (rowOf ints l)]), (1, 3, [.v (.int .i64 c)])], [], 2⟩
noncomputable def SSc (l : List Int) (c : Int) (es : List Ed) (p : Pt) (i : Nat) : SS := mkS
  [(2, .o (.f 41 [0, 1])), (4, .o (.p 2 0)), (6, .o (.p 3 0)), (8, .o (.p 4 0)), (9, .o (.v (.int .i64 (someTo (tkC l c) es p i).at'))), (14, .o (.sl false 4 es.length (rowOf Ed.ls es))), (15, .o (.v (.int .i64 es.length))), (16, .o (.v (.int .i64 i)))]
  ((MC l c).bs ++ [(2, 56, [.v (.int .i64 p.x), .v (.int .i64 p.y)]), (3, 59, [.any, .any]), (4, 59, [.v (.int .i64 (someTo (tkC l c) es p i).best.num), .v (.int .i64 (someTo (tkC l c) es p i).best.den)])]) [] 5 Try.f22.ntmps
theorem someC_at {l : List Int} {c : Int} {es : List Ed} {p : Pt} (hc : 0 ≤ c ∧ c ≤ 2) (h : edsIn es) (hp : ptIn 33000 p) : HvAt Try.prog 22 [.o (.sl false 4 es.length (rowOf Ed.ls es)), .a [.v (.int .i64 p.x), .v (.int .i64 p.y)], .o (.f 41 [0, 1])] (MC l c)
    (.t [(true, [.v (.int .i64 (someTo (tkC l c) es p es.length).best.num), .v (.int .i64 (someTo (tkC l c) es p es.length).best.den)]), (false, [.v (.int .i64 (someTo (tkC l c) es p es.length).at')])]) (MC l c) := by
  obtain ⟨hb, hl⟩ := h
  refine hv_at (E := EH) (fn := Try.f22) (c := Try.f22.body.getD .skip) (rs := Try.f22.results.toList) (nt := Try.f22.ntmps) EH_ok follows (by kernel_rfl) (by kernel_rfl) rfl rfl rfl [] rfl ?_
  refine loop_nat es.length (SSc l c es p) ?_ (fun i hi => ?_)
  · refine ent_of (rl := [(4, 6)]) (nl := []) ⟨rfl, ?_, ?_, trivial, rfl, rfl, (by first | exact Nat.zero_le _ | exact Nat.le_of_ble_eq_true rfl), trivial, ⟨⟨(by first | exact Nat.zero_le _ | exact Nat.le_of_ble_eq_true rfl), (by first | exact Nat.zero_le _ | exact Nat.le_of_ble_eq_true rfl)⟩, trivial⟩⟩ <;> (repeat' (first | exact trivial | exact SameL.refl _ | exact ep_seal rfl rfl | assumption | exact congrArg (Value.int _) (by assumption) | exact rfl | exact Nat.le_of_ble_eq_true rfl | decide | apply And.intro | apply all1 | apply all2 | apply all3 | apply all4 | apply all5))
  have k1 := someTo_ok (tk := tkC l c) hb hp i hi
  refine if_dec (fun hlt => ?_) (fun hge => ?_)
  · have hlt : i < es.length := by omega
    have hw := w64_succ hlt (by omega)
    have hst : someTo (tkC l c) es p (i + 1) = if tkC l c i = true then nearStep p (someTo (tkC l c) es p i) (i, es.getD i default) else someTo (tkC l c) es p i := rfl
    have he := hb _ (getD_mem' hlt)
    refine ⟨⟨by omega, by omega⟩, ?_⟩
    refine ⟨_, tk_at (l := l) hc i, ?_⟩
    refine if_nb (fun h0 => ?_) (fun h0 => ?_)
    · refine ⟨i + 1, ⟨Nat.lt_succ_self _, hlt⟩, ?_⟩
      unfold SSc
      rw [hst, if_neg (by rw [h0]; decide)]
      refine ent_of (rl := []) (nl := []) ⟨rfl, ?_, ?_, trivial, rfl, rfl, (by first | exact Nat.zero_le _ | exact Nat.le_of_ble_eq_true rfl), trivial, trivial⟩ <;> (repeat' (first | exact trivial | exact SameL.refl _ | exact ep_seal rfl rfl | assumption | exact congrArg (Value.int _) (by assumption) | exact rfl | exact Nat.le_of_ble_eq_true rfl | decide | apply And.intro | apply all1 | apply all2 | apply all3 | apply all4 | apply all5))
    rw [if_pos h0] at hst
    refine ⟨_, square_at he hp, ?_⟩
    refine if_dec_f (fun h1 => ?_) (fun h1 => ?_)
    · have h1 : ¬ (someTo (tkC l c) es p i).at' < 0 := h1
      have k3 : frIn (someTo (tkC l c) es p i).best := by
        rcases k1 with h | h
        · omega
        · exact h.2.2.2
      refine ⟨_, rcmp_at (sqN_in he hp) k3, ?_⟩
      refine if_dec (fun h2 => ?_) (fun h2 => ?_)
      · have h2 : cmpF (sqN (es.getD i default) p) (someTo (tkC l c) es p i).best < 0 := h2
        refine ⟨i + 1, ⟨Nat.lt_succ_self _, hlt⟩, ?_⟩
        unfold SSc
        rw [hst]
        unfold nearStep
        rw [if_pos (.inr h2)]
        refine ent_of (rl := []) (nl := []) ⟨rfl, ?_, ?_, trivial, rfl, rfl, (by first | exact Nat.zero_le _ | exact Nat.le_of_ble_eq_true rfl), trivial, trivial⟩ <;> (repeat' (first | exact trivial | exact SameL.refl _ | exact ep_seal rfl rfl | assumption | exact congrArg (Value.int _) (by assumption) | exact rfl | exact Nat.le_of_ble_eq_true rfl | decide | apply And.intro | apply all1 | apply all2 | apply all3 | apply all4 | apply all5))
      · have h2 : ¬ cmpF (sqN (es.getD i default) p) (someTo (tkC l c) es p i).best < 0 := h2
        refine ⟨i + 1, ⟨Nat.lt_succ_self _, hlt⟩, ?_⟩
        unfold SSc
        rw [hst]
        unfold nearStep
        rw [if_neg (by rintro (h | h); exact h1 h; exact h2 h)]
        refine ent_of (rl := []) (nl := []) ⟨rfl, ?_, ?_, trivial, rfl, rfl, (by first | exact Nat.zero_le _ | exact Nat.le_of_ble_eq_true rfl), trivial, trivial⟩ <;> (repeat' (first | exact trivial | exact SameL.refl _ | exact ep_seal rfl rfl | assumption | exact congrArg (Value.int _) (by assumption) | exact rfl | exact Nat.le_of_ble_eq_true rfl | decide | apply And.intro | apply all1 | apply all2 | apply all3 | apply all4 | apply all5))
    · have h1 : (someTo (tkC l c) es p i).at' < 0 := h1
      refine ⟨i + 1, ⟨Nat.lt_succ_self _, hlt⟩, ?_⟩
      unfold SSc
      rw [hst]
      unfold nearStep
      rw [if_pos (.inl h1)]
      refine ent_of (rl := []) (nl := []) ⟨rfl, ?_, ?_, trivial, rfl, rfl, (by first | exact Nat.zero_le _ | exact Nat.le_of_ble_eq_true rfl), trivial, trivial⟩ <;> (repeat' (first | exact trivial | exact SameL.refl _ | exact ep_seal rfl rfl | assumption | exact congrArg (Value.int _) (by assumption) | exact rfl | exact Nat.le_of_ble_eq_true rfl | decide | apply And.intro | apply all1 | apply all2 | apply all3 | apply all4 | apply all5))
  · have hin : i = es.length := by omega
    subst hin
    refine ent_of (rl := []) (nl := []) ⟨rfl, ?_, ?_, trivial, rfl, rfl, (by first | exact Nat.zero_le _ | exact Nat.le_of_ble_eq_true rfl), trivial, trivial⟩ <;> (repeat' (first | exact trivial | exact SameL.refl _ | exact ep_seal rfl rfl | assumption | exact congrArg (Value.int _) (by assumption) | exact rfl | exact Nat.le_of_ble_eq_true rfl | decide | apply And.intro | apply all1 | apply all2 | apply all3 | apply all4 | apply all5))
theorem chan_at {es : List Ed} {l : List Int} {g : Gd} {i k c : Int} (h : edsIn es) (hl : l.length ≤ 9000000000000000) (hg : gdIn g) (hi : 0 ≤ i ∧ i < 24) (hk : 0 ≤ k ∧ k < 24) (hc : 0 ≤ c ∧ c ≤ 2) :
    FnAt Try.prog 20 [aEds es, aInts l, aGd g, aI i, aI k, aI c] [aU8' (chanN es l g i k c)] := by
  have hp := centre_in hg hi hk
  have hs := hg.2.2.2.2.2
  refine fn_at (E := EH) (fn := Try.f20) (c := Try.f20.body.getD .skip) (rs := Try.f20.results.toList) (nt := Try.f20.ntmps) EH_ok follows (by kernel_rfl) (by kernel_rfl) rfl rfl rfl [] rfl ?_
  refine ⟨_, contains_at hl, ?_⟩
  refine ⟨_, centre_at g i k, ?_⟩
  refine ⟨_, _, _, _, [(0, 0), (1, 2)], [], someC_at (l := l) (c := c) hc h hp, (by refine ⟨?_, ?_, ?_, ?_, ?_, ?_⟩ <;> (repeat' (first | exact trivial | exact subR.refl _ | exact SameL.refl _ | assumption | exact congrArg (Value.int _) (by assumption) | exact congrArg (Value.int _) (Eq.symm (by assumption)) | exact rfl | exact Nat.le_of_ble_eq_true rfl | decide | apply And.intro))), ?_⟩
  have k1 := someTo_ok (tk := tkC l c) h.1 hp es.length (Nat.le_refl _)
  refine if_dec_f (fun h0 => ?_) (fun h0 => ?_)
  · have h0 : ¬ (someTo (tkC l c) es (centre g i k) es.length).at' < 0 := h0
    obtain ⟨a0, a1, a2, a3⟩ := k1.resolve_left (by omega)
    have he := h.1 _ (getD_mem' (l := es) (i := (someTo (tkC l c) es (centre g i k) es.length).at'.toNat) (by omega))
    have hq := eight_q (lineN_in he hp) (lineN_le he hp)
    refine if_b (fun hw => ?_) (fun hw => ?_)
    · have hw : (!(!(whB l))) = true := hw
      rw [Bool.not_not] at hw
      refine ⟨_, texel_at h hg hi hk, ?_⟩
      exact ⟨⟨vI (by unfold chanN; rw [if_pos (.inr hw)]), trivial⟩, trivial⟩
    · have hw : (!(!(whB l))) = false := hw
      rw [Bool.not_not] at hw
      refine ⟨⟨a0, by omega⟩, ?_⟩
      refine ⟨_, side_at (es.getD (someTo (tkC l c) es (centre g i k) es.length).at'.toNat default) (centre g i k), ?_⟩
      refine ⟨⟨a0, by omega⟩, ?_⟩
      refine ⟨_, line_at he hp, ?_⟩
      refine ⟨_, scaled_at (lineN_in he hp) (by omega), ?_⟩
      refine ⟨_, code_at g _ _ hs, ?_⟩
      exact ⟨⟨vI (by unfold chanN; rw [if_neg (by rintro (q | q); exact h0 q; rw [hw] at q; cases q)]), trivial⟩, trivial⟩
  · have h0 : (someTo (tkC l c) es (centre g i k) es.length).at' < 0 := h0
    refine ⟨_, texel_at h hg hi hk, ?_⟩
    exact ⟨⟨vI (by unfold chanN; rw [if_pos (.inl h0)]), trivial⟩, trivial⟩
@[reducible] def gdM (g : Gd) : List C := [.v (.int .i64 g.x), .v (.int .i64 g.y), .v (.int .i64 g.pitch), .v (.int .i64 g.w), .v (.int .i64 g.h), .v (.int .i64 g.spread)]
noncomputable def SLa1 (es : List Ed) (l : List Int) (g : Gd) (i k c : Int) (n : Nat) : SS := mkS
  [(0, .o (.sl false 4 es.length (rowOf Ed.ls es))), (1, .o (.sl false 1 l.length (rowOf ints l))), (3, .o (.v (.int .i64 i))), (4, .o (.v (.int .i64 k))), (5, .o (.v (.int .i64 c))), (8, .o (.p 0 0)), (13, .o (.p 1 0)), (14, .o (.v (.bool (whB (l.take n))))), (15, .o (.k (.int .i64 (-1)))), (24, .o (.sl false 1 l.length (rowOf ints l))), (25, .o (.v (.int .i64 l.length))), (26, .o (.v (.int .i64 n)))]
  [(0, 46, gdM g), (1, 56, [.v (.int .i64 (centre g i k).x), .v (.int .i64 (centre g i k).y)])] [] 2 Try.f19.ntmps
noncomputable def SLa2 (es : List Ed) (l : List Int) (g : Gd) (i k c : Int) (n : Nat) : SS := mkS
  [(0, .o (.sl false 4 es.length (rowOf Ed.ls es))), (1, .o (.sl false 1 l.length (rowOf ints l))), (3, .o (.v (.int .i64 i))), (4, .o (.v (.int .i64 k))), (5, .o (.v (.int .i64 c))), (8, .o (.p 0 0)), (13, .o (.p 1 0)), (14, .o (.v (.bool (whB l)))), (15, .o (.v (.int .i64 (someTo (tkC l c) es (centre g i k) n).at'))), (36, .o (.sl false 4 es.length (rowOf Ed.ls es))), (37, .o (.v (.int .i64 es.length))), (38, .o (.v (.int .i64 n)))]
  [(0, 46, gdM g), (1, 56, [.v (.int .i64 (centre g i k).x), .v (.int .i64 (centre g i k).y)])] [] 2 Try.f19.ntmps
theorem whB_succ {l : List Int} {n : Nat} (h : n < l.length) : whB (l.take (n + 1)) = (whB (l.take n) && (l.getD n default == 7)) := by
  unfold whB
  rw [List.take_succ_eq_append_getElem h, List.all_append, List.getD_eq_getElem?_getD, List.getElem?_eq_getElem h]
  simp
theorem lchan_at {es : List Ed} {l : List Int} {g : Gd} {i k c : Int} (h : edsIn es) (hl : l.length ≤ 9000000000000000) (hcl : colsIn l) (hg : gdIn g) (hi : 0 ≤ i ∧ i < 24) (hk : 0 ≤ k ∧ k < 24) (hc : 0 ≤ c ∧ c ≤ 2) :
    FnAt Try.prog 19 [aEds es, aInts l, aGd g, aI i, aI k, aI c] [aU8' (chanN es l g i k c)] := by
  have hp := centre_in hg hi hk
  have hs := hg.2.2.2.2.2
  have l1 := h.2
  refine fn_at (E := EE) (fn := Try.f19) (c := Try.f19.body.getD .skip) (rs := Try.f19.results.toList) (nt := Try.f19.ntmps) EE_ok follows (by kernel_rfl) (by kernel_rfl) rfl rfl rfl [] rfl ?_
  refine ⟨_, centre_at g i k, ?_⟩
  refine loop_nat l.length (SLa1 es l g i k c) ?_ (fun n hn => ?_)
  · refine ent_of (rl := [(1, 6)]) (nl := []) ⟨rfl, ?_, ?_, trivial, rfl, rfl, (by first | exact Nat.zero_le _ | exact Nat.le_of_ble_eq_true rfl), trivial, ⟨⟨(by first | exact Nat.zero_le _ | exact Nat.le_of_ble_eq_true rfl), (by first | exact Nat.zero_le _ | exact Nat.le_of_ble_eq_true rfl)⟩, trivial⟩⟩ <;> (repeat' (first | exact trivial | exact SameL.refl _ | exact ep_seal rfl rfl | assumption | exact congrArg (Value.int _) (by assumption) | exact rfl | exact Nat.le_of_ble_eq_true rfl | decide | apply And.intro | apply all1 | apply all2 | apply all3 | apply all4 | apply all5))
  refine if_dec (fun hlt => ?_) (fun hge => ?_)
  · have hlt : n < l.length := by omega
    have hw' := w64_succ hlt (by omega)
    have hws := whB_succ hlt
    refine ⟨⟨by omega, by omega⟩, ?_⟩
    refine if_b (fun hw => ?_) (fun hw => ?_)
    · refine ⟨n + 1, ⟨Nat.lt_succ_self _, hlt⟩, ?_⟩
      have hw : whB (l.take n) = true := hw
      rw [hw, Bool.true_and] at hws
      refine ent_of (rl := []) (nl := []) ⟨rfl, ?_, ?_, trivial, rfl, rfl, (by first | exact Nat.zero_le _ | exact Nat.le_of_ble_eq_true rfl), trivial, trivial⟩ <;> (repeat' (first | exact trivial | exact SameL.refl _ | exact ep_seal rfl rfl | assumption | exact congrArg (Value.int _) (by assumption) | exact rfl | exact Nat.le_of_ble_eq_true rfl | decide | apply And.intro | apply all1 | apply all2 | apply all3 | apply all4 | apply all5))
      exact congrArg Value.bool hws.symm
    · refine ⟨n + 1, ⟨Nat.lt_succ_self _, hlt⟩, ?_⟩
      have hw : whB (l.take n) = false := hw
      rw [hw, Bool.false_and] at hws
      refine ent_of (rl := []) (nl := []) ⟨rfl, ?_, ?_, trivial, rfl, rfl, (by first | exact Nat.zero_le _ | exact Nat.le_of_ble_eq_true rfl), trivial, trivial⟩ <;> (repeat' (first | exact trivial | exact SameL.refl _ | exact ep_seal rfl rfl | assumption | exact congrArg (Value.int _) (by assumption) | exact rfl | exact Nat.le_of_ble_eq_true rfl | decide | apply And.intro | apply all1 | apply all2 | apply all3 | apply all4 | apply all5))
      exact congrArg Value.bool hws.symm
  have hin : n = l.length := by omega
  subst hin
  have htk : whB (l.take l.length) = whB l := by rw [List.take_length]
  refine loop_nat es.length (SLa2 es l g i k c) ?_ (fun n hn => ?_)
  · refine ent_of (rl := []) (nl := []) ⟨rfl, ?_, ?_, trivial, rfl, rfl, (by first | exact Nat.zero_le _ | exact Nat.le_of_ble_eq_true rfl), trivial, trivial⟩ <;> (repeat' (first | exact trivial | exact SameL.refl _ | exact ep_seal rfl rfl | assumption | exact congrArg (Value.int _) (by assumption) | exact rfl | exact Nat.le_of_ble_eq_true rfl | decide | apply And.intro | apply all1 | apply all2 | apply all3 | apply all4 | apply all5))
    first | exact congrArg Value.bool htk | exact congrArg Value.bool htk.symm
  have k1 := someTo_ok (tk := tkC l c) h.1 hp n hn
  refine if_dec (fun hlt => ?_) (fun hge => ?_)
  · have hlt : n < es.length := by omega
    have hw' := w64_succ hlt (by omega)
    have hst : someTo (tkC l c) es (centre g i k) (n + 1) = if tkC l c n = true then nearStep (centre g i k) (someTo (tkC l c) es (centre g i k) n) (n, es.getD n default) else someTo (tkC l c) es (centre g i k) n := rfl
    have he := h.1 _ (getD_mem' hlt)
    refine ⟨⟨by omega, by omega⟩, ?_⟩
    refine if_dec (fun hx => ?_) (fun hx => ?_)
    rotate_left
    · have ht : tkC l c n = false := by unfold tkC; rw [if_neg (fun q => hx (by show (n : Int) < (l.length : Int); omega))]
      refine ⟨n + 1, ⟨Nat.lt_succ_self _, hlt⟩, ?_⟩
      unfold SLa2
      rw [hst, if_neg (by rw [ht]; decide)]
      refine ent_of (rl := []) (nl := []) ⟨rfl, ?_, ?_, trivial, rfl, rfl, (by first | exact Nat.zero_le _ | exact Nat.le_of_ble_eq_true rfl), trivial, trivial⟩ <;> (repeat' (first | exact trivial | exact SameL.refl _ | exact ep_seal rfl rfl | assumption | exact congrArg (Value.int _) (by assumption) | exact rfl | exact Nat.le_of_ble_eq_true rfl | decide | apply And.intro | apply all1 | apply all2 | apply all3 | apply all4 | apply all5))
    have hx : n < l.length := by omega
    refine ⟨⟨by omega, by omega⟩, ?_⟩
    refine ⟨by show 0 ≤ c ∧ c ≤ 64; omega, ?_⟩
    have hb := bit_iff (hcl _ (getD_mem' hx)) hc
    have ht : tkC l c n = bitB (l.getD n default) c := by unfold tkC; rw [if_pos hx]
    rw [← ht] at hb
    refine if_ne (fun h0 => ?_) (fun h0 => ?_)
    rotate_left
    · have h0 : andV (l.getD n default) (w64 (1 * 2 ^ c.toNat)) = 0 := h0
      refine ⟨n + 1, ⟨Nat.lt_succ_self _, hlt⟩, ?_⟩
      unfold SLa2
      rw [hst, if_neg (fun q => hb.1 q h0)]
      refine ent_of (rl := []) (nl := []) ⟨rfl, ?_, ?_, trivial, rfl, rfl, (by first | exact Nat.zero_le _ | exact Nat.le_of_ble_eq_true rfl), trivial, trivial⟩ <;> (repeat' (first | exact trivial | exact SameL.refl _ | exact ep_seal rfl rfl | assumption | exact congrArg (Value.int _) (by assumption) | exact rfl | exact Nat.le_of_ble_eq_true rfl | decide | apply And.intro | apply all1 | apply all2 | apply all3 | apply all4 | apply all5))
    have h0 : andV (l.getD n default) (w64 (1 * 2 ^ c.toNat)) ≠ 0 := h0
    rw [if_pos (hb.2 h0)] at hst
    refine if_dec_f (fun h1 => ?_) (fun h1 => ?_)
    · have h1 : ¬ (someTo (tkC l c) es (centre g i k) n).at' < 0 := h1
      obtain ⟨a0, a1, a2, a3⟩ := k1.resolve_left (by omega)
      refine ⟨_, square_at he hp, ?_⟩
      refine ⟨⟨a0, by omega⟩, ?_⟩
      refine ⟨_, square_at (h.1 _ (getD_mem' (l := es) (i := (someTo (tkC l c) es (centre g i k) n).at'.toNat) (by omega))) hp, ?_⟩
      rw [← a2]
      refine ⟨_, rcmp_at (sqN_in he hp) a3, ?_⟩
      refine if_dec (fun h2 => ?_) (fun h2 => ?_)
      · have h2 : cmpF (sqN (es.getD n default) (centre g i k)) (someTo (tkC l c) es (centre g i k) n).best < 0 := h2
        refine ⟨n + 1, ⟨Nat.lt_succ_self _, hlt⟩, ?_⟩
        unfold SLa2
        rw [hst]
        unfold nearStep
        rw [if_pos (.inr h2)]
        refine ent_of (rl := []) (nl := []) ⟨rfl, ?_, ?_, trivial, rfl, rfl, (by first | exact Nat.zero_le _ | exact Nat.le_of_ble_eq_true rfl), trivial, trivial⟩ <;> (repeat' (first | exact trivial | exact SameL.refl _ | exact ep_seal rfl rfl | assumption | exact congrArg (Value.int _) (by assumption) | exact rfl | exact Nat.le_of_ble_eq_true rfl | decide | apply And.intro | apply all1 | apply all2 | apply all3 | apply all4 | apply all5))
      · have h2 : ¬ cmpF (sqN (es.getD n default) (centre g i k)) (someTo (tkC l c) es (centre g i k) n).best < 0 := h2
        refine ⟨n + 1, ⟨Nat.lt_succ_self _, hlt⟩, ?_⟩
        unfold SLa2
        rw [hst]
        unfold nearStep
        rw [if_neg (by rintro (h | h); exact h1 h; exact h2 h)]
        refine ent_of (rl := []) (nl := []) ⟨rfl, ?_, ?_, trivial, rfl, rfl, (by first | exact Nat.zero_le _ | exact Nat.le_of_ble_eq_true rfl), trivial, trivial⟩ <;> (repeat' (first | exact trivial | exact SameL.refl _ | exact ep_seal rfl rfl | assumption | exact congrArg (Value.int _) (by assumption) | exact rfl | exact Nat.le_of_ble_eq_true rfl | decide | apply And.intro | apply all1 | apply all2 | apply all3 | apply all4 | apply all5))
    · have h1 : (someTo (tkC l c) es (centre g i k) n).at' < 0 := h1
      refine ⟨n + 1, ⟨Nat.lt_succ_self _, hlt⟩, ?_⟩
      unfold SLa2
      rw [hst]
      unfold nearStep
      rw [if_pos (.inl h1)]
      refine ent_of (rl := []) (nl := []) ⟨rfl, ?_, ?_, trivial, rfl, rfl, (by first | exact Nat.zero_le _ | exact Nat.le_of_ble_eq_true rfl), trivial, trivial⟩ <;> (repeat' (first | exact trivial | exact SameL.refl _ | exact ep_seal rfl rfl | assumption | exact congrArg (Value.int _) (by assumption) | exact rfl | exact Nat.le_of_ble_eq_true rfl | decide | apply And.intro | apply all1 | apply all2 | apply all3 | apply all4 | apply all5))
  · have hin : n = es.length := by omega
    subst hin
    refine ⟨fun hw => ?_, fun hw => ?_⟩
    rotate_left
    · have hw : whB l = true := hw
      refine ⟨_, texel_at h hg hi hk, ?_⟩
      exact ⟨⟨vI (by unfold chanN; rw [if_pos (.inr hw)]), trivial⟩, trivial⟩
    · have hw : whB l = false := hw
      refine if_dec (fun h0 => ?_) (fun h0 => ?_)
      · have h0 : (someTo (tkC l c) es (centre g i k) es.length).at' < 0 := h0
        refine ⟨_, texel_at h hg hi hk, ?_⟩
        exact ⟨⟨vI (by unfold chanN; rw [if_pos (.inl h0)]), trivial⟩, trivial⟩
      · have h0 : ¬ (someTo (tkC l c) es (centre g i k) es.length).at' < 0 := h0
        obtain ⟨a0, a1, a2, a3⟩ := k1.resolve_left (by omega)
        have he := h.1 _ (getD_mem' (l := es) (i := (someTo (tkC l c) es (centre g i k) es.length).at'.toNat) (by omega))
        have hq := eight_q (lineN_in he hp) (lineN_le he hp)
        refine ⟨⟨a0, by omega⟩, ?_⟩
        refine ⟨_, side_at (es.getD (someTo (tkC l c) es (centre g i k) es.length).at'.toNat default) (centre g i k), ?_⟩
        refine ⟨⟨a0, by omega⟩, ?_⟩
        refine ⟨_, line_at he hp, ?_⟩
        refine ⟨_, scaled_at (lineN_in he hp) (by omega), ?_⟩
        refine ⟨_, code_at g _ _ hs, ?_⟩
        exact ⟨⟨vI (by unfold chanN; rw [if_neg (by rintro (q | q); exact h0 q; rw [hw] at q; cases q)]), trivial⟩, trivial⟩
end Go.Proofs.Ytpadocjddoenhaa
