/- The contract of law08.DistSome. -/
import Derived.Test.YtgneeaoeafjngaaL8b
import Derived.Test.YtgneeaoeafjngaaHv
namespace Go.Proofs.Ytgneeaoeafjngaa
open Go SX
set_option linter.unusedVariables false
set_option maxRecDepth 100000
set_option maxHeartbeats 2000000

def boL (b : Bool) : List L := [Bo b]
/-- is k taken? -/
def tkB (tk : List Bool) (k : Nat) : Bool := if k < tk.length then tk.getD k default else false
@[reducible] def slB (tk : List Bool) : L := .sl 1 tk.length (rowOf boL tk)
theorem is_at {tk : List Bool} (k : Nat) : FnAt Try.prog 29 [aI k, (false, [.pt 1 (nth [slB tk])])] [aB (tkB tk k)] := by
  refine fn_at (E := EE) (fn := Try.f29) (c := Try.f29.body.getD .skip) (rs := Try.f29.results.toList) (nt := Try.f29.ntmps) EE_ok follows (by kernel_rfl) (by kernel_rfl) rfl rfl rfl [] rfl ?_
  refine if_dec (fun h => ?_) (fun h => ?_)
  · have h : k < tk.length := by omega
    refine ⟨⟨by omega, by omega⟩, ?_⟩
    refine ⟨⟨vB ?_, trivial⟩, trivial⟩
    unfold tkB; rw [if_pos h]; rfl
  · have h : ¬ k < tk.length := by omega
    refine ⟨⟨kB ?_, trivial⟩, trivial⟩
    unfold tkB; rw [if_neg h]
/-- what was asked -/
def askStep (a : Int) (k : Int) : Int := w64 (w64 (a * 2) + k.tmod 2)
def MA (tk : List Bool) (a : Int) : LM := ⟨[(0, 3, [.v (.int .i64 a)]), (1, 52, [.f 29 [2]]), (2, 51, [.sl false 1 tk.length (rowOf boL tk)])], [], 3⟩
theorem ask_at {tk : List Bool} (a : Int) (k : Nat) : HvAt Try.prog 31 [.o (.v (.int .i64 k)), .o (.p 0 0), .o (.p 1 0)] (MA tk a) (.o (.v (.bool (tkB tk k)))) (MA tk (askStep a k)) := by
  refine hv_at (E := EH) (fn := Try.f31) (c := Try.f31.body.getD .skip) (rs := Try.f31.results.toList) (nt := Try.f31.ntmps) EH_ok follows (by kernel_rfl) (by kernel_rfl) rfl rfl rfl [] rfl ?_
  refine ⟨_, is_at k, ?_⟩
  refine ent_of (rl := []) (nl := []) ⟨rfl, ?_, ?_, trivial, rfl, rfl, (by first | exact Nat.zero_le _ | exact Nat.le_of_ble_eq_true rfl), trivial, trivial⟩ <;> (repeat' (first | exact trivial | exact SameL.refl _ | exact ep_seal rfl rfl | assumption | exact congrArg (Value.int _) (by assumption) | exact rfl | exact Nat.le_of_ble_eq_true rfl | decide | apply And.intro | apply all1 | apply all2 | apply all3 | apply all4 | apply all5))
def askTo (i : Nat) : Int := match i with
  | 0 => 0
  | i + 1 => askStep (askTo i) i
noncomputable def SSo (tk : List Bool) (es : List Ed) (p : Pt) (i : Nat) : SS := mkS
  [(2, .o (.f 31 [0, 1])), (4, .o (.p 3 0)), (6, .o (.p 4 0)), (8, .o (.p 5 0)), (9, .o (.v (.int .i64 (someTo (tkB tk) es p i).at'))), (14, .o (.sl false 4 es.length (rowOf Ed.ls es))), (15, .o (.v (.int .i64 es.length))), (16, .o (.v (.int .i64 i)))]
  ((MA tk (askTo i)).bs ++ [(3, 27, [.v (.int .i64 p.x), .v (.int .i64 p.y)]), (4, 46, [.any, .any]), (5, 46, [.v (.int .i64 (someTo (tkB tk) es p i).best.num), .v (.int .i64 (someTo (tkB tk) es p i).best.den)])]) [] 6 Try.f30.ntmps
theorem some_at {tk : List Bool} {es : List Ed} {p : Pt} (h : edsIn es) (hp : ptIn 33000 p) : HvAt Try.prog 30 [.o (.sl false 4 es.length (rowOf Ed.ls es)), .a [.v (.int .i64 p.x), .v (.int .i64 p.y)], .o (.f 31 [0, 1])] (MA tk 0)
    (.t [(true, [.v (.int .i64 (someTo (tkB tk) es p es.length).best.num), .v (.int .i64 (someTo (tkB tk) es p es.length).best.den)]), (false, [.v (.int .i64 (someTo (tkB tk) es p es.length).at')])]) (MA tk (askTo es.length)) := by
  obtain ⟨hb, hl⟩ := h
  refine hv_at (E := EH) (fn := Try.f30) (c := Try.f30.body.getD .skip) (rs := Try.f30.results.toList) (nt := Try.f30.ntmps) EH_ok follows (by kernel_rfl) (by kernel_rfl) rfl rfl rfl [] rfl ?_
  refine loop_nat es.length (SSo tk es p) ?_ (fun i hi => ?_)
  · refine ent_of (rl := [(5, 7)]) (nl := []) ⟨rfl, ?_, ?_, trivial, rfl, rfl, (by first | exact Nat.zero_le _ | exact Nat.le_of_ble_eq_true rfl), trivial, ⟨⟨(by first | exact Nat.zero_le _ | exact Nat.le_of_ble_eq_true rfl), (by first | exact Nat.zero_le _ | exact Nat.le_of_ble_eq_true rfl)⟩, trivial⟩⟩ <;> (repeat' (first | exact trivial | exact SameL.refl _ | exact ep_seal rfl rfl | assumption | exact congrArg (Value.int _) (by assumption) | exact rfl | exact Nat.le_of_ble_eq_true rfl | decide | apply And.intro | apply all1 | apply all2 | apply all3 | apply all4 | apply all5))
  have k1 := someTo_ok (tk := tkB tk) hb hp i hi
  refine if_dec (fun hlt => ?_) (fun hge => ?_)
  · have hlt : i < es.length := by omega
    have hw := w64_succ hlt (by omega)
    have hst : someTo (tkB tk) es p (i + 1) = if tkB tk i = true then nearStep p (someTo (tkB tk) es p i) (i, es.getD i default) else someTo (tkB tk) es p i := rfl
    have he := hb _ (getD_mem' hlt)
    refine ⟨⟨by omega, by omega⟩, ?_⟩
    refine ⟨_, _, _, _, [(0, 0), (1, 1), (2, 2)], [], ask_at (tk := tk) (askTo i) i, (by refine ⟨?_, ?_, ?_, ?_, ?_, ?_⟩ <;> (repeat' (first | exact trivial | exact SameL.refl _ | assumption | exact rfl | exact Nat.le_of_ble_eq_true rfl | decide | apply And.intro))), ?_⟩
    refine if_nb (fun h0 => ?_) (fun h0 => ?_)
    · refine ⟨i + 1, ⟨Nat.lt_succ_self _, hlt⟩, ?_⟩
      unfold SSo
      rw [hst, if_neg (by rw [h0]; decide)]
      refine ent_of (rl := []) (nl := []) ⟨rfl, ?_, ?_, trivial, rfl, rfl, (by first | exact Nat.zero_le _ | exact Nat.le_of_ble_eq_true rfl), trivial, trivial⟩ <;> (repeat' (first | exact trivial | exact SameL.refl _ | exact ep_seal rfl rfl | assumption | exact congrArg (Value.int _) (by assumption) | exact rfl | exact Nat.le_of_ble_eq_true rfl | decide | apply And.intro | apply all1 | apply all2 | apply all3 | apply all4 | apply all5))
    rw [if_pos h0] at hst
    refine ⟨_, square_at he hp, ?_⟩
    refine if_dec_f (fun h1 => ?_) (fun h1 => ?_)
    · have h1 : ¬ (someTo (tkB tk) es p i).at' < 0 := h1
      have k3 : frIn (someTo (tkB tk) es p i).best := by
        rcases k1 with h | h
        · omega
        · exact h.2.2.2
      refine ⟨_, rcmp_at (sqN_in he hp) k3, ?_⟩
      refine if_dec (fun h2 => ?_) (fun h2 => ?_)
      · have h2 : cmpF (sqN (es.getD i default) p) (someTo (tkB tk) es p i).best < 0 := h2
        refine ⟨i + 1, ⟨Nat.lt_succ_self _, hlt⟩, ?_⟩
        unfold SSo
        rw [hst]
        unfold nearStep
        rw [if_pos (.inr h2)]
        refine ent_of (rl := []) (nl := []) ⟨rfl, ?_, ?_, trivial, rfl, rfl, (by first | exact Nat.zero_le _ | exact Nat.le_of_ble_eq_true rfl), trivial, trivial⟩ <;> (repeat' (first | exact trivial | exact SameL.refl _ | exact ep_seal rfl rfl | assumption | exact congrArg (Value.int _) (by assumption) | exact rfl | exact Nat.le_of_ble_eq_true rfl | decide | apply And.intro | apply all1 | apply all2 | apply all3 | apply all4 | apply all5))
      · have h2 : ¬ cmpF (sqN (es.getD i default) p) (someTo (tkB tk) es p i).best < 0 := h2
        refine ⟨i + 1, ⟨Nat.lt_succ_self _, hlt⟩, ?_⟩
        unfold SSo
        rw [hst]
        unfold nearStep
        rw [if_neg (by rintro (h | h); exact h1 h; exact h2 h)]
        refine ent_of (rl := []) (nl := []) ⟨rfl, ?_, ?_, trivial, rfl, rfl, (by first | exact Nat.zero_le _ | exact Nat.le_of_ble_eq_true rfl), trivial, trivial⟩ <;> (repeat' (first | exact trivial | exact SameL.refl _ | exact ep_seal rfl rfl | assumption | exact congrArg (Value.int _) (by assumption) | exact rfl | exact Nat.le_of_ble_eq_true rfl | decide | apply And.intro | apply all1 | apply all2 | apply all3 | apply all4 | apply all5))
    · have h1 : (someTo (tkB tk) es p i).at' < 0 := h1
      refine ⟨i + 1, ⟨Nat.lt_succ_self _, hlt⟩, ?_⟩
      unfold SSo
      rw [hst]
      unfold nearStep
      rw [if_pos (.inl h1)]
      refine ent_of (rl := []) (nl := []) ⟨rfl, ?_, ?_, trivial, rfl, rfl, (by first | exact Nat.zero_le _ | exact Nat.le_of_ble_eq_true rfl), trivial, trivial⟩ <;> (repeat' (first | exact trivial | exact SameL.refl _ | exact ep_seal rfl rfl | assumption | exact congrArg (Value.int _) (by assumption) | exact rfl | exact Nat.le_of_ble_eq_true rfl | decide | apply And.intro | apply all1 | apply all2 | apply all3 | apply all4 | apply all5))
  · have hin : i = es.length := by omega
    subst hin
    refine ent_of (rl := []) (nl := []) ⟨rfl, ?_, ?_, trivial, rfl, rfl, (by first | exact Nat.zero_le _ | exact Nat.le_of_ble_eq_true rfl), trivial, trivial⟩ <;> (repeat' (first | exact trivial | exact SameL.refl _ | exact ep_seal rfl rfl | assumption | exact congrArg (Value.int _) (by assumption) | exact rfl | exact Nat.le_of_ble_eq_true rfl | decide | apply And.intro | apply all1 | apply all2 | apply all3 | apply all4 | apply all5))
@[reducible] def bsSo (tk : List Bool) (es : List Ed) (x : Pt) : List (Nat × Nat × List C) :=
  [(0, 27, [.v (.int .i64 x.x), .v (.int .i64 x.y)]), (1, 52, [.f 29 [4]]), (2, 3, [.v (.int .i64 (askTo es.length))]), (3, 46, [.v (.int .i64 (someTo (tkB tk) es x es.length).best.num), .v (.int .i64 (someTo (tkB tk) es x es.length).best.den)]), (4, 51, [.sl false 1 tk.length (rowOf boL tk)])]
noncomputable def SD1 (tk : List Bool) (es : List Ed) (x : Pt) (i : Nat) : SS := mkS
  [(9, .o (.sl true 4 es.length (rowOf Ed.ls es))), (10, .o (.p 0 0)), (11, .o (.p 1 0)), (12, .o (.p 2 0)), (13, .o (.p 3 0)), (14, .o (.v (.int .i64 (someTo (tkB tk) es x es.length).at'))), (15, .o (.v (.int .i64 (someTo (tkB tk) es x i).at'))), (36, .o (.sl true 4 es.length (rowOf Ed.ls es))), (37, .o (.v (.int .i64 es.length))), (38, .o (.v (.int .i64 i)))]
  (bsSo tk es x) [] 5 Try.f10.ntmps
noncomputable def SD2 (tk : List Bool) (es : List Ed) (x : Pt) (i : Nat) : SS := mkS
  [(9, .o (.sl true 4 es.length (rowOf Ed.ls es))), (10, .o (.p 0 0)), (12, .o (.p 1 0)), (13, .o (.p 2 0)), (14, .o (.v (.int .i64 (someTo (tkB tk) es x es.length).at'))), (15, .o (.v (.int .i64 (someTo (tkB tk) es x es.length).at'))), (18, .o (.v (.int .i64 (askTo i)))), (66, .o (.v (.int .i64 es.length))), (67, .o (.v (.int .i64 i)))]
  [(0, 27, [.v (.int .i64 x.x), .v (.int .i64 x.y)]), (1, 3, [.v (.int .i64 (askTo es.length))]), (2, 46, [.v (.int .i64 (someTo (tkB tk) es x es.length).best.num), .v (.int .i64 (someTo (tkB tk) es x es.length).best.den)])] [] 3 Try.f10.ntmps
theorem some_nil (tk : Nat → Bool) (es : List Ed) (p : Pt) : ∀ i, (someTo tk es p i).at' < 0 → (someTo tk es p i).best = ⟨0, 0⟩
  | 0, _ => rfl
  | i + 1, h => by
    unfold someTo at h ⊢
    split
    · rename_i ht
      rw [if_pos ht] at h
      unfold nearStep at h ⊢
      split
      · rename_i hc
        rw [if_pos hc] at h
        have : (i : Int) < 0 := h
        omega
      · rename_i hc
        rw [if_neg hc] at h
        exact some_nil tk es p i h
    · rename_i ht
      rw [if_neg ht] at h
      exact some_nil tk es p i h
theorem distSome_at (cs : List (List Vx)) {n : Int} (hn : 0 ≤ n ∧ n ≤ 65535) {p : Pt} (hp : plIn p) (tk : List Bool) : FnAt Try.prog 10 [aSl dsL 1 cs, aU16 n, aPl p, (false, [slB tk])] [aB true] := by
  have hi := glyph_in cs
  have hx := plP_in hi hn hp
  refine fn_at (E := EH) (fn := Try.f10) (c := Try.f10.body.getD .skip) (rs := Try.f10.results.toList) (nt := Try.f10.ntmps) EH_ok follows (by kernel_rfl) (by kernel_rfl) rfl rfl rfl [] rfl ?_
  refine ⟨_, awake08_at, ?_⟩
  refine ⟨(fun h => nomatch h), fun _ => ?_⟩
  refine ⟨_, glyph_at cs, ?_⟩
  refine ⟨_, spot_at hi hn hp, ?_⟩
  generalize glyph cs = es at *
  generalize spotX es n p = x at *
  have l1 := hi.2
  refine ⟨_, _, _, _, [(0, 17), (1, 15), (2, 1)], [], some_at (tk := tk) hi hx, (by refine ⟨?_, ?_, ?_, ?_, ?_, ?_⟩ <;> (repeat' (first | exact trivial | exact SameL.refl _ | assumption | exact rfl | exact Nat.le_of_ble_eq_true rfl | decide | apply And.intro))), ?_⟩
  refine loop_nat es.length (SD1 tk es x) ?_ (fun i hi' => ?_)
  · refine ent_of (rl := [(0, 12), (1, 15), (2, 17), (3, 29), (4, 1)]) (nl := []) ⟨rfl, ?_, ?_, trivial, rfl, rfl, (by first | exact Nat.zero_le _ | exact Nat.le_of_ble_eq_true rfl), trivial, ⟨⟨(by first | exact Nat.zero_le _ | exact Nat.le_of_ble_eq_true rfl), (by first | exact Nat.zero_le _ | exact Nat.le_of_ble_eq_true rfl)⟩, ⟨(by first | exact Nat.zero_le _ | exact Nat.le_of_ble_eq_true rfl), (by first | exact Nat.zero_le _ | exact Nat.le_of_ble_eq_true rfl)⟩, ⟨(by first | exact Nat.zero_le _ | exact Nat.le_of_ble_eq_true rfl), (by first | exact Nat.zero_le _ | exact Nat.le_of_ble_eq_true rfl)⟩, ⟨(by first | exact Nat.zero_le _ | exact Nat.le_of_ble_eq_true rfl), (by first | exact Nat.zero_le _ | exact Nat.le_of_ble_eq_true rfl)⟩, ⟨(by first | exact Nat.zero_le _ | exact Nat.le_of_ble_eq_true rfl), (by first | exact Nat.zero_le _ | exact Nat.le_of_ble_eq_true rfl)⟩, trivial⟩⟩ <;> (repeat' (first | exact trivial | exact SameL.refl _ | exact ep_seal rfl rfl | assumption | exact congrArg (Value.int _) (by assumption) | exact rfl | exact Nat.le_of_ble_eq_true rfl | decide | apply And.intro | apply all1 | apply all2 | apply all3 | apply all4 | apply all5))
  have k1 := someTo_ok (tk := tkB tk) hi.1 hx i hi'
  refine if_dec (fun hlt => ?_) (fun hge => ?_)
  · have hlt : i < es.length := by omega
    have hw := w64_succ hlt (by omega)
    have hst : someTo (tkB tk) es x (i + 1) = if tkB tk i = true then nearStep x (someTo (tkB tk) es x i) (i, es.getD i default) else someTo (tkB tk) es x i := rfl
    have he := hi.1 _ (getD_mem' hlt)
    refine ⟨⟨by omega, by omega⟩, ?_⟩
    refine ⟨_, is_at i, ?_⟩
    refine if_b (fun h0 => ?_) (fun h0 => ?_)
    rotate_left
    · refine ⟨i + 1, ⟨Nat.lt_succ_self _, hlt⟩, ?_⟩
      unfold SD1
      rw [hst, if_neg (by rw [h0]; decide)]
      refine ent_of (rl := []) (nl := []) ⟨rfl, ?_, ?_, trivial, rfl, rfl, (by first | exact Nat.zero_le _ | exact Nat.le_of_ble_eq_true rfl), trivial, trivial⟩ <;> (repeat' (first | exact trivial | exact SameL.refl _ | exact ep_seal rfl rfl | assumption | exact congrArg (Value.int _) (by assumption) | exact rfl | exact Nat.le_of_ble_eq_true rfl | decide | apply And.intro | apply all1 | apply all2 | apply all3 | apply all4 | apply all5))
    rw [if_pos h0] at hst
    refine if_dec_f (fun h1 => ?_) (fun h1 => ?_)
    · have h1 : ¬ (someTo (tkB tk) es x i).at' < 0 := h1
      obtain ⟨a0, a1, a2, a3⟩ := k1.resolve_left (by omega)
      refine ⟨_, square_at he hx, ?_⟩
      refine ⟨⟨a0, by omega⟩, ?_⟩
      refine ⟨_, square_at (hi.1 _ (getD_mem' (l := es) (i := (someTo (tkB tk) es x i).at'.toNat) (by omega))) hx, ?_⟩
      rw [← a2]
      refine ⟨_, rcmp_at (sqN_in he hx) a3, ?_⟩
      refine if_dec (fun h2 => ?_) (fun h2 => ?_)
      · have h2 : cmpF (sqN (es.getD i default) x) (someTo (tkB tk) es x i).best < 0 := h2
        refine ⟨i + 1, ⟨Nat.lt_succ_self _, hlt⟩, ?_⟩
        unfold SD1
        rw [hst]
        unfold nearStep
        rw [if_pos (.inr h2)]
        refine ent_of (rl := []) (nl := []) ⟨rfl, ?_, ?_, trivial, rfl, rfl, (by first | exact Nat.zero_le _ | exact Nat.le_of_ble_eq_true rfl), trivial, trivial⟩ <;> (repeat' (first | exact trivial | exact SameL.refl _ | exact ep_seal rfl rfl | assumption | exact congrArg (Value.int _) (by assumption) | exact rfl | exact Nat.le_of_ble_eq_true rfl | decide | apply And.intro | apply all1 | apply all2 | apply all3 | apply all4 | apply all5))
      · have h2 : ¬ cmpF (sqN (es.getD i default) x) (someTo (tkB tk) es x i).best < 0 := h2
        refine ⟨i + 1, ⟨Nat.lt_succ_self _, hlt⟩, ?_⟩
        unfold SD1
        rw [hst]
        unfold nearStep
        rw [if_neg (by rintro (h | h); exact h1 h; exact h2 h)]
        refine ent_of (rl := []) (nl := []) ⟨rfl, ?_, ?_, trivial, rfl, rfl, (by first | exact Nat.zero_le _ | exact Nat.le_of_ble_eq_true rfl), trivial, trivial⟩ <;> (repeat' (first | exact trivial | exact SameL.refl _ | exact ep_seal rfl rfl | assumption | exact congrArg (Value.int _) (by assumption) | exact rfl | exact Nat.le_of_ble_eq_true rfl | decide | apply And.intro | apply all1 | apply all2 | apply all3 | apply all4 | apply all5))
    · have h1 : (someTo (tkB tk) es x i).at' < 0 := h1
      refine ⟨i + 1, ⟨Nat.lt_succ_self _, hlt⟩, ?_⟩
      unfold SD1
      rw [hst]
      unfold nearStep
      rw [if_pos (.inl h1)]
      refine ent_of (rl := []) (nl := []) ⟨rfl, ?_, ?_, trivial, rfl, rfl, (by first | exact Nat.zero_le _ | exact Nat.le_of_ble_eq_true rfl), trivial, trivial⟩ <;> (repeat' (first | exact trivial | exact SameL.refl _ | exact ep_seal rfl rfl | assumption | exact congrArg (Value.int _) (by assumption) | exact rfl | exact Nat.le_of_ble_eq_true rfl | decide | apply And.intro | apply all1 | apply all2 | apply all3 | apply all4 | apply all5))
  · have hin : i = es.length := by omega
    subst hin
    refine loop_nat es.length (SD2 tk es x) ?_ (fun i hi' => ?_)
    · refine ent_of (rl := [(1, 2), (2, 3)]) (nl := []) ⟨rfl, ?_, ?_, trivial, rfl, rfl, (by first | exact Nat.zero_le _ | exact Nat.le_of_ble_eq_true rfl), trivial, ⟨⟨(by first | exact Nat.zero_le _ | exact Nat.le_of_ble_eq_true rfl), (by first | exact Nat.zero_le _ | exact Nat.le_of_ble_eq_true rfl)⟩, ⟨(by first | exact Nat.zero_le _ | exact Nat.le_of_ble_eq_true rfl), (by first | exact Nat.zero_le _ | exact Nat.le_of_ble_eq_true rfl)⟩, trivial⟩⟩ <;> (repeat' (first | exact trivial | exact SameL.refl _ | exact ep_seal rfl rfl | assumption | exact congrArg (Value.int _) (by assumption) | exact rfl | exact Nat.le_of_ble_eq_true rfl | decide | apply And.intro | apply all1 | apply all2 | apply all3 | apply all4 | apply all5))
    refine if_dec (fun hlt => ?_) (fun hge => ?_)
    · have hlt : i < es.length := by omega
      have hw := w64_succ hlt (by omega)
      refine ⟨i + 1, ⟨Nat.lt_succ_self _, hlt⟩, ?_⟩
      refine ent_of (rl := []) (nl := []) ⟨rfl, ?_, ?_, trivial, rfl, rfl, (by first | exact Nat.zero_le _ | exact Nat.le_of_ble_eq_true rfl), trivial, trivial⟩ <;> (repeat' (first | exact trivial | exact SameL.refl _ | exact ep_seal rfl rfl | assumption | exact congrArg (Value.int _) (by assumption) | exact rfl | exact Nat.le_of_ble_eq_true rfl | decide | apply And.intro | apply all1 | apply all2 | apply all3 | apply all4 | apply all5))
    · have hin : i = es.length := by omega
      subst hin
      have hnil := some_nil (tkB tk) es x es.length
      refine if_eq (fun _ => ?_) (fun h => absurd rfl h)
      refine if_eq (fun _ => ?_) (fun h => absurd rfl h)
      refine if_dec (fun h1 => ?_) (fun h1 => ?_)
      · have h1 : (someTo (tkB tk) es x es.length).at' < 0 := h1
        have hb := hnil h1
        refine if_pt_f (a := frP (someTo (tkB tk) es x es.length).best) (b := ⟨0, 0⟩) (fun h => absurd (by rw [hb]; rfl) h) (fun _ => ?_)
        exact ⟨⟨kB rfl, trivial⟩, trivial⟩
      · have h1 : ¬ (someTo (tkB tk) es x es.length).at' < 0 := h1
        obtain ⟨a0, a1, a2, a3⟩ := k1.resolve_left (by omega)
        refine if_dec (fun _ => ?_) (fun h => absurd (show (someTo (tkB tk) es x es.length).at' ≥ 0 by omega) h)
        refine ⟨⟨a0, a1⟩, ?_⟩
        refine ⟨_, square_at (hi.1 _ (getD_mem' (l := es) (i := (someTo (tkB tk) es x es.length).at'.toNat) (by omega))) hx, ?_⟩
        refine ⟨⟨vB ?_, trivial⟩, trivial⟩
        have e := pt_eq (frP (someTo (tkB tk) es x es.length).best) (frP (sqN (es.getD (someTo (tkB tk) es x es.length).at'.toNat default) x))
        rw [a2, decide_eq_true rfl] at e
        rw [a2]
        exact e.symm
theorem a_bools {k : Nat} {a : Bool × List L} (h : TyArgs tt (k + 2) [51] [a]) : ∃ (l : List L) (tk : List Bool), a = (false, l) ∧ sameLs l [slB tk] := by
  obtain ⟨b, l⟩ := a
  obtain ⟨⟨e, h⟩, _⟩ := h
  have e : b = false := e
  subst e
  obtain ⟨n, f, rfl, hb, hm, hs⟩ : ∃ n f, l = [.sl 1 n f] ∧ n * 1 ≤ 140737488351232 ∧ n ≤ 9223372036854775807 ∧ ∀ i, i < n → TyL tt (k + 1) 4 ((List.range 1).map (f i)) := h
  obtain ⟨tk, rfl, htk, _⟩ := ty_list (g := boL) (Q := fun _ => True) hs fun ls hl => by
    obtain ⟨b, rfl⟩ := ty_bool (k := k) hl
    exact ⟨b, sameLs_refl _, trivial⟩
  exact ⟨_, tk, rfl, sl_same rfl htk, trivial⟩
theorem DistSome_row : ∀ args, TyArgs tt 8 [36, 37, 24, 51] args → FnAt Try.prog 10 args [(false, [.lit (.bool true)])] := by
  intro args h
  obtain ⟨a1, a2, a3, a4, rfl, h1, h2, h3, h4⟩ := tyA4 h
  obtain ⟨l, cs, rfl, hcs⟩ := a_dots (k := 4) h1
  obtain ⟨n, rfl, hn⟩ := a_u16 (k := 7) h2
  obtain ⟨p, rfl, hp⟩ := a_pl (k := 6) h3
  obtain ⟨l', tk, rfl, htk⟩ := a_bools (k := 6) h4
  exact (distSome_at cs hn hp tk).args ⟨rfl, hcs, rfl, sameLs_refl _, rfl, sameLs_refl _, rfl, htk, trivial⟩
end Go.Proofs.Ytgneeaoeafjngaa
