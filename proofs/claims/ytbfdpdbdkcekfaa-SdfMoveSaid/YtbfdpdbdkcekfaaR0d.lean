/- The contracts of law10.SdfBack, SdfMove. -/
import Derived.Test.YtbfdpdbdkcekfaaR0c
import Derived.Test.YtbfdpdbdkcekfaaPt
namespace Go.Proofs.Ytbfdpdbdkcekfaa
open Go SX
set_option linter.unusedVariables false
set_option maxRecDepth 100000
set_option maxHeartbeats 1000000

theorem eight_same {es es' : List Ed} {p p' : Pt} (h : edsIn es) (h' : edsIn es') (hp : ptIn 33000 p) (hp' : ptIn 33000 p') (h1 : ∀ e ∈ es, ∃ e' ∈ es', sqN e' p' = sqN e p) (h2 : ∀ e' ∈ es', ∃ e ∈ es, sqN e p = sqN e' p') : eight es' p' = eight es p := by
  rcases Nat.eq_zero_or_pos es.length with h0 | h0
  · obtain rfl := List.eq_nil_of_length_eq_zero h0
    have : es' = [] := by
      match es', h2 with
      | [], _ => rfl
      | e :: _, h2 => obtain ⟨_, hm, _⟩ := h2 e List.mem_cons_self; exact (List.not_mem_nil hm).elim
    subst this; rfl
  · obtain ⟨e, he, q⟩ := eight_in h hp h0
    obtain ⟨e', he', r⟩ := h1 e he
    have h0' : 0 < es'.length := List.length_pos_of_mem he'
    obtain ⟨f', hf', q'⟩ := eight_in h' hp' h0'
    obtain ⟨f, hf, r'⟩ := h2 f' hf'
    have l1 := eight_le h' hp' he'
    have l2 := eight_le h hp hf
    rw [r, ← q] at l1
    rw [r', ← q'] at l2
    omega
theorem sign_same {es es' : List Ed} {p p' : Pt} (h1 : es'.any (onE p') = es.any (onE p)) (h2 : windN es' p' ≠ 0 ↔ windN es p ≠ 0) : sign es' p' = sign es p := by
  unfold sign
  rw [h1]
  split
  · rfl
  · by_cases h : windN es p ≠ 0
    · rw [if_pos h, if_pos (h2.2 h)]
    · rw [if_neg h, if_neg (fun h' => h (h2.1 h'))]
theorem texel_same {es es' : List Ed} {g g' : Gd} {i k : Int} (hs : g'.spread = g.spread) (hn : es'.length = es.length) (h1 : sign es' (centre g' i k) = sign es (centre g i k)) (h2 : eight es' (centre g' i k) = eight es (centre g i k)) : texel es' g' i k = texel es g i k := by
  rcases Nat.eq_zero_or_pos es.length with h0 | h0
  · obtain rfl := List.eq_nil_of_length_eq_zero h0
    obtain rfl := List.eq_nil_of_length_eq_zero (hn.trans h0)
    unfold texel; rw [hs]
  · rw [texel_pos h0, texel_pos (by omega), hs, h1, h2]
theorem field_same {es es' : List Ed} {g g' : Gd} (hg : gdIn g) (hw : g'.w = g.w) (h : ∀ i k : Int, (0 ≤ i ∧ i < 24) → (0 ≤ k ∧ k < 24) → texel es' g' i k = texel es g i k) : fieldTo es' g' g.h.toNat = fieldTo es g g.h.toNat := by
  have h1 := hg.1
  have h2 := hg.2.1
  unfold fieldTo
  have key : ∀ K : Nat, K ≤ 24 → (List.range K).flatMap (fun b : Nat => rowTo es' g' (b : Int) g'.w.toNat) = (List.range K).flatMap (fun b : Nat => rowTo es g (b : Int) g.w.toNat) := by
    intro K hK
    induction K with
    | zero => rfl
    | succ K ih =>
      rw [List.range_succ, List.flatMap_append, List.flatMap_append, ih (by omega)]
      congr 1
      simp only [List.flatMap_cons, List.flatMap_nil, List.append_nil]
      rw [hw]
      unfold rowTo
      refine List.map_congr_left fun a ha => ?_
      have ha := List.mem_range.1 ha
      exact h _ _ (by omega) (by omega)
  exact key _ (by omega)
theorem back_in {es : List Ed} (h : edsIn es) : edsIn (es.map turnE).reverse := by
  refine ⟨fun e he => ?_, by have := h.2; simpa using this⟩
  obtain ⟨e', he', rfl⟩ := List.mem_map.1 (List.mem_reverse.1 he)
  have := h.1 e' he'
  exact ⟨this.2, this.1⟩
theorem texel_back {es : List Ed} {g : Gd} {i k : Int} (h : edsIn es) (hok : ∀ e ∈ es, e.a ≠ e.b) (hg : gdIn g) (hi : 0 ≤ i ∧ i < 24) (hk : 0 ≤ k ∧ k < 24) : texel (es.map turnE).reverse g i k = texel es g i k := by
  have hc := centre_in hg hi hk
  refine texel_same rfl (by simp) (sign_same (any_back hok) (by rw [wind_back hc h.1]; omega)) (eight_same h (back_in h) hc hc (fun e he => ?_) fun e' he' => ?_)
  · exact ⟨turnE e, List.mem_reverse.2 (List.mem_map.2 ⟨e, he, rfl⟩), sqN_turn (h.1 e he) hc (hok e he)⟩
  · obtain ⟨e, he, rfl⟩ := List.mem_map.1 (List.mem_reverse.1 he')
    exact ⟨e, he, (sqN_turn (h.1 e he) hc (hok e he)).symm⟩
/-! ### moved -/
def shP (d p : Pt) : Pt := ⟨p.x - d.x, p.y - d.y⟩
def shE (d : Pt) (e : Ed) : Ed := ⟨shP d e.a, shP d e.b⟩
theorem way_sh (d a b : Pt) : way (shP d a) (shP d b) = way a b := by unfold way shP; dsimp only; congr 1 <;> omega
theorem subP_sh (d a b : Pt) : subP (shP d a) (shP d b) = subP a b := by unfold subP shP; dsimp only; congr 2 <;> omega
theorem sqN_sh (d : Pt) (e : Ed) (p : Pt) : sqN (shE d e) (shP d p) = sqN e p := by
  unfold sqN shE; dsimp only; rw [way_sh, way_sh, way_sh]
theorem numE_sh (d : Pt) (e : Ed) (p : Pt) : numE (shP d p) (shE d e) = numE p e := by
  unfold numE sideW shE; dsimp only
  rw [subP_sh, subP_sh]
  unfold shP; dsimp only
  generalize sgn _ = c
  repeat' split
  all_goals omega
theorem wind_sh (d p : Pt) : ∀ es : List Ed, windN (es.map (shE d)) (shP d p) = windN es p
  | [] => rfl
  | e :: es => by rw [List.map_cons, windN_cons, windN_cons, wind_sh d p es, numE_sh]
theorem onE_sh (d p : Pt) (e : Ed) : onE (shP d p) (shE d e) = onE p e := by unfold onE; rw [sqN_sh]
theorem any_sh (d p : Pt) (es : List Ed) : (es.map (shE d)).any (onE (shP d p)) = es.any (onE p) := by
  rw [List.any_map]
  congr 1
  funext e
  exact onE_sh d p e
theorem texel_sh {d : Pt} {es : List Ed} {g g' : Gd} {i k : Int} (h : edsIn es) (h' : edsIn (es.map (shE d))) (hs : g'.spread = g.spread) (hp : ptIn 33000 (centre g i k)) (hp' : ptIn 33000 (centre g' i k)) (hc : centre g' i k = shP d (centre g i k)) :
    texel (es.map (shE d)) g' i k = texel es g i k := by
  refine texel_same hs (List.length_map ..) ?_ ?_
  · rw [hc]; exact sign_same (any_sh _ _ _) (by rw [wind_sh])
  · refine eight_same h h' hp hp' (fun e he => ⟨shE d e, List.mem_map.2 ⟨e, he, rfl⟩, by rw [hc, sqN_sh]⟩) fun e' he' => ?_
    obtain ⟨e, he, rfl⟩ := List.mem_map.1 he'
    exact ⟨e, he, by rw [hc, sqN_sh]⟩
noncomputable def SBk (es : List Ed) (s : Sp) (i : Nat) : SS := mkS
  [(3, .o (.p 0 0)), (5, .o (.sl true 4 es.length (rowOf Ed.ls es))), (6, .o (.h 1)), (17, .o (.sl true 4 es.length (rowOf Ed.ls es))), (18, .o (.v (.int .i64 es.length))), (19, .o (.v (.int .i64 i)))]
  [(0, 26, [.v (.int .u8 s.x), .v (.int .u8 s.y), .v (.int .u8 s.pitch), .v (.int .u8 s.w), .v (.int .u8 s.h), .v (.int .u8 s.spread)])] [(1, ⟨31, 4, (backTo es i).length, rowOf Ed.ls (backTo es i), true⟩)] 2 Try.f8.ntmps
theorem sdfBack_at (cs : List (List Vx)) {s : Sp} (hs : spIn s) : FnAt Try.prog 8 [aSl dsL 1 cs, aSp s] [aB true] := by
  have hi := glyph_in cs
  have hok : ∀ e ∈ glyph cs, e.a ≠ e.b := fun e he => ((glyph_ok cs).1 e he).2
  have hg := spec_in hs
  have hsp := spec_at s
  refine fn_at (E := EE) (fn := Try.f8) (c := Try.f8.body.getD .skip) (rs := Try.f8.results.toList) (nt := Try.f8.ntmps) EE_ok follows (by kernel_rfl) (by kernel_rfl) rfl rfl rfl [] rfl ?_
  refine ⟨_, awake10_at, ?_⟩
  refine ⟨(fun h => nomatch h), fun _ => ?_⟩
  refine ⟨_, glyph_at cs, ?_⟩
  generalize glyph cs = es at *
  generalize specG s = g at *
  have l1 := hi.2
  refine loop_nat es.length (SBk es s) ?_ (fun i hi' => ?_)
  · refine ent_of (rl := []) (nl := [1]) ⟨rfl, ?_, ?_, ⟨⟨Nat.le_of_ble_eq_true rfl, rfl⟩, trivial⟩, rfl, rfl, Nat.zero_le _, ⟨Nat.zero_le _, trivial⟩, trivial⟩ <;> (repeat' (first | exact trivial | exact SameL.refl _ | exact ep_seal rfl rfl | assumption | exact congrArg (Value.int _) (by assumption) | exact rfl | exact Nat.le_of_ble_eq_true rfl | decide | apply And.intro))
  refine if_dec (fun hlt => ?_) (fun hge => ?_)
  · have hlt : i < es.length := by omega
    have hw := w64_succ hlt (by omega)
    have hbl := backTo_len (es := es) (i := i) (by omega)
    refine ⟨⟨by omega, by omega⟩, ?_⟩
    refine ⟨appM (n := 1) (m := (backTo es i).length) (by omega) (by decide), ?_⟩
    refine ⟨i + 1, ⟨Nat.lt_succ_self _, hlt⟩, ?_⟩
    rw [show SBk es s (i + 1) = _ from rfl]
    unfold SBk
    rw [backTo_succ hlt]
    refine ent_of (rl := [(1, 14)]) (nl := []) ⟨rfl, ?_, ?_, ⟨⟨Nat.le_of_ble_eq_true rfl, subR_consE (e := turnE (es.getD i default)) (four rfl rfl rfl rfl)⟩, trivial⟩, rfl, rfl, Nat.zero_le _, trivial, ⟨⟨Nat.zero_le _, Nat.zero_le _⟩, trivial⟩⟩ <;> (repeat' (first | exact trivial | exact SameL.refl _ | exact ep_seal rfl rfl | assumption | exact congrArg (Value.int _) (by assumption) | exact rfl | exact Nat.le_of_ble_eq_true rfl | decide | apply And.intro))
  · have hin : i = es.length := by omega
    subst hin
    have hbk : backTo es es.length = (es.map turnE).reverse := by unfold backTo; rw [List.take_length]
    have hbi : edsIn (backTo es es.length) := by rw [hbk]; exact back_in hi
    have hf : fieldTo (backTo es es.length) g g.h.toNat = fieldTo es g g.h.toNat := by
      rw [hbk]; exact field_same hg rfl fun i k h1 h2 => texel_back hi hok hg h1 h2
    refine ⟨_, hsp, ?_⟩
    refine ⟨_, make_at hi hg, ?_⟩
    refine ⟨_, hsp, ?_⟩
    refine ⟨_, make_at hbi hg, ?_⟩
    refine ⟨fun _ => ?_, (fun h => nomatch h)⟩
    refine ⟨fun _ => ?_, (fun h => nomatch h)⟩
    refine ⟨_, same_at g.w g.h g.w g.h _ _ (fieldTo_in es g _) (fieldTo_in _ g _), ?_⟩
    exact ⟨⟨vB (decide_eq_true ⟨rfl, rfl, hf.symm⟩).symm, trivial⟩, trivial⟩
@[reducible] def aI8' (n : Int) : Bool × List L := (false, [.lit (.int .i8 n)])
def mvX (d : Int) : Int := (w64 d).tmod 64
def mvI (n x : Int) : Int := w64 (w64 (w64 (n.tdiv 32) * 16) + w64 (32 * x))
def mvP (x y : Int) (p : Pt) : Pt := ⟨mvI p.x x, mvI p.y y⟩
theorem mvP_at (x y : Int) (p : Pt) : FnAt Try.prog 28 [aPt p, (false, [.pt 1 (nth [I x])]), (false, [.pt 1 (nth [I y])])] [aPt (mvP x y p)] := by
  refine fn_at (E := EE) (fn := Try.f28) (c := Try.f28.body.getD .skip) (rs := Try.f28.results.toList) (nt := Try.f28.ntmps) EE_ok follows (by kernel_rfl) (by kernel_rfl) rfl rfl rfl [] rfl ?_
  exact ⟨⟨rfl, rfl, trivial⟩, trivial⟩
def farE (x y : Int) (e : Ed) : Ed := ⟨mvP x y e.a, mvP x y e.b⟩
def nrI (n x : Int) : Int := w64 (n - w64 (32 * x))
def nrP (x y : Int) (p : Pt) : Pt := ⟨nrI p.x x, nrI p.y y⟩
def nearE (x y : Int) (e : Ed) : Ed := ⟨nrP x y e.a, nrP x y e.b⟩
@[reducible] def eds1 (f : Ed → Ed) (es : List Ed) (i : Nat) : List Ed := (es.take i).map f
noncomputable def SM1 (es : List Ed) (g : Gd) (x y : Int) (i : Nat) : SS := mkS
  [(10, .o (.p 0 0)), (11, .o (.p 1 0)), (12, .o (.p 2 0)), (13, .o (.h 3)), (37, .o (.sl true 4 es.length (rowOf Ed.ls es))), (38, .o (.v (.int .i64 es.length))), (39, .o (.v (.int .i64 i)))]
  [(0, 35, [.v (.int .i64 g.x), .v (.int .i64 g.y), .v (.int .i64 g.pitch), .v (.int .i64 g.w), .v (.int .i64 g.h), .v (.int .i64 g.spread)]), (1, 3, [.v (.int .i64 x)]), (2, 3, [.v (.int .i64 y)])] [(3, rE (eds1 (farE x y) es i))] 4 Try.f7.ntmps
noncomputable def SM2 (fs : List Ed) (g : Gd) (x y : Int) (i : Nat) : SS := mkS
  [(10, .o (.p 0 0)), (11, .o (.p 1 0)), (12, .o (.p 2 0)), (13, .o (.h 3)), (17, .o (.h 4)), (57, .o (.h 3)), (58, .o (.v (.int .i64 fs.length))), (59, .o (.v (.int .i64 i)))]
  [(0, 35, [.v (.int .i64 g.x), .v (.int .i64 g.y), .v (.int .i64 g.pitch), .v (.int .i64 g.w), .v (.int .i64 g.h), .v (.int .i64 g.spread)]), (1, 3, [.v (.int .i64 x)]), (2, 3, [.v (.int .i64 y)])] [(3, rE fs), (4, rE (eds1 (nearE x y) fs i))] 5 Try.f7.ntmps
def gN (g : Gd) : Gd := ⟨w64 (g.x.tdiv 2), w64 (g.y.tdiv 2), g.pitch, g.w, g.h, g.spread⟩
def gH (g : Gd) (x y : Int) : Gd := ⟨w64 (w64 (g.x.tdiv 2) + x), w64 (w64 (g.y.tdiv 2) + y), g.pitch, g.w, g.h, g.spread⟩
theorem half_in {n : Int} (h : -128 ≤ n ∧ n ≤ 127) : -64 ≤ n.tdiv 2 ∧ n.tdiv 2 ≤ 64 := by
  rcases Int.le_total 0 n with h0 | h0
  · rw [Int.tdiv_eq_ediv_of_nonneg h0]; omega
  · have e : n.tdiv 2 = -((-n).tdiv 2) := by rw [Int.neg_tdiv, Int.neg_neg]
    rw [e, Int.tdiv_eq_ediv_of_nonneg (by omega)]; omega
theorem d32_in {n : Int} (h : -8192 ≤ n ∧ n ≤ 8192) : -256 ≤ n.tdiv 32 ∧ n.tdiv 32 ≤ 256 := by
  rcases Int.le_total 0 n with h0 | h0
  · rw [Int.tdiv_eq_ediv_of_nonneg h0]; omega
  · have e : n.tdiv 32 = -((-n).tdiv 32) := by rw [Int.neg_tdiv, Int.neg_neg]
    rw [e, Int.tdiv_eq_ediv_of_nonneg (by omega)]; omega
theorem mvI_in {n x : Int} (h : -8192 ≤ n ∧ n ≤ 8192) (hx : -64 < x ∧ x < 64) : (-6200 ≤ mvI n x ∧ mvI n x ≤ 6200) ∧ (-4096 ≤ mvI n x - 32 * x ∧ mvI n x - 32 * x ≤ 4096) := by
  have := d32_in h
  unfold mvI
  rw [w64_in (n := n.tdiv 32) (by omega), w64_in (n := n.tdiv 32 * 16) (by omega), w64_in (n := 32 * x) (by omega), w64_in (by omega)]
  omega
theorem nrI_eq {n x : Int} (h : -6200 ≤ n ∧ n ≤ 6200) (hx : -64 < x ∧ x < 64) : nrI n x = n - 32 * x := by
  unfold nrI
  rw [w64_in (n := 32 * x) (by omega), w64_in (by omega)]
theorem sdfMove_at (cs : List (List Vx)) {s : Sp} (hs : spIn s) {dx dy : Int} (hdx : -128 ≤ dx ∧ dx ≤ 127) (hdy : -128 ≤ dy ∧ dy ≤ 127) : FnAt Try.prog 7 [aSl dsL 1 cs, aSp s, aI8' dx, aI8' dy] [aB true] := by
  have hi := glyph_in cs
  have hg := spec_in hs
  refine fn_at (E := EE) (fn := Try.f7) (c := Try.f7.body.getD .skip) (rs := Try.f7.results.toList) (nt := Try.f7.ntmps) EE_ok follows (by kernel_rfl) (by kernel_rfl) rfl rfl rfl [] rfl ?_
  refine ⟨_, awake10_at, ?_⟩
  refine ⟨(fun h => nomatch h), fun _ => ?_⟩
  refine ⟨_, glyph_at cs, ?_⟩
  refine ⟨_, spec_at s, ?_⟩
  generalize glyph cs = es at *
  have hsq := specG_eq hs
  generalize specG s = g at *
  have l1 := hi.2
  have hx : -64 < mvX dx ∧ mvX dx < 64 := tmod_in _ (by decide)
  have hy : -64 < mvX dy ∧ mvX dy < 64 := tmod_in _ (by decide)
  have hgx : -128 ≤ g.x ∧ g.x ≤ 127 := by rw [hsq]; unfold spIn at hs; dsimp only; omega
  have hgy : -128 ≤ g.y ∧ g.y ≤ 127 := by rw [hsq]; unfold spIn at hs; dsimp only; omega
  have qx := half_in hgx
  have qy := half_in hgy
  have hNe : gN g = ⟨g.x.tdiv 2, g.y.tdiv 2, g.pitch, g.w, g.h, g.spread⟩ := by unfold gN; rw [w64_in (by omega), w64_in (by omega)]
  have hHe : gH g (mvX dx) (mvX dy) = ⟨g.x.tdiv 2 + mvX dx, g.y.tdiv 2 + mvX dy, g.pitch, g.w, g.h, g.spread⟩ := by
    unfold gH
    rw [w64_in (n := g.x.tdiv 2) (by omega), w64_in (n := g.y.tdiv 2) (by omega), w64_in (by omega), w64_in (by omega)]
  have hgN : gdIn (gN g) := by rw [hNe]; unfold gdIn at *; dsimp only; omega
  have hgH : gdIn (gH g (mvX dx) (mvX dy)) := by rw [hHe]; unfold gdIn at *; dsimp only; omega
  refine loop_nat es.length (SM1 es g (mvX dx) (mvX dy)) ?_ (fun i hi' => ?_)
  · refine ent_of (rl := [(0, 9), (1, 17), (2, 18)]) (nl := [3]) ⟨rfl, ?_, ?_, ⟨⟨Nat.le_of_ble_eq_true rfl, rfl⟩, trivial⟩, rfl, rfl, Nat.zero_le _, ⟨Nat.zero_le _, trivial⟩, ⟨⟨Nat.zero_le _, Nat.zero_le _⟩, ⟨Nat.zero_le _, Nat.zero_le _⟩, ⟨Nat.zero_le _, Nat.zero_le _⟩, trivial⟩⟩ <;> (repeat' (first | exact trivial | exact SameL.refl _ | exact ep_seal rfl rfl | assumption | exact congrArg (Value.int _) (by assumption) | exact rfl | exact Nat.le_of_ble_eq_true rfl | decide | apply And.intro))
  refine if_dec (fun hlt => ?_) (fun hge => ?_)
  · have hlt : i < es.length := by omega
    have hw := w64_succ hlt (by omega)
    have hbl : (eds1 (farE (mvX dx) (mvX dy)) es i).length = i := by simp; omega
    refine ⟨⟨by omega, by omega⟩, ?_⟩
    refine ⟨_, mvP_at (mvX dx) (mvX dy) _, ?_⟩
    refine ⟨_, mvP_at (mvX dx) (mvX dy) _, ?_⟩
    refine ⟨appB (n := (eds1 (farE (mvX dx) (mvX dy)) es i).length) (by omega) (by decide), ?_⟩
    refine ⟨i + 1, ⟨Nat.lt_succ_self _, hlt⟩, ?_⟩
    refine ent_of (rl := [(3, 22)]) (nl := []) ⟨rfl, ?_, ?_, ⟨⟨Nat.le_of_ble_eq_true rfl, subR_snoc (x := farE (mvX dx) (mvX dy) (es.getD i default)) rfl rfl (fun j hj => elem1 rfl) (map_take_succ (farE (mvX dx) (mvX dy)) es hlt) rfl⟩, trivial⟩, rfl, rfl, Nat.zero_le _, trivial, ⟨⟨Nat.zero_le _, Nat.zero_le _⟩, trivial⟩⟩ <;> (repeat' (first | exact trivial | exact SameL.refl _ | exact ep_seal rfl rfl | assumption | exact congrArg (Value.int _) (by assumption) | exact rfl | exact Nat.le_of_ble_eq_true rfl | decide | apply And.intro))
  · have hin : i = es.length := by omega
    subst hin
    have hfl : eds1 (farE (mvX dx) (mvX dy)) es es.length = es.map (farE (mvX dx) (mvX dy)) := by unfold eds1; rw [List.take_length]
    have hfn : (es.map (farE (mvX dx) (mvX dy))).length = es.length := List.length_map ..
    have hn1 : (eds1 (farE (mvX dx) (mvX dy)) es es.length).length = (es.map (farE (mvX dx) (mvX dy))).length := by rw [hfl]
    refine loop_nat (es.map (farE (mvX dx) (mvX dy))).length (SM2 (es.map (farE (mvX dx) (mvX dy))) g (mvX dx) (mvX dy)) ?_ (fun i hi' => ?_)
    · refine ent_of (rl := []) (nl := [4]) ⟨rfl, ?_, ?_, ⟨⟨Nat.le_of_ble_eq_true rfl, subR_eq hfl.symm rfl⟩, ⟨Nat.le_of_ble_eq_true rfl, rfl⟩, trivial⟩, rfl, rfl, Nat.zero_le _, ⟨Nat.zero_le _, trivial⟩, trivial⟩ <;> (repeat' (first | exact trivial | exact SameL.refl _ | exact ep_seal rfl rfl | assumption | exact congrArg (Value.int _) (by assumption) | exact rfl | exact Nat.le_of_ble_eq_true rfl | decide | apply And.intro))
      all_goals first | exact congrArg (fun n : Nat => Value.int .i64 (n : Int)) hn1 | skip
    generalize hfs : es.map (farE (mvX dx) (mvX dy)) = fs at *
    refine if_dec (fun hlt => ?_) (fun hge => ?_)
    · have hlt : i < fs.length := by omega
      have hw := w64_succ hlt (by omega)
      have hbl : (eds1 (nearE (mvX dx) (mvX dy)) fs i).length = i := by simp; omega
      refine ⟨⟨by omega, by omega⟩, ?_⟩
      refine ⟨hlt, ?_⟩
      refine ⟨appB (n := (eds1 (nearE (mvX dx) (mvX dy)) fs i).length) (by omega) (by decide), ?_⟩
      refine ⟨i + 1, ⟨Nat.lt_succ_self _, hlt⟩, ?_⟩
      refine ent_of (rl := [(4, 39)]) (nl := []) ⟨rfl, ?_, ?_, ⟨⟨Nat.le_of_ble_eq_true rfl, subR.refl _⟩, ⟨Nat.le_of_ble_eq_true rfl, subR_snoc (x := nearE (mvX dx) (mvX dy) (fs.getD i default)) rfl rfl (fun j hj => elem1 rfl) (map_take_succ (nearE (mvX dx) (mvX dy)) fs hlt) rfl⟩, trivial⟩, rfl, rfl, Nat.zero_le _, trivial, ⟨⟨Nat.zero_le _, Nat.zero_le _⟩, trivial⟩⟩ <;> (repeat' (first | exact trivial | exact SameL.refl _ | exact ep_seal rfl rfl | assumption | exact congrArg (Value.int _) (by assumption) | exact rfl | exact Nat.le_of_ble_eq_true rfl | decide | apply And.intro))
    · have hin : i = fs.length := by omega
      subst hin
      have hnl : eds1 (nearE (mvX dx) (mvX dy)) fs fs.length = fs.map (nearE (mvX dx) (mvX dy)) := by unfold eds1; rw [List.take_length]
      have hfi : ∀ e ∈ fs, edIn 6200 e ∧ edIn 8192 (shE ⟨32 * mvX dx, 32 * mvX dy⟩ e) := fun e he => by
        rw [← hfs] at he
        obtain ⟨e', he', rfl⟩ := List.mem_map.1 he
        have := hi.1 e' he'
        unfold edIn ptIn at this ⊢
        have a1 := mvI_in (n := e'.a.x) (by omega) hx
        have a2 := mvI_in (n := e'.a.y) (by omega) hy
        have a3 := mvI_in (n := e'.b.x) (by omega) hx
        have a4 := mvI_in (n := e'.b.y) (by omega) hy
        unfold farE mvP shE shP; dsimp only; omega
      have hfar : edsIn fs := ⟨fun e he => (hfi e he).1.up (by decide), by omega⟩
      have hne : fs.map (nearE (mvX dx) (mvX dy)) = fs.map (shE ⟨32 * mvX dx, 32 * mvX dy⟩) := by
        refine List.map_congr_left fun e he => ?_
        have := (hfi e he).1
        unfold edIn ptIn at this
        unfold nearE nrP shE shP
        rw [nrI_eq (n := e.a.x) (by omega) hx, nrI_eq (n := e.a.y) (by omega) hy, nrI_eq (n := e.b.x) (by omega) hx, nrI_eq (n := e.b.y) (by omega) hy]
      have hnear : edsIn (fs.map (shE ⟨32 * mvX dx, 32 * mvX dy⟩)) := by
        refine ⟨fun e he => ?_, by simpa using hfar.2⟩
        obtain ⟨e', he', rfl⟩ := List.mem_map.1 he
        exact (hfi e' he').2
      have hnear' : edsIn (eds1 (nearE (mvX dx) (mvX dy)) fs fs.length) := by rw [hnl, hne]; exact hnear
      refine ⟨_, make_at (g := gN g) hnear' hgN, ?_⟩
      refine ⟨_, make_at (g := gH g (mvX dx) (mvX dy)) hfar hgH, ?_⟩
      refine ⟨fun _ => ?_, (fun h => nomatch h)⟩
      refine ⟨fun _ => ?_, (fun h => nomatch h)⟩
      refine ⟨_, same_at g.w g.h g.w g.h _ _ (fieldTo_in _ (gN g) _) (fieldTo_in _ (gH g (mvX dx) (mvX dy)) _), ?_⟩
      refine ⟨⟨vB (decide_eq_true ⟨rfl, rfl, ?_⟩).symm, trivial⟩, trivial⟩
      rw [hnl, hne]
      refine field_same (g := gH g (mvX dx) (mvX dy)) hgH rfl fun i k h1 h2 => ?_
      have c1 := centre_in hgH h1 h2
      have c2 := centre_in hgN h1 h2
      refine texel_sh hfar hnear rfl c1 c2 ?_
      rw [centre_eq hgN (by omega) (by omega), centre_eq hgH (by omega) (by omega), hNe, hHe]
      unfold shP; dsimp only; congr 1 <;> omega
theorem SdfBack_row : ∀ args, TyArgs tt 8 [45, 26] args → FnAt Try.prog 8 args [(false, [.lit (.bool true)])] := by
  intro args h
  obtain ⟨a1, a2, rfl, h1, h2⟩ := tyA2 h
  obtain ⟨l, cs, rfl, hcs⟩ := a_dots (k := 4) h1
  obtain ⟨s, rfl, hs⟩ := a_sp (k := 6) h2
  exact (sdfBack_at cs hs).args ⟨rfl, hcs, rfl, sameLs_refl _, trivial⟩
theorem SdfMove_row : ∀ args, TyArgs tt 8 [45, 26, 54, 54] args → FnAt Try.prog 7 args [(false, [.lit (.bool true)])] := by
  intro args h
  obtain ⟨a1, a2, a3, a4, rfl, h1, h2, h3, h4⟩ := tyA4 h
  obtain ⟨l, cs, rfl, hcs⟩ := a_dots (k := 4) h1
  obtain ⟨s, rfl, hs⟩ := a_sp (k := 6) h2
  obtain ⟨i, rfl, hi⟩ := a_i8 (k := 7) h3
  obtain ⟨k, rfl, hk⟩ := a_i8 (k := 7) h4
  exact (sdfMove_at cs hs hi hk).args ⟨rfl, hcs, rfl, sameLs_refl _, rfl, sameLs_refl _, rfl, sameLs_refl _, trivial⟩
end Go.Proofs.Ytbfdpdbdkcekfaa
