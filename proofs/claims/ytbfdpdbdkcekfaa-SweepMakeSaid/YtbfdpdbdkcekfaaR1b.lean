/- The contract of sweep.Known. -/
import Derived.Test.YtbfdpdbdkcekfaaR1a
import Derived.Test.YtbfdpdbdkcekfaaPd
namespace Go.Proofs.Ytbfdpdbdkcekfaa
open Go SX
set_option linter.unusedVariables false
set_option maxRecDepth 100000
set_option maxHeartbeats 1000000

/-- the texel nearest to a place -/
def nearI (n x pitch w : Int) : Int := max2I 0 (min2I (w64 (w - 1)) ((n - 32 * x) / (32 * pitch)))
theorem nearI_in {n x pitch w : Int} (hw : 1 ≤ w ∧ w ≤ 24) : 0 ≤ nearI n x pitch w ∧ nearI n x pitch w < w := by
  unfold nearI max2I min2I
  rw [w64_in (by omega)]
  repeat' split
  all_goals omega
theorem stexel_at {g : Gd} (hg : gdIn g) {p : Pt} (hp : ptIn 8192 p) : FnAt Try.prog 51 [aGd g, aPt p] [aI (nearI p.x g.x g.pitch g.w), aI (nearI p.y g.y g.pitch g.h)] := by
  obtain ⟨hw, hh, hx, hy, hpi, _⟩ := hg
  unfold ptIn at hp
  have e1 : w64 (p.x - w64 (g.x * 32)) = p.x - 32 * g.x := by rw [w64_in (n := g.x * 32) (by omega), w64_in (by omega)]; omega
  have e2 : w64 (p.y - w64 (g.y * 32)) = p.y - 32 * g.y := by rw [w64_in (n := g.y * 32) (by omega), w64_in (by omega)]; omega
  have e3 : w64 (g.pitch * 32) = 32 * g.pitch := by rw [w64_in (by omega)]; omega
  have f1 := floor_at (n := p.x - 32 * g.x) (m := 32 * g.pitch) (by omega) (by omega)
  have f2 := floor_at (n := p.y - 32 * g.y) (m := 32 * g.pitch) (by omega) (by omega)
  rw [← e1, ← e3] at f1
  rw [← e2, ← e3] at f2
  refine fn_at (E := EE) (fn := Try.f51) (c := Try.f51.body.getD .skip) (rs := Try.f51.results.toList) (nt := Try.f51.ntmps) EE_ok follows (by kernel_rfl) (by kernel_rfl) rfl rfl rfl [] rfl ?_
  refine ⟨_, f1, ?_⟩
  refine ⟨_, f2, ?_⟩
  rw [e1, e2, e3]
  exact ⟨⟨rfl, trivial⟩, ⟨rfl, trivial⟩, trivial⟩
def noneTo (n k : Nat) : List Int := List.replicate k (-1) ++ List.replicate (n - k) 0
theorem noneTo_len {n k : Nat} (h : k ≤ n) : (noneTo n k).length = n := by unfold noneTo; simp; omega
theorem noneTo_succ {n k : Nat} (h : k < n) : noneTo n (k + 1) = (noneTo n k).set k (-1) := by
  unfold noneTo
  rw [List.set_append_right _ _ (by simp), List.length_replicate, Nat.sub_self, List.replicate_succ', List.append_assoc, show n - k = (n - (k + 1)) + 1 by omega]
  rfl
theorem noneTo_all (n : Nat) : noneTo n n = List.replicate n (-1) := by unfold noneTo; simp
theorem made' {n m T : Nat} (h : n = m) : subR ⟨T, 1, n, fun _ j => .lit ([Value.int .i64 0].getD j undef), true⟩ ⟨T, 1, (noneTo m 0).length, rowOf ints (noneTo m 0), true⟩ := by
  subst h; exact made_ints
/-- the places of an edge at which texels are told of it -/
def midP (e : Ed) : Pt := ⟨w64 ((w64 (e.a.x + e.b.x)).tdiv 2), w64 ((w64 (e.a.y + e.b.y)).tdiv 2)⟩
def offP (es : List Ed) (g : Gd) (l : List Int) (p : Pt) (n : Int) : List Int := offG es g l (nearI p.x g.x g.pitch g.w) (nearI p.y g.y g.pitch g.h) n
def seed3 (es : List Ed) (g : Gd) (l : List Int) (n : Nat) : List Int := offP es g (offP es g (offP es g l (es.getD n default).a n) (midP (es.getD n default)) n) (es.getD n default).b n
def seedTo (es : List Ed) (g : Gd) (i : Nat) : List Int := match i with
  | 0 => List.replicate (szG g) (-1)
  | i + 1 => seed3 es g (seedTo es g i) i
theorem none_ok (es : List Ed) (g : Gd) : atOK es g (List.replicate (szG g) (-1)) := ⟨by simp, fun x hx => by have := List.eq_of_mem_replicate hx; omega⟩
theorem offP_ok {es : List Ed} {g : Gd} {l : List Int} {p : Pt} {n : Int} (h : atOK es g l) (hn : n < es.length) : atOK es g (offP es g l p n) := offG_ok h hn
theorem seedTo_ok {es : List Ed} {g : Gd} : ∀ {i : Nat}, i ≤ es.length → atOK es g (seedTo es g i)
  | 0, _ => none_ok es g
  | i + 1, h => offP_ok (offP_ok (offP_ok (seedTo_ok (i := i) (by omega)) (by omega)) (by omega)) (by omega)
theorem mid_in {e : Ed} (h : edIn 8192 e) : ptIn 8192 (midP e) := by
  unfold edIn ptIn at h
  unfold midP ptIn
  dsimp only
  have a1 : w64 (e.a.x + e.b.x) = e.a.x + e.b.x := w64_in (by omega)
  have a2 : w64 (e.a.y + e.b.y) = e.a.y + e.b.y := w64_in (by omega)
  rw [a1, a2]
  have b1 : -8192 ≤ (e.a.x + e.b.x).tdiv 2 ∧ (e.a.x + e.b.x).tdiv 2 ≤ 8192 := by
    have : ((e.a.x + e.b.x).tdiv 2).natAbs ≤ 8192 := by rw [Int.natAbs_tdiv]; show (e.a.x + e.b.x).natAbs / 2 ≤ 8192; omega
    omega
  have b2 : -8192 ≤ (e.a.y + e.b.y).tdiv 2 ∧ (e.a.y + e.b.y).tdiv 2 ≤ 8192 := by
    have : ((e.a.y + e.b.y).tdiv 2).natAbs ≤ 8192 := by rw [Int.natAbs_tdiv]; show (e.a.y + e.b.y).natAbs / 2 ≤ 8192; omega
    omega
  rw [w64_in (by omega), w64_in (by omega)]
  omega
@[reducible] def bsT (es : List Ed) (g : Gd) : List (Nat × Nat × List C) := [(0, 35, gdC' g), (1, 90, .sl false 4 es.length (rowOf Ed.ls es) :: (gdC' g ++ [.h 2]))]
noncomputable def SKa (es : List Ed) (g : Gd) (i : Nat) : SS := mkS
  [(0, .o (.sl false 4 es.length (rowOf Ed.ls es))), (3, .o (.p 0 0)), (5, .o (.p 1 0)), (35, .o (.v (.int .i64 (szG g : Nat)))), (36, .o (.v (.int .i64 i)))] (bsT es g) [(2, rI' (noneTo (szG g) i))] 3 Try.f33.ntmps
noncomputable def SKb (es : List Ed) (g : Gd) (i : Nat) : SS := mkS
  [(3, .o (.p 0 0)), (5, .o (.p 1 0)), (46, .o (.sl false 4 es.length (rowOf Ed.ls es))), (47, .o (.v (.int .i64 es.length))), (48, .o (.v (.int .i64 i)))] (bsT es g) [(2, rI' (seedTo es g i))] 3 Try.f33.ntmps
/-- told of what a neighbour knows -/
def stepG (es : List Ed) (g : Gd) (l : List Int) (i k a b : Int) : List Int := offG es g l i k (knG g l (i + a) (k + b))
theorem knG_lt {es : List Ed} {g : Gd} {l : List Int} (hg : gdIn g) (h : atOK es g l) (i k : Int) : knG g l i k < es.length := by
  unfold knG
  split
  · rename_i hi
    exact (h.2 _ (getD_mem' (by rw [h.1]; exact ixG_lt hg hi))).2
  · omega
theorem stepG_ok {es : List Ed} {g : Gd} {l : List Int} (hg : gdIn g) (h : atOK es g l) {i k a b : Int} : atOK es g (stepG es g l i k a b) := offG_ok h (knG_lt hg h _ _)
def step4 (es : List Ed) (g : Gd) (l : List Int) (d i k : Int) : List Int := stepG es g (stepG es g (stepG es g (stepG es g l i k (-d) 0) i k 0 (-d)) i k (-d) (-d)) i k d (-d)
theorem step4_ok {es : List Ed} {g : Gd} {l : List Int} (hg : gdIn g) (h : atOK es g l) {d i k : Int} : atOK es g (step4 es g l d i k) := stepG_ok hg (stepG_ok hg (stepG_ok hg (stepG_ok hg h)))
/-- the first pass: rows, columns -/
def col1 (es : List Ed) (g : Gd) (l : List Int) (k : Nat) (i : Nat) : List Int := match i with
  | 0 => l
  | i + 1 => step4 es g (col1 es g l k i) 1 i k
def row1 (es : List Ed) (g : Gd) (l : List Int) (k : Nat) : List Int := match k with
  | 0 => l
  | k + 1 => col1 es g (row1 es g l k) k g.w.toNat
theorem col1_ok {es : List Ed} {g : Gd} {l : List Int} (hg : gdIn g) (h : atOK es g l) {k : Nat} : ∀ i, atOK es g (col1 es g l k i)
  | 0 => h
  | i + 1 => step4_ok hg (col1_ok hg h i)
theorem row1_ok {es : List Ed} {g : Gd} {l : List Int} (hg : gdIn g) (h : atOK es g l) : ∀ k, atOK es g (row1 es g l k)
  | 0 => h
  | k + 1 => col1_ok hg (row1_ok hg h k) _
/-- the second pass, backwards -/
def col2 (es : List Ed) (g : Gd) (l : List Int) (k : Int) (j : Nat) : List Int := match j with
  | 0 => l
  | j + 1 => step4 es g (col2 es g l k j) (-1) (g.w - 1 - j) k
def row2 (es : List Ed) (g : Gd) (l : List Int) (j : Nat) : List Int := match j with
  | 0 => l
  | j + 1 => col2 es g (row2 es g l j) (g.h - 1 - j) g.w.toNat
theorem col2_ok {es : List Ed} {g : Gd} {l : List Int} (hg : gdIn g) (h : atOK es g l) {k : Int} : ∀ i, atOK es g (col2 es g l k i)
  | 0 => h
  | i + 1 => step4_ok hg (col2_ok hg h i)
theorem row2_ok {es : List Ed} {g : Gd} {l : List Int} (hg : gdIn g) (h : atOK es g l) : ∀ k, atOK es g (row2 es g l k)
  | 0 => h
  | k + 1 => col2_ok hg (row2_ok hg h k) _
def knownL (es : List Ed) (g : Gd) : List Int := row2 es g (row1 es g (seedTo es g es.length) g.h.toNat) g.h.toNat
noncomputable def SKc (es : List Ed) (g : Gd) (l : List Int) (k : Nat) : SS := mkS
  [(3, .o (.p 0 0)), (5, .o (.p 1 0)), (13, .o (.v (.int .i64 k)))] (bsT es g) [(2, rI' (row1 es g l k))] 3 Try.f33.ntmps
noncomputable def SKd (es : List Ed) (g : Gd) (l : List Int) (k i : Nat) : SS := mkS
  [(3, .o (.p 0 0)), (5, .o (.p 1 0)), (13, .o (.v (.int .i64 k))), (14, .o (.v (.int .i64 i)))] (bsT es g) [(2, rI' (col1 es g l k i))] 3 Try.f33.ntmps
noncomputable def SKe (es : List Ed) (g : Gd) (l : List Int) (j : Nat) : SS := mkS
  [(3, .o (.p 0 0)), (5, .o (.p 1 0)), (17, .o (.v (.int .i64 (g.h - 1 - j))))] (bsT es g) [(2, rI' (row2 es g l j))] 3 Try.f33.ntmps
noncomputable def SKf (es : List Ed) (g : Gd) (l : List Int) (k : Int) (j : Nat) : SS := mkS
  [(3, .o (.p 0 0)), (5, .o (.p 1 0)), (17, .o (.v (.int .i64 k))), (18, .o (.v (.int .i64 (g.w - 1 - j))))] (bsT es g) [(2, rI' (col2 es g l k j))] 3 Try.f33.ntmps
theorem known_at {es : List Ed} {g : Gd} (hes : edsIn es) (hg : gdIn g) : FnAt Try.prog 33 [aEds es, aGd g] [aInts (knownL es g)] := by
  have hw := hg.1
  have hh := hg.2.1
  have hwh : w64 (g.w * g.h) = ((szG g : Nat) : Int) := by
    have hm := mul_bd (x := g.w) (y := g.h) (B := 24) (C := 24) (by omega) (by omega)
    unfold szG
    rw [w64_in (by omega), Int.natCast_mul, Int.toNat_of_nonneg (by omega), Int.toNat_of_nonneg (by omega), Int.mul_comm]
  have hs := szG_le hg
  refine fn_at (E := EH) (fn := Try.f33) (c := Try.f33.body.getD .skip) (rs := Try.f33.results.toList) (nt := Try.f33.ntmps) EH_ok follows (by kernel_rfl) (by kernel_rfl) rfl rfl rfl [] rfl ?_
  refine ⟨⟨rfl, by show 0 ≤ w64 _; rw [hwh]; omega, by show 8 * w64 _ ≤ _; rw [hwh]; omega, by show w64 _ ≤ _; rw [hwh]; omega⟩, ?_⟩
  refine loop_nat (szG g) (SKa es g) ?_ (fun i hi => ?_)
  · have hn : (w64 (g.w * g.h)).toNat = szG g := by rw [hwh]; rfl
    refine ent_of (rl := [(1, 11), (2, 9)]) (nl := []) ⟨rfl, ?_, ?_, ⟨⟨Nat.le_of_ble_eq_true rfl, made' hn⟩, trivial⟩, rfl, rfl, (by first | exact Nat.zero_le _ | exact Nat.le_of_ble_eq_true rfl), trivial, ⟨⟨(by first | exact Nat.zero_le _ | exact Nat.le_of_ble_eq_true rfl), (by first | exact Nat.zero_le _ | exact Nat.le_of_ble_eq_true rfl)⟩, ⟨(by first | exact Nat.zero_le _ | exact Nat.le_of_ble_eq_true rfl), (by first | exact Nat.zero_le _ | exact Nat.le_of_ble_eq_true rfl)⟩, trivial⟩⟩ <;> (repeat' (first | exact trivial | exact SameL.refl _ | exact ep_seal rfl rfl | assumption | exact congrArg (Value.int _) (by assumption) | exact rfl | exact Nat.le_of_ble_eq_true rfl | decide | apply And.intro | apply all1 | apply all2 | apply all3 | apply all4 | apply all5))
    exact congrArg (fun n : Nat => Value.int .i64 (n : Int)) hn
  refine if_dec (fun hlt => ?_) (fun hge => ?_)
  · have hlt : i < szG g := by omega
    have hw' := w64_succ hlt (by omega)
    have hl := noneTo_len (n := szG g) (k := i) (by omega)
    refine ⟨⟨by omega, by show (i : Int) < ((noneTo (szG g) i).length : Int); omega⟩, ?_⟩
    refine ⟨by show i < (noneTo (szG g) i).length; omega, ?_⟩
    refine ⟨i + 1, ⟨Nat.lt_succ_self _, hlt⟩, ?_⟩
    refine ent_of (rl := []) (nl := []) ⟨rfl, ?_, ?_, ⟨⟨Nat.le_of_ble_eq_true rfl, subR_set (x := -1) rfl (by show i < (noneTo (szG g) i).length; omega) rfl rfl rfl (noneTo_succ hlt) rfl⟩, trivial⟩, rfl, rfl, (by first | exact Nat.zero_le _ | exact Nat.le_of_ble_eq_true rfl), trivial, trivial⟩ <;> (repeat' (first | exact trivial | exact SameL.refl _ | exact ep_seal rfl rfl | assumption | exact congrArg (Value.int _) (by assumption) | exact rfl | exact Nat.le_of_ble_eq_true rfl | decide | apply And.intro | apply all1 | apply all2 | apply all3 | apply all4 | apply all5))
  · have hin : i = szG g := by omega
    subst hin
    refine loop_nat es.length (SKb es g) ?_ (fun i hi => ?_)
    · refine ent_of (rl := []) (nl := []) ⟨rfl, ?_, ?_, ⟨⟨Nat.le_of_ble_eq_true rfl, subR_eq (noneTo_all _).symm rfl⟩, trivial⟩, rfl, rfl, (by first | exact Nat.zero_le _ | exact Nat.le_of_ble_eq_true rfl), trivial, trivial⟩ <;> (repeat' (first | exact trivial | exact SameL.refl _ | exact ep_seal rfl rfl | assumption | exact congrArg (Value.int _) (by assumption) | exact rfl | exact Nat.le_of_ble_eq_true rfl | decide | apply And.intro | apply all1 | apply all2 | apply all3 | apply all4 | apply all5))
    refine if_dec (fun hlt => ?_) (fun hge => ?_)
    · have hlt : i < es.length := by omega
      have hle := hes.2
      have hw' := w64_succ hlt (by omega)
      have ok0 := seedTo_ok (es := es) (g := g) (i := i) (by omega)
      have heu := hes.1 _ (getD_mem' (l := es) (i := i) hlt)
      refine ⟨⟨by omega, by omega⟩, ?_⟩
      have ok1 := offP_ok (g := g) (p := (es.getD i default).a) (n := i) ok0 (by omega)
      have ok2 := offP_ok (g := g) (p := midP (es.getD i default)) (n := i) ok1 (by omega)
      have pm := mid_in heu
      have ha := heu.1
      have hb := heu.2
      refine .inl ⟨4, ?_⟩
      refine ⟨_, stexel_at hg ha, ?_⟩
      refine ⟨_, _, _, _, [(0, 1)], [(1, 2)], offer_at hes hg ok0 (e := i) (by omega), (by refine ⟨?_, ?_, ?_, ?_, ?_, ?_⟩ <;> (repeat' (first | exact trivial | exact subR.refl _ | exact SameL.refl _ | assumption | exact congrArg (Value.int _) (by assumption) | exact congrArg (Value.int _) (Eq.symm (by assumption)) | exact rfl | exact Nat.le_of_ble_eq_true rfl | decide | apply And.intro))), ?_⟩
      refine ⟨_, stexel_at hg pm, ?_⟩
      refine ⟨_, _, _, _, [(0, 1)], [(1, 2)], offer_at hes hg ok1 (e := i) (by omega), (by refine ⟨?_, ?_, ?_, ?_, ?_, ?_⟩ <;> (repeat' (first | exact trivial | exact subR.refl _ | exact SameL.refl _ | assumption | exact congrArg (Value.int _) (by assumption) | exact congrArg (Value.int _) (Eq.symm (by assumption)) | exact rfl | exact Nat.le_of_ble_eq_true rfl | decide | apply And.intro))), ?_⟩
      refine ⟨_, stexel_at hg hb, ?_⟩
      refine ⟨_, _, _, _, [(0, 1)], [(1, 2)], offer_at hes hg ok2 (e := i) (by omega), (by refine ⟨?_, ?_, ?_, ?_, ?_, ?_⟩ <;> (repeat' (first | exact trivial | exact subR.refl _ | exact SameL.refl _ | assumption | exact congrArg (Value.int _) (by assumption) | exact congrArg (Value.int _) (Eq.symm (by assumption)) | exact rfl | exact Nat.le_of_ble_eq_true rfl | decide | apply And.intro))), ?_⟩
      refine ⟨i + 1, ⟨Nat.lt_succ_self _, hlt⟩, ?_⟩
      refine ent_of (rl := []) (nl := []) ⟨rfl, ?_, ?_, ⟨⟨Nat.le_of_ble_eq_true rfl, subR_eq rfl rfl⟩, trivial⟩, rfl, rfl, (by first | exact Nat.zero_le _ | exact Nat.le_of_ble_eq_true rfl), trivial, trivial⟩ <;> (repeat' (first | exact trivial | exact SameL.refl _ | exact ep_seal rfl rfl | assumption | exact congrArg (Value.int _) (by assumption) | exact rfl | exact Nat.le_of_ble_eq_true rfl | decide | apply And.intro | apply all1 | apply all2 | apply all3 | apply all4 | apply all5))
    · have hin : i = es.length := by omega
      subst hin
      have okS := seedTo_ok (es := es) (g := g) (i := es.length) (Nat.le_refl _)
      refine loop_nat g.h.toNat (SKc es g (seedTo es g es.length)) ?_ (fun k hk => ?_)
      · refine ent_of (rl := []) (nl := []) ⟨rfl, ?_, ?_, ⟨⟨Nat.le_of_ble_eq_true rfl, subR.refl _⟩, trivial⟩, rfl, rfl, (by first | exact Nat.zero_le _ | exact Nat.le_of_ble_eq_true rfl), trivial, trivial⟩ <;> (repeat' (first | exact trivial | exact SameL.refl _ | exact ep_seal rfl rfl | assumption | exact congrArg (Value.int _) (by assumption) | exact rfl | exact Nat.le_of_ble_eq_true rfl | decide | apply And.intro | apply all1 | apply all2 | apply all3 | apply all4 | apply all5))
      refine if_dec (fun hlt => ?_) (fun hge => ?_)
      · have hlt : k < g.h.toNat := by have : (k : Int) < g.h := hlt; omega
        have hk' := w64_succ hlt (by omega)
        have okR := row1_ok hg okS k
        refine loop_nat g.w.toNat (SKd es g (row1 es g (seedTo es g es.length) k) k) ?_ (fun i hi => ?_)
        · refine ent_of (rl := []) (nl := []) ⟨rfl, ?_, ?_, ⟨⟨Nat.le_of_ble_eq_true rfl, subR.refl _⟩, trivial⟩, rfl, rfl, (by first | exact Nat.zero_le _ | exact Nat.le_of_ble_eq_true rfl), trivial, trivial⟩ <;> (repeat' (first | exact trivial | exact SameL.refl _ | exact ep_seal rfl rfl | assumption | exact congrArg (Value.int _) (by assumption) | exact rfl | exact Nat.le_of_ble_eq_true rfl | decide | apply And.intro | apply all1 | apply all2 | apply all3 | apply all4 | apply all5))
        refine if_dec (fun hlt => ?_) (fun hge => ?_)
        · have hlt : i < g.w.toNat := by have : (i : Int) < g.w := hlt; omega
          have hi' := w64_succ hlt (by omega)
          have okC := col1_ok hg okR (k := k) i
          have e1 : w64 ((i : Int) + -1) = (i : Int) + -1 := w64_in (by omega)
          have e2 : w64 ((k : Int) + 0) = (k : Int) + 0 := w64_in (by omega)
          have e3 : w64 ((i : Int) + 0) = (i : Int) + 0 := w64_in (by omega)
          have e4 : w64 ((k : Int) + -1) = (k : Int) + -1 := w64_in (by omega)
          have e5 : w64 ((i : Int) + 1) = (i : Int) + 1 := w64_in (by omega)
          have o1 := stepG_ok hg okC (i := i) (k := k) (a := -1) (b := 0)
          have o2 := stepG_ok hg o1 (i := i) (k := k) (a := 0) (b := -1)
          have o3 := stepG_ok hg o2 (i := i) (k := k) (a := -1) (b := -1)
          refine .inl ⟨5, ?_⟩
          refine ⟨_, _, _, _, [(0, 1)], [(1, 2)], knows_at es hg okC.1 ((i : Int) + -1) ((k : Int) + 0), (by refine ⟨?_, ?_, ?_, ?_, ?_, ?_⟩ <;> (repeat' (first | exact trivial | exact subR.refl _ | exact SameL.refl _ | assumption | exact congrArg (Value.int _) (by assumption) | exact congrArg (Value.int _) (Eq.symm (by assumption)) | exact rfl | exact Nat.le_of_ble_eq_true rfl | decide | apply And.intro))), ?_⟩
          refine ⟨_, _, _, _, [(0, 1)], [(1, 2)], offer_at hes hg okC (i := i) (k := k) (knG_lt hg okC _ _), (by refine ⟨?_, ?_, ?_, ?_, ?_, ?_⟩ <;> (repeat' (first | exact trivial | exact subR.refl _ | exact SameL.refl _ | assumption | exact congrArg (Value.int _) (by assumption) | exact congrArg (Value.int _) (Eq.symm (by assumption)) | exact rfl | exact Nat.le_of_ble_eq_true rfl | decide | apply And.intro))), ?_⟩
          refine ⟨_, _, _, _, [(0, 1)], [(1, 2)], knows_at es hg o1.1 ((i : Int) + 0) ((k : Int) + -1), (by refine ⟨?_, ?_, ?_, ?_, ?_, ?_⟩ <;> (repeat' (first | exact trivial | exact subR.refl _ | exact SameL.refl _ | assumption | exact congrArg (Value.int _) (by assumption) | exact congrArg (Value.int _) (Eq.symm (by assumption)) | exact rfl | exact Nat.le_of_ble_eq_true rfl | decide | apply And.intro))), ?_⟩
          refine ⟨_, _, _, _, [(0, 1)], [(1, 2)], offer_at hes hg o1 (i := i) (k := k) (knG_lt hg o1 _ _), (by refine ⟨?_, ?_, ?_, ?_, ?_, ?_⟩ <;> (repeat' (first | exact trivial | exact subR.refl _ | exact SameL.refl _ | assumption | exact congrArg (Value.int _) (by assumption) | exact congrArg (Value.int _) (Eq.symm (by assumption)) | exact rfl | exact Nat.le_of_ble_eq_true rfl | decide | apply And.intro))), ?_⟩
          refine ⟨_, _, _, _, [(0, 1)], [(1, 2)], knows_at es hg o2.1 ((i : Int) + -1) ((k : Int) + -1), (by refine ⟨?_, ?_, ?_, ?_, ?_, ?_⟩ <;> (repeat' (first | exact trivial | exact subR.refl _ | exact SameL.refl _ | assumption | exact congrArg (Value.int _) (by assumption) | exact congrArg (Value.int _) (Eq.symm (by assumption)) | exact rfl | exact Nat.le_of_ble_eq_true rfl | decide | apply And.intro))), ?_⟩
          refine ⟨_, _, _, _, [(0, 1)], [(1, 2)], offer_at hes hg o2 (i := i) (k := k) (knG_lt hg o2 _ _), (by refine ⟨?_, ?_, ?_, ?_, ?_, ?_⟩ <;> (repeat' (first | exact trivial | exact subR.refl _ | exact SameL.refl _ | assumption | exact congrArg (Value.int _) (by assumption) | exact congrArg (Value.int _) (Eq.symm (by assumption)) | exact rfl | exact Nat.le_of_ble_eq_true rfl | decide | apply And.intro))), ?_⟩
          refine ⟨_, _, _, _, [(0, 1)], [(1, 2)], knows_at es hg o3.1 ((i : Int) + 1) ((k : Int) + -1), (by refine ⟨?_, ?_, ?_, ?_, ?_, ?_⟩ <;> (repeat' (first | exact trivial | exact subR.refl _ | exact SameL.refl _ | assumption | exact congrArg (Value.int _) (by assumption) | exact congrArg (Value.int _) (Eq.symm (by assumption)) | exact rfl | exact Nat.le_of_ble_eq_true rfl | decide | apply And.intro))), ?_⟩
          refine ⟨_, _, _, _, [(0, 1)], [(1, 2)], offer_at hes hg o3 (i := i) (k := k) (knG_lt hg o3 _ _), (by refine ⟨?_, ?_, ?_, ?_, ?_, ?_⟩ <;> (repeat' (first | exact trivial | exact subR.refl _ | exact SameL.refl _ | assumption | exact congrArg (Value.int _) (by assumption) | exact congrArg (Value.int _) (Eq.symm (by assumption)) | exact rfl | exact Nat.le_of_ble_eq_true rfl | decide | apply And.intro))), ?_⟩
          refine ⟨i + 1, ⟨Nat.lt_succ_self _, hlt⟩, ?_⟩
          refine ent_of (rl := []) (nl := []) ⟨rfl, ?_, ?_, ⟨⟨Nat.le_of_ble_eq_true rfl, subR_eq rfl rfl⟩, trivial⟩, rfl, rfl, (by first | exact Nat.zero_le _ | exact Nat.le_of_ble_eq_true rfl), trivial, trivial⟩ <;> (repeat' (first | exact trivial | exact SameL.refl _ | exact ep_seal rfl rfl | assumption | exact congrArg (Value.int _) (by assumption) | exact rfl | exact Nat.le_of_ble_eq_true rfl | decide | apply And.intro | apply all1 | apply all2 | apply all3 | apply all4 | apply all5))
        · have hin : i = g.w.toNat := by have : ¬ (i : Int) < g.w := hge; omega
          subst hin
          refine ⟨k + 1, ⟨Nat.lt_succ_self _, hlt⟩, ?_⟩
          refine ent_of (rl := []) (nl := []) ⟨rfl, ?_, ?_, ⟨⟨Nat.le_of_ble_eq_true rfl, subR.refl _⟩, trivial⟩, rfl, rfl, (by first | exact Nat.zero_le _ | exact Nat.le_of_ble_eq_true rfl), trivial, trivial⟩ <;> (repeat' (first | exact trivial | exact SameL.refl _ | exact ep_seal rfl rfl | assumption | exact congrArg (Value.int _) (by assumption) | exact rfl | exact Nat.le_of_ble_eq_true rfl | decide | apply And.intro | apply all1 | apply all2 | apply all3 | apply all4 | apply all5))
      · have hin : k = g.h.toNat := by have : ¬ (k : Int) < g.h := hge; omega
        subst hin
        have okR := row1_ok hg okS g.h.toNat
        have w1 : w64 (g.h - 1) = g.h - 1 - (0 : Nat) := by rw [w64_in (by omega)]; omega
        refine loop_nat g.h.toNat (SKe es g (row1 es g (seedTo es g es.length) g.h.toNat)) ?_ (fun j hj => ?_)
        · refine ent_of (rl := []) (nl := []) ⟨rfl, ?_, ?_, ⟨⟨Nat.le_of_ble_eq_true rfl, subR.refl _⟩, trivial⟩, rfl, rfl, (by first | exact Nat.zero_le _ | exact Nat.le_of_ble_eq_true rfl), trivial, trivial⟩ <;> (repeat' (first | exact trivial | exact SameL.refl _ | exact ep_seal rfl rfl | assumption | exact congrArg (Value.int _) (by assumption) | exact rfl | exact Nat.le_of_ble_eq_true rfl | decide | apply And.intro | apply all1 | apply all2 | apply all3 | apply all4 | apply all5))
        have okQ := row2_ok hg okR j
        refine if_dec (fun hlt => ?_) (fun hge => ?_)
        · have hlt : j < g.h.toNat := by have : g.h - 1 - (j : Int) ≥ 0 := hlt; omega
          have w2 : w64 (g.w - 1) = g.w - 1 - (0 : Nat) := by rw [w64_in (by omega)]; omega
          have w3 : w64 (g.h - 1 - (j : Int) - 1) = g.h - 1 - ((j + 1 : Nat) : Int) := by rw [w64_in (by omega)]; omega
          refine loop_nat g.w.toNat (SKf es g (row2 es g (row1 es g (seedTo es g es.length) g.h.toNat) j) (g.h - 1 - j)) ?_ (fun i hi => ?_)
          · refine ent_of (rl := []) (nl := []) ⟨rfl, ?_, ?_, ⟨⟨Nat.le_of_ble_eq_true rfl, subR.refl _⟩, trivial⟩, rfl, rfl, (by first | exact Nat.zero_le _ | exact Nat.le_of_ble_eq_true rfl), trivial, trivial⟩ <;> (repeat' (first | exact trivial | exact SameL.refl _ | exact ep_seal rfl rfl | assumption | exact congrArg (Value.int _) (by assumption) | exact rfl | exact Nat.le_of_ble_eq_true rfl | decide | apply And.intro | apply all1 | apply all2 | apply all3 | apply all4 | apply all5))
          have okC := col2_ok hg okQ (k := g.h - 1 - j) i
          refine if_dec (fun hlt => ?_) (fun hge => ?_)
          · have hlt : i < g.w.toNat := by have : g.w - 1 - (i : Int) ≥ 0 := hlt; omega
            have w4 : w64 (g.w - 1 - (i : Int) - 1) = g.w - 1 - ((i + 1 : Nat) : Int) := by rw [w64_in (by omega)]; omega
            have e1 : w64 (g.w - 1 - (i : Int) + 1) = g.w - 1 - (i : Int) + 1 := w64_in (by omega)
            have e2 : w64 (g.h - 1 - (j : Int) + 0) = g.h - 1 - (j : Int) + 0 := w64_in (by omega)
            have e3 : w64 (g.w - 1 - (i : Int) + 0) = g.w - 1 - (i : Int) + 0 := w64_in (by omega)
            have e4 : w64 (g.h - 1 - (j : Int) + 1) = g.h - 1 - (j : Int) + 1 := w64_in (by omega)
            have e5 : w64 (g.w - 1 - (i : Int) + -1) = g.w - 1 - (i : Int) + -1 := w64_in (by omega)
            have o1 := stepG_ok hg okC (i := g.w - 1 - i) (k := g.h - 1 - j) (a := 1) (b := 0)
            have o2 := stepG_ok hg o1 (i := g.w - 1 - i) (k := g.h - 1 - j) (a := 0) (b := 1)
            have o3 := stepG_ok hg o2 (i := g.w - 1 - i) (k := g.h - 1 - j) (a := 1) (b := 1)
            refine .inl ⟨5, ?_⟩
            refine ⟨_, _, _, _, [(0, 1)], [(1, 2)], knows_at es hg okC.1 (g.w - 1 - i + 1) (g.h - 1 - j + 0), (by refine ⟨?_, ?_, ?_, ?_, ?_, ?_⟩ <;> (repeat' (first | exact trivial | exact subR.refl _ | exact SameL.refl _ | assumption | exact congrArg (Value.int _) (by assumption) | exact congrArg (Value.int _) (Eq.symm (by assumption)) | exact rfl | exact Nat.le_of_ble_eq_true rfl | decide | apply And.intro))), ?_⟩
            refine ⟨_, _, _, _, [(0, 1)], [(1, 2)], offer_at hes hg okC (i := g.w - 1 - i) (k := g.h - 1 - j) (knG_lt hg okC _ _), (by refine ⟨?_, ?_, ?_, ?_, ?_, ?_⟩ <;> (repeat' (first | exact trivial | exact subR.refl _ | exact SameL.refl _ | assumption | exact congrArg (Value.int _) (by assumption) | exact congrArg (Value.int _) (Eq.symm (by assumption)) | exact rfl | exact Nat.le_of_ble_eq_true rfl | decide | apply And.intro))), ?_⟩
            refine ⟨_, _, _, _, [(0, 1)], [(1, 2)], knows_at es hg o1.1 (g.w - 1 - i + 0) (g.h - 1 - j + 1), (by refine ⟨?_, ?_, ?_, ?_, ?_, ?_⟩ <;> (repeat' (first | exact trivial | exact subR.refl _ | exact SameL.refl _ | assumption | exact congrArg (Value.int _) (by assumption) | exact congrArg (Value.int _) (Eq.symm (by assumption)) | exact rfl | exact Nat.le_of_ble_eq_true rfl | decide | apply And.intro))), ?_⟩
            refine ⟨_, _, _, _, [(0, 1)], [(1, 2)], offer_at hes hg o1 (i := g.w - 1 - i) (k := g.h - 1 - j) (knG_lt hg o1 _ _), (by refine ⟨?_, ?_, ?_, ?_, ?_, ?_⟩ <;> (repeat' (first | exact trivial | exact subR.refl _ | exact SameL.refl _ | assumption | exact congrArg (Value.int _) (by assumption) | exact congrArg (Value.int _) (Eq.symm (by assumption)) | exact rfl | exact Nat.le_of_ble_eq_true rfl | decide | apply And.intro))), ?_⟩
            refine ⟨_, _, _, _, [(0, 1)], [(1, 2)], knows_at es hg o2.1 (g.w - 1 - i + 1) (g.h - 1 - j + 1), (by refine ⟨?_, ?_, ?_, ?_, ?_, ?_⟩ <;> (repeat' (first | exact trivial | exact subR.refl _ | exact SameL.refl _ | assumption | exact congrArg (Value.int _) (by assumption) | exact congrArg (Value.int _) (Eq.symm (by assumption)) | exact rfl | exact Nat.le_of_ble_eq_true rfl | decide | apply And.intro))), ?_⟩
            refine ⟨_, _, _, _, [(0, 1)], [(1, 2)], offer_at hes hg o2 (i := g.w - 1 - i) (k := g.h - 1 - j) (knG_lt hg o2 _ _), (by refine ⟨?_, ?_, ?_, ?_, ?_, ?_⟩ <;> (repeat' (first | exact trivial | exact subR.refl _ | exact SameL.refl _ | assumption | exact congrArg (Value.int _) (by assumption) | exact congrArg (Value.int _) (Eq.symm (by assumption)) | exact rfl | exact Nat.le_of_ble_eq_true rfl | decide | apply And.intro))), ?_⟩
            refine ⟨_, _, _, _, [(0, 1)], [(1, 2)], knows_at es hg o3.1 (g.w - 1 - i + -1) (g.h - 1 - j + 1), (by refine ⟨?_, ?_, ?_, ?_, ?_, ?_⟩ <;> (repeat' (first | exact trivial | exact subR.refl _ | exact SameL.refl _ | assumption | exact congrArg (Value.int _) (by assumption) | exact congrArg (Value.int _) (Eq.symm (by assumption)) | exact rfl | exact Nat.le_of_ble_eq_true rfl | decide | apply And.intro))), ?_⟩
            refine ⟨_, _, _, _, [(0, 1)], [(1, 2)], offer_at hes hg o3 (i := g.w - 1 - i) (k := g.h - 1 - j) (knG_lt hg o3 _ _), (by refine ⟨?_, ?_, ?_, ?_, ?_, ?_⟩ <;> (repeat' (first | exact trivial | exact subR.refl _ | exact SameL.refl _ | assumption | exact congrArg (Value.int _) (by assumption) | exact congrArg (Value.int _) (Eq.symm (by assumption)) | exact rfl | exact Nat.le_of_ble_eq_true rfl | decide | apply And.intro))), ?_⟩
            refine ⟨i + 1, ⟨Nat.lt_succ_self _, hlt⟩, ?_⟩
            refine ent_of (rl := []) (nl := []) ⟨rfl, ?_, ?_, ⟨⟨Nat.le_of_ble_eq_true rfl, subR_eq rfl rfl⟩, trivial⟩, rfl, rfl, (by first | exact Nat.zero_le _ | exact Nat.le_of_ble_eq_true rfl), trivial, trivial⟩ <;> (repeat' (first | exact trivial | exact SameL.refl _ | exact ep_seal rfl rfl | assumption | exact congrArg (Value.int _) (by assumption) | exact rfl | exact Nat.le_of_ble_eq_true rfl | decide | apply And.intro | apply all1 | apply all2 | apply all3 | apply all4 | apply all5))
          · have hin : i = g.w.toNat := by have : ¬ g.w - 1 - (i : Int) ≥ 0 := hge; omega
            subst hin
            refine ⟨j + 1, ⟨Nat.lt_succ_self _, hlt⟩, ?_⟩
            refine ent_of (rl := []) (nl := []) ⟨rfl, ?_, ?_, ⟨⟨Nat.le_of_ble_eq_true rfl, subR.refl _⟩, trivial⟩, rfl, rfl, (by first | exact Nat.zero_le _ | exact Nat.le_of_ble_eq_true rfl), trivial, trivial⟩ <;> (repeat' (first | exact trivial | exact SameL.refl _ | exact ep_seal rfl rfl | assumption | exact congrArg (Value.int _) (by assumption) | exact rfl | exact Nat.le_of_ble_eq_true rfl | decide | apply And.intro | apply all1 | apply all2 | apply all3 | apply all4 | apply all5))
        · have hin : j = g.h.toNat := by have : ¬ g.h - 1 - (j : Int) ≥ 0 := hge; omega
          subst hin
          exact ⟨⟨row_ret rfl, trivial⟩, trivial⟩
end Go.Proofs.Ytbfdpdbdkcekfaa
