/- The contracts of law13: known. -/
import Derived.Test.YtbfdpdbdkcekfaaR1c
namespace Go.Proofs.Ytbfdpdbdkcekfaa
open Go SX
set_option linter.unusedVariables false
set_option maxRecDepth 100000
set_option maxHeartbeats 1000000

def Gd.lits (g : Gd) : List L := [I g.x, I g.y, I g.pitch, I g.w, I g.h, I g.spread]
@[reducible] def cvK (es : List Ed) (g : Gd) (l : List Int) : List CV := [.d [I g.x, I g.y, I g.pitch, I g.w, I g.h, I g.spread], .r (rI' l), .d [.sl 4 es.length (rowOf Ed.ls es)]]
theorem offL_at {es : List Ed} {g : Gd} {l : List Int} (hes : edsIn es) (hg : gdIn g) (hl : atOK es g l) {i k e : Int} (hi : inG g i k) (he : -1 ≤ e ∧ e < es.length) : ClAt Try.prog 54 [aI i, aI k, aI e] (cvK es g l) [] (cvK es g (offG es g l i k e)) := by
  obtain ⟨hl1, hl2⟩ := hl
  have hx := ixG_w hg hi
  have hlt := ixG_lt hg hi
  have hc := centre_in hg (i := i) (k := k) (by unfold inG at hi; have := hg.1; omega) (by unfold inG at hi; have := hg.2.1; omega)
  have hm := hl2 _ (getD_mem' (l := l) (i := ixG g i k) (by omega))
  refine cl_at (E := EE) (fn := Try.f54) (c := Try.f54.body.getD .skip) (rs := Try.f54.results.toList) (nt := Try.f54.ntmps) EE_ok follows (by kernel_rfl) (by kernel_rfl) rfl rfl rfl [] ?_
  intro ts hts
  match ts, hts with
  | [(T1, v1), (T2, v2), (T3, v3)], hts =>
  simp only [List.map_cons, List.map_nil, List.cons.injEq, and_true] at hts
  obtain ⟨rfl, rfl, rfl⟩ := hts
  refine ⟨Nat.le_of_ble_eq_true rfl, ?_⟩
  have hix : l.getD (Int.toNat (w64 (w64 (k * g.w) + i))) default = l.getD (ixG g i k) default := by rw [hx, Int.toNat_natCast]
  have hset : Int.toNat (w64 (w64 (k * g.w) + i)) = ixG g i k := by rw [hx, Int.toNat_natCast]
  refine ⟨_, centre_at g i k, ?_⟩
  refine if_dec (fun h0 => ?_) (fun h0 => ?_)
  rotate_left
  · have ho : offG es g l i k e = l := by unfold offG; rw [if_neg (fun h => by omega)]
    exact ⟨trivial, 3, ⟨rfl, sameLs_refl _⟩, ⟨rfl, rfl, subR_eq ho rfl⟩, ⟨rfl, sameLs_refl _⟩, trivial⟩
  have heu := hes.1 _ (getD_mem' (l := es) (i := e.toNat) (by omega))
  refine ⟨⟨by show 0 ≤ w64 _; rw [hx]; omega, by show w64 _ < (l.length : Int); rw [hx]; omega⟩, ?_⟩
  refine ⟨by show Int.toNat (w64 _) < l.length; rw [hset]; omega, ?_⟩
  refine if_dec_f (fun q1 => ?_) (fun q1 => ?_)
  · have q1 : ¬ l.getD (Int.toNat (w64 (w64 (k * g.w) + i))) default < 0 := q1
    rw [hix] at q1
    have hem := hes.1 _ (getD_mem' (l := es) (i := (l.getD (ixG g i k) default).toNat) (by omega))
    have hsq := square_at hem hc
    rw [← hix] at hsq
    refine ⟨⟨by omega, by omega⟩, ?_⟩
    refine ⟨_, square_at heu hc, ?_⟩
    refine ⟨⟨by show 0 ≤ w64 _; rw [hx]; omega, by show w64 _ < (l.length : Int); rw [hx]; omega⟩, ?_⟩
    refine ⟨by show Int.toNat (w64 _) < l.length; rw [hset]; omega, ?_⟩
    refine ⟨⟨by show 0 ≤ l.getD (Int.toNat (w64 (w64 (k * g.w) + i))) default; rw [hix]; omega, by show l.getD (Int.toNat (w64 (w64 (k * g.w) + i))) default < _; rw [hix]; omega⟩, ?_⟩
    refine ⟨_, hsq, ?_⟩
    rw [hix]
    refine ⟨_, rcmp_at (sqN_in heu hc) (sqN_in hem hc), ?_⟩
    refine if_dec (fun q2 => ?_) (fun q2 => ?_)
    · have q2 : cmpF (sqN (es.getD e.toNat default) (centre g i k)) (sqN (es.getD (l.getD (ixG g i k) default).toNat default) (centre g i k)) < 0 := q2
      have ho : offG es g l i k e = l.set (ixG g i k) e := by unfold offG; rw [if_pos ⟨by omega, hi, .inr q2⟩]
      refine ⟨⟨by show 0 ≤ w64 _; rw [hx]; omega, by show w64 _ < (l.length : Int); rw [hx]; omega⟩, ?_⟩
      refine ⟨by show Int.toNat (w64 _) < l.length; rw [hset]; omega, ?_⟩
      exact ⟨trivial, 3, ⟨rfl, sameLs_refl _⟩, ⟨rfl, rfl, subR_set (x := e) rfl (by rw [hset]; omega) rfl rfl rfl (by rw [ho, hset]) rfl⟩, ⟨rfl, sameLs_refl _⟩, trivial⟩
    · have q2 : ¬ cmpF (sqN (es.getD e.toNat default) (centre g i k)) (sqN (es.getD (l.getD (ixG g i k) default).toNat default) (centre g i k)) < 0 := q2
      have ho : offG es g l i k e = l := by unfold offG; rw [if_neg (fun h => h.2.2.elim q1 q2)]
      exact ⟨trivial, 3, ⟨rfl, sameLs_refl _⟩, ⟨rfl, rfl, subR_eq ho rfl⟩, ⟨rfl, sameLs_refl _⟩, trivial⟩
  · have q1 : l.getD (Int.toNat (w64 (w64 (k * g.w) + i))) default < 0 := q1
    rw [hix] at q1
    have ho : offG es g l i k e = l.set (ixG g i k) e := by unfold offG; rw [if_pos ⟨by omega, hi, .inl q1⟩]
    refine ⟨⟨by show 0 ≤ w64 _; rw [hx]; omega, by show w64 _ < (l.length : Int); rw [hx]; omega⟩, ?_⟩
    refine ⟨by show Int.toNat (w64 _) < l.length; rw [hset]; omega, ?_⟩
    exact ⟨trivial, 3, ⟨rfl, sameLs_refl _⟩, ⟨rfl, rfl, subR_set (x := e) rfl (by rw [hset]; omega) rfl rfl rfl (by rw [ho, hset]) rfl⟩, ⟨rfl, sameLs_refl _⟩, trivial⟩
theorem place_at {g : Gd} (hg : gdIn g) {n x w : Int} (hn : -8192 ≤ n ∧ n ≤ 8192) (hx : -255 ≤ x ∧ x ≤ 255) (hw : 1 ≤ w ∧ w ≤ 24) : FnAt Try.prog 55 [aI n, aI x, aI w, (false, [.pt 6 (nth g.ls)])] [aI (nearI n x g.pitch w)] := by
  obtain ⟨_, _, _, _, hpi, _⟩ := hg
  have e1 : w64 (n - w64 (32 * x)) = n - 32 * x := by rw [w64_in (n := 32 * x) (by omega), w64_in (by omega)]
  have e3 : w64 (32 * g.pitch) = 32 * g.pitch := w64_in (by omega)
  have f1 := floor_at (n := n - 32 * x) (m := 32 * g.pitch) (by omega) (by omega)
  rw [← e1, ← e3] at f1
  refine fn_at (E := EE) (fn := Try.f55) (c := Try.f55.body.getD .skip) (rs := Try.f55.results.toList) (nt := Try.f55.ntmps) EE_ok follows (by kernel_rfl) (by kernel_rfl) rfl rfl rfl [] rfl ?_
  refine ⟨_, f1, ?_⟩
  rw [e1, e3]
  exact ⟨⟨rfl, trivial⟩, trivial⟩
@[reducible] def bsL (es : List Ed) (g : Gd) : List (Nat × Nat × List C) := [(0, 33, [.sl false 4 es.length (rowOf Ed.ls es)]), (1, 35, gdC' g), (2, 65, [.h 3])]
noncomputable def SLa (es : List Ed) (g : Gd) (i : Nat) : SS := mkS
  [(2, .o (.p 0 0)), (3, .o (.p 1 0)), (5, .o (.p 2 0)), (29, .o (.v (.int .i64 (szG g : Nat)))), (30, .o (.v (.int .i64 i)))] (bsL es g) [(3, rI' (noneTo (szG g) i))] 4 Try.f34.ntmps
noncomputable def SLb (es : List Ed) (g : Gd) (i : Nat) : SS := mkS
  [(2, .o (.p 0 0)), (3, .o (.p 1 0)), (5, .o (.p 2 0)), (7, .o (.f 54 [1, 2, 0])), (8, .o (.f 55 [1])), (39, .o (.sl false 4 es.length (rowOf Ed.ls es))), (40, .o (.v (.int .i64 es.length))), (41, .o (.v (.int .i64 i)))] (bsL es g) [(3, rI' (seedTo es g i))] 4 Try.f34.ntmps
/-- the passes, text by text -/
def flat1 (es : List Ed) (g : Gd) (l : List Int) (n : Nat) : List Int := col1 es g (row1 es g l (n / g.w.toNat)) (n / g.w.toNat) (n % g.w.toNat)
def flat2 (es : List Ed) (g : Gd) (l : List Int) (n : Nat) : List Int := col2 es g (row2 es g l (n / g.w.toNat)) (g.h - 1 - (n / g.w.toNat : Nat)) (n % g.w.toNat)
theorem flat1_zero (es : List Ed) (g : Gd) (l : List Int) : flat1 es g l 0 = l := by unfold flat1; rw [Nat.zero_div, Nat.zero_mod]; rfl
theorem flat2_zero (es : List Ed) (g : Gd) (l : List Int) : flat2 es g l 0 = l := by unfold flat2; rw [Nat.zero_div, Nat.zero_mod]; rfl
theorem flat1_ok {es : List Ed} {g : Gd} {l : List Int} (hg : gdIn g) (h : atOK es g l) (n : Nat) : atOK es g (flat1 es g l n) := col1_ok hg (row1_ok hg h _) _
theorem flat2_ok {es : List Ed} {g : Gd} {l : List Int} (hg : gdIn g) (h : atOK es g l) (n : Nat) : atOK es g (flat2 es g l n) := col2_ok hg (row2_ok hg h _) _
theorem div_succ {n w : Nat} (hw : 0 < w) : ((n + 1) / w = n / w ∧ (n + 1) % w = n % w + 1 ∧ n % w + 1 < w) ∨ ((n + 1) / w = n / w + 1 ∧ (n + 1) % w = 0 ∧ n % w + 1 = w) := by
  have h1 := Nat.div_add_mod n w
  have h2 := Nat.mod_lt n hw
  rcases Nat.lt_or_ge (n % w + 1) w with h | h
  · left
    have e : n + 1 = n % w + 1 + w * (n / w) := by omega
    refine ⟨?_, ?_, h⟩
    · rw [e, Nat.add_mul_div_left _ _ hw, Nat.div_eq_of_lt h, Nat.zero_add]
    · rw [e, Nat.add_mul_mod_self_left, Nat.mod_eq_of_lt h]
  · right
    have e : n + 1 = w * (n / w + 1) := by rw [Nat.mul_add]; omega
    refine ⟨?_, ?_, by omega⟩
    · rw [e, Nat.mul_div_cancel_left _ hw]
    · rw [e, Nat.mul_mod_right]
theorem flat1_succ {es : List Ed} {g : Gd} {l : List Int} (hw : 0 < g.w.toNat) (n : Nat) : flat1 es g l (n + 1) = step4 es g (flat1 es g l n) 1 ((n % g.w.toNat : Nat) : Int) ((n / g.w.toNat : Nat) : Int) := by
  unfold flat1
  rcases div_succ (n := n) hw with ⟨h1, h2, h3⟩ | ⟨h1, h2, h3⟩
  · rw [h1, h2]; rfl
  · rw [h1, h2]
    show row1 es g l (n / g.w.toNat + 1) = _
    show col1 es g (row1 es g l (n / g.w.toNat)) (n / g.w.toNat) g.w.toNat = _
    have e : g.w.toNat = n % g.w.toNat + 1 := h3.symm
    generalize n / g.w.toNat = q at *
    generalize n % g.w.toNat = r at *
    rw [e]
    rfl
theorem flat2_succ {es : List Ed} {g : Gd} {l : List Int} (hw : 0 < g.w.toNat) (n : Nat) : flat2 es g l (n + 1) = step4 es g (flat2 es g l n) (-1) (g.w - 1 - ((n % g.w.toNat : Nat) : Int)) (g.h - 1 - ((n / g.w.toNat : Nat) : Int)) := by
  unfold flat2
  rcases div_succ (n := n) hw with ⟨h1, h2, h3⟩ | ⟨h1, h2, h3⟩
  · rw [h1, h2]; rfl
  · rw [h1, h2]
    show row2 es g l (n / g.w.toNat + 1) = _
    show col2 es g (row2 es g l (n / g.w.toNat)) (g.h - 1 - (n / g.w.toNat : Nat)) g.w.toNat = _
    have e : g.w.toNat = n % g.w.toNat + 1 := h3.symm
    generalize n / g.w.toNat = q at *
    generalize n % g.w.toNat = r at *
    rw [e]
    rfl
theorem flat1_all {es : List Ed} {g : Gd} {l : List Int} (hw : 0 < g.w.toNat) : flat1 es g l (szG g) = row1 es g l g.h.toNat := by
  unfold flat1 szG
  rw [Nat.mul_div_cancel _ hw, Nat.mul_mod_left]
  rfl
theorem flat2_all {es : List Ed} {g : Gd} {l : List Int} (hw : 0 < g.w.toNat) : flat2 es g l (szG g) = row2 es g l g.h.toNat := by
  unfold flat2 szG
  rw [Nat.mul_div_cancel _ hw, Nat.mul_mod_left]
  rfl
noncomputable def SLc (p : Int) (es : List Ed) (g : Gd) (F : Nat → List Int) (n : Nat) : SS := mkS
  [(3, .o (.p 1 0)), (5, .o (.p 2 0)), (7, .o (.f 54 [1, 2, 0])), (13, .o (.k (.int .i64 p))), (99, .o (.v (.int .i64 (szG g : Nat)))), (100, .o (.v (.int .i64 n)))] (bsL es g) [(3, rI' (F n))] 4 Try.f34.ntmps
/-- the four neighbours, one by one -/
def dirA (d : Int) (r : Nat) : Int × Int := match r with
  | 0 => (-d, 0)
  | 1 => (0, -d)
  | 2 => (-d, -d)
  | _ => (d, -d)
def dirT (es : List Ed) (g : Gd) (l : List Int) (d i k : Int) (r : Nat) : List Int := match r with
  | 0 => l
  | r + 1 => stepG es g (dirT es g l d i k r) i k (dirA d r).1 (dirA d r).2
theorem dirT_ok {es : List Ed} {g : Gd} {l : List Int} (hg : gdIn g) (h : atOK es g l) {d i k : Int} : ∀ r, atOK es g (dirT es g l d i k r)
  | 0 => h
  | r + 1 => stepG_ok hg (dirT_ok hg h r)
theorem step_skip {es : List Ed} {g : Gd} {l : List Int} {i k a b : Int} (h : ¬ inG g (i + a) (k + b)) : stepG es g l i k a b = l := by
  unfold stepG knG offG
  rw [if_neg h, if_neg (fun h => by omega)]
@[reducible] def cellsD (d : Int) : List C := [.k (.int .i64 (normI (IntKind.i64.wrap (0 - d)))), .k (.int .i64 0), .k (.int .i64 0), .k (.int .i64 (normI (IntKind.i64.wrap (0 - d)))), .k (.int .i64 (normI (IntKind.i64.wrap (0 - d)))), .k (.int .i64 (normI (IntKind.i64.wrap (0 - d)))), .k (.int .i64 d), .k (.int .i64 (normI (IntKind.i64.wrap (0 - d))))]
noncomputable def SLd (p d : Int) (es : List Ed) (g : Gd) (l : List Int) (n : Nat) (i k : Int) (r : Nat) : SS := mkS
  [(3, .o (.p 1 0)), (5, .o (.p 2 0)), (7, .o (.f 54 [1, 2, 0])), (13, .o (.k (.int .i64 p))), (16, .o (.v (.int .i64 i))), (17, .o (.v (.int .i64 k))), (99, .o (.v (.int .i64 (szG g : Nat)))), (100, .o (.v (.int .i64 n))), (133, .o (.s 4 4)), (134, .o (.k (.int .i64 (Int.ofNat 4)))), (135, .o (.v (.int .i64 r)))]
  (bsL es g ++ [(4, 61, cellsD d)]) [(3, rI' (dirT es g l d i k r))] 5 Try.f34.ntmps
theorem back_mod {g : Gd} (hg : gdIn g) {n : Nat} (hn : n < szG g) : (w64 (w64 ((szG g : Int) - 1) - (n : Int))).tmod g.w = g.w - 1 - ((n % g.w.toNat : Nat) : Int) ∧ w64 ((w64 (w64 ((szG g : Int) - 1) - (n : Int))).tdiv g.w) = g.h - 1 - ((n / g.w.toNat : Nat) : Int) := by
  have hs := szG_le hg
  have hw := hg.1
  have hh := hg.2.1
  have hw0 : 0 < g.w.toNat := by omega
  have h1 := Nat.div_add_mod n g.w.toNat
  have hr := Nat.mod_lt n hw0
  have hq : n / g.w.toNat < g.h.toNat := Nat.div_lt_of_lt_mul (by unfold szG at hn; rw [Nat.mul_comm]; exact hn)
  rw [w64_in (n := (szG g : Int) - 1) (by omega), w64_in (n := (szG g : Int) - 1 - (n : Int)) (by omega)]
  have e : (szG g : Int) - 1 - n = (g.w - 1 - ((n % g.w.toNat : Nat) : Int)) + g.w * (g.h - 1 - ((n / g.w.toNat : Nat) : Int)) := by
    have e1 : (szG g : Int) = g.h * g.w := by unfold szG; rw [Int.natCast_mul, Int.toNat_of_nonneg (by omega), Int.toNat_of_nonneg (by omega)]
    have e2 : (n : Int) = g.w * ((n / g.w.toNat : Nat) : Int) + ((n % g.w.toNat : Nat) : Int) := by
      have : ((g.w.toNat * (n / g.w.toNat) + n % g.w.toNat : Nat) : Int) = n := by rw [h1]
      rw [← this, Int.natCast_add, Int.natCast_mul, Int.toNat_of_nonneg (by omega)]
    rw [e1, e2, Int.mul_sub, Int.mul_sub, Int.mul_one, Int.mul_comm g.h]
    generalize ((n / g.w.toNat : Nat) : Int) = q at *
    generalize ((n % g.w.toNat : Nat) : Int) = r at *
    omega
  rw [e]
  clear e h1
  generalize n / g.w.toNat = q' at *
  generalize n % g.w.toNat = r' at *
  have hb : 0 ≤ (g.w - 1 - (r' : Int)) ∧ (g.w - 1 - (r' : Int)) < g.w := by omega
  have hc : 0 ≤ g.h - 1 - (q' : Int) ∧ g.h - 1 - (q' : Int) ≤ 24 := by omega
  generalize g.w - 1 - (r' : Int) = r at *
  generalize g.h - 1 - (q' : Int) = q at *
  have hm : 0 ≤ g.w * q := Int.mul_nonneg (by omega) hc.1
  constructor
  · rw [tmod_u (by omega) (by omega), Int.add_mul_emod_self_left, Int.emod_eq_of_lt hb.1 hb.2]
  · rw [Int.tdiv_eq_ediv_of_nonneg (by omega), Int.add_mul_ediv_left _ _ (by omega), Int.ediv_eq_zero_of_lt hb.1 hb.2, w64_in (by omega)]
    omega
theorem near_inG {g : Gd} (hg : gdIn g) (p : Pt) : inG g (nearI p.x g.x g.pitch g.w) (nearI p.y g.y g.pitch g.h) := by
  have a := nearI_in (n := p.x) (x := g.x) (pitch := g.pitch) hg.1
  have b := nearI_in (n := p.y) (x := g.y) (pitch := g.pitch) hg.2.1
  exact ⟨a.1, b.1, a.2, b.2⟩
set_option maxHeartbeats 20000000 in
theorem lknown_at {es : List Ed} {g : Gd} (hes : edsIn es) (hg : gdIn g) : FnAt Try.prog 34 [aEds es, aGd g] [aInts (knownL es g)] := by
  have hw := hg.1
  have hh := hg.2.1
  have hwh : w64 (g.w * g.h) = ((szG g : Nat) : Int) := by
    have hm := mul_bd (x := g.w) (y := g.h) (B := 24) (C := 24) (by omega) (by omega)
    unfold szG
    rw [w64_in (by omega), Int.natCast_mul, Int.toNat_of_nonneg (by omega), Int.toNat_of_nonneg (by omega), Int.mul_comm]
  have hs := szG_le hg
  refine fn_at (E := EH) (fn := Try.f34) (c := Try.f34.body.getD .skip) (rs := Try.f34.results.toList) (nt := Try.f34.ntmps) EH_ok follows (by kernel_rfl) (by kernel_rfl) rfl rfl rfl [] rfl ?_
  refine ⟨⟨rfl, by show 0 ≤ w64 _; rw [hwh]; omega, by show 8 * w64 _ ≤ _; rw [hwh]; omega, by show w64 _ ≤ _; rw [hwh]; omega⟩, ?_⟩
  refine loop_nat (szG g) (SLa es g) ?_ (fun i hi => ?_)
  · have hn : (w64 (g.w * g.h)).toNat = szG g := by rw [hwh]; rfl
    refine ent_of (rl := [(2, 9), (3, 8)]) (nl := []) ⟨rfl, ?_, ?_, ⟨⟨Nat.le_of_ble_eq_true rfl, made' hn⟩, trivial⟩, rfl, rfl, (by first | exact Nat.zero_le _ | exact Nat.le_of_ble_eq_true rfl), trivial, ⟨⟨(by first | exact Nat.zero_le _ | exact Nat.le_of_ble_eq_true rfl), (by first | exact Nat.zero_le _ | exact Nat.le_of_ble_eq_true rfl)⟩, ⟨(by first | exact Nat.zero_le _ | exact Nat.le_of_ble_eq_true rfl), (by first | exact Nat.zero_le _ | exact Nat.le_of_ble_eq_true rfl)⟩, trivial⟩⟩ <;> (repeat' (first | exact trivial | exact SameL.refl _ | exact ep_seal rfl rfl | assumption | exact congrArg (Value.int _) (by assumption) | exact rfl | exact Nat.le_of_ble_eq_true rfl | decide | apply And.intro | apply all1 | apply all2 | apply all3 | apply all4 | apply all5))
    exact congrArg (fun n : Nat => Value.int .i64 (n : Int)) hn
  refine if_dec (fun hlt => ?_) (fun hge => ?_)
  · have hlt : i < szG g := by omega
    have hw' := w64_succ hlt (by omega)
    have hl := noneTo_len (n := szG g) (k := i) (by omega)
    refine ⟨⟨by omega, by show (i : Int) < ((noneTo (szG g) i).length : Int); omega⟩, ?_⟩
    refine ⟨by show i < (noneTo (szG g) i).length; omega, ?_⟩
    refine ⟨i + 1, ⟨Nat.lt_succ_self _, hlt⟩, ?_⟩
    refine ent_of (rl := []) (nl := []) ⟨rfl, ?_, ?_, ⟨⟨Nat.le_of_ble_eq_true rfl, subR_set (x := -1) rfl (by show i < (noneTo (szG g) i).length; omega) rfl rfl rfl (noneTo_succ hlt) rfl⟩, trivial⟩, rfl, rfl, (by first | exact Nat.zero_le _ | exact Nat.le_of_ble_eq_true rfl), trivial, trivial⟩ <;> (repeat' (first | exact trivial | exact SameL.refl _ | exact ep_seal rfl rfl | assumption | exact congrArg (Value.int _) (by assumption) | exact rfl | exact Nat.le_of_ble_eq_true rfl | decide | apply And.intro | apply all1 | apply all2 | apply all3 | apply all4 | apply all5))
  · have hin : i = szG g := by omega
    subst hin
    refine loop_nat es.length (SLb es g) ?_ (fun i hi => ?_)
    · refine ent_of (rl := []) (nl := []) ⟨rfl, ?_, ?_, ⟨⟨Nat.le_of_ble_eq_true rfl, subR_eq (noneTo_all _).symm rfl⟩, trivial⟩, rfl, rfl, (by first | exact Nat.zero_le _ | exact Nat.le_of_ble_eq_true rfl), trivial, trivial⟩ <;> (repeat' (first | exact trivial | exact SameL.refl _ | exact ep_seal rfl rfl | assumption | exact congrArg (Value.int _) (by assumption) | exact rfl | exact Nat.le_of_ble_eq_true rfl | decide | apply And.intro | apply all1 | apply all2 | apply all3 | apply all4 | apply all5))
    refine if_dec (fun hlt => ?_) (fun hge => ?_)
    · have hlt : i < es.length := by omega
      have hle := hes.2
      have hw' := w64_succ hlt (by omega)
      have ok0 := seedTo_ok (es := es) (g := g) (i := i) (by omega)
      have heu := hes.1 _ (getD_mem' (l := es) (i := i) hlt)
      have ok1 := offP_ok (g := g) (p := (es.getD i default).a) (n := i) ok0 (by omega)
      have ok2 := offP_ok (g := g) (p := midP (es.getD i default)) (n := i) ok1 (by omega)
      have pm := mid_in heu
      have ha := heu.1
      have hb := heu.2
      refine ⟨⟨by omega, by omega⟩, ?_⟩
      refine .inl ⟨4, ?_⟩
      refine ⟨_, place_at hg (n := ((es.getD i default).a).x) (x := g.x) (w := g.w) (by unfold ptIn at ha; omega) hg.2.2.1 hw, ?_⟩
      refine ⟨_, place_at hg (n := ((es.getD i default).a).y) (x := g.y) (w := g.h) (by unfold ptIn at ha; omega) hg.2.2.2.1 hh, ?_⟩
      refine ⟨_, _, offL_at hes hg ok0 (near_inG hg ((es.getD i default).a)) (e := i) (by omega), rfl, ?_⟩
      refine ⟨_, place_at hg (n := (midP (es.getD i default)).x) (x := g.x) (w := g.w) (by unfold ptIn at pm; omega) hg.2.2.1 hw, ?_⟩
      refine ⟨_, place_at hg (n := (midP (es.getD i default)).y) (x := g.y) (w := g.h) (by unfold ptIn at pm; omega) hg.2.2.2.1 hh, ?_⟩
      refine ⟨_, _, offL_at hes hg ok1 (near_inG hg (midP (es.getD i default))) (e := i) (by omega), rfl, ?_⟩
      refine ⟨_, place_at hg (n := ((es.getD i default).b).x) (x := g.x) (w := g.w) (by unfold ptIn at hb; omega) hg.2.2.1 hw, ?_⟩
      refine ⟨_, place_at hg (n := ((es.getD i default).b).y) (x := g.y) (w := g.h) (by unfold ptIn at hb; omega) hg.2.2.2.1 hh, ?_⟩
      refine ⟨_, _, offL_at hes hg ok2 (near_inG hg ((es.getD i default).b)) (e := i) (by omega), rfl, ?_⟩
      refine ⟨i + 1, ⟨Nat.lt_succ_self _, hlt⟩, ?_⟩
      refine ent_of (rl := [(3, 110)]) (nl := []) ⟨rfl, ?_, ?_, ⟨⟨Nat.le_of_ble_eq_true rfl, subR_eq rfl rfl⟩, trivial⟩, rfl, rfl, (by first | exact Nat.zero_le _ | exact Nat.le_of_ble_eq_true rfl), trivial, ⟨⟨(by first | exact Nat.zero_le _ | exact Nat.le_of_ble_eq_true rfl), (by first | exact Nat.zero_le _ | exact Nat.le_of_ble_eq_true rfl)⟩, trivial⟩⟩ <;> (repeat' (first | exact trivial | exact SameL.refl _ | exact ep_seal rfl rfl | assumption | exact congrArg (Value.int _) (by assumption) | exact rfl | exact Nat.le_of_ble_eq_true rfl | decide | apply And.intro | apply all1 | apply all2 | apply all3 | apply all4 | apply all5))
    · have hin : i = es.length := by omega
      subst hin
      have okS := seedTo_ok (es := es) (g := g) (i := es.length) (Nat.le_refl _)
      have hw0 : 0 < g.w.toNat := by omega
      have f1ok := fun n => flat1_ok (es := es) hg okS n
      refine .inl ⟨3, ?_⟩
      refine loop_nat (szG g) (SLc 0 es g (flat1 es g (seedTo es g es.length))) ?_ (fun n hn => ?_)
      · refine ent_of (rl := []) (nl := []) ⟨rfl, ?_, ?_, ⟨⟨Nat.le_of_ble_eq_true rfl, subR_eq (flat1_zero _ _ _) rfl⟩, trivial⟩, rfl, rfl, (by first | exact Nat.zero_le _ | exact Nat.le_of_ble_eq_true rfl), trivial, trivial⟩ <;> (repeat' (first | exact trivial | exact SameL.refl _ | exact ep_seal rfl rfl | assumption | exact congrArg (Value.int _) (by assumption) | exact rfl | exact Nat.le_of_ble_eq_true rfl | decide | apply And.intro | apply all1 | apply all2 | apply all3 | apply all4 | apply all5))
        exact congrArg (fun n : Nat => Value.int .i64 (n : Int)) okS.1
      refine if_dec (fun hlt => ?_) (fun hge => ?_)
      · have hlt : n < szG g := by omega
        have hn' := w64_succ hlt (by omega)
        have okF := f1ok n
        have hnd := Nat.div_add_mod n g.w.toNat
        have hr := Nat.mod_lt n hw0
        have hq : n / g.w.toNat < g.h.toNat := Nat.div_lt_of_lt_mul (by unfold szG at hlt; rw [Nat.mul_comm]; exact hlt)
        have m1 : (n : Int).tmod g.w = ((n % g.w.toNat : Nat) : Int) := by rw [tmod_u (by omega) (by omega), Int.natCast_emod, Int.toNat_of_nonneg (by omega)]
        have m2 : w64 ((n : Int).tdiv g.w) = ((n / g.w.toNat : Nat) : Int) := by rw [Int.tdiv_eq_ediv_of_nonneg (by omega), w64_in (by have := Int.ediv_nonneg (a := (n : Int)) (b := g.w) (by omega) (by omega); have := Int.ediv_le_self (b := g.w) (show 0 ≤ (n : Int) by omega); omega), Int.natCast_ediv, Int.toNat_of_nonneg (by omega)]
        have hin : inG g ((n % g.w.toNat : Nat) : Int) ((n / g.w.toNat : Nat) : Int) := by
          clear m1 m2 hnd
          generalize n / g.w.toNat = q at *
          generalize n % g.w.toNat = r at *
          unfold inG; omega
        have hs1 := flat1_succ (es := es) (g := g) (l := seedTo es g es.length) hw0 n
        generalize hI : ((n % g.w.toNat : Nat) : Int) = I' at *
        generalize hK : ((n / g.w.toNat : Nat) : Int) = K' at *
        obtain ⟨L, hL⟩ : ∃ L, flat1 es g (seedTo es g es.length) n = L := ⟨_, rfl⟩
        rw [hL] at okF hs1
        refine ⟨by show g.w ≠ 0; omega, ?_⟩
        refine ⟨by show g.w ≠ 0; omega, ?_⟩
        refine loop_nat 4 (SLd 0 (1) es g L n I' K') ?_ (fun r hr => ?_)
        · refine ent_of (rl := [(4, 35)]) (nl := []) ⟨rfl, ?_, ?_, ⟨⟨Nat.le_of_ble_eq_true rfl, subR_eq hL.symm rfl⟩, trivial⟩, rfl, rfl, (by first | exact Nat.zero_le _ | exact Nat.le_of_ble_eq_true rfl), trivial, ⟨⟨(by first | exact Nat.zero_le _ | exact Nat.le_of_ble_eq_true rfl), (by first | exact Nat.zero_le _ | exact Nat.le_of_ble_eq_true rfl)⟩, trivial⟩⟩ <;> (repeat' (first | exact trivial | exact SameL.refl _ | exact ep_seal rfl rfl | assumption | exact congrArg (Value.int _) (by assumption) | exact rfl | exact Nat.le_of_ble_eq_true rfl | decide | apply And.intro | apply all1 | apply all2 | apply all3 | apply all4 | apply all5))
          all_goals first | exact congrArg (Value.int .i64) m1 | exact congrArg (Value.int .i64) m2
        have okD := dirT_ok (d := 1) (i := I') (k := K') hg okF
        refine if_dec (fun hlt4 => ?_) (fun hge4 => ?_)
        rotate_left
        · have hr4 : r = 4 := by have : ¬ (r : Int) < 4 := hge4; omega
          subst hr4
          refine ⟨n + 1, ⟨Nat.lt_succ_self _, hlt⟩, ?_⟩
          refine ent_of (rl := []) (nl := []) ⟨rfl, ?_, ?_, ⟨⟨Nat.le_of_ble_eq_true rfl, subR_eq hs1 rfl⟩, trivial⟩, rfl, rfl, (by first | exact Nat.zero_le _ | exact Nat.le_of_ble_eq_true rfl), trivial, trivial⟩ <;> (repeat' (first | exact trivial | exact SameL.refl _ | exact ep_seal rfl rfl | assumption | exact congrArg (Value.int _) (by assumption) | exact rfl | exact Nat.le_of_ble_eq_true rfl | decide | apply And.intro | apply all1 | apply all2 | apply all3 | apply all4 | apply all5))
        have hr4 : r < 4 := by have : (r : Int) < 4 := hlt4; omega
        match r, hr4 with
        | 0, _ =>
          have ok0 := okD 0
          have ha : w64 (I' + (-1)) = (I' + (-1)) := w64_in (by unfold inG at hin; omega)
          have hb : w64 (K' + (0)) = (K' + (0)) := w64_in (by unfold inG at hin; omega)
          have hskip : ¬ inG g (I' + (-1)) (K' + (0)) → dirT es g L (1) I' K' (0 + 1) = dirT es g L (1) I' K' 0 := fun h => step_skip h
          refine ⟨0, rfl, ?_⟩
          refine if_dec (fun q0 => ?_) (fun q => ?_)
          rotate_left
          · refine ⟨0 + 1, ⟨Nat.lt_succ_self _, by omega⟩, ?_⟩
            refine ent_of (rl := []) (nl := []) ⟨rfl, ?_, ?_, ⟨⟨Nat.le_of_ble_eq_true rfl, subR_eq (hskip (fun h => by unfold inG at h; have q : ¬ w64 (I' + (-1)) ≥ 0 := q; rw [ha] at q; omega)) rfl⟩, trivial⟩, rfl, rfl, (by first | exact Nat.zero_le _ | exact Nat.le_of_ble_eq_true rfl), trivial, trivial⟩ <;> (repeat' (first | exact trivial | exact SameL.refl _ | exact ep_seal rfl rfl | assumption | exact congrArg (Value.int _) (by assumption) | exact rfl | exact Nat.le_of_ble_eq_true rfl | decide | apply And.intro | apply all1 | apply all2 | apply all3 | apply all4 | apply all5))
          refine if_dec (fun q1 => ?_) (fun q => ?_)
          rotate_left
          · refine ⟨0 + 1, ⟨Nat.lt_succ_self _, by omega⟩, ?_⟩
            refine ent_of (rl := []) (nl := []) ⟨rfl, ?_, ?_, ⟨⟨Nat.le_of_ble_eq_true rfl, subR_eq (hskip (fun h => by unfold inG at h; have q : ¬ w64 (K' + (0)) ≥ 0 := q; rw [hb] at q; omega)) rfl⟩, trivial⟩, rfl, rfl, (by first | exact Nat.zero_le _ | exact Nat.le_of_ble_eq_true rfl), trivial, trivial⟩ <;> (repeat' (first | exact trivial | exact SameL.refl _ | exact ep_seal rfl rfl | assumption | exact congrArg (Value.int _) (by assumption) | exact rfl | exact Nat.le_of_ble_eq_true rfl | decide | apply And.intro | apply all1 | apply all2 | apply all3 | apply all4 | apply all5))
          refine if_dec (fun q2 => ?_) (fun q => ?_)
          rotate_left
          · refine ⟨0 + 1, ⟨Nat.lt_succ_self _, by omega⟩, ?_⟩
            refine ent_of (rl := []) (nl := []) ⟨rfl, ?_, ?_, ⟨⟨Nat.le_of_ble_eq_true rfl, subR_eq (hskip (fun h => by unfold inG at h; have q : ¬ w64 (I' + (-1)) < g.w := q; rw [ha] at q; omega)) rfl⟩, trivial⟩, rfl, rfl, (by first | exact Nat.zero_le _ | exact Nat.le_of_ble_eq_true rfl), trivial, trivial⟩ <;> (repeat' (first | exact trivial | exact SameL.refl _ | exact ep_seal rfl rfl | assumption | exact congrArg (Value.int _) (by assumption) | exact rfl | exact Nat.le_of_ble_eq_true rfl | decide | apply And.intro | apply all1 | apply all2 | apply all3 | apply all4 | apply all5))
          refine if_dec (fun q3 => ?_) (fun q => ?_)
          rotate_left
          · refine ⟨0 + 1, ⟨Nat.lt_succ_self _, by omega⟩, ?_⟩
            refine ent_of (rl := []) (nl := []) ⟨rfl, ?_, ?_, ⟨⟨Nat.le_of_ble_eq_true rfl, subR_eq (hskip (fun h => by unfold inG at h; have q : ¬ w64 (K' + (0)) < g.h := q; rw [hb] at q; omega)) rfl⟩, trivial⟩, rfl, rfl, (by first | exact Nat.zero_le _ | exact Nat.le_of_ble_eq_true rfl), trivial, trivial⟩ <;> (repeat' (first | exact trivial | exact SameL.refl _ | exact ep_seal rfl rfl | assumption | exact congrArg (Value.int _) (by assumption) | exact rfl | exact Nat.le_of_ble_eq_true rfl | decide | apply And.intro | apply all1 | apply all2 | apply all3 | apply all4 | apply all5))
          have q0 : w64 (I' + (-1)) ≥ 0 := q0
          have q1 : w64 (K' + (0)) ≥ 0 := q1
          have q2 : w64 (I' + (-1)) < g.w := q2
          have q3 : w64 (K' + (0)) < g.h := q3
          rw [ha] at q0 q2
          rw [hb] at q1 q3
          have hn : inG g (I' + (-1)) (K' + (0)) := ⟨by omega, by omega, by omega, by omega⟩
          have hx := ixG_w hg hn
          have hxl := ixG_lt hg hn
          rw [← ha, ← hb] at hx
          have hl0 := ok0.1
          have hE : (dirT es g L (1) I' K' 0).getD (Int.toNat (w64 (w64 (w64 (K' + (0)) * g.w) + w64 (I' + (-1))))) default = knG g (dirT es g L (1) I' K' 0) (I' + (-1)) (K' + (0)) := by rw [hx, Int.toNat_natCast, ha, hb]; unfold knG; rw [if_pos hn]
          refine ⟨⟨by show 0 ≤ w64 (w64 (w64 (K' + (0)) * g.w) + w64 (I' + (-1))); rw [hx]; omega, by show w64 (w64 (w64 (K' + (0)) * g.w) + w64 (I' + (-1))) < ((dirT es g L (1) I' K' 0).length : Int); rw [hx, ha, hb]; omega⟩, ?_⟩
          refine ⟨by show Int.toNat (w64 (w64 (w64 (K' + (0)) * g.w) + w64 (I' + (-1)))) < (dirT es g L (1) I' K' 0).length; rw [hx, Int.toNat_natCast, ha, hb]; omega, ?_⟩
          refine ⟨_, _, offL_at hes hg ok0 (i := I') (k := K') (e := (dirT es g L (1) I' K' 0).getD (Int.toNat (w64 (w64 (w64 (K' + (0)) * g.w) + w64 (I' + (-1))))) default) hin (by rw [hE]; exact ⟨by unfold knG; rw [if_pos hn]; exact (ok0.2 _ (getD_mem' (by omega))).1, knG_lt hg ok0 _ _⟩), rfl, ?_⟩
          refine ⟨0 + 1, ⟨Nat.lt_succ_self _, by omega⟩, ?_⟩
          refine ent_of (rl := [(3, 50)]) (nl := []) ⟨rfl, ?_, ?_, ⟨⟨Nat.le_of_ble_eq_true rfl, subR_eq (show stepG es g (dirT es g L (1) I' K' 0) I' K' (-1) (0) = _ by unfold stepG; rw [← hE]) rfl⟩, trivial⟩, rfl, rfl, (by first | exact Nat.zero_le _ | exact Nat.le_of_ble_eq_true rfl), trivial, ⟨⟨(by first | exact Nat.zero_le _ | exact Nat.le_of_ble_eq_true rfl), (by first | exact Nat.zero_le _ | exact Nat.le_of_ble_eq_true rfl)⟩, trivial⟩⟩ <;> (repeat' (first | exact trivial | exact SameL.refl _ | exact ep_seal rfl rfl | assumption | exact congrArg (Value.int _) (by assumption) | exact rfl | exact Nat.le_of_ble_eq_true rfl | decide | apply And.intro | apply all1 | apply all2 | apply all3 | apply all4 | apply all5))
        | 1, _ =>
          have ok0 := okD 1
          have ha : w64 (I' + (0)) = (I' + (0)) := w64_in (by unfold inG at hin; omega)
          have hb : w64 (K' + (-1)) = (K' + (-1)) := w64_in (by unfold inG at hin; omega)
          have hskip : ¬ inG g (I' + (0)) (K' + (-1)) → dirT es g L (1) I' K' (1 + 1) = dirT es g L (1) I' K' 1 := fun h => step_skip h
          refine ⟨1, rfl, ?_⟩
          refine if_dec (fun q0 => ?_) (fun q => ?_)
          rotate_left
          · refine ⟨1 + 1, ⟨Nat.lt_succ_self _, by omega⟩, ?_⟩
            refine ent_of (rl := []) (nl := []) ⟨rfl, ?_, ?_, ⟨⟨Nat.le_of_ble_eq_true rfl, subR_eq (hskip (fun h => by unfold inG at h; have q : ¬ w64 (I' + (0)) ≥ 0 := q; rw [ha] at q; omega)) rfl⟩, trivial⟩, rfl, rfl, (by first | exact Nat.zero_le _ | exact Nat.le_of_ble_eq_true rfl), trivial, trivial⟩ <;> (repeat' (first | exact trivial | exact SameL.refl _ | exact ep_seal rfl rfl | assumption | exact congrArg (Value.int _) (by assumption) | exact rfl | exact Nat.le_of_ble_eq_true rfl | decide | apply And.intro | apply all1 | apply all2 | apply all3 | apply all4 | apply all5))
          refine if_dec (fun q1 => ?_) (fun q => ?_)
          rotate_left
          · refine ⟨1 + 1, ⟨Nat.lt_succ_self _, by omega⟩, ?_⟩
            refine ent_of (rl := []) (nl := []) ⟨rfl, ?_, ?_, ⟨⟨Nat.le_of_ble_eq_true rfl, subR_eq (hskip (fun h => by unfold inG at h; have q : ¬ w64 (K' + (-1)) ≥ 0 := q; rw [hb] at q; omega)) rfl⟩, trivial⟩, rfl, rfl, (by first | exact Nat.zero_le _ | exact Nat.le_of_ble_eq_true rfl), trivial, trivial⟩ <;> (repeat' (first | exact trivial | exact SameL.refl _ | exact ep_seal rfl rfl | assumption | exact congrArg (Value.int _) (by assumption) | exact rfl | exact Nat.le_of_ble_eq_true rfl | decide | apply And.intro | apply all1 | apply all2 | apply all3 | apply all4 | apply all5))
          refine if_dec (fun q2 => ?_) (fun q => ?_)
          rotate_left
          · refine ⟨1 + 1, ⟨Nat.lt_succ_self _, by omega⟩, ?_⟩
            refine ent_of (rl := []) (nl := []) ⟨rfl, ?_, ?_, ⟨⟨Nat.le_of_ble_eq_true rfl, subR_eq (hskip (fun h => by unfold inG at h; have q : ¬ w64 (I' + (0)) < g.w := q; rw [ha] at q; omega)) rfl⟩, trivial⟩, rfl, rfl, (by first | exact Nat.zero_le _ | exact Nat.le_of_ble_eq_true rfl), trivial, trivial⟩ <;> (repeat' (first | exact trivial | exact SameL.refl _ | exact ep_seal rfl rfl | assumption | exact congrArg (Value.int _) (by assumption) | exact rfl | exact Nat.le_of_ble_eq_true rfl | decide | apply And.intro | apply all1 | apply all2 | apply all3 | apply all4 | apply all5))
          refine if_dec (fun q3 => ?_) (fun q => ?_)
          rotate_left
          · refine ⟨1 + 1, ⟨Nat.lt_succ_self _, by omega⟩, ?_⟩
            refine ent_of (rl := []) (nl := []) ⟨rfl, ?_, ?_, ⟨⟨Nat.le_of_ble_eq_true rfl, subR_eq (hskip (fun h => by unfold inG at h; have q : ¬ w64 (K' + (-1)) < g.h := q; rw [hb] at q; omega)) rfl⟩, trivial⟩, rfl, rfl, (by first | exact Nat.zero_le _ | exact Nat.le_of_ble_eq_true rfl), trivial, trivial⟩ <;> (repeat' (first | exact trivial | exact SameL.refl _ | exact ep_seal rfl rfl | assumption | exact congrArg (Value.int _) (by assumption) | exact rfl | exact Nat.le_of_ble_eq_true rfl | decide | apply And.intro | apply all1 | apply all2 | apply all3 | apply all4 | apply all5))
          have q0 : w64 (I' + (0)) ≥ 0 := q0
          have q1 : w64 (K' + (-1)) ≥ 0 := q1
          have q2 : w64 (I' + (0)) < g.w := q2
          have q3 : w64 (K' + (-1)) < g.h := q3
          rw [ha] at q0 q2
          rw [hb] at q1 q3
          have hn : inG g (I' + (0)) (K' + (-1)) := ⟨by omega, by omega, by omega, by omega⟩
          have hx := ixG_w hg hn
          have hxl := ixG_lt hg hn
          rw [← ha, ← hb] at hx
          have hl0 := ok0.1
          have hE : (dirT es g L (1) I' K' 1).getD (Int.toNat (w64 (w64 (w64 (K' + (-1)) * g.w) + w64 (I' + (0))))) default = knG g (dirT es g L (1) I' K' 1) (I' + (0)) (K' + (-1)) := by rw [hx, Int.toNat_natCast, ha, hb]; unfold knG; rw [if_pos hn]
          refine ⟨⟨by show 0 ≤ w64 (w64 (w64 (K' + (-1)) * g.w) + w64 (I' + (0))); rw [hx]; omega, by show w64 (w64 (w64 (K' + (-1)) * g.w) + w64 (I' + (0))) < ((dirT es g L (1) I' K' 1).length : Int); rw [hx, ha, hb]; omega⟩, ?_⟩
          refine ⟨by show Int.toNat (w64 (w64 (w64 (K' + (-1)) * g.w) + w64 (I' + (0)))) < (dirT es g L (1) I' K' 1).length; rw [hx, Int.toNat_natCast, ha, hb]; omega, ?_⟩
          refine ⟨_, _, offL_at hes hg ok0 (i := I') (k := K') (e := (dirT es g L (1) I' K' 1).getD (Int.toNat (w64 (w64 (w64 (K' + (-1)) * g.w) + w64 (I' + (0))))) default) hin (by rw [hE]; exact ⟨by unfold knG; rw [if_pos hn]; exact (ok0.2 _ (getD_mem' (by omega))).1, knG_lt hg ok0 _ _⟩), rfl, ?_⟩
          refine ⟨1 + 1, ⟨Nat.lt_succ_self _, by omega⟩, ?_⟩
          refine ent_of (rl := [(3, 50)]) (nl := []) ⟨rfl, ?_, ?_, ⟨⟨Nat.le_of_ble_eq_true rfl, subR_eq (show stepG es g (dirT es g L (1) I' K' 1) I' K' (0) (-1) = _ by unfold stepG; rw [← hE]) rfl⟩, trivial⟩, rfl, rfl, (by first | exact Nat.zero_le _ | exact Nat.le_of_ble_eq_true rfl), trivial, ⟨⟨(by first | exact Nat.zero_le _ | exact Nat.le_of_ble_eq_true rfl), (by first | exact Nat.zero_le _ | exact Nat.le_of_ble_eq_true rfl)⟩, trivial⟩⟩ <;> (repeat' (first | exact trivial | exact SameL.refl _ | exact ep_seal rfl rfl | assumption | exact congrArg (Value.int _) (by assumption) | exact rfl | exact Nat.le_of_ble_eq_true rfl | decide | apply And.intro | apply all1 | apply all2 | apply all3 | apply all4 | apply all5))
        | 2, _ =>
          have ok0 := okD 2
          have ha : w64 (I' + (-1)) = (I' + (-1)) := w64_in (by unfold inG at hin; omega)
          have hb : w64 (K' + (-1)) = (K' + (-1)) := w64_in (by unfold inG at hin; omega)
          have hskip : ¬ inG g (I' + (-1)) (K' + (-1)) → dirT es g L (1) I' K' (2 + 1) = dirT es g L (1) I' K' 2 := fun h => step_skip h
          refine ⟨2, rfl, ?_⟩
          refine if_dec (fun q0 => ?_) (fun q => ?_)
          rotate_left
          · refine ⟨2 + 1, ⟨Nat.lt_succ_self _, by omega⟩, ?_⟩
            refine ent_of (rl := []) (nl := []) ⟨rfl, ?_, ?_, ⟨⟨Nat.le_of_ble_eq_true rfl, subR_eq (hskip (fun h => by unfold inG at h; have q : ¬ w64 (I' + (-1)) ≥ 0 := q; rw [ha] at q; omega)) rfl⟩, trivial⟩, rfl, rfl, (by first | exact Nat.zero_le _ | exact Nat.le_of_ble_eq_true rfl), trivial, trivial⟩ <;> (repeat' (first | exact trivial | exact SameL.refl _ | exact ep_seal rfl rfl | assumption | exact congrArg (Value.int _) (by assumption) | exact rfl | exact Nat.le_of_ble_eq_true rfl | decide | apply And.intro | apply all1 | apply all2 | apply all3 | apply all4 | apply all5))
          refine if_dec (fun q1 => ?_) (fun q => ?_)
          rotate_left
          · refine ⟨2 + 1, ⟨Nat.lt_succ_self _, by omega⟩, ?_⟩
            refine ent_of (rl := []) (nl := []) ⟨rfl, ?_, ?_, ⟨⟨Nat.le_of_ble_eq_true rfl, subR_eq (hskip (fun h => by unfold inG at h; have q : ¬ w64 (K' + (-1)) ≥ 0 := q; rw [hb] at q; omega)) rfl⟩, trivial⟩, rfl, rfl, (by first | exact Nat.zero_le _ | exact Nat.le_of_ble_eq_true rfl), trivial, trivial⟩ <;> (repeat' (first | exact trivial | exact SameL.refl _ | exact ep_seal rfl rfl | assumption | exact congrArg (Value.int _) (by assumption) | exact rfl | exact Nat.le_of_ble_eq_true rfl | decide | apply And.intro | apply all1 | apply all2 | apply all3 | apply all4 | apply all5))
          refine if_dec (fun q2 => ?_) (fun q => ?_)
          rotate_left
          · refine ⟨2 + 1, ⟨Nat.lt_succ_self _, by omega⟩, ?_⟩
            refine ent_of (rl := []) (nl := []) ⟨rfl, ?_, ?_, ⟨⟨Nat.le_of_ble_eq_true rfl, subR_eq (hskip (fun h => by unfold inG at h; have q : ¬ w64 (I' + (-1)) < g.w := q; rw [ha] at q; omega)) rfl⟩, trivial⟩, rfl, rfl, (by first | exact Nat.zero_le _ | exact Nat.le_of_ble_eq_true rfl), trivial, trivial⟩ <;> (repeat' (first | exact trivial | exact SameL.refl _ | exact ep_seal rfl rfl | assumption | exact congrArg (Value.int _) (by assumption) | exact rfl | exact Nat.le_of_ble_eq_true rfl | decide | apply And.intro | apply all1 | apply all2 | apply all3 | apply all4 | apply all5))
          refine if_dec (fun q3 => ?_) (fun q => ?_)
          rotate_left
          · refine ⟨2 + 1, ⟨Nat.lt_succ_self _, by omega⟩, ?_⟩
            refine ent_of (rl := []) (nl := []) ⟨rfl, ?_, ?_, ⟨⟨Nat.le_of_ble_eq_true rfl, subR_eq (hskip (fun h => by unfold inG at h; have q : ¬ w64 (K' + (-1)) < g.h := q; rw [hb] at q; omega)) rfl⟩, trivial⟩, rfl, rfl, (by first | exact Nat.zero_le _ | exact Nat.le_of_ble_eq_true rfl), trivial, trivial⟩ <;> (repeat' (first | exact trivial | exact SameL.refl _ | exact ep_seal rfl rfl | assumption | exact congrArg (Value.int _) (by assumption) | exact rfl | exact Nat.le_of_ble_eq_true rfl | decide | apply And.intro | apply all1 | apply all2 | apply all3 | apply all4 | apply all5))
          have q0 : w64 (I' + (-1)) ≥ 0 := q0
          have q1 : w64 (K' + (-1)) ≥ 0 := q1
          have q2 : w64 (I' + (-1)) < g.w := q2
          have q3 : w64 (K' + (-1)) < g.h := q3
          rw [ha] at q0 q2
          rw [hb] at q1 q3
          have hn : inG g (I' + (-1)) (K' + (-1)) := ⟨by omega, by omega, by omega, by omega⟩
          have hx := ixG_w hg hn
          have hxl := ixG_lt hg hn
          rw [← ha, ← hb] at hx
          have hl0 := ok0.1
          have hE : (dirT es g L (1) I' K' 2).getD (Int.toNat (w64 (w64 (w64 (K' + (-1)) * g.w) + w64 (I' + (-1))))) default = knG g (dirT es g L (1) I' K' 2) (I' + (-1)) (K' + (-1)) := by rw [hx, Int.toNat_natCast, ha, hb]; unfold knG; rw [if_pos hn]
          refine ⟨⟨by show 0 ≤ w64 (w64 (w64 (K' + (-1)) * g.w) + w64 (I' + (-1))); rw [hx]; omega, by show w64 (w64 (w64 (K' + (-1)) * g.w) + w64 (I' + (-1))) < ((dirT es g L (1) I' K' 2).length : Int); rw [hx, ha, hb]; omega⟩, ?_⟩
          refine ⟨by show Int.toNat (w64 (w64 (w64 (K' + (-1)) * g.w) + w64 (I' + (-1)))) < (dirT es g L (1) I' K' 2).length; rw [hx, Int.toNat_natCast, ha, hb]; omega, ?_⟩
          refine ⟨_, _, offL_at hes hg ok0 (i := I') (k := K') (e := (dirT es g L (1) I' K' 2).getD (Int.toNat (w64 (w64 (w64 (K' + (-1)) * g.w) + w64 (I' + (-1))))) default) hin (by rw [hE]; exact ⟨by unfold knG; rw [if_pos hn]; exact (ok0.2 _ (getD_mem' (by omega))).1, knG_lt hg ok0 _ _⟩), rfl, ?_⟩
          refine ⟨2 + 1, ⟨Nat.lt_succ_self _, by omega⟩, ?_⟩
          refine ent_of (rl := [(3, 50)]) (nl := []) ⟨rfl, ?_, ?_, ⟨⟨Nat.le_of_ble_eq_true rfl, subR_eq (show stepG es g (dirT es g L (1) I' K' 2) I' K' (-1) (-1) = _ by unfold stepG; rw [← hE]) rfl⟩, trivial⟩, rfl, rfl, (by first | exact Nat.zero_le _ | exact Nat.le_of_ble_eq_true rfl), trivial, ⟨⟨(by first | exact Nat.zero_le _ | exact Nat.le_of_ble_eq_true rfl), (by first | exact Nat.zero_le _ | exact Nat.le_of_ble_eq_true rfl)⟩, trivial⟩⟩ <;> (repeat' (first | exact trivial | exact SameL.refl _ | exact ep_seal rfl rfl | assumption | exact congrArg (Value.int _) (by assumption) | exact rfl | exact Nat.le_of_ble_eq_true rfl | decide | apply And.intro | apply all1 | apply all2 | apply all3 | apply all4 | apply all5))
        | 3, _ =>
          have ok0 := okD 3
          have ha : w64 (I' + (1)) = (I' + (1)) := w64_in (by unfold inG at hin; omega)
          have hb : w64 (K' + (-1)) = (K' + (-1)) := w64_in (by unfold inG at hin; omega)
          have hskip : ¬ inG g (I' + (1)) (K' + (-1)) → dirT es g L (1) I' K' (3 + 1) = dirT es g L (1) I' K' 3 := fun h => step_skip h
          refine ⟨3, rfl, ?_⟩
          refine if_dec (fun q0 => ?_) (fun q => ?_)
          rotate_left
          · refine ⟨3 + 1, ⟨Nat.lt_succ_self _, by omega⟩, ?_⟩
            refine ent_of (rl := []) (nl := []) ⟨rfl, ?_, ?_, ⟨⟨Nat.le_of_ble_eq_true rfl, subR_eq (hskip (fun h => by unfold inG at h; have q : ¬ w64 (I' + (1)) ≥ 0 := q; rw [ha] at q; omega)) rfl⟩, trivial⟩, rfl, rfl, (by first | exact Nat.zero_le _ | exact Nat.le_of_ble_eq_true rfl), trivial, trivial⟩ <;> (repeat' (first | exact trivial | exact SameL.refl _ | exact ep_seal rfl rfl | assumption | exact congrArg (Value.int _) (by assumption) | exact rfl | exact Nat.le_of_ble_eq_true rfl | decide | apply And.intro | apply all1 | apply all2 | apply all3 | apply all4 | apply all5))
          refine if_dec (fun q1 => ?_) (fun q => ?_)
          rotate_left
          · refine ⟨3 + 1, ⟨Nat.lt_succ_self _, by omega⟩, ?_⟩
            refine ent_of (rl := []) (nl := []) ⟨rfl, ?_, ?_, ⟨⟨Nat.le_of_ble_eq_true rfl, subR_eq (hskip (fun h => by unfold inG at h; have q : ¬ w64 (K' + (-1)) ≥ 0 := q; rw [hb] at q; omega)) rfl⟩, trivial⟩, rfl, rfl, (by first | exact Nat.zero_le _ | exact Nat.le_of_ble_eq_true rfl), trivial, trivial⟩ <;> (repeat' (first | exact trivial | exact SameL.refl _ | exact ep_seal rfl rfl | assumption | exact congrArg (Value.int _) (by assumption) | exact rfl | exact Nat.le_of_ble_eq_true rfl | decide | apply And.intro | apply all1 | apply all2 | apply all3 | apply all4 | apply all5))
          refine if_dec (fun q2 => ?_) (fun q => ?_)
          rotate_left
          · refine ⟨3 + 1, ⟨Nat.lt_succ_self _, by omega⟩, ?_⟩
            refine ent_of (rl := []) (nl := []) ⟨rfl, ?_, ?_, ⟨⟨Nat.le_of_ble_eq_true rfl, subR_eq (hskip (fun h => by unfold inG at h; have q : ¬ w64 (I' + (1)) < g.w := q; rw [ha] at q; omega)) rfl⟩, trivial⟩, rfl, rfl, (by first | exact Nat.zero_le _ | exact Nat.le_of_ble_eq_true rfl), trivial, trivial⟩ <;> (repeat' (first | exact trivial | exact SameL.refl _ | exact ep_seal rfl rfl | assumption | exact congrArg (Value.int _) (by assumption) | exact rfl | exact Nat.le_of_ble_eq_true rfl | decide | apply And.intro | apply all1 | apply all2 | apply all3 | apply all4 | apply all5))
          refine if_dec (fun q3 => ?_) (fun q => ?_)
          rotate_left
          · refine ⟨3 + 1, ⟨Nat.lt_succ_self _, by omega⟩, ?_⟩
            refine ent_of (rl := []) (nl := []) ⟨rfl, ?_, ?_, ⟨⟨Nat.le_of_ble_eq_true rfl, subR_eq (hskip (fun h => by unfold inG at h; have q : ¬ w64 (K' + (-1)) < g.h := q; rw [hb] at q; omega)) rfl⟩, trivial⟩, rfl, rfl, (by first | exact Nat.zero_le _ | exact Nat.le_of_ble_eq_true rfl), trivial, trivial⟩ <;> (repeat' (first | exact trivial | exact SameL.refl _ | exact ep_seal rfl rfl | assumption | exact congrArg (Value.int _) (by assumption) | exact rfl | exact Nat.le_of_ble_eq_true rfl | decide | apply And.intro | apply all1 | apply all2 | apply all3 | apply all4 | apply all5))
          have q0 : w64 (I' + (1)) ≥ 0 := q0
          have q1 : w64 (K' + (-1)) ≥ 0 := q1
          have q2 : w64 (I' + (1)) < g.w := q2
          have q3 : w64 (K' + (-1)) < g.h := q3
          rw [ha] at q0 q2
          rw [hb] at q1 q3
          have hn : inG g (I' + (1)) (K' + (-1)) := ⟨by omega, by omega, by omega, by omega⟩
          have hx := ixG_w hg hn
          have hxl := ixG_lt hg hn
          rw [← ha, ← hb] at hx
          have hl0 := ok0.1
          have hE : (dirT es g L (1) I' K' 3).getD (Int.toNat (w64 (w64 (w64 (K' + (-1)) * g.w) + w64 (I' + (1))))) default = knG g (dirT es g L (1) I' K' 3) (I' + (1)) (K' + (-1)) := by rw [hx, Int.toNat_natCast, ha, hb]; unfold knG; rw [if_pos hn]
          refine ⟨⟨by show 0 ≤ w64 (w64 (w64 (K' + (-1)) * g.w) + w64 (I' + (1))); rw [hx]; omega, by show w64 (w64 (w64 (K' + (-1)) * g.w) + w64 (I' + (1))) < ((dirT es g L (1) I' K' 3).length : Int); rw [hx, ha, hb]; omega⟩, ?_⟩
          refine ⟨by show Int.toNat (w64 (w64 (w64 (K' + (-1)) * g.w) + w64 (I' + (1)))) < (dirT es g L (1) I' K' 3).length; rw [hx, Int.toNat_natCast, ha, hb]; omega, ?_⟩
          refine ⟨_, _, offL_at hes hg ok0 (i := I') (k := K') (e := (dirT es g L (1) I' K' 3).getD (Int.toNat (w64 (w64 (w64 (K' + (-1)) * g.w) + w64 (I' + (1))))) default) hin (by rw [hE]; exact ⟨by unfold knG; rw [if_pos hn]; exact (ok0.2 _ (getD_mem' (by omega))).1, knG_lt hg ok0 _ _⟩), rfl, ?_⟩
          refine ⟨3 + 1, ⟨Nat.lt_succ_self _, by omega⟩, ?_⟩
          refine ent_of (rl := [(3, 50)]) (nl := []) ⟨rfl, ?_, ?_, ⟨⟨Nat.le_of_ble_eq_true rfl, subR_eq (show stepG es g (dirT es g L (1) I' K' 3) I' K' (1) (-1) = _ by unfold stepG; rw [← hE]) rfl⟩, trivial⟩, rfl, rfl, (by first | exact Nat.zero_le _ | exact Nat.le_of_ble_eq_true rfl), trivial, ⟨⟨(by first | exact Nat.zero_le _ | exact Nat.le_of_ble_eq_true rfl), (by first | exact Nat.zero_le _ | exact Nat.le_of_ble_eq_true rfl)⟩, trivial⟩⟩ <;> (repeat' (first | exact trivial | exact SameL.refl _ | exact ep_seal rfl rfl | assumption | exact congrArg (Value.int _) (by assumption) | exact rfl | exact Nat.le_of_ble_eq_true rfl | decide | apply And.intro | apply all1 | apply all2 | apply all3 | apply all4 | apply all5))
      · have hin : n = szG g := by omega
        subst hin
        have okR := row1_ok hg okS g.h.toNat
        have f2ok := fun n => flat2_ok (es := es) hg okR n
        refine loop_nat (szG g) (SLc 1 es g (flat2 es g (row1 es g (seedTo es g es.length) g.h.toNat))) ?_ (fun n hn => ?_)
        · refine ent_of (rl := []) (nl := []) ⟨rfl, ?_, ?_, ⟨⟨Nat.le_of_ble_eq_true rfl, subR_eq ((flat2_zero _ _ _).trans (flat1_all hw0).symm) rfl⟩, trivial⟩, rfl, rfl, (by first | exact Nat.zero_le _ | exact Nat.le_of_ble_eq_true rfl), trivial, trivial⟩ <;> (repeat' (first | exact trivial | exact SameL.refl _ | exact ep_seal rfl rfl | assumption | exact congrArg (Value.int _) (by assumption) | exact rfl | exact Nat.le_of_ble_eq_true rfl | decide | apply And.intro | apply all1 | apply all2 | apply all3 | apply all4 | apply all5))
          exact congrArg (fun n : Nat => Value.int .i64 (n : Int)) ((f1ok _).1)
        refine if_dec (fun hlt => ?_) (fun hge => ?_)
        · have hlt : n < szG g := by omega
          have hn' := w64_succ hlt (by omega)
          have okF := f2ok n
          have hnd := Nat.div_add_mod n g.w.toNat
          have hr := Nat.mod_lt n hw0
          have hq : n / g.w.toNat < g.h.toNat := Nat.div_lt_of_lt_mul (by unfold szG at hlt; rw [Nat.mul_comm]; exact hlt)
          have mm := back_mod (n := n) hg hlt
          have m1 := mm.1
          have m2 := mm.2
          rw [← okF.1] at m1 m2
          have hin : inG g (g.w - 1 - ((n % g.w.toNat : Nat) : Int)) (g.h - 1 - ((n / g.w.toNat : Nat) : Int)) := by
            clear m1 m2 mm hnd
            generalize n / g.w.toNat = q at *
            generalize n % g.w.toNat = r at *
            unfold inG; omega
          have hs1 := flat2_succ (es := es) (g := g) (l := row1 es g (seedTo es g es.length) g.h.toNat) hw0 n
          generalize hI : (g.w - 1 - ((n % g.w.toNat : Nat) : Int)) = I' at *
          generalize hK : (g.h - 1 - ((n / g.w.toNat : Nat) : Int)) = K' at *
          obtain ⟨L, hL⟩ : ∃ L, flat2 es g (row1 es g (seedTo es g es.length) g.h.toNat) n = L := ⟨_, rfl⟩
          rw [hL] at okF hs1
          refine ⟨by show g.w ≠ 0; omega, ?_⟩
          refine ⟨by show g.w ≠ 0; omega, ?_⟩
          refine loop_nat 4 (SLd 1 (-1) es g L n I' K') ?_ (fun r hr => ?_)
          · refine ent_of (rl := [(4, 42)]) (nl := []) ⟨rfl, ?_, ?_, ⟨⟨Nat.le_of_ble_eq_true rfl, subR_eq hL.symm rfl⟩, trivial⟩, rfl, rfl, (by first | exact Nat.zero_le _ | exact Nat.le_of_ble_eq_true rfl), trivial, ⟨⟨(by first | exact Nat.zero_le _ | exact Nat.le_of_ble_eq_true rfl), (by first | exact Nat.zero_le _ | exact Nat.le_of_ble_eq_true rfl)⟩, trivial⟩⟩ <;> (repeat' (first | exact trivial | exact SameL.refl _ | exact ep_seal rfl rfl | assumption | exact congrArg (Value.int _) (by assumption) | exact rfl | exact Nat.le_of_ble_eq_true rfl | decide | apply And.intro | apply all1 | apply all2 | apply all3 | apply all4 | apply all5))
            all_goals first | exact congrArg (Value.int .i64) m1 | exact congrArg (Value.int .i64) m2
          have okD := dirT_ok (d := -1) (i := I') (k := K') hg okF
          refine if_dec (fun hlt4 => ?_) (fun hge4 => ?_)
          rotate_left
          · have hr4 : r = 4 := by have : ¬ (r : Int) < 4 := hge4; omega
            subst hr4
            refine ⟨n + 1, ⟨Nat.lt_succ_self _, hlt⟩, ?_⟩
            refine ent_of (rl := []) (nl := []) ⟨rfl, ?_, ?_, ⟨⟨Nat.le_of_ble_eq_true rfl, subR_eq hs1 rfl⟩, trivial⟩, rfl, rfl, (by first | exact Nat.zero_le _ | exact Nat.le_of_ble_eq_true rfl), trivial, trivial⟩ <;> (repeat' (first | exact trivial | exact SameL.refl _ | exact ep_seal rfl rfl | assumption | exact congrArg (Value.int _) (by assumption) | exact rfl | exact Nat.le_of_ble_eq_true rfl | decide | apply And.intro | apply all1 | apply all2 | apply all3 | apply all4 | apply all5))
          have hr4 : r < 4 := by have : (r : Int) < 4 := hlt4; omega
          match r, hr4 with
          | 0, _ =>
            have ok0 := okD 0
            have ha : w64 (I' + (1)) = (I' + (1)) := w64_in (by unfold inG at hin; omega)
            have hb : w64 (K' + (0)) = (K' + (0)) := w64_in (by unfold inG at hin; omega)
            have hskip : ¬ inG g (I' + (1)) (K' + (0)) → dirT es g L (-1) I' K' (0 + 1) = dirT es g L (-1) I' K' 0 := fun h => step_skip h
            refine ⟨0, rfl, ?_⟩
            refine if_dec (fun q0 => ?_) (fun q => ?_)
            rotate_left
            · refine ⟨0 + 1, ⟨Nat.lt_succ_self _, by omega⟩, ?_⟩
              refine ent_of (rl := []) (nl := []) ⟨rfl, ?_, ?_, ⟨⟨Nat.le_of_ble_eq_true rfl, subR_eq (hskip (fun h => by unfold inG at h; have q : ¬ w64 (I' + (1)) ≥ 0 := q; rw [ha] at q; omega)) rfl⟩, trivial⟩, rfl, rfl, (by first | exact Nat.zero_le _ | exact Nat.le_of_ble_eq_true rfl), trivial, trivial⟩ <;> (repeat' (first | exact trivial | exact SameL.refl _ | exact ep_seal rfl rfl | assumption | exact congrArg (Value.int _) (by assumption) | exact rfl | exact Nat.le_of_ble_eq_true rfl | decide | apply And.intro | apply all1 | apply all2 | apply all3 | apply all4 | apply all5))
            refine if_dec (fun q1 => ?_) (fun q => ?_)
            rotate_left
            · refine ⟨0 + 1, ⟨Nat.lt_succ_self _, by omega⟩, ?_⟩
              refine ent_of (rl := []) (nl := []) ⟨rfl, ?_, ?_, ⟨⟨Nat.le_of_ble_eq_true rfl, subR_eq (hskip (fun h => by unfold inG at h; have q : ¬ w64 (K' + (0)) ≥ 0 := q; rw [hb] at q; omega)) rfl⟩, trivial⟩, rfl, rfl, (by first | exact Nat.zero_le _ | exact Nat.le_of_ble_eq_true rfl), trivial, trivial⟩ <;> (repeat' (first | exact trivial | exact SameL.refl _ | exact ep_seal rfl rfl | assumption | exact congrArg (Value.int _) (by assumption) | exact rfl | exact Nat.le_of_ble_eq_true rfl | decide | apply And.intro | apply all1 | apply all2 | apply all3 | apply all4 | apply all5))
            refine if_dec (fun q2 => ?_) (fun q => ?_)
            rotate_left
            · refine ⟨0 + 1, ⟨Nat.lt_succ_self _, by omega⟩, ?_⟩
              refine ent_of (rl := []) (nl := []) ⟨rfl, ?_, ?_, ⟨⟨Nat.le_of_ble_eq_true rfl, subR_eq (hskip (fun h => by unfold inG at h; have q : ¬ w64 (I' + (1)) < g.w := q; rw [ha] at q; omega)) rfl⟩, trivial⟩, rfl, rfl, (by first | exact Nat.zero_le _ | exact Nat.le_of_ble_eq_true rfl), trivial, trivial⟩ <;> (repeat' (first | exact trivial | exact SameL.refl _ | exact ep_seal rfl rfl | assumption | exact congrArg (Value.int _) (by assumption) | exact rfl | exact Nat.le_of_ble_eq_true rfl | decide | apply And.intro | apply all1 | apply all2 | apply all3 | apply all4 | apply all5))
            refine if_dec (fun q3 => ?_) (fun q => ?_)
            rotate_left
            · refine ⟨0 + 1, ⟨Nat.lt_succ_self _, by omega⟩, ?_⟩
              refine ent_of (rl := []) (nl := []) ⟨rfl, ?_, ?_, ⟨⟨Nat.le_of_ble_eq_true rfl, subR_eq (hskip (fun h => by unfold inG at h; have q : ¬ w64 (K' + (0)) < g.h := q; rw [hb] at q; omega)) rfl⟩, trivial⟩, rfl, rfl, (by first | exact Nat.zero_le _ | exact Nat.le_of_ble_eq_true rfl), trivial, trivial⟩ <;> (repeat' (first | exact trivial | exact SameL.refl _ | exact ep_seal rfl rfl | assumption | exact congrArg (Value.int _) (by assumption) | exact rfl | exact Nat.le_of_ble_eq_true rfl | decide | apply And.intro | apply all1 | apply all2 | apply all3 | apply all4 | apply all5))
            have q0 : w64 (I' + (1)) ≥ 0 := q0
            have q1 : w64 (K' + (0)) ≥ 0 := q1
            have q2 : w64 (I' + (1)) < g.w := q2
            have q3 : w64 (K' + (0)) < g.h := q3
            rw [ha] at q0 q2
            rw [hb] at q1 q3
            have hn : inG g (I' + (1)) (K' + (0)) := ⟨by omega, by omega, by omega, by omega⟩
            have hx := ixG_w hg hn
            have hxl := ixG_lt hg hn
            rw [← ha, ← hb] at hx
            have hl0 := ok0.1
            have hE : (dirT es g L (-1) I' K' 0).getD (Int.toNat (w64 (w64 (w64 (K' + (0)) * g.w) + w64 (I' + (1))))) default = knG g (dirT es g L (-1) I' K' 0) (I' + (1)) (K' + (0)) := by rw [hx, Int.toNat_natCast, ha, hb]; unfold knG; rw [if_pos hn]
            refine ⟨⟨by show 0 ≤ w64 (w64 (w64 (K' + (0)) * g.w) + w64 (I' + (1))); rw [hx]; omega, by show w64 (w64 (w64 (K' + (0)) * g.w) + w64 (I' + (1))) < ((dirT es g L (-1) I' K' 0).length : Int); rw [hx, ha, hb]; omega⟩, ?_⟩
            refine ⟨by show Int.toNat (w64 (w64 (w64 (K' + (0)) * g.w) + w64 (I' + (1)))) < (dirT es g L (-1) I' K' 0).length; rw [hx, Int.toNat_natCast, ha, hb]; omega, ?_⟩
            refine ⟨_, _, offL_at hes hg ok0 (i := I') (k := K') (e := (dirT es g L (-1) I' K' 0).getD (Int.toNat (w64 (w64 (w64 (K' + (0)) * g.w) + w64 (I' + (1))))) default) hin (by rw [hE]; exact ⟨by unfold knG; rw [if_pos hn]; exact (ok0.2 _ (getD_mem' (by omega))).1, knG_lt hg ok0 _ _⟩), rfl, ?_⟩
            refine ⟨0 + 1, ⟨Nat.lt_succ_self _, by omega⟩, ?_⟩
            refine ent_of (rl := [(3, 50)]) (nl := []) ⟨rfl, ?_, ?_, ⟨⟨Nat.le_of_ble_eq_true rfl, subR_eq (show stepG es g (dirT es g L (-1) I' K' 0) I' K' (1) (0) = _ by unfold stepG; rw [← hE]) rfl⟩, trivial⟩, rfl, rfl, (by first | exact Nat.zero_le _ | exact Nat.le_of_ble_eq_true rfl), trivial, ⟨⟨(by first | exact Nat.zero_le _ | exact Nat.le_of_ble_eq_true rfl), (by first | exact Nat.zero_le _ | exact Nat.le_of_ble_eq_true rfl)⟩, trivial⟩⟩ <;> (repeat' (first | exact trivial | exact SameL.refl _ | exact ep_seal rfl rfl | assumption | exact congrArg (Value.int _) (by assumption) | exact rfl | exact Nat.le_of_ble_eq_true rfl | decide | apply And.intro | apply all1 | apply all2 | apply all3 | apply all4 | apply all5))
          | 1, _ =>
            have ok0 := okD 1
            have ha : w64 (I' + (0)) = (I' + (0)) := w64_in (by unfold inG at hin; omega)
            have hb : w64 (K' + (1)) = (K' + (1)) := w64_in (by unfold inG at hin; omega)
            have hskip : ¬ inG g (I' + (0)) (K' + (1)) → dirT es g L (-1) I' K' (1 + 1) = dirT es g L (-1) I' K' 1 := fun h => step_skip h
            refine ⟨1, rfl, ?_⟩
            refine if_dec (fun q0 => ?_) (fun q => ?_)
            rotate_left
            · refine ⟨1 + 1, ⟨Nat.lt_succ_self _, by omega⟩, ?_⟩
              refine ent_of (rl := []) (nl := []) ⟨rfl, ?_, ?_, ⟨⟨Nat.le_of_ble_eq_true rfl, subR_eq (hskip (fun h => by unfold inG at h; have q : ¬ w64 (I' + (0)) ≥ 0 := q; rw [ha] at q; omega)) rfl⟩, trivial⟩, rfl, rfl, (by first | exact Nat.zero_le _ | exact Nat.le_of_ble_eq_true rfl), trivial, trivial⟩ <;> (repeat' (first | exact trivial | exact SameL.refl _ | exact ep_seal rfl rfl | assumption | exact congrArg (Value.int _) (by assumption) | exact rfl | exact Nat.le_of_ble_eq_true rfl | decide | apply And.intro | apply all1 | apply all2 | apply all3 | apply all4 | apply all5))
            refine if_dec (fun q1 => ?_) (fun q => ?_)
            rotate_left
            · refine ⟨1 + 1, ⟨Nat.lt_succ_self _, by omega⟩, ?_⟩
              refine ent_of (rl := []) (nl := []) ⟨rfl, ?_, ?_, ⟨⟨Nat.le_of_ble_eq_true rfl, subR_eq (hskip (fun h => by unfold inG at h; have q : ¬ w64 (K' + (1)) ≥ 0 := q; rw [hb] at q; omega)) rfl⟩, trivial⟩, rfl, rfl, (by first | exact Nat.zero_le _ | exact Nat.le_of_ble_eq_true rfl), trivial, trivial⟩ <;> (repeat' (first | exact trivial | exact SameL.refl _ | exact ep_seal rfl rfl | assumption | exact congrArg (Value.int _) (by assumption) | exact rfl | exact Nat.le_of_ble_eq_true rfl | decide | apply And.intro | apply all1 | apply all2 | apply all3 | apply all4 | apply all5))
            refine if_dec (fun q2 => ?_) (fun q => ?_)
            rotate_left
            · refine ⟨1 + 1, ⟨Nat.lt_succ_self _, by omega⟩, ?_⟩
              refine ent_of (rl := []) (nl := []) ⟨rfl, ?_, ?_, ⟨⟨Nat.le_of_ble_eq_true rfl, subR_eq (hskip (fun h => by unfold inG at h; have q : ¬ w64 (I' + (0)) < g.w := q; rw [ha] at q; omega)) rfl⟩, trivial⟩, rfl, rfl, (by first | exact Nat.zero_le _ | exact Nat.le_of_ble_eq_true rfl), trivial, trivial⟩ <;> (repeat' (first | exact trivial | exact SameL.refl _ | exact ep_seal rfl rfl | assumption | exact congrArg (Value.int _) (by assumption) | exact rfl | exact Nat.le_of_ble_eq_true rfl | decide | apply And.intro | apply all1 | apply all2 | apply all3 | apply all4 | apply all5))
            refine if_dec (fun q3 => ?_) (fun q => ?_)
            rotate_left
            · refine ⟨1 + 1, ⟨Nat.lt_succ_self _, by omega⟩, ?_⟩
              refine ent_of (rl := []) (nl := []) ⟨rfl, ?_, ?_, ⟨⟨Nat.le_of_ble_eq_true rfl, subR_eq (hskip (fun h => by unfold inG at h; have q : ¬ w64 (K' + (1)) < g.h := q; rw [hb] at q; omega)) rfl⟩, trivial⟩, rfl, rfl, (by first | exact Nat.zero_le _ | exact Nat.le_of_ble_eq_true rfl), trivial, trivial⟩ <;> (repeat' (first | exact trivial | exact SameL.refl _ | exact ep_seal rfl rfl | assumption | exact congrArg (Value.int _) (by assumption) | exact rfl | exact Nat.le_of_ble_eq_true rfl | decide | apply And.intro | apply all1 | apply all2 | apply all3 | apply all4 | apply all5))
            have q0 : w64 (I' + (0)) ≥ 0 := q0
            have q1 : w64 (K' + (1)) ≥ 0 := q1
            have q2 : w64 (I' + (0)) < g.w := q2
            have q3 : w64 (K' + (1)) < g.h := q3
            rw [ha] at q0 q2
            rw [hb] at q1 q3
            have hn : inG g (I' + (0)) (K' + (1)) := ⟨by omega, by omega, by omega, by omega⟩
            have hx := ixG_w hg hn
            have hxl := ixG_lt hg hn
            rw [← ha, ← hb] at hx
            have hl0 := ok0.1
            have hE : (dirT es g L (-1) I' K' 1).getD (Int.toNat (w64 (w64 (w64 (K' + (1)) * g.w) + w64 (I' + (0))))) default = knG g (dirT es g L (-1) I' K' 1) (I' + (0)) (K' + (1)) := by rw [hx, Int.toNat_natCast, ha, hb]; unfold knG; rw [if_pos hn]
            refine ⟨⟨by show 0 ≤ w64 (w64 (w64 (K' + (1)) * g.w) + w64 (I' + (0))); rw [hx]; omega, by show w64 (w64 (w64 (K' + (1)) * g.w) + w64 (I' + (0))) < ((dirT es g L (-1) I' K' 1).length : Int); rw [hx, ha, hb]; omega⟩, ?_⟩
            refine ⟨by show Int.toNat (w64 (w64 (w64 (K' + (1)) * g.w) + w64 (I' + (0)))) < (dirT es g L (-1) I' K' 1).length; rw [hx, Int.toNat_natCast, ha, hb]; omega, ?_⟩
            refine ⟨_, _, offL_at hes hg ok0 (i := I') (k := K') (e := (dirT es g L (-1) I' K' 1).getD (Int.toNat (w64 (w64 (w64 (K' + (1)) * g.w) + w64 (I' + (0))))) default) hin (by rw [hE]; exact ⟨by unfold knG; rw [if_pos hn]; exact (ok0.2 _ (getD_mem' (by omega))).1, knG_lt hg ok0 _ _⟩), rfl, ?_⟩
            refine ⟨1 + 1, ⟨Nat.lt_succ_self _, by omega⟩, ?_⟩
            refine ent_of (rl := [(3, 50)]) (nl := []) ⟨rfl, ?_, ?_, ⟨⟨Nat.le_of_ble_eq_true rfl, subR_eq (show stepG es g (dirT es g L (-1) I' K' 1) I' K' (0) (1) = _ by unfold stepG; rw [← hE]) rfl⟩, trivial⟩, rfl, rfl, (by first | exact Nat.zero_le _ | exact Nat.le_of_ble_eq_true rfl), trivial, ⟨⟨(by first | exact Nat.zero_le _ | exact Nat.le_of_ble_eq_true rfl), (by first | exact Nat.zero_le _ | exact Nat.le_of_ble_eq_true rfl)⟩, trivial⟩⟩ <;> (repeat' (first | exact trivial | exact SameL.refl _ | exact ep_seal rfl rfl | assumption | exact congrArg (Value.int _) (by assumption) | exact rfl | exact Nat.le_of_ble_eq_true rfl | decide | apply And.intro | apply all1 | apply all2 | apply all3 | apply all4 | apply all5))
          | 2, _ =>
            have ok0 := okD 2
            have ha : w64 (I' + (1)) = (I' + (1)) := w64_in (by unfold inG at hin; omega)
            have hb : w64 (K' + (1)) = (K' + (1)) := w64_in (by unfold inG at hin; omega)
            have hskip : ¬ inG g (I' + (1)) (K' + (1)) → dirT es g L (-1) I' K' (2 + 1) = dirT es g L (-1) I' K' 2 := fun h => step_skip h
            refine ⟨2, rfl, ?_⟩
            refine if_dec (fun q0 => ?_) (fun q => ?_)
            rotate_left
            · refine ⟨2 + 1, ⟨Nat.lt_succ_self _, by omega⟩, ?_⟩
              refine ent_of (rl := []) (nl := []) ⟨rfl, ?_, ?_, ⟨⟨Nat.le_of_ble_eq_true rfl, subR_eq (hskip (fun h => by unfold inG at h; have q : ¬ w64 (I' + (1)) ≥ 0 := q; rw [ha] at q; omega)) rfl⟩, trivial⟩, rfl, rfl, (by first | exact Nat.zero_le _ | exact Nat.le_of_ble_eq_true rfl), trivial, trivial⟩ <;> (repeat' (first | exact trivial | exact SameL.refl _ | exact ep_seal rfl rfl | assumption | exact congrArg (Value.int _) (by assumption) | exact rfl | exact Nat.le_of_ble_eq_true rfl | decide | apply And.intro | apply all1 | apply all2 | apply all3 | apply all4 | apply all5))
            refine if_dec (fun q1 => ?_) (fun q => ?_)
            rotate_left
            · refine ⟨2 + 1, ⟨Nat.lt_succ_self _, by omega⟩, ?_⟩
              refine ent_of (rl := []) (nl := []) ⟨rfl, ?_, ?_, ⟨⟨Nat.le_of_ble_eq_true rfl, subR_eq (hskip (fun h => by unfold inG at h; have q : ¬ w64 (K' + (1)) ≥ 0 := q; rw [hb] at q; omega)) rfl⟩, trivial⟩, rfl, rfl, (by first | exact Nat.zero_le _ | exact Nat.le_of_ble_eq_true rfl), trivial, trivial⟩ <;> (repeat' (first | exact trivial | exact SameL.refl _ | exact ep_seal rfl rfl | assumption | exact congrArg (Value.int _) (by assumption) | exact rfl | exact Nat.le_of_ble_eq_true rfl | decide | apply And.intro | apply all1 | apply all2 | apply all3 | apply all4 | apply all5))
            refine if_dec (fun q2 => ?_) (fun q => ?_)
            rotate_left
            · refine ⟨2 + 1, ⟨Nat.lt_succ_self _, by omega⟩, ?_⟩
              refine ent_of (rl := []) (nl := []) ⟨rfl, ?_, ?_, ⟨⟨Nat.le_of_ble_eq_true rfl, subR_eq (hskip (fun h => by unfold inG at h; have q : ¬ w64 (I' + (1)) < g.w := q; rw [ha] at q; omega)) rfl⟩, trivial⟩, rfl, rfl, (by first | exact Nat.zero_le _ | exact Nat.le_of_ble_eq_true rfl), trivial, trivial⟩ <;> (repeat' (first | exact trivial | exact SameL.refl _ | exact ep_seal rfl rfl | assumption | exact congrArg (Value.int _) (by assumption) | exact rfl | exact Nat.le_of_ble_eq_true rfl | decide | apply And.intro | apply all1 | apply all2 | apply all3 | apply all4 | apply all5))
            refine if_dec (fun q3 => ?_) (fun q => ?_)
            rotate_left
            · refine ⟨2 + 1, ⟨Nat.lt_succ_self _, by omega⟩, ?_⟩
              refine ent_of (rl := []) (nl := []) ⟨rfl, ?_, ?_, ⟨⟨Nat.le_of_ble_eq_true rfl, subR_eq (hskip (fun h => by unfold inG at h; have q : ¬ w64 (K' + (1)) < g.h := q; rw [hb] at q; omega)) rfl⟩, trivial⟩, rfl, rfl, (by first | exact Nat.zero_le _ | exact Nat.le_of_ble_eq_true rfl), trivial, trivial⟩ <;> (repeat' (first | exact trivial | exact SameL.refl _ | exact ep_seal rfl rfl | assumption | exact congrArg (Value.int _) (by assumption) | exact rfl | exact Nat.le_of_ble_eq_true rfl | decide | apply And.intro | apply all1 | apply all2 | apply all3 | apply all4 | apply all5))
            have q0 : w64 (I' + (1)) ≥ 0 := q0
            have q1 : w64 (K' + (1)) ≥ 0 := q1
            have q2 : w64 (I' + (1)) < g.w := q2
            have q3 : w64 (K' + (1)) < g.h := q3
            rw [ha] at q0 q2
            rw [hb] at q1 q3
            have hn : inG g (I' + (1)) (K' + (1)) := ⟨by omega, by omega, by omega, by omega⟩
            have hx := ixG_w hg hn
            have hxl := ixG_lt hg hn
            rw [← ha, ← hb] at hx
            have hl0 := ok0.1
            have hE : (dirT es g L (-1) I' K' 2).getD (Int.toNat (w64 (w64 (w64 (K' + (1)) * g.w) + w64 (I' + (1))))) default = knG g (dirT es g L (-1) I' K' 2) (I' + (1)) (K' + (1)) := by rw [hx, Int.toNat_natCast, ha, hb]; unfold knG; rw [if_pos hn]
            refine ⟨⟨by show 0 ≤ w64 (w64 (w64 (K' + (1)) * g.w) + w64 (I' + (1))); rw [hx]; omega, by show w64 (w64 (w64 (K' + (1)) * g.w) + w64 (I' + (1))) < ((dirT es g L (-1) I' K' 2).length : Int); rw [hx, ha, hb]; omega⟩, ?_⟩
            refine ⟨by show Int.toNat (w64 (w64 (w64 (K' + (1)) * g.w) + w64 (I' + (1)))) < (dirT es g L (-1) I' K' 2).length; rw [hx, Int.toNat_natCast, ha, hb]; omega, ?_⟩
            refine ⟨_, _, offL_at hes hg ok0 (i := I') (k := K') (e := (dirT es g L (-1) I' K' 2).getD (Int.toNat (w64 (w64 (w64 (K' + (1)) * g.w) + w64 (I' + (1))))) default) hin (by rw [hE]; exact ⟨by unfold knG; rw [if_pos hn]; exact (ok0.2 _ (getD_mem' (by omega))).1, knG_lt hg ok0 _ _⟩), rfl, ?_⟩
            refine ⟨2 + 1, ⟨Nat.lt_succ_self _, by omega⟩, ?_⟩
            refine ent_of (rl := [(3, 50)]) (nl := []) ⟨rfl, ?_, ?_, ⟨⟨Nat.le_of_ble_eq_true rfl, subR_eq (show stepG es g (dirT es g L (-1) I' K' 2) I' K' (1) (1) = _ by unfold stepG; rw [← hE]) rfl⟩, trivial⟩, rfl, rfl, (by first | exact Nat.zero_le _ | exact Nat.le_of_ble_eq_true rfl), trivial, ⟨⟨(by first | exact Nat.zero_le _ | exact Nat.le_of_ble_eq_true rfl), (by first | exact Nat.zero_le _ | exact Nat.le_of_ble_eq_true rfl)⟩, trivial⟩⟩ <;> (repeat' (first | exact trivial | exact SameL.refl _ | exact ep_seal rfl rfl | assumption | exact congrArg (Value.int _) (by assumption) | exact rfl | exact Nat.le_of_ble_eq_true rfl | decide | apply And.intro | apply all1 | apply all2 | apply all3 | apply all4 | apply all5))
          | 3, _ =>
            have ok0 := okD 3
            have ha : w64 (I' + (-1)) = (I' + (-1)) := w64_in (by unfold inG at hin; omega)
            have hb : w64 (K' + (1)) = (K' + (1)) := w64_in (by unfold inG at hin; omega)
            have hskip : ¬ inG g (I' + (-1)) (K' + (1)) → dirT es g L (-1) I' K' (3 + 1) = dirT es g L (-1) I' K' 3 := fun h => step_skip h
            refine ⟨3, rfl, ?_⟩
            refine if_dec (fun q0 => ?_) (fun q => ?_)
            rotate_left
            · refine ⟨3 + 1, ⟨Nat.lt_succ_self _, by omega⟩, ?_⟩
              refine ent_of (rl := []) (nl := []) ⟨rfl, ?_, ?_, ⟨⟨Nat.le_of_ble_eq_true rfl, subR_eq (hskip (fun h => by unfold inG at h; have q : ¬ w64 (I' + (-1)) ≥ 0 := q; rw [ha] at q; omega)) rfl⟩, trivial⟩, rfl, rfl, (by first | exact Nat.zero_le _ | exact Nat.le_of_ble_eq_true rfl), trivial, trivial⟩ <;> (repeat' (first | exact trivial | exact SameL.refl _ | exact ep_seal rfl rfl | assumption | exact congrArg (Value.int _) (by assumption) | exact rfl | exact Nat.le_of_ble_eq_true rfl | decide | apply And.intro | apply all1 | apply all2 | apply all3 | apply all4 | apply all5))
            refine if_dec (fun q1 => ?_) (fun q => ?_)
            rotate_left
            · refine ⟨3 + 1, ⟨Nat.lt_succ_self _, by omega⟩, ?_⟩
              refine ent_of (rl := []) (nl := []) ⟨rfl, ?_, ?_, ⟨⟨Nat.le_of_ble_eq_true rfl, subR_eq (hskip (fun h => by unfold inG at h; have q : ¬ w64 (K' + (1)) ≥ 0 := q; rw [hb] at q; omega)) rfl⟩, trivial⟩, rfl, rfl, (by first | exact Nat.zero_le _ | exact Nat.le_of_ble_eq_true rfl), trivial, trivial⟩ <;> (repeat' (first | exact trivial | exact SameL.refl _ | exact ep_seal rfl rfl | assumption | exact congrArg (Value.int _) (by assumption) | exact rfl | exact Nat.le_of_ble_eq_true rfl | decide | apply And.intro | apply all1 | apply all2 | apply all3 | apply all4 | apply all5))
            refine if_dec (fun q2 => ?_) (fun q => ?_)
            rotate_left
            · refine ⟨3 + 1, ⟨Nat.lt_succ_self _, by omega⟩, ?_⟩
              refine ent_of (rl := []) (nl := []) ⟨rfl, ?_, ?_, ⟨⟨Nat.le_of_ble_eq_true rfl, subR_eq (hskip (fun h => by unfold inG at h; have q : ¬ w64 (I' + (-1)) < g.w := q; rw [ha] at q; omega)) rfl⟩, trivial⟩, rfl, rfl, (by first | exact Nat.zero_le _ | exact Nat.le_of_ble_eq_true rfl), trivial, trivial⟩ <;> (repeat' (first | exact trivial | exact SameL.refl _ | exact ep_seal rfl rfl | assumption | exact congrArg (Value.int _) (by assumption) | exact rfl | exact Nat.le_of_ble_eq_true rfl | decide | apply And.intro | apply all1 | apply all2 | apply all3 | apply all4 | apply all5))
            refine if_dec (fun q3 => ?_) (fun q => ?_)
            rotate_left
            · refine ⟨3 + 1, ⟨Nat.lt_succ_self _, by omega⟩, ?_⟩
              refine ent_of (rl := []) (nl := []) ⟨rfl, ?_, ?_, ⟨⟨Nat.le_of_ble_eq_true rfl, subR_eq (hskip (fun h => by unfold inG at h; have q : ¬ w64 (K' + (1)) < g.h := q; rw [hb] at q; omega)) rfl⟩, trivial⟩, rfl, rfl, (by first | exact Nat.zero_le _ | exact Nat.le_of_ble_eq_true rfl), trivial, trivial⟩ <;> (repeat' (first | exact trivial | exact SameL.refl _ | exact ep_seal rfl rfl | assumption | exact congrArg (Value.int _) (by assumption) | exact rfl | exact Nat.le_of_ble_eq_true rfl | decide | apply And.intro | apply all1 | apply all2 | apply all3 | apply all4 | apply all5))
            have q0 : w64 (I' + (-1)) ≥ 0 := q0
            have q1 : w64 (K' + (1)) ≥ 0 := q1
            have q2 : w64 (I' + (-1)) < g.w := q2
            have q3 : w64 (K' + (1)) < g.h := q3
            rw [ha] at q0 q2
            rw [hb] at q1 q3
            have hn : inG g (I' + (-1)) (K' + (1)) := ⟨by omega, by omega, by omega, by omega⟩
            have hx := ixG_w hg hn
            have hxl := ixG_lt hg hn
            rw [← ha, ← hb] at hx
            have hl0 := ok0.1
            have hE : (dirT es g L (-1) I' K' 3).getD (Int.toNat (w64 (w64 (w64 (K' + (1)) * g.w) + w64 (I' + (-1))))) default = knG g (dirT es g L (-1) I' K' 3) (I' + (-1)) (K' + (1)) := by rw [hx, Int.toNat_natCast, ha, hb]; unfold knG; rw [if_pos hn]
            refine ⟨⟨by show 0 ≤ w64 (w64 (w64 (K' + (1)) * g.w) + w64 (I' + (-1))); rw [hx]; omega, by show w64 (w64 (w64 (K' + (1)) * g.w) + w64 (I' + (-1))) < ((dirT es g L (-1) I' K' 3).length : Int); rw [hx, ha, hb]; omega⟩, ?_⟩
            refine ⟨by show Int.toNat (w64 (w64 (w64 (K' + (1)) * g.w) + w64 (I' + (-1)))) < (dirT es g L (-1) I' K' 3).length; rw [hx, Int.toNat_natCast, ha, hb]; omega, ?_⟩
            refine ⟨_, _, offL_at hes hg ok0 (i := I') (k := K') (e := (dirT es g L (-1) I' K' 3).getD (Int.toNat (w64 (w64 (w64 (K' + (1)) * g.w) + w64 (I' + (-1))))) default) hin (by rw [hE]; exact ⟨by unfold knG; rw [if_pos hn]; exact (ok0.2 _ (getD_mem' (by omega))).1, knG_lt hg ok0 _ _⟩), rfl, ?_⟩
            refine ⟨3 + 1, ⟨Nat.lt_succ_self _, by omega⟩, ?_⟩
            refine ent_of (rl := [(3, 50)]) (nl := []) ⟨rfl, ?_, ?_, ⟨⟨Nat.le_of_ble_eq_true rfl, subR_eq (show stepG es g (dirT es g L (-1) I' K' 3) I' K' (-1) (1) = _ by unfold stepG; rw [← hE]) rfl⟩, trivial⟩, rfl, rfl, (by first | exact Nat.zero_le _ | exact Nat.le_of_ble_eq_true rfl), trivial, ⟨⟨(by first | exact Nat.zero_le _ | exact Nat.le_of_ble_eq_true rfl), (by first | exact Nat.zero_le _ | exact Nat.le_of_ble_eq_true rfl)⟩, trivial⟩⟩ <;> (repeat' (first | exact trivial | exact SameL.refl _ | exact ep_seal rfl rfl | assumption | exact congrArg (Value.int _) (by assumption) | exact rfl | exact Nat.le_of_ble_eq_true rfl | decide | apply And.intro | apply all1 | apply all2 | apply all3 | apply all4 | apply all5))
        · have hin : n = szG g := by omega
          subst hin
          exact ⟨⟨row_ret (flat2_all hw0), trivial⟩, trivial⟩
end Go.Proofs.Ytbfdpdbdkcekfaa
