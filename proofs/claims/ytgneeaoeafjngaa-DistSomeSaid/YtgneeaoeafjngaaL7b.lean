/- The contracts of law07.WindNumber, WindOn, WindBoth, WindOut, WindTurn, WindSquare. -/
import Derived.Test.YtgneeaoeafjngaaL7a
import Derived.Test.YtgneeaoeafjngaaPn
import Derived.Test.YtgneeaoeafjngaaPo
import Derived.Test.YtgneeaoeafjngaaPx
namespace Go.Proofs.Ytgneeaoeafjngaa
open Go SX
set_option linter.unusedVariables false
set_option maxRecDepth 100000

theorem if_beq {a b : Bool} {A B : Prop} (h : a = b → A) (h' : a ≠ b → B) : ((a == b) = true → A) ∧ ((a == b) = false → B) := ⟨fun e => h (by simpa using e), fun e => h' (by simpa using e)⟩
theorem appN {m b : Nat} (hn : m ≤ 4000000000000) (hb : b ≤ 35) : m * b ≤ 140737488355328 ∧ m ≤ maxLen := by
  refine ⟨Nat.le_trans (Nat.mul_le_mul hn hb) (by decide), ?_⟩
  unfold maxLen; omega
theorem plP_in {es : List Ed} (h : edsIn es) {n : Int} (hn : 0 ≤ n ∧ n ≤ 65535) {p : Pt} (hp : plIn p) : ptIn 33000 (spotX es n p) := (spotX_in h hn hp).up (by decide)
theorem windNumber_at (cs : List (List Vx)) {n : Int} (hn : 0 ≤ n ∧ n ≤ 65535) {p : Pt} (hp : plIn p) : FnAt Try.prog 4 [aSl dsL 1 cs, aU16 n, aPl p] [aB true] := by
  have hi := glyph_in cs
  refine fn_at (E := EE) (fn := Try.f4) (c := Try.f4.body.getD .skip) (rs := Try.f4.results.toList) (nt := Try.f4.ntmps) EE_ok follows (by kernel_rfl) (by kernel_rfl) rfl rfl rfl [] rfl ?_
  refine ⟨_, awake07_at, ?_⟩
  refine ⟨(fun h => nomatch h), fun _ => ?_⟩
  refine ⟨_, glyph_at cs, ?_⟩
  refine ⟨_, spot_at hi hn hp, ?_⟩
  refine ⟨_, windN_at hi.2, ?_⟩
  refine ⟨_, lnum_at hi.2, ?_⟩
  exact ⟨⟨vB (by simp), trivial⟩, trivial⟩

/-! ### on -/
theorem min_btw {a b x : Int} : (min2I a b ≤ x ∧ x ≤ max2I a b) ↔ btw (b - a) (x - a) := by
  unfold min2I max2I btw
  constructor
  · rintro ⟨h1, h2⟩
    split at h1 <;> split at h2 <;> omega
  · intro h
    constructor <;> split <;> omega
theorem lonE_iff {e : Ed} {p : Pt} (he : edIn 8192 e) (hp : ptIn 33000 p) : lonE p e = true ↔ onN p e := by
  have w1 := way_in he.2 he.1
  have w2 := way_in hp (he.1.up (m := 33000) (by decide))
  have w1' := w1.up (m := 66000) (by decide)
  unfold lonE onN
  rw [subP_eq (by decide) he.2 he.1, subP_eq (by decide) hp (he.1.up (m := 33000) (by decide)), crossW_eq (by decide) w1' w2, decide_eq_true_eq]
  unfold way
  dsimp only
  rw [← min_btw, ← min_btw]
  constructor
  · rintro ⟨h1, h2, h3, h4, h5⟩; exact ⟨h1, ⟨h2, h3⟩, h4, h5⟩
  · rintro ⟨h1, ⟨h2, h3⟩, h4, h5⟩; exact ⟨h1, h2, h3, h4, h5⟩
theorem any_congr {α : Type} {f g : α → Bool} {l : List α} (h : ∀ x ∈ l, f x = g x) : l.any f = l.any g := by
  induction l with
  | nil => rfl
  | cons x l ih => simp only [List.any_cons]; rw [h x (by simp), ih fun y hy => h y (by simp [hy])]
theorem on_same {es : List Ed} (h : ∀ e ∈ es, edOK e) {p : Pt} (hp : ptIn 33000 p) : es.any (onE p) = es.any (lonE p) :=
  any_congr fun e he => Bool.eq_iff_iff.2 ((onE_iff (h e he).2).trans (lonE_iff ((h e he).1.up (by decide)) hp).symm)
theorem windOn_at (cs : List (List Vx)) {n : Int} (hn : 0 ≤ n ∧ n ≤ 65535) {p : Pt} (hp : plIn p) : FnAt Try.prog 5 [aSl dsL 1 cs, aU16 n, aPl p] [aB true] := by
  have hi := glyph_in cs
  have hx := plP_in hi hn hp
  have hs := on_same (glyph_ok cs).1 hx
  refine fn_at (E := EE) (fn := Try.f5) (c := Try.f5.body.getD .skip) (rs := Try.f5.results.toList) (nt := Try.f5.ntmps) EE_ok follows (by kernel_rfl) (by kernel_rfl) rfl rfl rfl [] rfl ?_
  refine ⟨_, awake07_at, ?_⟩
  refine ⟨(fun h => nomatch h), fun _ => ?_⟩
  refine ⟨_, glyph_at cs, ?_⟩
  refine ⟨_, spot_at hi hn hp, ?_⟩
  refine ⟨_, wOn_at hi hx, ?_⟩
  refine ⟨_, lon7_at hi.2, ?_⟩
  refine if_beq (fun _ => ?_) (fun h => absurd hs h)
  refine ⟨_, wIn_at hi hx, ?_⟩
  refine ⟨_, lon7_at hi.2, ?_⟩
  refine if_b_f (fun h1 => ?_) (fun h1 => ?_)
  · refine ⟨_, lnum_at hi.2, ?_⟩
    refine ⟨⟨vB ?_, trivial⟩, trivial⟩
    rw [hs, h1, Bool.or_false]
    by_cases hw : windN (glyph cs) (spotX (glyph cs) n p) = 0
    · rw [hw]; rfl
    · rw [decide_eq_true hw, bne_iff_ne.2 hw]; rfl
  · refine ⟨⟨vB ?_, trivial⟩, trivial⟩
    rw [hs, h1, Bool.or_true]
    rfl
theorem ty_u16 {k : Nat} {ls : List L} (h : TyL tt (k + 1) 37 ls) : ∃ n : Int, ls = [.lit (.int .u16 n)] ∧ 0 ≤ n ∧ n ≤ 65535 := by
  obtain ⟨n, rfl, h⟩ : ∃ n, ls = [.lit (.int .u16 n)] ∧ (Lit.int .u16 n).wf = true := h
  simp only [Lit.wf, Bool.and_eq_true, decide_eq_true_eq] at h
  exact ⟨n, rfl, h⟩
theorem ty_pl7 {k : Nat} {ls : List L} (h : TyL tt (k + 2) 24 ls) : ∃ p : Pt, ls = [.lit (.int .i16 p.x), .lit (.int .i16 p.y)] ∧ plIn p := by
  obtain ⟨hl, h⟩ : ls.length = 2 ∧ ∀ p ∈ [(0, 22), (1, 22)], match tt p.2 with
    | none => False
    | some fi => TyL tt (k + 1) p.2 ((ls.drop p.1).take fi.sz) := h
  match ls, hl with
  | [a, b], _ =>
    obtain ⟨x, hx, h1⟩ := ty_i16 (k := k) (h (0, 22) (by simp))
    obtain ⟨y, hy, h2⟩ := ty_i16 (k := k) (h (1, 22) (by simp))
    have hx : [a] = [.lit (.int .i16 x)] := hx
    have hy : [b] = [.lit (.int .i16 y)] := hy
    cases hx
    cases hy
    exact ⟨⟨x, y⟩, rfl, by unfold plIn; dsimp only; omega⟩
theorem row_csnp {g : Nat} (hat : ∀ (cs : List (List Vx)) {n : Int} (_ : 0 ≤ n ∧ n ≤ 65535) {p : Pt} (_ : plIn p), FnAt Try.prog g [aSl dsL 1 cs, aU16 n, aPl p] [aB true]) :
    ∀ args, TyArgs tt 8 [36, 37, 24] args → FnAt Try.prog g args [(false, [.lit (.bool true)])] := by
  intro args h
  match args, h with
  | [(b1, l1), (b2, l2), (b3, l3)], ⟨⟨e1, h1⟩, ⟨e2, h2⟩, ⟨e3, h3⟩, _⟩ =>
    have e1 : b1 = false := e1
    have e2 : b2 = false := e2
    have e3 : b3 = true := e3
    subst e1
    subst e2
    subst e3
    obtain ⟨cs, hcs⟩ := ty_dots (k := 4) h1
    obtain ⟨n, rfl, hn⟩ := ty_u16 (k := 7) h2
    obtain ⟨p, rfl, hp⟩ := ty_pl7 (k := 6) h3
    exact (hat cs hn hp).args ⟨rfl, hcs, rfl, sameLs_refl _, rfl, sameLs_refl _, trivial⟩
theorem WindNumber_row : ∀ args, TyArgs tt 8 [36, 37, 24] args → FnAt Try.prog 4 args [(false, [.lit (.bool true)])] := row_csnp fun cs _ hn _ hp => windNumber_at cs hn hp
theorem WindOn_row : ∀ args, TyArgs tt 8 [36, 37, 24] args → FnAt Try.prog 5 args [(false, [.lit (.bool true)])] := row_csnp fun cs _ hn _ hp => windOn_at cs hn hp

/-! ### law07.WindBoth -/
theorem glyph_in2 (cs ds : List (List Vx)) : edsIn (glyph cs ++ glyph ds) := by
  obtain ⟨h1, h2⟩ := glyph_ok cs
  obtain ⟨h3, h4⟩ := glyph_ok ds
  refine ⟨fun e he => ?_, by rw [List.length_append]; omega⟩
  rcases List.mem_append.1 he with he | he
  · exact (h1 e he).1.up (by decide)
  · exact (h3 e he).1.up (by decide)
theorem windBoth_at (cs ds : List (List Vx)) {n : Int} (hn : 0 ≤ n ∧ n ≤ 65535) {p : Pt} (hp : plIn p) : FnAt Try.prog 7 [aSl dsL 1 cs, aSl dsL 1 ds, aU16 n, aPl p] [aB true] := by
  have hi := glyph_in cs
  have hj := glyph_in ds
  have hij := glyph_in2 cs ds
  have hx := plP_in hi hn hp
  refine fn_at (E := EE) (fn := Try.f7) (c := Try.f7.body.getD .skip) (rs := Try.f7.results.toList) (nt := Try.f7.ntmps) EE_ok follows (by kernel_rfl) (by kernel_rfl) rfl rfl rfl [] rfl ?_
  refine ⟨_, awake07_at, ?_⟩
  refine ⟨(fun h => nomatch h), fun _ => ?_⟩
  refine ⟨_, glyph_at cs, ?_⟩
  refine ⟨_, glyph_at ds, ?_⟩
  refine ⟨_, spot_at hi hn hp, ?_⟩
  have l1 := hi.2
  have l2 := hj.2
  generalize hes : glyph cs = a at *
  generalize hfs : glyph ds = b at *
  refine ⟨appN (m := a.length) (by omega) (by decide), ?_⟩
  refine ⟨appM (n := a.length) (m := b.length) (by omega) (by decide), ?_⟩
  have hsl : SameL (.sl 4 (a.length + b.length) (appf (rowOf Ed.ls a) a.length (rowOf Ed.ls b))) (.sl 4 (a ++ b).length (rowOf Ed.ls (a ++ b))) := by
    refine ⟨rfl, by simp, fun i hi j hj => .of_eq ?_⟩
    show appf (rowOf Ed.ls a) a.length (rowOf Ed.ls b) i j = nth (Ed.ls ((a ++ b).getD i default)) j
    rw [getD_app]
    unfold appf
    split <;> rfl
  have hall : ∀ {g : Nat} {r : Res} {P : Pt}, FnAt Try.prog g [aEds (a ++ b), aPt P] r → FnAt Try.prog g [(false, [.sl 4 (a.length + b.length) (appf (rowOf Ed.ls a) a.length (rowOf Ed.ls b))]), aPt P] r := fun {g r P} h => h.args ⟨rfl, ⟨hsl, trivial⟩, rfl, sameLs_refl _, trivial⟩
  refine ⟨_, hall (windN_at hij.2), ?_⟩
  refine ⟨_, windN_at hi.2, ?_⟩
  refine ⟨_, windN_at hj.2, ?_⟩
  have b1 := windTo_in (es := a) (p := spotX a n p) (i := a.length) (Nat.le_refl _)
  have b2 := windTo_in (es := b) (p := spotX a n p) (i := b.length) (Nat.le_refl _)
  have hsum : windN (a ++ b) (spotX a n p) = w64 (windN a (spotX a n p) + windN b (spotX a n p)) := by
    rw [windN_app]; unfold windN; rw [w64_in (by omega)]
  refine if_eq (fun _ => ?_) (fun h => absurd hsum h)
  refine ⟨_, hall (wOn_at hij hx), ?_⟩
  refine ⟨_, wOn_at hi hx, ?_⟩
  have hA : areaTo (a ++ b) (a ++ b).length = w64 (areaTo a a.length + areaTo b b.length) := by
    have q := areaTo_in hij.1 (i := (a ++ b).length) (Nat.le_refl _)
    have ql := hij.2
    rw [area_app] at q ⊢
    rw [w64_in (by omega)]
  have hallA : FnAt Try.prog 16 [(false, [.sl 4 (a.length + b.length) (appf (rowOf Ed.ls a) a.length (rowOf Ed.ls b))])] [aI (areaTo (a ++ b) (a ++ b).length)] := (area_at hij).args ⟨rfl, ⟨hsl, trivial⟩, trivial⟩
  refine if_b_f (fun h1 => ?_) (fun h1 => ?_)
  · refine ⟨_, wOn_at hj hx, ?_⟩
    refine if_beq (fun _ => ?_) (fun h => absurd (by rw [List.any_append, h1, Bool.false_or]) h)
    refine ⟨_, hallA, ?_⟩
    refine ⟨_, area_at hi, ?_⟩
    refine ⟨_, area_at hj, ?_⟩
    exact ⟨⟨vB (beq_iff_eq.2 hA).symm, trivial⟩, trivial⟩
  · refine if_beq (fun _ => ?_) (fun h => absurd (by rw [List.any_append, h1, Bool.true_or]) h)
    refine ⟨_, hallA, ?_⟩
    refine ⟨_, area_at hi, ?_⟩
    refine ⟨_, area_at hj, ?_⟩
    exact ⟨⟨vB (beq_iff_eq.2 hA).symm, trivial⟩, trivial⟩
theorem WindBoth_row : ∀ args, TyArgs tt 8 [36, 36, 37, 24] args → FnAt Try.prog 7 args [(false, [.lit (.bool true)])] := by
  intro args h
  match args, h with
  | [(b1, l1), (b4, l4), (b2, l2), (b3, l3)], ⟨⟨e1, h1⟩, ⟨e4, h4⟩, ⟨e2, h2⟩, ⟨e3, h3⟩, _⟩ =>
    have e1 : b1 = false := e1
    have e4 : b4 = false := e4
    have e2 : b2 = false := e2
    have e3 : b3 = true := e3
    subst e1
    subst e4
    subst e2
    subst e3
    obtain ⟨cs, hcs⟩ := ty_dots (k := 4) h1
    obtain ⟨ds, hds⟩ := ty_dots (k := 4) h4
    obtain ⟨n, rfl, hn⟩ := ty_u16 (k := 7) h2
    obtain ⟨p, rfl, hp⟩ := ty_pl7 (k := 6) h3
    exact (windBoth_at cs ds hn hp).args ⟨rfl, hcs, rfl, hds, rfl, sameLs_refl _, rfl, sameLs_refl _, trivial⟩

/-! ### law07.WindOut -/
theorem glyph_out (cs : List (List Vx)) {p : Pt} (hp : ptIn 33000 p) (hout : ¬ ((box (glyph cs)).lo.x ≤ p.x ∧ p.x ≤ (box (glyph cs)).hi.x ∧ (box (glyph cs)).lo.y ≤ p.y ∧ p.y ≤ (box (glyph cs)).hi.y)) : windN (glyph cs) p = 0 ∧ (glyph cs).any (onE p) = false := by
  rcases Nat.eq_zero_or_pos (glyph cs).length with h | h
  · rw [List.eq_nil_of_length_eq_zero h]; exact ⟨rfl, rfl⟩
  · rw [glyph_flat] at hout h ⊢
    exact wind_out (fun es he => (contours_ok es he).1) h hp hout
theorem glyph_box (cs : List (List Vx)) : -8192 ≤ (box (glyph cs)).hi.x ∧ (box (glyph cs)).hi.x ≤ 8192 := by
  rcases Nat.eq_zero_or_pos (glyph cs).length with h | h
  · rw [List.eq_nil_of_length_eq_zero h]; decide
  · obtain ⟨_, _, h2, _⟩ := box_ok h
    unfold hasX at h2
    obtain ⟨e, he, hx⟩ := List.any_eq_true.1 h2
    have hb := ((glyph_ok cs).1 e he).1
    unfold edIn ptIn at hb
    simp only [Bool.or_eq_true, beq_iff_eq] at hx
    omega
theorem windOut_at (cs : List (List Vx)) {x y : Int} (hx : -32768 ≤ x ∧ x ≤ 32767) (hy : -32768 ≤ y ∧ y ≤ 32767) : FnAt Try.prog 8 [aSl dsL 1 cs, (false, [.lit (.int .i16 x)]), (false, [.lit (.int .i16 y)])] [aB true] := by
  have hi := glyph_in cs
  refine fn_at (E := EE) (fn := Try.f8) (c := Try.f8.body.getD .skip) (rs := Try.f8.results.toList) (nt := Try.f8.ntmps) EE_ok follows (by kernel_rfl) (by kernel_rfl) rfl rfl rfl [] rfl ?_
  refine ⟨_, awake07_at, ?_⟩
  refine ⟨(fun h => nomatch h), fun _ => ?_⟩
  refine ⟨_, glyph_at cs, ?_⟩
  refine ⟨_, box_at (glyph cs) (by have := hi.2; omega), ?_⟩
  have hxw : w64 x = x := w64_in (by omega)
  have hyw : w64 y = y := w64_in (by omega)
  have hbx := glyph_box cs
  have fin : ∀ (q : Pt), ptIn 33000 q → ¬ ((box (glyph cs)).lo.x ≤ q.x ∧ q.x ≤ (box (glyph cs)).hi.x ∧ (box (glyph cs)).lo.y ≤ q.y ∧ q.y ≤ (box (glyph cs)).hi.y) → windN (glyph cs) q = 0 ∧ (glyph cs).any (onE q) = false := fun q => glyph_out cs
  have q1 : ptIn 33000 ⟨w64 x, w64 y⟩ := by rw [hxw, hyw]; unfold ptIn; dsimp only; omega
  have q2 : ptIn 33000 ⟨w64 ((box (glyph cs)).hi.x + 1), w64 y⟩ := by rw [w64_in (by omega), hyw]; unfold ptIn; dsimp only; omega
  have out1 : ∀ {q : Pt}, ptIn 33000 q → windN (glyph cs) q = 0 ∧ (glyph cs).any (onE q) = false → (decide (windN (glyph cs) q ≠ 0) || (glyph cs).any (onE q)) = false := fun _ h => by rw [h.1, h.2]; rfl
  refine if_dec (fun h1 => ?_) (fun h1 => ?_)
  · refine if_dec (fun h2 => ?_) (fun h2 => ?_)
    · refine if_dec (fun h3 => ?_) (fun h3 => ?_)
      · refine if_dec (fun h4 => ?_) (fun h4 => ?_)
        · have f := fin _ q2 (by dsimp only; rw [w64_in (by omega)]; omega)
          refine ⟨_, wIn_at hi q2, ?_⟩
          rw [out1 q2 f]
          refine ⟨fun _ => ?_, fun h => nomatch h⟩
          refine ⟨_, windN_at (p := ⟨w64 ((box (glyph cs)).hi.x + 1), w64 y⟩) hi.2, ?_⟩
          rw [f.1]
          exact ⟨⟨rfl, trivial⟩, trivial⟩
        · have f := fin _ q1 (fun h => h4 h.2.2.2)
          refine ⟨_, wIn_at hi q1, ?_⟩
          rw [out1 q1 f]
          refine ⟨fun _ => ?_, fun h => nomatch h⟩
          refine ⟨_, windN_at (p := ⟨w64 x, w64 y⟩) hi.2, ?_⟩
          rw [f.1]
          exact ⟨⟨rfl, trivial⟩, trivial⟩
      · have f := fin _ q1 (fun h => h3 h.2.2.1)
        refine ⟨_, wIn_at hi q1, ?_⟩
        rw [out1 q1 f]
        refine ⟨fun _ => ?_, fun h => nomatch h⟩
        refine ⟨_, windN_at (p := ⟨w64 x, w64 y⟩) hi.2, ?_⟩
        rw [f.1]
        exact ⟨⟨rfl, trivial⟩, trivial⟩
    · have f := fin _ q1 (fun h => h2 h.2.1)
      refine ⟨_, wIn_at hi q1, ?_⟩
      rw [out1 q1 f]
      refine ⟨fun _ => ?_, fun h => nomatch h⟩
      refine ⟨_, windN_at (p := ⟨w64 x, w64 y⟩) hi.2, ?_⟩
      rw [f.1]
      exact ⟨⟨rfl, trivial⟩, trivial⟩
  · have f := fin _ q1 (fun h => h1 h.1)
    refine ⟨_, wIn_at hi q1, ?_⟩
    rw [out1 q1 f]
    refine ⟨fun _ => ?_, fun h => nomatch h⟩
    refine ⟨_, windN_at (p := ⟨w64 x, w64 y⟩) hi.2, ?_⟩
    rw [f.1]
    exact ⟨⟨rfl, trivial⟩, trivial⟩
theorem WindOut_row : ∀ args, TyArgs tt 8 [36, 22, 22] args → FnAt Try.prog 8 args [(false, [.lit (.bool true)])] := by
  intro args h
  obtain ⟨a1, a2, a3, rfl, h1, h2, h3⟩ := tyA3 h
  obtain ⟨l, cs, rfl, hcs⟩ := a_dots (k := 4) h1
  obtain ⟨x, rfl, hx⟩ := a_i16 (k := 7) h2
  obtain ⟨y, rfl, hy⟩ := a_i16 (k := 7) h3
  exact (windOut_at cs hx hy).args ⟨rfl, hcs, rfl, sameLs_refl _, rfl, sameLs_refl _, trivial⟩
end Go.Proofs.Ytgneeaoeafjngaa
