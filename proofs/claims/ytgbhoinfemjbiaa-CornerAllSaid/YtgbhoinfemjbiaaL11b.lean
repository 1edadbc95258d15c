/- The contracts of law11: awake, CornerIs, CornerCorners, CornerShare, CornerPieces. -/
import Derived.Test.YtgbhoinfemjbiaaL11a
import Derived.Test.YtgbhoinfemjbiaaPy
namespace Go.Proofs.Ytgbhoinfemjbiaa
open Go SX
set_option linter.unusedVariables false
set_option maxRecDepth 100000

/-! ### the document's example -/
def l11 : List Ed := [⟨⟨0, 0⟩, ⟨90, 0⟩⟩, ⟨⟨90, 0⟩, ⟨0, 90⟩⟩, ⟨⟨0, 90⟩, ⟨0, 0⟩⟩]
theorem awake11_at : FnAt Try.prog 23 [] [aB true] := by
  have hc : colours l11 = [5, 6, 3] := by decide
  have hC := colours_at l11 (by decide)
  rw [hc] at hC
  have hk : cornTo l11 l11.length = [0, 1, 2] := by decide
  have hK := corners_at l11 (by decide)
  rw [hk] at hK
  have h1 := is_at ⟨⟨0, 0⟩, ⟨90, 0⟩⟩ ⟨⟨90, 0⟩, ⟨0, 90⟩⟩
  rw [show isW ⟨⟨0, 0⟩, ⟨90, 0⟩⟩ ⟨⟨90, 0⟩, ⟨0, 90⟩⟩ = true by decide] at h1
  have h2 := is_at ⟨⟨0, 0⟩, ⟨90, 0⟩⟩ ⟨⟨90, 0⟩, ⟨180, 40⟩⟩
  rw [show isW ⟨⟨0, 0⟩, ⟨90, 0⟩⟩ ⟨⟨90, 0⟩, ⟨180, 40⟩⟩ = false by decide] at h2
  refine fn_at (E := EE) (fn := Try.f23) (c := Try.f23.body.getD .skip) (rs := Try.f23.results.toList) (nt := Try.f23.ntmps) EE_ok follows (by kernel_rfl) (by kernel_rfl) rfl rfl rfl [] rfl ?_
  refine ⟨_, hC.args ⟨rfl, ⟨lit_same l11 (fun _ => rfl) rfl rfl, trivial⟩, trivial⟩, ?_⟩
  refine ⟨fun _ => ?_, fun h => nomatch h⟩
  refine ⟨⟨by decide, by decide⟩, ?_⟩
  refine ⟨fun _ => ?_, fun h => nomatch h⟩
  refine ⟨⟨by decide, by decide⟩, ?_⟩
  refine ⟨fun _ => ?_, fun h => nomatch h⟩
  refine ⟨⟨by decide, by decide⟩, ?_⟩
  refine ⟨fun _ => ?_, fun h => nomatch h⟩
  refine ⟨_, h1, ?_⟩
  refine ⟨fun _ => ?_, fun h => nomatch h⟩
  refine ⟨_, h2, ?_⟩
  refine ⟨fun _ => ?_, fun h => nomatch h⟩
  refine ⟨_, hK.args ⟨rfl, ⟨lit_same l11 (fun _ => rfl) rfl rfl, trivial⟩, trivial⟩, ?_⟩
  exact ⟨⟨rfl, trivial⟩, trivial⟩

theorem if_beq {a b : Bool} {A B : Prop} (h : a = b → A) (h' : a ≠ b → B) : ((a == b) = true → A) ∧ ((a == b) = false → B) := ⟨fun e => h (by simpa using e), fun e => h' (by simpa using e)⟩
theorem if_bne {a b : Bool} {A B : Prop} (h : a ≠ b → A) (h' : a = b → B) : ((!(a == b)) = true → A) ∧ ((!(a == b)) = false → B) := ⟨fun e => h (by simpa using e), fun e => h' (by simpa using e)⟩
/-! ### law11.CornerIs -/
@[reducible] def aPl (p : Pt) : Bool × List L := (true, [.lit (.int .i16 p.x), .lit (.int .i16 p.y)])
def smallP (p : Pt) : Pt := ⟨(w64 p.x).tmod 8193, (w64 p.y).tmod 8193⟩
theorem smallP_at (p : Pt) : FnAt Try.prog 43 [aPl p] [aPt (smallP p)] := by
  refine fn_at (E := EE) (fn := Try.f43) (c := Try.f43.body.getD .skip) (rs := Try.f43.results.toList) (nt := Try.f43.ntmps) EE_ok follows (by kernel_rfl) (by kernel_rfl) rfl rfl rfl [] rfl ?_
  exact ⟨⟨rfl, rfl, trivial⟩, trivial⟩
theorem edge03_at (a b : Pt) : FnAt Try.prog 24 [aPl a, aPl b] [aEd ⟨smallP a, smallP b⟩] := by
  refine fn_at (E := EE) (fn := Try.f24) (c := Try.f24.body.getD .skip) (rs := Try.f24.results.toList) (nt := Try.f24.ntmps) EE_ok follows (by kernel_rfl) (by kernel_rfl) rfl rfl rfl [] rfl ?_
  refine ⟨_, smallP_at a, ?_⟩
  refine ⟨_, smallP_at b, ?_⟩
  exact ⟨⟨rfl, rfl, rfl, rfl, trivial⟩, trivial⟩
theorem smallP_in (p : Pt) : ptIn 8192 (smallP p) := by
  have h1 := tmod_in (w64 p.x) (m := 8193) (by decide)
  have h2 := tmod_in (w64 p.y) (m := 8193) (by decide)
  unfold ptIn smallP; dsimp only; omega
theorem edIn_up {e : Ed} {n : Int} (h : edIn n e) (hn : n ≤ 100000000) : edIn 100000000 e := ⟨h.1.up hn, h.2.up hn⟩
def turnE (e : Ed) : Ed := ⟨e.b, e.a⟩
theorem isN_turn (a b : Ed) : isN (turnE b) (turnE a) = isN a b := by
  unfold isN turnE crs dt way
  dsimp only
  generalize hx : a.b.x - a.a.x = x
  generalize hy : a.b.y - a.a.y = y
  generalize hz : b.b.x - b.a.x = z
  generalize hw : b.b.y - b.a.y = w
  rw [show a.a.x - a.b.x = -x by omega, show a.a.y - a.b.y = -y by omega, show b.a.x - b.b.x = -z by omega, show b.a.y - b.b.y = -w by omega]
  have e1 : (-z) * (-y) = y * z := by rw [Int.neg_mul_neg, Int.mul_comm]
  have e2 : (-w) * (-x) = x * w := by rw [Int.neg_mul_neg, Int.mul_comm]
  have e3 : (-z) * (-x) = x * z := by rw [Int.neg_mul_neg, Int.mul_comm]
  have e4 : (-w) * (-y) = y * w := by rw [Int.neg_mul_neg, Int.mul_comm]
  rw [e1, e2, e3, e4]
  refine decide_eq_decide.2 ?_
  generalize x * w = p
  generalize y * z = q
  omega
theorem cornerIs_at (a b c : Pt) : FnAt Try.prog 7 [aPl a, aPl b, aPl c] [aB true] := by
  have ha := smallP_in a
  have hb := smallP_in b
  have hc := smallP_in c
  have e1 : edIn 100000000 ⟨smallP a, smallP b⟩ := ⟨ha.up (by decide), hb.up (by decide)⟩
  have e2 : edIn 100000000 ⟨smallP b, smallP c⟩ := ⟨hb.up (by decide), hc.up (by decide)⟩
  have h1 := isW_eq e1 e2
  have h2 := isL_eq e1 e2
  have h3 := isW_eq (a := turnE ⟨smallP b, smallP c⟩) (b := turnE ⟨smallP a, smallP b⟩) ⟨e2.2, e2.1⟩ ⟨e1.2, e1.1⟩
  rw [isN_turn] at h3
  refine fn_at (E := EE) (fn := Try.f7) (c := Try.f7.body.getD .skip) (rs := Try.f7.results.toList) (nt := Try.f7.ntmps) EE_ok follows (by kernel_rfl) (by kernel_rfl) rfl rfl rfl [] rfl ?_
  refine ⟨_, awake11_at, ?_⟩
  refine ⟨(fun h => nomatch h), fun _ => ?_⟩
  refine ⟨_, edge03_at a b, ?_⟩
  refine ⟨_, edge03_at b c, ?_⟩
  refine ⟨_, is_at ⟨smallP a, smallP b⟩ ⟨smallP b, smallP c⟩, ?_⟩
  refine ⟨_, isL_at ⟨smallP a, smallP b⟩ ⟨smallP b, smallP c⟩, ?_⟩
  refine if_beq (fun _ => ?_) (fun h => absurd (h1.trans h2.symm) h)
  refine ⟨_, is_at ⟨smallP c, smallP b⟩ ⟨smallP b, smallP a⟩, ?_⟩
  refine ⟨_, isL_at ⟨smallP a, smallP b⟩ ⟨smallP b, smallP c⟩, ?_⟩
  refine ⟨⟨vB ?_, trivial⟩, trivial⟩
  have h3 : isW ⟨smallP c, smallP b⟩ ⟨smallP b, smallP a⟩ = _ := h3
  rw [h3, h2]; simp
theorem ty_pl {k : Nat} {ls : List L} (h : TyL tt (k + 2) 42 ls) : ∃ p : Pt, ls = [.lit (.int .i16 p.x), .lit (.int .i16 p.y)] := by
  obtain ⟨hl, h⟩ : ls.length = 2 ∧ ∀ p ∈ [(0, 40), (1, 40)], match tt p.2 with
    | none => False
    | some fi => TyL tt (k + 1) p.2 ((ls.drop p.1).take fi.sz) := h
  match ls, hl with
  | [a, b], _ =>
    obtain ⟨x, hx, _⟩ := ty_i16 (k := k) (h (0, 40) (by simp))
    obtain ⟨y, hy, _⟩ := ty_i16 (k := k) (h (1, 40) (by simp))
    have hx : [a] = [.lit (.int .i16 x)] := hx
    have hy : [b] = [.lit (.int .i16 y)] := hy
    cases hx
    cases hy
    exact ⟨⟨x, y⟩, rfl⟩
theorem CornerIs_row : ∀ args, TyArgs tt 8 [42, 42, 42] args → FnAt Try.prog 7 args [(false, [.lit (.bool true)])] := by
  intro args h
  match args, h with
  | [(b1, l1), (b2, l2), (b3, l3)], ⟨⟨e1, h1⟩, ⟨e2, h2⟩, ⟨e3, h3⟩, _⟩ =>
    have e1 : b1 = true := e1
    have e2 : b2 = true := e2
    have e3 : b3 = true := e3
    subst e1
    subst e2
    subst e3
    obtain ⟨a, rfl⟩ := ty_pl (k := 6) h1
    obtain ⟨b, rfl⟩ := ty_pl (k := 6) h2
    obtain ⟨c, rfl⟩ := ty_pl (k := 6) h3
    exact cornerIs_at a b c

/-! ### law11.CornerCorners -/
theorem cont_in {cs : List (List Vx)} {c : List Ed} (h : c ∈ contours cs) : ∀ e ∈ c, edIn 100000000 e := fun e he => by
  obtain ⟨⟨b, hb⟩, _⟩ := contours_ok c h
  exact edIn_up (hb.2 e he).1 (by decide)
noncomputable def SCC (l : List (List Ed)) (i : Nat) : SS := mkS [(8, .o (.sl true 1 l.length (rowOf edsL l))), (9, .o (.v (.int .i64 l.length))), (10, .o (.v (.int .i64 i)))] [] [] 0 Try.f10.ntmps
def intsN (cs : List Nat) : List Int := cs.map fun c => Int.ofNat c
theorem intsN_len (cs : List Nat) : (intsN cs).length = cs.length := List.length_map ..
theorem sl_nat (cs : List Nat) : SameL (.sl 1 cs.length (rowOf natL cs)) (.sl 1 (intsN cs).length (rowOf ints (intsN cs))) := by
  refine ⟨rfl, (intsN_len cs).symm, fun i hi j hj => .of_eq ?_⟩
  have hj : j < 1 := hj
  obtain rfl : j = 0 := by omega
  show I ((cs.getD i default : Nat) : Int) = I ((intsN cs).getD i default)
  unfold intsN
  simp only [List.getD_eq_getElem?_getD, List.getElem?_map, List.getElem?_eq_getElem hi]
  rfl
theorem cornerCorners_at (cs : List (List Vx)) : FnAt Try.prog 10 [aSl dsL 1 cs] [aB true] := by
  have hct := contours_at cs
  have hin := fun c => cont_in (cs := cs) (c := c)
  have hok := fun c => contours_ok (cs := cs) c
  have hl8 := contours_len cs
  generalize contours cs = l at *
  refine fn_at (E := EE) (fn := Try.f10) (c := Try.f10.body.getD .skip) (rs := Try.f10.results.toList) (nt := Try.f10.ntmps) EE_ok follows (by kernel_rfl) (by kernel_rfl) rfl rfl rfl [] rfl ?_
  refine ⟨_, awake11_at, ?_⟩
  refine ⟨(fun h => nomatch h), fun _ => ?_⟩
  refine ⟨_, hct, ?_⟩
  refine loop_nat l.length (SCC l) ?_ (fun i hi => ?_)
  · refine ent_of (rl := []) (nl := []) ⟨rfl, ?_, ?_, trivial, rfl, rfl, Nat.zero_le _, trivial, trivial⟩ <;> (repeat' (first | exact trivial | exact SameL.refl _ | exact ep_seal rfl rfl | assumption | exact congrArg (Value.int _) (by assumption) | exact rfl | exact Nat.le_of_ble_eq_true rfl | decide | apply And.intro))
  refine if_dec (fun hlt => ?_) (fun hge => ?_)
  · have hlt : i < l.length := by omega
    have hw := w64_succ hlt (by omega)
    have hm := getD_mem hlt
    have h52 := (hok _ hm).2
    have hcl := cornTo_len (l.getD i default) (l.getD i default).length
    refine ⟨⟨by omega, by omega⟩, ?_⟩
    refine ⟨_, corners_at (l.getD i default) (by omega), ?_⟩
    refine ⟨_, lcorners_at (l.getD i default) (by omega) (hin _ hm), ?_⟩
    refine ⟨_, (ints_at (intsN (cornTo (l.getD i default) (l.getD i default).length)) (intsN (cornTo (l.getD i default) (l.getD i default).length)) (by rw [intsN_len]; omega)).args ⟨rfl, ⟨sl_nat _, trivial⟩, rfl, ⟨sl_nat _, trivial⟩, trivial⟩, ?_⟩
    refine if_nb (fun h => absurd h (by simp)) (fun _ => ?_)
    refine ⟨i + 1, ⟨Nat.lt_succ_self _, hlt⟩, ?_⟩
    refine ent_of (rl := []) (nl := []) ⟨rfl, ?_, ?_, trivial, rfl, rfl, Nat.zero_le _, trivial, trivial⟩ <;> (repeat' (first | exact trivial | exact SameL.refl _ | exact ep_seal rfl rfl | assumption | exact congrArg (Value.int _) (by assumption) | exact rfl | exact Nat.le_of_ble_eq_true rfl | decide | apply And.intro))
  · refine ⟨_, (corners_at [] (by decide)).args ⟨rfl, ⟨⟨rfl, rfl⟩, trivial⟩, trivial⟩, ?_⟩
    exact ⟨⟨rfl, trivial⟩, trivial⟩
theorem CornerCorners_row : ∀ args, TyArgs tt 8 [46] args → FnAt Try.prog 10 args [(false, [.lit (.bool true)])] := by
  intro args h
  match args, h with
  | [(b, l)], ⟨⟨e, h1⟩, _⟩ =>
    have e : b = false := e
    subst e
    obtain ⟨cs, hcs⟩ := ty_dots (k := 4) h1
    exact (cornerCorners_at cs).args ⟨rfl, hcs, trivial⟩
end Go.Proofs.Ytgbhoinfemjbiaa
