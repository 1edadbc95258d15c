/- The contracts of law11: Ints, corners, Contours, awake, shared; of corner.All. -/
import Derived.Test.YtgbhoinfemjbiaaPd
import Derived.Test.YtgbhoinfemjbiaaPk
namespace Go.Proofs.Ytgbhoinfemjbiaa
open Go SX
set_option linter.unusedVariables false
set_option maxRecDepth 100000

theorem if_nint {a b : Int} {A B : Prop} (h : a ≠ b → A) (h' : a = b → B) : ((a != b) = true → A) ∧ ((a != b) = false → B) := if_ne h h'
/-! ### law11.Ints -/
noncomputable def SInts (es fs : List Int) (i : Nat) : SS := mkS
  [(0, .o (.sl false 1 es.length (rowOf ints es))), (1, .o (.sl false 1 fs.length (rowOf ints fs))), (12, .o (.v (.int .i64 es.length))), (13, .o (.v (.int .i64 i)))] [] [] 0 Try.f33.ntmps
theorem getD_ext {α : Type} [Inhabited α] {es fs : List α} (hl : es.length = fs.length) (h : ∀ k, k < es.length → es.getD k default = fs.getD k default) : es = fs := by
  refine List.ext_getElem hl fun k h1 h2 => ?_
  have := h k h1
  rwa [List.getD_eq_getElem?_getD, List.getD_eq_getElem?_getD, List.getElem?_eq_getElem h1, List.getElem?_eq_getElem h2] at this
theorem ints_at (es fs : List Int) (h : es.length ≤ 9000000000000000000) : FnAt Try.prog 33 [aInts es, aInts fs] [aB (decide (es = fs))] := by
  refine fn_at (E := EE) (fn := Try.f33) (c := Try.f33.body.getD .skip) (rs := Try.f33.results.toList) (nt := Try.f33.ntmps) EE_ok follows (by kernel_rfl) (by kernel_rfl) rfl rfl rfl [] rfl ?_
  refine if_ne (fun hl => ?_) (fun hl => ?_)
  · refine ⟨⟨kB (decide_eq_false ?_), trivial⟩, trivial⟩
    rintro rfl; exact hl rfl
  have hl : es.length = fs.length := by omega
  refine loop_natP es.length (fun i => ∀ k, k < i → es.getD k default = fs.getD k default) (SInts es fs) (fun k hk => by omega) ?_ (fun i hi hp => ?_)
  · refine ent_of (rl := []) (nl := []) ⟨rfl, ?_, ?_, trivial, rfl, rfl, Nat.zero_le _, trivial, trivial⟩ <;> (repeat' (first | exact trivial | exact SameL.refl _ | exact ep_seal rfl rfl | assumption | exact congrArg (Value.int _) (by assumption) | exact rfl | exact Nat.le_of_ble_eq_true rfl | decide | apply And.intro))
  refine if_dec (fun hlt => ?_) (fun hge => ?_)
  · have hlt : i < es.length := by omega
    have hw := w64_succ hlt (by omega)
    refine ⟨⟨by omega, by omega⟩, ⟨by omega, by omega⟩, ?_⟩
    refine if_ne (fun hne => ?_) (fun heq => ?_)
    · have hne : es.getD i default ≠ fs.getD i default := hne
      refine ⟨⟨kB (decide_eq_false ?_), trivial⟩, trivial⟩
      rintro rfl; exact hne rfl
    · have heq : es.getD i default = fs.getD i default := heq
      refine ⟨i + 1, ⟨Nat.lt_succ_self _, hlt, fun k hk => ?_⟩, ?_⟩
      · by_cases h' : k < i
        · exact hp k h'
        · obtain rfl : k = i := by omega
          exact heq
      · refine ent_of (rl := []) (nl := []) ⟨rfl, ?_, ?_, trivial, rfl, rfl, Nat.zero_le _, trivial, trivial⟩ <;> (repeat' (first | exact trivial | exact SameL.refl _ | exact ep_seal rfl rfl | assumption | exact congrArg (Value.int _) (by assumption) | exact rfl | exact Nat.le_of_ble_eq_true rfl | decide | apply And.intro))
  · have hin : i = es.length := by omega
    subst hin
    exact ⟨⟨kB (decide_eq_true (getD_ext hl hp)), trivial⟩, trivial⟩

/-! ### law11.corners -/
noncomputable def SLco (es : List Ed) (i : Nat) : SS := mkS
  [(0, .o (.sl false 4 es.length (rowOf Ed.ls es))), (3, .o (.h 0)), (7, .o (.v (.int .i64 es.length))), (8, .o (.v (.int .i64 i)))] [] [(0, rN (cornTo es i))] 1 Try.f35.ntmps
noncomputable def SLco2 (es : List Ed) (i : Nat) (e : Ed) : SS := mkS
  [(0, .o (.sl false 4 es.length (rowOf Ed.ls es))), (3, .o (.h 0)), (4, .o (.v (.int .i64 i))), (5, .o (.p 1 0)), (7, .o (.v (.int .i64 es.length))), (8, .o (.v (.int .i64 i)))] [(1, 37, [.v (.int .i64 e.a.x), .v (.int .i64 e.a.y), .v (.int .i64 e.b.x), .v (.int .i64 e.b.y)])] [(0, rN (cornTo es i))] 2 Try.f35.ntmps
theorem lcorners_at (es : List Ed) (h : es.length ≤ 1000000000000) (hb : ∀ e ∈ es, edIn 100000000 e) : FnAt Try.prog 35 [aEds es] [aNs (cornTo es es.length)] := by
  refine fn_at (E := EE) (fn := Try.f35) (c := Try.f35.body.getD .skip) (rs := Try.f35.results.toList) (nt := Try.f35.ntmps) EE_ok follows (by kernel_rfl) (by kernel_rfl) rfl rfl rfl [8] rfl ?_
  refine loop_nat es.length (SLco es) ?_ (fun i hi => ?_)
  · refine ent_of (rl := []) (nl := [0]) ⟨rfl, ?_, ?_, ⟨⟨Nat.le_of_ble_eq_true rfl, rfl⟩, trivial⟩, rfl, rfl, Nat.zero_le _, ⟨Nat.zero_le _, trivial⟩, trivial⟩ <;> (repeat' (first | exact trivial | exact SameL.refl _ | exact ep_seal rfl rfl | assumption | exact congrArg (Value.int _) (by assumption) | exact rfl | exact Nat.le_of_ble_eq_true rfl | decide | apply And.intro))
  refine if_dec (fun hlt => ?_) (fun hge => ?_)
  · have hlt : i < es.length := by omega
    have hw := w64_succ hlt (by omega)
    have hcl := cornTo_len es i
    have e1 : w64 ((es.length : Int) - 1) = ((es.length - 1 : Nat) : Int) := by rw [w64_in (by omega)]; omega
    have hmod : (i + es.length - 1) % es.length < es.length := Nat.mod_lt _ (by omega)
    refine ⟨by show 0 ≤ w64 ((es.length : Int) - 1) ∧ w64 ((es.length : Int) - 1) < es.length; rw [e1]; omega, ?_⟩
    refine ⟨Unit, fun _ => SLco2 es i (es.getD ((i + es.length - 1) % es.length) default), ?_, fun _ => ?_⟩
    · refine if_dec (fun hk => ?_) (fun hk => ?_)
      · have e2 : w64 ((i : Int) - 1) = ((i - 1 : Nat) : Int) := by rw [w64_in (by omega)]; omega
        have e3 : (i + es.length - 1) % es.length = i - 1 := by rw [show i + es.length - 1 = (i - 1) + es.length by omega, Nat.add_mod_right, Nat.mod_eq_of_lt (by omega)]
        refine ⟨by show 0 ≤ w64 ((i : Int) - 1) ∧ w64 ((i : Int) - 1) < es.length; rw [e2]; omega, ?_⟩
        refine ⟨(), ?_⟩
        have e4 : es.getD (w64 ((i : Int) - 1)).toNat default = es.getD ((i + es.length - 1) % es.length) default := by rw [e2, e3, Int.toNat_natCast]
        have q1 := congrArg (fun e : Ed => e.a.x) e4
        have q2 := congrArg (fun e : Ed => e.a.y) e4
        have q3 := congrArg (fun e : Ed => e.b.x) e4
        have q4 := congrArg (fun e : Ed => e.b.y) e4
        refine ent_of (rl := [(1, 10)]) (nl := []) ⟨rfl, ?_, ?_, ⟨⟨Nat.le_of_ble_eq_true rfl, subR.refl _⟩, trivial⟩, rfl, rfl, Nat.zero_le _, trivial, ⟨⟨Nat.zero_le _, Nat.zero_le _⟩, trivial⟩⟩ <;> (repeat' (first | exact trivial | exact SameL.refl _ | exact ep_seal rfl rfl | assumption | exact congrArg (Value.int _) (by assumption) | exact rfl | exact Nat.le_of_ble_eq_true rfl | decide | apply And.intro))
      · refine ⟨(), ?_⟩
        obtain rfl : i = 0 := by omega
        have e3 : (0 + es.length - 1) % es.length = es.length - 1 := by rw [Nat.zero_add, Nat.mod_eq_of_lt (by omega)]
        have e4 : es.getD (w64 ((es.length : Int) - 1)).toNat default = es.getD ((0 + es.length - 1) % es.length) default := by rw [e1, e3, Int.toNat_natCast]
        have q1 := congrArg (fun e : Ed => e.a.x) e4
        have q2 := congrArg (fun e : Ed => e.a.y) e4
        have q3 := congrArg (fun e : Ed => e.b.x) e4
        have q4 := congrArg (fun e : Ed => e.b.y) e4
        refine ent_of (rl := [(1, 10)]) (nl := []) ⟨rfl, ?_, ?_, ⟨⟨Nat.le_of_ble_eq_true rfl, subR.refl _⟩, trivial⟩, rfl, rfl, Nat.zero_le _, trivial, ⟨⟨Nat.zero_le _, Nat.zero_le _⟩, trivial⟩⟩ <;> (repeat' (first | exact trivial | exact SameL.refl _ | exact ep_seal rfl rfl | assumption | exact congrArg (Value.int _) (by assumption) | exact rfl | exact Nat.le_of_ble_eq_true rfl | decide | apply And.intro))
    have hm := hb _ (getD_mem hmod)
    have hn := hb _ (getD_mem hlt)
    have hc : isL (es.getD ((i + es.length - 1) % es.length) default) (es.getD i default) = cornP es i := by
      unfold cornP
      rw [isL_eq hm hn, isW_eq hm hn]
    refine ⟨⟨by omega, by omega⟩, ?_⟩
    refine ⟨_, isL_at (es.getD ((i + es.length - 1) % es.length) default) (es.getD i default), ?_⟩
    refine if_b (fun hb => ?_) (fun hb => ?_)
    · rw [hc] at hb
      refine ⟨appB (n := (cornTo es i).length) (by omega) (by decide), ?_⟩
      refine ⟨i + 1, ⟨Nat.lt_succ_self _, hlt⟩, ?_⟩
      refine ent_of (rl := [(0, 11)]) (nl := []) ⟨rfl, ?_, ?_, ⟨⟨Nat.le_of_ble_eq_true rfl, subR_snoc (x := i) rfl rfl (fun j _ => elem1 rfl) (by rw [cornTo_succ, if_pos hb]) rfl⟩, trivial⟩, rfl, rfl, Nat.zero_le _, trivial, ⟨⟨Nat.zero_le _, Nat.zero_le _⟩, trivial⟩⟩ <;> (repeat' (first | exact trivial | exact SameL.refl _ | exact ep_seal rfl rfl | assumption | exact congrArg (Value.int _) (by assumption) | exact rfl | exact Nat.le_of_ble_eq_true rfl | decide | apply And.intro))
    · rw [hc] at hb
      refine ⟨i + 1, ⟨Nat.lt_succ_self _, hlt⟩, ?_⟩
      refine ent_of (rl := []) (nl := []) ⟨rfl, ?_, ?_, ⟨⟨Nat.le_of_ble_eq_true rfl, subR_eq (by rw [cornTo_succ, if_neg (by rw [hb]; decide)]) rfl⟩, trivial⟩, rfl, rfl, Nat.zero_le _, trivial, trivial⟩ <;> (repeat' (first | exact trivial | exact SameL.refl _ | exact ep_seal rfl rfl | assumption | exact congrArg (Value.int _) (by assumption) | exact rfl | exact Nat.le_of_ble_eq_true rfl | decide | apply And.intro))
  · have hin : i = es.length := by omega
    subst hin
    exact ⟨⟨row_ret rfl, trivial⟩, trivial⟩

/-! ### law11.shared -/
def andW (a b : Int) : Int := w64 ((BitVec.ofInt 64 a &&& BitVec.ofInt 64 b).toNat : Nat)
def sharedW (a b : Int) : Int := w64 (w64 (andW (andW a b) 1 + andW ((andW a b).fdiv 2) 1) + andW ((andW a b).fdiv 4) 1)
theorem shared_at (a b : Int) : FnAt Try.prog 38 [aI a, aI b] [aI (sharedW a b)] := by
  refine fn_at (E := EE) (fn := Try.f38) (c := Try.f38.body.getD .skip) (rs := Try.f38.results.toList) (nt := Try.f38.ntmps) EE_ok follows (by kernel_rfl) (by kernel_rfl) rfl rfl rfl [] rfl ?_
  exact ⟨⟨rfl, trivial⟩, trivial⟩

/-! ### law11.Contours -/
noncomputable def SCt (cs : List (List Vx)) (i : Nat) : SS := mkS
  [(3, .o (.h 0)), (13, .o (.sl false 1 (cs.take 3).length (rowOf dsL (cs.take 3)))), (14, .o (.v (.int .i64 (cs.take 3).length))), (15, .o (.v (.int .i64 i)))] [] [(0, rDs (((cs.take 3).take i).map fun c : List Vx => c.take 6))] 1 Try.f32.ntmps
@[reducible] def rEs (ss : List (List Ed)) : OR := ⟨33, 1, ss.length, rowOf edsL ss, true⟩
noncomputable def SCt2 (l : List (List Sg)) (i : Nat) : SS := mkS
  [(6, .o (.h 0)), (30, .o (.sl true 1 l.length (rowOf sgsL l))), (31, .o (.v (.int .i64 l.length))), (32, .o (.v (.int .i64 i)))] [] [(0, rEs ((l.take i).map edges))] 1 Try.f32.ntmps
theorem contours_at (cs : List (List Vx)) : FnAt Try.prog 32 [aSl dsL 1 cs] [aSl edsL 1 (contours cs)] := by
  refine fn_at (E := EE) (fn := Try.f32) (c := Try.f32.body.getD .skip) (rs := Try.f32.results.toList) (nt := Try.f32.ntmps) EE_ok follows (by kernel_rfl) (by kernel_rfl) rfl rfl rfl [] rfl ?_
  have hm3 : (min2I (cs.length : Int) 3).toNat = min 3 cs.length := min2_nat cs.length 3
  have h3 : SameL (.sl 1 ((min2I (cs.length : Int) 3).toNat - Int.toNat 0) fun a b => rowOf dsL cs (Int.toNat 0 + a) b) (.sl 1 (cs.take 3).length (rowOf dsL (cs.take 3))) := sl_take hm3
  have h3n : (((min2I (cs.length : Int) 3).toNat - Int.toNat 0 : Nat) : Int) = (((cs.take 3).length : Nat) : Int) := by rw [hm3, List.length_take]; rfl
  refine ⟨⟨by decide, by show 0 ≤ min2I _ _; unfold min2I; split <;> omega, by show min2I _ _ ≤ _; unfold min2I; split <;> omega⟩, ?_⟩
  refine loop_nat (cs.take 3).length (SCt cs) ?_ (fun i hi => ?_)
  · refine ent_of (rl := []) (nl := [0]) ⟨rfl, ?_, ?_, ⟨⟨Nat.le_of_ble_eq_true rfl, rfl⟩, trivial⟩, rfl, rfl, Nat.zero_le _, ⟨Nat.zero_le _, trivial⟩, trivial⟩ <;> (repeat' (first | exact trivial | exact SameL.refl _ | exact ep_seal rfl rfl | assumption | exact congrArg (Value.int _) (by assumption) | exact rfl | exact Nat.le_of_ble_eq_true rfl | decide | apply And.intro))
  refine if_dec (fun hlt => ?_) (fun hge => ?_)
  · have hlt : i < (cs.take 3).length := by omega
    have hl3 : (cs.take 3).length ≤ 3 := by simp; omega
    have hw := w64_succ hlt (by omega)
    refine ⟨⟨by omega, by omega⟩, ?_⟩
    have hm6 : (min2I (((cs.take 3).getD i default).length : Int) 6).toNat = min 6 ((cs.take 3).getD i default).length := min2_nat _ 6
    have h6 : SameL (.sl 3 ((min2I (((cs.take 3).getD i default).length : Int) 6).toNat - Int.toNat 0) fun a b => rowOf Vx.ds ((cs.take 3).getD i default) (Int.toNat 0 + a) b) (.sl 3 (((cs.take 3).getD i default).take 6).length (rowOf Vx.ds (((cs.take 3).getD i default).take 6))) := sl_take hm6
    refine ⟨⟨by decide, by show 0 ≤ min2I _ _; unfold min2I; split <;> omega, by show min2I _ _ ≤ _; unfold min2I; split <;> omega⟩, ?_⟩
    refine ⟨appC (n := (((cs.take 3).take i).map fun c : List Vx => c.take 6).length) (by simp; omega) (by decide), ?_⟩
    refine ⟨i + 1, ⟨Nat.lt_succ_self _, hlt⟩, ?_⟩
    refine ent_of (rl := [(0, 12)]) (nl := []) ⟨rfl, ?_, ?_, ⟨⟨Nat.le_of_ble_eq_true rfl, subR_snoc (x := ((cs.take 3).getD i default).take 6) rfl rfl (fun j hj => by
      have hj : j < 1 := hj
      obtain rfl : j = 0 := by omega
      exact h6) (map_take_succ (fun c : List Vx => c.take 6) _ hlt) rfl⟩, trivial⟩, rfl, rfl, Nat.zero_le _, trivial, ⟨⟨Nat.zero_le _, Nat.zero_le _⟩, trivial⟩⟩ <;> (repeat' (first | exact trivial | exact SameL.refl _ | exact ep_seal rfl rfl | assumption | exact congrArg (Value.int _) (by assumption) | exact rfl | exact Nat.le_of_ble_eq_true rfl | decide | apply And.intro))
  · have hin : i = (cs.take 3).length := by omega
    subst hin
    have hf : ((cs.take 3).take (cs.take 3).length).map (fun c : List Vx => c.take 6) = fewC cs := by rw [List.take_length]; rfl
    obtain ⟨o1, o2⟩ := outline_in (((cs.take 3).take (cs.take 3).length).map fun c : List Vx => c.take 6)
    obtain ⟨p1, p2⟩ := outlines_in cs
    have hO := outline_at (((cs.take 3).take (cs.take 3).length).map fun c : List Vx => c.take 6)
    have hP := pathAll_at (outline (((cs.take 3).take (cs.take 3).length).map fun c : List Vx => c.take 6)) (by omega) (fun c hc => by have := (o2 c hc).2.1; omega)
    have hl : pathAll (outline (((cs.take 3).take (cs.take 3).length).map fun c : List Vx => c.take 6)) = outlines cs := by rw [hf]; rfl
    rw [hl] at hP
    refine ⟨_, hO, ?_⟩
    refine ⟨_, hP, ?_⟩
    have hct : contours cs = (outlines cs).map edges := rfl
    generalize outlines cs = l at *
    refine loop_nat l.length (SCt2 l) ?_ (fun i hi => ?_)
    · refine ent_of (rl := []) (nl := [0]) ⟨rfl, ?_, ?_, ⟨⟨Nat.le_of_ble_eq_true rfl, rfl⟩, trivial⟩, rfl, rfl, Nat.zero_le _, ⟨Nat.zero_le _, trivial⟩, trivial⟩ <;> (repeat' (first | exact trivial | exact SameL.refl _ | exact ep_seal rfl rfl | assumption | exact congrArg (Value.int _) (by assumption) | exact rfl | exact Nat.le_of_ble_eq_true rfl | decide | apply And.intro))
    refine if_dec (fun hlt => ?_) (fun hge => ?_)
    · have hlt : i < l.length := by omega
      have hw := w64_succ hlt (by omega)
      have hc13 := p2 _ (getD_mem hlt)
      refine ⟨⟨by omega, by omega⟩, ?_⟩
      refine ⟨_, edges_at (l.getD i default) (by omega), ?_⟩
      refine ⟨appC (n := ((l.take i).map edges).length) (by simp; omega) (by decide), ?_⟩
      refine ⟨i + 1, ⟨Nat.lt_succ_self _, hlt⟩, ?_⟩
      refine ent_of (rl := [(0, 9)]) (nl := []) ⟨rfl, ?_, ?_, ⟨⟨Nat.le_of_ble_eq_true rfl, subR_snoc (x := edges (l.getD i default)) rfl rfl (fun j _ => elem1 rfl) (map_take_succ edges l hlt) rfl⟩, trivial⟩, rfl, rfl, Nat.zero_le _, trivial, ⟨⟨Nat.zero_le _, Nat.zero_le _⟩, trivial⟩⟩ <;> (repeat' (first | exact trivial | exact SameL.refl _ | exact ep_seal rfl rfl | assumption | exact congrArg (Value.int _) (by assumption) | exact rfl | exact Nat.le_of_ble_eq_true rfl | decide | apply And.intro))
    · have hin : i = l.length := by omega
      subst hin
      exact ⟨⟨row_ret (by rw [List.take_length, hct]), trivial⟩, trivial⟩

/-! ### corner.All -/
@[reducible] def rEf (es : List Ed) : OR := ⟨37, 4, es.length, rowOf Ed.ls es, false⟩
noncomputable def SCa (cs : List (List Ed)) (i : Nat) : SS := mkS
  [(4, .o (.h 0)), (5, .o (.h 1)), (8, .o (.sl false 1 cs.length (rowOf edsL cs))), (9, .o (.v (.int .i64 cs.length))), (10, .o (.v (.int .i64 i)))] [] [(0, rEf ((cs.take i).flatMap id)), (1, rI ((cs.take i).flatMap colours))] 2 Try.f39.ntmps
theorem ed_ret {es es' : List Ed} (h : es = es') : 4 = 4 ∧ es.length = es'.length ∧ ∀ a, a < es'.length → ∀ j, j < 4 → (false || isLit (rowOf Ed.ls es' a j)) = true ∧ SameL (rowOf Ed.ls es a j) (rowOf Ed.ls es' a j) := by
  subst h
  refine ⟨rfl, rfl, fun a _ j hj => ⟨?_, SameL.refl _⟩⟩
  match j, hj with
  | 0, _ => rfl
  | 1, _ => rfl
  | 2, _ => rfl
  | 3, _ => rfl
theorem flat_len {α β : Type} {f : α → List β} {m : Nat} : ∀ {l : List α}, (∀ c ∈ l, (f c).length ≤ m) → (l.flatMap f).length ≤ l.length * m
  | [], _ => by simp
  | c :: l, h => by
    have h1 := flat_len (l := l) fun x hx => h x (by simp [hx])
    have h2 := h c (by simp)
    rw [List.flatMap_cons, List.length_append, List.length_cons, Nat.add_mul]
    omega
theorem cornerAll_at (cs : List (List Ed)) (hl : cs.length ≤ 1000) (h : ∀ c ∈ cs, c.length ≤ 1000) : FnAt Try.prog 39 [aSl edsL 1 cs] [aEds (cs.flatMap id), aInts (cs.flatMap colours)] := by
  refine fn_at (E := EE) (fn := Try.f39) (c := Try.f39.body.getD .skip) (rs := Try.f39.results.toList) (nt := Try.f39.ntmps) EE_ok follows (by kernel_rfl) (by kernel_rfl) rfl rfl rfl [] rfl ?_
  refine loop_nat cs.length (SCa cs) ?_ (fun i hi => ?_)
  · refine ent_of (rl := []) (nl := [0, 1]) ⟨rfl, ?_, ?_, ⟨⟨Nat.le_of_ble_eq_true rfl, rfl⟩, ⟨Nat.le_of_ble_eq_true rfl, rfl⟩, trivial⟩, rfl, rfl, Nat.zero_le _, ⟨Nat.zero_le _, Nat.zero_le _, trivial⟩, trivial⟩ <;> (repeat' (first | exact trivial | exact SameL.refl _ | exact ep_seal rfl rfl | assumption | exact congrArg (Value.int _) (by assumption) | exact rfl | exact Nat.le_of_ble_eq_true rfl | decide | apply And.intro))
  refine if_dec (fun hlt => ?_) (fun hge => ?_)
  · have hlt : i < cs.length := by omega
    have hw := w64_succ hlt (by omega)
    have hc := h _ (getD_mem hlt)
    have hti : (cs.take i).length ≤ 1000 := by simp; omega
    have b1 : ((cs.take i).flatMap id).length ≤ 1000 * 1000 := Nat.le_trans (flat_len (m := 1000) fun c hc => h c (List.mem_of_mem_take hc)) (Nat.mul_le_mul_right _ hti)
    have b2 : ((cs.take i).flatMap colours).length ≤ 1000 * 1000 := Nat.le_trans (flat_len (m := 1000) fun c hc => by rw [colours_len]; exact h c (List.mem_of_mem_take hc)) (Nat.mul_le_mul_right _ hti)
    have b3 := colours_len (cs.getD i default)
    refine ⟨⟨by omega, by omega⟩, ?_⟩
    refine ⟨appM (n := ((cs.take i).flatMap id).length) (m := (cs.getD i default).length) (by omega) (by decide), ?_⟩
    refine ⟨_, colours_at (cs.getD i default) (by omega), ?_⟩
    refine ⟨appM (n := ((cs.take i).flatMap colours).length) (m := (colours (cs.getD i default)).length) (by omega) (by decide), ?_⟩
    refine ⟨i + 1, ⟨Nat.lt_succ_self _, hlt⟩, ?_⟩
    refine ent_of (rl := [(0, 8), (1, 12)]) (nl := []) ⟨rfl, ?_, ?_, ⟨⟨Nat.le_of_ble_eq_true rfl, subR_app rfl rfl rfl rfl (flatMap_take_succ id cs hlt) rfl⟩, ⟨Nat.le_of_ble_eq_true rfl, subR_app rfl rfl rfl rfl (flatMap_take_succ colours cs hlt) rfl⟩, trivial⟩, rfl, rfl, Nat.zero_le _, trivial, ⟨⟨Nat.zero_le _, Nat.zero_le _⟩, ⟨Nat.zero_le _, Nat.zero_le _⟩, trivial⟩⟩ <;> (repeat' (first | exact trivial | exact SameL.refl _ | exact ep_seal rfl rfl | assumption | exact congrArg (Value.int _) (by assumption) | exact rfl | exact Nat.le_of_ble_eq_true rfl | decide | apply And.intro))
  · have hin : i = cs.length := by omega
    subst hin
    exact ⟨⟨ed_ret (by rw [List.take_length]), trivial⟩, ⟨row_ret (by rw [List.take_length]), trivial⟩, trivial⟩
end Go.Proofs.Ytgbhoinfemjbiaa
