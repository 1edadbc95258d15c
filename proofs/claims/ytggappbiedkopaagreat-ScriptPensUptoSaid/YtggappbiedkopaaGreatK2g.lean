/- Law 22: the contract of script.Acts. -/
import Derived.Test.YtggappbiedkopaaGreatK2f
namespace Go.Proofs.YtggappbiedkopaaGreat
open Go SX
set_option linter.unusedVariables false
set_option maxRecDepth 100000
set_option maxHeartbeats 1000000

structure Ac where
  kind : Int
  key : ByteArray
  text : List Int
  x : Int
  y : Int
  num : Int
  den : Int
  lo : Int
  hi : Int
  ink : Int
deriving Inhabited
@[reducible] def Tx8 (k : ByteArray) : L := .lit (.string k)
@[reducible] def acL (a : Ac) : List L := [I a.kind, Tx8 a.key, bSl a.text, I a.x, I a.y, I a.num, I a.den, I a.lo, I a.hi, U a.ink]
@[reducible] def aAc (a : Ac) : Bool × List L := (true, acL a)
def textF (b2 b3 b4 b5 : Int) : List Int := if b5 % 16 = 0 then [b2, b3, b4] else encF (glyF b2 b3 b4)
def actF (b0 b1 b2 b3 b4 b5 : Int) : Ac :=
  if b0 % 8 < 3 then ⟨0, keyS b1, textF b2 b3 b4 b5, 0, 0, 0, 0, 0, 0, 0⟩
  else if b0 % 8 = 3 then ⟨1, keyS b1, [], 0, 0, 0, 0, 0, 0, 0⟩
  else if b0 % 8 = 4 then ⟨2, keyS b1, [], 0, 0, 0, 0, 0, 0, 0⟩
  else ⟨3, keyS b1, [], b2 % 32 - 8, b3 % 32 - 8, 1 + b4 % 8, 1 + b4 / 8 % 8, 96, 97 + b5 % 128, 255 - b5⟩
def actAt (bs : List Int) (i : Nat) : Ac := actF (bs.getD (6 * i + 0) default) (bs.getD (6 * i + 1) default) (bs.getD (6 * i + 2) default) (bs.getD (6 * i + 3) default) (bs.getD (6 * i + 4) default) (bs.getD (6 * i + 5) default)
def actsF (bs : List Int) (i : Nat) : List Ac := (List.range i).map (actAt bs)
theorem actsF_succ (bs : List Int) (i : Nat) : actsF bs (i + 1) = actsF bs i ++ [actAt bs i] := by unfold actsF; rw [List.range_succ, List.map_append]; rfl
theorem actsF_len (bs : List Int) (i : Nat) : (actsF bs i).length = i := by unfold actsF; simp

theorem okV_of {x y : Int} {o : Bool} (h1 : -255 ≤ x) (h2 : x ≤ 255) (h3 : -255 ≤ y) (h4 : y ≤ 255) : okV ⟨x, y, o⟩ := ⟨h1, h2, h3, h4⟩
theorem glyF_ok {a b c : Int} (ha : uIn a) (hb : uIn b) (hc : uIn c) : okO (glyF a b c) := by
  have ha0 := ha.1
  have hb0 := hb.1
  have hc0 := hc.1
  have hF : ∀ v ∈ firstG a b c, okV v := by
    intro v hv
    simp only [firstG, List.mem_cons, List.not_mem_nil, or_false] at hv
    rcases hv with rfl | rfl | rfl <;> exact okV_of (by omega) (by omega) (by omega) (by omega)
  have h4 : okV (fourG b c) := okV_of (by omega) (by omega) (by omega) (by omega)
  have hO : ∀ v ∈ outerG a b c, okV v := by
    intro v hv
    unfold outerG at hv
    split at hv
    · exact hF v hv
    · rcases List.mem_append.1 hv with h | h
      · exact hF v h
      · rw [List.mem_singleton.1 h]; exact h4
  have hOl : 3 ≤ (outerG a b c).length ∧ (outerG a b c).length ≤ 4 := by unfold outerG; split <;> simp [firstG]
  have hI : ∀ v ∈ innerG a b c, okV v := by
    intro v hv
    simp only [innerG, List.mem_cons, List.not_mem_nil, or_false] at hv
    rcases hv with rfl | rfl | rfl <;> exact okV_of (by omega) (by omega) (by omega) (by omega)
  have hIl : (innerG a b c).length = 3 := rfl
  unfold glyF
  split
  · refine ⟨by simp, by simp [total]; omega, fun c' hc' => ?_⟩
    rw [List.mem_singleton.1 hc']
    exact ⟨by omega, hO⟩
  · refine ⟨by simp, by simp [total, hIl]; omega, fun c' hc' => ?_⟩
    rcases List.mem_append.1 hc' with h | h
    · rw [List.mem_singleton.1 h]; exact ⟨by omega, hO⟩
    · rw [List.mem_singleton.1 h]; exact ⟨by omega, hI⟩
theorem encF_small {o : List (List Gv)} : True := trivial

noncomputable def SAl (bs : List Int) (i : Nat) : SS := mkS
  [(0, .o (.sl false 1 (bs.length - 6 * i) (fun a j => rowOf uL bs (6 * i + a) j))), (3, .o (.h 0))] [] [(0, ⟨32, 10, (actsF bs i).length, rowOf acL (actsF bs i), true⟩)] 1 Tryz.f7.ntmps
@[reducible] def acC (a : Ac) : List C := [.v (.int .i64 a.kind), .v (.string a.key), .sl true 1 a.text.length (rowOf uL a.text), .v (.int .i64 a.x), .v (.int .i64 a.y), .v (.int .i64 a.num), .v (.int .i64 a.den), .v (.int .i64 a.lo), .v (.int .i64 a.hi), .v (.int .u8 a.ink)]
@[reducible] def acN (a : Ac) : List C := [.v (.int .i64 a.kind), .v (.string a.key), .k (.slice none 0 0), .v (.int .i64 a.x), .v (.int .i64 a.y), .v (.int .i64 a.num), .v (.int .i64 a.den), .v (.int .i64 a.lo), .v (.int .i64 a.hi), .v (.int .u8 a.ink)]
noncomputable def SAj (bs : List Int) (i : Nat) (cs : List C) : SS := mkS
  [(0, .o (.sl false 1 (bs.length - 6 * i) (fun a j => rowOf uL bs (6 * i + a) j))), (3, .o (.h 0)), (4, .o (.p 1 0))] [(1, 32, cs)] [(0, ⟨32, 10, (actsF bs i).length, rowOf acL (actsF bs i), true⟩)] 2 Tryz.f7.ntmps
noncomputable def SAt (bs : List Int) (i : Nat) (c : Int) (l : List Int) : SS := mkS
  [(0, .o (.sl false 1 (bs.length - 6 * i) (fun a j => rowOf uL bs (6 * i + a) j))), (3, .o (.h 0)), (4, .o (.p 1 0))] [(1, 32, [.v (.int .i64 0), .v (.string (keyS c)), .h 2, .v (.int .i64 0), .v (.int .i64 0), .v (.int .i64 0), .v (.int .i64 0), .v (.int .i64 0), .v (.int .i64 0), .v (.int .u8 0)])] [(0, ⟨32, 10, (actsF bs i).length, rowOf acL (actsF bs i), true⟩), (2, ⟨5, 1, l.length, rowOf uL l, false⟩)] 3 Tryz.f7.ntmps
theorem appBig {n b : Nat} (hn : n ≤ 2000000) (hb : b ≤ 4096) : (n + 1) * b ≤ 140737488355328 ∧ n + 1 ≤ maxLen := by
  refine ⟨?_, by simp only [maxLen]; omega⟩
  have : (n + 1) * b ≤ 2000001 * 4096 := Nat.mul_le_mul (by omega) hb
  omega
theorem sub3 {T : Nat} {x y z : Int} {f : Nat → Nat → L} (h0 : f 0 0 = U x) (h1 : f 1 0 = U y) (h2 : f 2 0 = U z) : subR ⟨T, 1, 3, f, false⟩ ⟨T, 1, [x, y, z].length, rowOf uL [x, y, z], false⟩ := by
  refine ⟨rfl, rfl, rfl, rfl, fun a ha j hj => .of_eq ?_⟩
  have hj : j = 0 := Nat.lt_one_iff.1 hj
  subst hj
  have ha : a = 0 ∨ a = 1 ∨ a = 2 := by have h : a < 3 := ha; omega
  rcases ha with rfl | rfl | rfl
  · exact h0
  · exact h1
  · exact h2
theorem penX {n : Int} (h : uIn n) : w64 (w64 (n.tmod 32) - 8) = n % 32 - 8 := by have h0 := h.1; rw [tmod_pos h.1, w64_in (n := n % 32) (by omega), w64_in (by omega)]
theorem penN {n : Int} (h : uIn n) : w64 (1 + w64 (n.tmod 8)) = 1 + n % 8 := by have h0 := h.1; rw [tmod_pos h.1, w64_in (n := n % 8) (by omega), w64_in (by omega)]
theorem penD {n : Int} (h : uIn n) : w64 (1 + w64 ((IntKind.u8.wrap (n.tdiv 8)).tmod 8)) = 1 + n / 8 % 8 := by
  have h0 := h.1
  have h1 := h.2
  have h2 : 0 ≤ n / 8 := by omega
  rw [Int.tdiv_eq_ediv_of_nonneg h0, u8_in (n := n / 8) (by omega), tmod_pos h2, w64_in (n := n / 8 % 8) (by omega), w64_in (by omega)]
theorem penH {n : Int} (h : uIn n) : w64 (97 + w64 (n.tmod 128)) = 97 + n % 128 := by have h0 := h.1; rw [tmod_pos h.1, w64_in (n := n % 128) (by omega), w64_in (by omega)]
theorem penI {n : Int} (h : uIn n) : IntKind.u8.wrap (255 - n) = 255 - n := u8_in (by have h0 := h.1; have h1 := h.2; omega)
theorem acEl {a : Ac} (h : a.text = []) (j : Nat) (hj : j < 10) : SameL (nth [I a.kind, Tx8 a.key, .lit (.slice none 0 0), I a.x, I a.y, I a.num, I a.den, I a.lo, I a.hi, U a.ink] (0 * 10 + j)) (nth (acL a) j) := by
  rw [Nat.zero_mul, Nat.zero_add]
  match j, hj with
  | 0, _ => exact SameL.refl _
  | 1, _ => exact SameL.refl _
  | 2, _ => exact ⟨rfl, by rw [h]; rfl⟩
  | 3, _ => exact SameL.refl _
  | 4, _ => exact SameL.refl _
  | 5, _ => exact SameL.refl _
  | 6, _ => exact SameL.refl _
  | 7, _ => exact SameL.refl _
  | 8, _ => exact SameL.refl _
  | 9, _ => exact SameL.refl _
  | j + 10, h => exact absurd h (by omega)
theorem Acts_at (bs : List Int) (hb : ∀ k, uIn (bs.getD k default)) (hl : bs.length ≤ 1048576) : FnAt Tryz.prog 7 [(false, [bSl bs])] [(false, [.sl 10 (bs.length / 6) (rowOf acL (actsF bs (bs.length / 6)))])] := by
  refine fn_at (E := EE) (fn := Tryz.f7) (c := Tryz.f7.body.getD .skip) (rs := Tryz.f7.results.toList) (nt := Tryz.f7.ntmps) EE_ok follows (by kernel_rfl) (by kernel_rfl) rfl rfl rfl [18] rfl ?_
  refine loop_nat (bs.length / 6) (SAl bs) ?_ (fun i hi => ?_)
  · refine ent_of (rl := []) (nl := [0]) ⟨rfl, ?_, ?_, ⟨⟨Nat.le_of_ble_eq_true rfl, rfl⟩, trivial⟩, rfl, rfl, Nat.zero_le _, ⟨Nat.zero_le _, trivial⟩, trivial⟩ <;> (repeat' (first | exact trivial | exact SameL.refl _ | exact ep_seal rfl rfl | assumption | exact congrArg (Value.int _) (by assumption) | exact rfl | exact Nat.le_of_ble_eq_true rfl | decide | apply And.intro))
    exact fun i _ j _ => .of_eq (by show _ = rowOf uL bs (6 * 0 + i) j; rw [Nat.mul_zero, Nat.zero_add])
  have hli : (actsF bs i).length = i := actsF_len bs i
  refine if_dec (fun hge => ?_) (fun hlt => ?_)
  · have hge : ((bs.length - 6 * i : Nat) : Int) ≥ 6 := hge
    have hi6 : 6 * i + 6 ≤ bs.length := by omega
    refine ⟨⟨by omega, by show (1 : Int) < ((bs.length - 6 * i : Nat) : Int); omega⟩, ?_⟩
    refine ⟨_, key_at _ (hb (6 * i + 1)), ?_⟩
    have h0 : ((bs.getD (6 * i + 0) default).tmod 8) = bs.getD (6 * i + 0) default % 8 := tmod_pos (hb (6 * i + 0)).1
    have h5 : ((bs.getD (6 * i + 5) default).tmod 16) = bs.getD (6 * i + 5) default % 16 := tmod_pos (hb (6 * i + 5)).1
    refine ⟨{ t : Bool // t = false → (actAt bs i).text = [] }, fun t => match t.1 with | true => SAj bs i (acC (actAt bs i)) | false => SAj bs i (acN (actAt bs i)), ?_, fun t => ?_⟩
    · refine ⟨⟨by omega, by show (0 : Int) < ((bs.length - 6 * i : Nat) : Int); omega⟩, ?_⟩
      refine if_eq (fun e0 => ?_) (fun e0 => ?_)
      · refine if_eq (fun _ => ?_) (fun h => absurd e0 h)
        have e0 : (bs.getD (6 * i + 0) default).tmod 8 = 0 := e0
        refine ⟨⟨by omega, by show (2 : Int) < ((bs.length - 6 * i : Nat) : Int); omega⟩, ?_⟩
        refine ⟨⟨by omega, by show (3 : Int) < ((bs.length - 6 * i : Nat) : Int); omega⟩, ?_⟩
        refine ⟨⟨by omega, by show (4 : Int) < ((bs.length - 6 * i : Nat) : Int); omega⟩, ?_⟩
        refine ⟨_, Glyph_at _ _ _ (hb (6 * i + 2)) (hb (6 * i + 3)) (hb (6 * i + 4)), ?_⟩
        refine ⟨_, encode_at _ (glyF_ok (hb (6 * i + 2)) (hb (6 * i + 3)) (hb (6 * i + 4))), ?_⟩
        refine ⟨⟨by omega, by show (5 : Int) < ((bs.length - 6 * i : Nat) : Int); omega⟩, ?_⟩
        have hp : bs.getD (6 * i + 0) default % 8 < 3 := by rw [← h0]; omega
        refine if_eq (fun e5 => ?_) (fun e5 => ?_)
        · have e5 : (bs.getD (6 * i + 5) default).tmod 16 = 0 := e5
          rw [h5] at e5
          have hA : actAt bs i = ⟨0, keyS (bs.getD (6 * i + 1) default), [bs.getD (6 * i + 2) default, bs.getD (6 * i + 3) default, bs.getD (6 * i + 4) default], 0, 0, 0, 0, 0, 0, 0⟩ := by
            unfold actAt actF textF
            rw [if_pos hp, if_pos e5]
          refine ⟨⟨by omega, by omega, by show (5 : Int) ≤ ((bs.length - 6 * i : Nat) : Int); omega⟩, ?_⟩
          refine ⟨⟨by decide, by decide⟩, ?_⟩
          refine ⟨⟨true, fun h => by cases h⟩, ?_⟩
          show Ent 0 _ (SAj bs i (acC (actAt bs i)))
          rw [hA]
          refine Ent.trans (s' := SAt bs i (bs.getD (6 * i + 1) default) [bs.getD (6 * i + 2) default, bs.getD (6 * i + 3) default, bs.getD (6 * i + 4) default]) ?_ (Ent.trans (ent_rowLit (i := 2) rfl (fun a _ j hj => by
            have hj : j = 0 := Nat.lt_one_iff.1 hj
            subst hj; rfl)) (Ent.trans (ent_seal (i := 2) rfl) ?_))
          · refine ent_of (rl := [(1, 9), (2, 40)]) (nl := []) ⟨rfl, ?_, ?_, ⟨⟨Nat.le_of_ble_eq_true rfl, subR.refl _⟩, ⟨Nat.le_of_ble_eq_true rfl, sub3 rfl rfl rfl⟩, trivial⟩, rfl, rfl, Nat.zero_le _, trivial, ⟨⟨Nat.zero_le _, Nat.zero_le _⟩, ⟨Nat.zero_le _, Nat.zero_le _⟩, trivial⟩⟩ <;> (repeat' (first | exact trivial | exact SameL.refl _ | exact ep_seal rfl rfl | assumption | exact congrArg (Value.int _) (by assumption) | exact rfl | exact Nat.le_of_ble_eq_true rfl | decide | apply And.intro))
          · refine ent_of (rl := []) (nl := []) ⟨rfl, ?_, ?_, ⟨⟨Nat.le_of_ble_eq_true rfl, subR.refl _⟩, trivial⟩, rfl, rfl, Nat.zero_le _, trivial, trivial⟩ <;> (repeat' (first | exact trivial | exact SameL.refl _ | exact ep_seal rfl rfl | assumption | exact congrArg (Value.int _) (by assumption) | exact rfl | exact Nat.le_of_ble_eq_true rfl | decide | apply And.intro))
        · have e5 : ¬ (bs.getD (6 * i + 5) default).tmod 16 = 0 := e5
          rw [h5] at e5
          have hA : actAt bs i = ⟨0, keyS (bs.getD (6 * i + 1) default), encF (glyF (bs.getD (6 * i + 2) default) (bs.getD (6 * i + 3) default) (bs.getD (6 * i + 4) default)), 0, 0, 0, 0, 0, 0, 0⟩ := by
            unfold actAt actF textF
            rw [if_pos hp, if_neg e5]
          refine ⟨⟨true, fun h => by cases h⟩, ?_⟩
          show Ent 0 _ (SAj bs i (acC (actAt bs i)))
          rw [hA]
          refine ent_of (rl := [(1, 9)]) (nl := []) ⟨rfl, ?_, ?_, ⟨⟨Nat.le_of_ble_eq_true rfl, subR.refl _⟩, trivial⟩, rfl, rfl, Nat.zero_le _, trivial, ⟨⟨Nat.zero_le _, Nat.zero_le _⟩, trivial⟩⟩ <;> (repeat' (first | exact trivial | exact SameL.refl _ | exact ep_seal rfl rfl | assumption | exact congrArg (Value.int _) (by assumption) | exact rfl | exact Nat.le_of_ble_eq_true rfl | decide | apply And.intro))
      have e0 : ¬ (bs.getD (6 * i + 0) default).tmod 8 = 0 := e0
      refine if_eq (fun e1 => ?_) (fun e1 => ?_)
      · refine if_eq (fun _ => ?_) (fun h => absurd e1 h)
        have e1 : (bs.getD (6 * i + 0) default).tmod 8 = 1 := e1
        refine ⟨⟨by omega, by show (2 : Int) < ((bs.length - 6 * i : Nat) : Int); omega⟩, ?_⟩
        refine ⟨⟨by omega, by show (3 : Int) < ((bs.length - 6 * i : Nat) : Int); omega⟩, ?_⟩
        refine ⟨⟨by omega, by show (4 : Int) < ((bs.length - 6 * i : Nat) : Int); omega⟩, ?_⟩
        refine ⟨_, Glyph_at _ _ _ (hb (6 * i + 2)) (hb (6 * i + 3)) (hb (6 * i + 4)), ?_⟩
        refine ⟨_, encode_at _ (glyF_ok (hb (6 * i + 2)) (hb (6 * i + 3)) (hb (6 * i + 4))), ?_⟩
        refine ⟨⟨by omega, by show (5 : Int) < ((bs.length - 6 * i : Nat) : Int); omega⟩, ?_⟩
        have hp : bs.getD (6 * i + 0) default % 8 < 3 := by rw [← h0]; omega
        refine if_eq (fun e5 => ?_) (fun e5 => ?_)
        · have e5 : (bs.getD (6 * i + 5) default).tmod 16 = 0 := e5
          rw [h5] at e5
          have hA : actAt bs i = ⟨0, keyS (bs.getD (6 * i + 1) default), [bs.getD (6 * i + 2) default, bs.getD (6 * i + 3) default, bs.getD (6 * i + 4) default], 0, 0, 0, 0, 0, 0, 0⟩ := by
            unfold actAt actF textF
            rw [if_pos hp, if_pos e5]
          refine ⟨⟨by omega, by omega, by show (5 : Int) ≤ ((bs.length - 6 * i : Nat) : Int); omega⟩, ?_⟩
          refine ⟨⟨by decide, by decide⟩, ?_⟩
          refine ⟨⟨true, fun h => by cases h⟩, ?_⟩
          show Ent 0 _ (SAj bs i (acC (actAt bs i)))
          rw [hA]
          refine Ent.trans (s' := SAt bs i (bs.getD (6 * i + 1) default) [bs.getD (6 * i + 2) default, bs.getD (6 * i + 3) default, bs.getD (6 * i + 4) default]) ?_ (Ent.trans (ent_rowLit (i := 2) rfl (fun a _ j hj => by
            have hj : j = 0 := Nat.lt_one_iff.1 hj
            subst hj; rfl)) (Ent.trans (ent_seal (i := 2) rfl) ?_))
          · refine ent_of (rl := [(1, 9), (2, 42)]) (nl := []) ⟨rfl, ?_, ?_, ⟨⟨Nat.le_of_ble_eq_true rfl, subR.refl _⟩, ⟨Nat.le_of_ble_eq_true rfl, sub3 rfl rfl rfl⟩, trivial⟩, rfl, rfl, Nat.zero_le _, trivial, ⟨⟨Nat.zero_le _, Nat.zero_le _⟩, ⟨Nat.zero_le _, Nat.zero_le _⟩, trivial⟩⟩ <;> (repeat' (first | exact trivial | exact SameL.refl _ | exact ep_seal rfl rfl | assumption | exact congrArg (Value.int _) (by assumption) | exact rfl | exact Nat.le_of_ble_eq_true rfl | decide | apply And.intro))
          · refine ent_of (rl := []) (nl := []) ⟨rfl, ?_, ?_, ⟨⟨Nat.le_of_ble_eq_true rfl, subR.refl _⟩, trivial⟩, rfl, rfl, Nat.zero_le _, trivial, trivial⟩ <;> (repeat' (first | exact trivial | exact SameL.refl _ | exact ep_seal rfl rfl | assumption | exact congrArg (Value.int _) (by assumption) | exact rfl | exact Nat.le_of_ble_eq_true rfl | decide | apply And.intro))
        · have e5 : ¬ (bs.getD (6 * i + 5) default).tmod 16 = 0 := e5
          rw [h5] at e5
          have hA : actAt bs i = ⟨0, keyS (bs.getD (6 * i + 1) default), encF (glyF (bs.getD (6 * i + 2) default) (bs.getD (6 * i + 3) default) (bs.getD (6 * i + 4) default)), 0, 0, 0, 0, 0, 0, 0⟩ := by
            unfold actAt actF textF
            rw [if_pos hp, if_neg e5]
          refine ⟨⟨true, fun h => by cases h⟩, ?_⟩
          show Ent 0 _ (SAj bs i (acC (actAt bs i)))
          rw [hA]
          refine ent_of (rl := [(1, 9)]) (nl := []) ⟨rfl, ?_, ?_, ⟨⟨Nat.le_of_ble_eq_true rfl, subR.refl _⟩, trivial⟩, rfl, rfl, Nat.zero_le _, trivial, ⟨⟨Nat.zero_le _, Nat.zero_le _⟩, trivial⟩⟩ <;> (repeat' (first | exact trivial | exact SameL.refl _ | exact ep_seal rfl rfl | assumption | exact congrArg (Value.int _) (by assumption) | exact rfl | exact Nat.le_of_ble_eq_true rfl | decide | apply And.intro))
      have e1 : ¬ (bs.getD (6 * i + 0) default).tmod 8 = 1 := e1
      refine if_eq (fun e2 => ?_) (fun e2 => ?_)
      · have e2 : (bs.getD (6 * i + 0) default).tmod 8 = 2 := e2
        refine ⟨⟨by omega, by show (2 : Int) < ((bs.length - 6 * i : Nat) : Int); omega⟩, ?_⟩
        refine ⟨⟨by omega, by show (3 : Int) < ((bs.length - 6 * i : Nat) : Int); omega⟩, ?_⟩
        refine ⟨⟨by omega, by show (4 : Int) < ((bs.length - 6 * i : Nat) : Int); omega⟩, ?_⟩
        refine ⟨_, Glyph_at _ _ _ (hb (6 * i + 2)) (hb (6 * i + 3)) (hb (6 * i + 4)), ?_⟩
        refine ⟨_, encode_at _ (glyF_ok (hb (6 * i + 2)) (hb (6 * i + 3)) (hb (6 * i + 4))), ?_⟩
        refine ⟨⟨by omega, by show (5 : Int) < ((bs.length - 6 * i : Nat) : Int); omega⟩, ?_⟩
        have hp : bs.getD (6 * i + 0) default % 8 < 3 := by rw [← h0]; omega
        refine if_eq (fun e5 => ?_) (fun e5 => ?_)
        · have e5 : (bs.getD (6 * i + 5) default).tmod 16 = 0 := e5
          rw [h5] at e5
          have hA : actAt bs i = ⟨0, keyS (bs.getD (6 * i + 1) default), [bs.getD (6 * i + 2) default, bs.getD (6 * i + 3) default, bs.getD (6 * i + 4) default], 0, 0, 0, 0, 0, 0, 0⟩ := by
            unfold actAt actF textF
            rw [if_pos hp, if_pos e5]
          refine ⟨⟨by omega, by omega, by show (5 : Int) ≤ ((bs.length - 6 * i : Nat) : Int); omega⟩, ?_⟩
          refine ⟨⟨by decide, by decide⟩, ?_⟩
          refine ⟨⟨true, fun h => by cases h⟩, ?_⟩
          show Ent 0 _ (SAj bs i (acC (actAt bs i)))
          rw [hA]
          refine Ent.trans (s' := SAt bs i (bs.getD (6 * i + 1) default) [bs.getD (6 * i + 2) default, bs.getD (6 * i + 3) default, bs.getD (6 * i + 4) default]) ?_ (Ent.trans (ent_rowLit (i := 2) rfl (fun a _ j hj => by
            have hj : j = 0 := Nat.lt_one_iff.1 hj
            subst hj; rfl)) (Ent.trans (ent_seal (i := 2) rfl) ?_))
          · refine ent_of (rl := [(1, 9), (2, 44)]) (nl := []) ⟨rfl, ?_, ?_, ⟨⟨Nat.le_of_ble_eq_true rfl, subR.refl _⟩, ⟨Nat.le_of_ble_eq_true rfl, sub3 rfl rfl rfl⟩, trivial⟩, rfl, rfl, Nat.zero_le _, trivial, ⟨⟨Nat.zero_le _, Nat.zero_le _⟩, ⟨Nat.zero_le _, Nat.zero_le _⟩, trivial⟩⟩ <;> (repeat' (first | exact trivial | exact SameL.refl _ | exact ep_seal rfl rfl | assumption | exact congrArg (Value.int _) (by assumption) | exact rfl | exact Nat.le_of_ble_eq_true rfl | decide | apply And.intro))
          · refine ent_of (rl := []) (nl := []) ⟨rfl, ?_, ?_, ⟨⟨Nat.le_of_ble_eq_true rfl, subR.refl _⟩, trivial⟩, rfl, rfl, Nat.zero_le _, trivial, trivial⟩ <;> (repeat' (first | exact trivial | exact SameL.refl _ | exact ep_seal rfl rfl | assumption | exact congrArg (Value.int _) (by assumption) | exact rfl | exact Nat.le_of_ble_eq_true rfl | decide | apply And.intro))
        · have e5 : ¬ (bs.getD (6 * i + 5) default).tmod 16 = 0 := e5
          rw [h5] at e5
          have hA : actAt bs i = ⟨0, keyS (bs.getD (6 * i + 1) default), encF (glyF (bs.getD (6 * i + 2) default) (bs.getD (6 * i + 3) default) (bs.getD (6 * i + 4) default)), 0, 0, 0, 0, 0, 0, 0⟩ := by
            unfold actAt actF textF
            rw [if_pos hp, if_neg e5]
          refine ⟨⟨true, fun h => by cases h⟩, ?_⟩
          show Ent 0 _ (SAj bs i (acC (actAt bs i)))
          rw [hA]
          refine ent_of (rl := [(1, 9)]) (nl := []) ⟨rfl, ?_, ?_, ⟨⟨Nat.le_of_ble_eq_true rfl, subR.refl _⟩, trivial⟩, rfl, rfl, Nat.zero_le _, trivial, ⟨⟨Nat.zero_le _, Nat.zero_le _⟩, trivial⟩⟩ <;> (repeat' (first | exact trivial | exact SameL.refl _ | exact ep_seal rfl rfl | assumption | exact congrArg (Value.int _) (by assumption) | exact rfl | exact Nat.le_of_ble_eq_true rfl | decide | apply And.intro))
      have e2 : ¬ (bs.getD (6 * i + 0) default).tmod 8 = 2 := e2
      have hn3 : ¬ bs.getD (6 * i + 0) default % 8 < 3 := by have := (hb (6 * i + 0)).1; rw [h0] at e0 e1 e2; omega
      refine if_eq (fun e3 => ?_) (fun e3 => ?_)
      · have e3 : (bs.getD (6 * i + 0) default).tmod 8 = 3 := e3
        have hA : actAt bs i = ⟨1, keyS (bs.getD (6 * i + 1) default), [], 0, 0, 0, 0, 0, 0, 0⟩ := by
          unfold actAt actF
          rw [if_neg hn3, if_pos (by rw [← h0]; exact e3)]
        refine ⟨⟨false, fun _ => by rw [hA]⟩, ?_⟩
        show Ent 0 _ (SAj bs i (acN (actAt bs i)))
        rw [hA]
        refine ent_of (rl := [(1, 9)]) (nl := []) ⟨rfl, ?_, ?_, ⟨⟨Nat.le_of_ble_eq_true rfl, subR.refl _⟩, trivial⟩, rfl, rfl, Nat.zero_le _, trivial, ⟨⟨Nat.zero_le _, Nat.zero_le _⟩, trivial⟩⟩ <;> (repeat' (first | exact trivial | exact SameL.refl _ | exact ep_seal rfl rfl | assumption | exact congrArg (Value.int _) (by assumption) | exact rfl | exact Nat.le_of_ble_eq_true rfl | decide | apply And.intro))
      have e3 : ¬ (bs.getD (6 * i + 0) default).tmod 8 = 3 := e3
      refine if_eq (fun e4 => ?_) (fun e4 => ?_)
      · have e4 : (bs.getD (6 * i + 0) default).tmod 8 = 4 := e4
        have hA : actAt bs i = ⟨2, keyS (bs.getD (6 * i + 1) default), [], 0, 0, 0, 0, 0, 0, 0⟩ := by
          unfold actAt actF
          rw [if_neg hn3, if_neg (by rw [← h0]; exact e3), if_pos (by rw [← h0]; exact e4)]
        refine ⟨⟨false, fun _ => by rw [hA]⟩, ?_⟩
        show Ent 0 _ (SAj bs i (acN (actAt bs i)))
        rw [hA]
        refine ent_of (rl := [(1, 9)]) (nl := []) ⟨rfl, ?_, ?_, ⟨⟨Nat.le_of_ble_eq_true rfl, subR.refl _⟩, trivial⟩, rfl, rfl, Nat.zero_le _, trivial, ⟨⟨Nat.zero_le _, Nat.zero_le _⟩, trivial⟩⟩ <;> (repeat' (first | exact trivial | exact SameL.refl _ | exact ep_seal rfl rfl | assumption | exact congrArg (Value.int _) (by assumption) | exact rfl | exact Nat.le_of_ble_eq_true rfl | decide | apply And.intro))
      · have e4 : ¬ (bs.getD (6 * i + 0) default).tmod 8 = 4 := e4
        have hA : actAt bs i = ⟨3, keyS (bs.getD (6 * i + 1) default), [], bs.getD (6 * i + 2) default % 32 - 8, bs.getD (6 * i + 3) default % 32 - 8, 1 + bs.getD (6 * i + 4) default % 8, 1 + bs.getD (6 * i + 4) default / 8 % 8, 96, 97 + bs.getD (6 * i + 5) default % 128, 255 - bs.getD (6 * i + 5) default⟩ := by
          unfold actAt actF
          rw [if_neg hn3, if_neg (by rw [← h0]; exact e3), if_neg (by rw [← h0]; exact e4)]
        refine ⟨⟨by omega, by show (2 : Int) < ((bs.length - 6 * i : Nat) : Int); omega⟩, ?_⟩
        refine ⟨⟨by omega, by show (3 : Int) < ((bs.length - 6 * i : Nat) : Int); omega⟩, ?_⟩
        refine ⟨⟨by omega, by show (4 : Int) < ((bs.length - 6 * i : Nat) : Int); omega⟩, ?_⟩
        refine ⟨⟨by omega, by show (4 : Int) < ((bs.length - 6 * i : Nat) : Int); omega⟩, ?_⟩
        refine ⟨⟨by omega, by show (5 : Int) < ((bs.length - 6 * i : Nat) : Int); omega⟩, ?_⟩
        refine ⟨⟨by omega, by show (5 : Int) < ((bs.length - 6 * i : Nat) : Int); omega⟩, ?_⟩
        refine ⟨⟨false, fun _ => by rw [hA]⟩, ?_⟩
        show Ent 0 _ (SAj bs i (acN (actAt bs i)))
        rw [hA]
        have q2 := penX (hb (6 * i + 2))
        have q3 := penX (hb (6 * i + 3))
        have q4 := penN (hb (6 * i + 4))
        have q5 := penD (hb (6 * i + 4))
        have q6 := penH (hb (6 * i + 5))
        have q7 := penI (hb (6 * i + 5))
        refine ent_of (rl := [(1, 9)]) (nl := []) ⟨rfl, ?_, ?_, ⟨⟨Nat.le_of_ble_eq_true rfl, subR.refl _⟩, trivial⟩, rfl, rfl, Nat.zero_le _, trivial, ⟨⟨Nat.zero_le _, Nat.zero_le _⟩, trivial⟩⟩ <;> (repeat' (first | exact trivial | exact SameL.refl _ | exact ep_seal rfl rfl | assumption | exact congrArg (Value.int _) (by assumption) | exact rfl | exact Nat.le_of_ble_eq_true rfl | decide | apply And.intro))
    · obtain ⟨t, ht⟩ := t
      cases t
      · refine ⟨appBig (by show (actsF bs i).length ≤ _; omega) (by decide), ?_⟩
        refine ⟨⟨by omega, by show (6 : Int) ≤ ((bs.length - 6 * i : Nat) : Int); omega, by show ((bs.length - 6 * i : Nat) : Int) ≤ ((bs.length - 6 * i : Nat) : Int); omega⟩, ?_⟩
        refine ⟨i + 1, ⟨Nat.lt_succ_self _, by omega⟩, ?_⟩
        refine ent_of (rl := [(0, 5)]) (nl := []) ⟨rfl, ?_, ?_, ⟨⟨Nat.le_of_ble_eq_true rfl, subR_snoc rfl rfl (fun j hj => acEl (ht rfl) j hj) (actsF_succ bs i) rfl⟩, trivial⟩, rfl, rfl, Nat.zero_le _, trivial, ⟨⟨Nat.zero_le _, Nat.zero_le _⟩, trivial⟩⟩ <;> (repeat' (first | exact trivial | exact SameL.refl _ | exact ep_seal rfl rfl | assumption | exact congrArg (Value.int _) (by assumption) | exact rfl | exact Nat.le_of_ble_eq_true rfl | decide | apply And.intro))
        exact fun x hx j hj => .of_eq (by show rowOf uL bs (6 * i + (6 + x)) j = rowOf uL bs (6 * (i + 1) + x) j; rw [show 6 * i + (6 + x) = 6 * (i + 1) + x by omega])
      · refine ⟨appBig (by show (actsF bs i).length ≤ _; omega) (by decide), ?_⟩
        refine ⟨⟨by omega, by show (6 : Int) ≤ ((bs.length - 6 * i : Nat) : Int); omega, by show ((bs.length - 6 * i : Nat) : Int) ≤ ((bs.length - 6 * i : Nat) : Int); omega⟩, ?_⟩
        refine ⟨i + 1, ⟨Nat.lt_succ_self _, by omega⟩, ?_⟩
        refine ent_of (rl := [(0, 5)]) (nl := []) ⟨rfl, ?_, ?_, ⟨⟨Nat.le_of_ble_eq_true rfl, subR_snoc rfl rfl (fun j hj => elem1 rfl) (actsF_succ bs i) rfl⟩, trivial⟩, rfl, rfl, Nat.zero_le _, trivial, ⟨⟨Nat.zero_le _, Nat.zero_le _⟩, trivial⟩⟩ <;> (repeat' (first | exact trivial | exact SameL.refl _ | exact ep_seal rfl rfl | assumption | exact congrArg (Value.int _) (by assumption) | exact rfl | exact Nat.le_of_ble_eq_true rfl | decide | apply And.intro))
        exact fun x hx j hj => .of_eq (by show rowOf uL bs (6 * i + (6 + x)) j = rowOf uL bs (6 * (i + 1) + x) j; rw [show 6 * i + (6 + x) = 6 * (i + 1) + x by omega])
  · have hlt : ¬ ((bs.length - 6 * i : Nat) : Int) ≥ 6 := hlt
    have hi : i = bs.length / 6 := by omega
    subst hi
    exact ⟨⟨⟨rfl, hli, fun a ha j hj => ⟨rfl, SameL.refl _⟩⟩, trivial⟩, trivial⟩
end Go.Proofs.YtggappbiedkopaaGreat
