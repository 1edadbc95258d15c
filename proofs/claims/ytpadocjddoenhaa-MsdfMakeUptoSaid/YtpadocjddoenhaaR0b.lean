/- The contracts of sdf: Texel, Row, Make; of law10: Field, Same. -/
import Derived.Test.YtpadocjddoenhaaR0a
import Derived.Test.YtpadocjddoenhaaPq
namespace Go.Proofs.Ytpadocjddoenhaa
open Go SX
set_option linter.unusedVariables false
set_option maxRecDepth 100000
set_option maxHeartbeats 1000000

def bys (n : Int) : List L := [.lit (.int .u8 n)]
@[reducible] def aU8' (n : Int) : Bool × List L := (false, [.lit (.int .u8 n)])
@[reducible] def aBys (t : List Int) : Bool × List L := aSl bys 1 t
@[reducible] def aFd (w h : Int) (t : List Int) : Bool × List L := (true, [I w, I h, .sl 1 t.length (rowOf bys t)])
/-- a grid that is right -/
def gdIn (g : Gd) : Prop := (1 ≤ g.w ∧ g.w ≤ 24) ∧ (1 ≤ g.h ∧ g.h ≤ 24) ∧ (-255 ≤ g.x ∧ g.x ≤ 255) ∧ (-255 ≤ g.y ∧ g.y ≤ 255) ∧ (1 ≤ g.pitch ∧ g.pitch ≤ 16) ∧ (1 ≤ g.spread ∧ g.spread ≤ 64)
theorem check_in {g : Gd} : checkG g = 0 ↔ gdIn g := by
  unfold checkG gdIn okSide okArg
  simp only [Bool.and_eq_true, inB_iff]
  constructor
  · intro h
    split at h
    · rename_i h1
      split at h
      · rename_i h2; exact ⟨h1.1, h1.2, h2.1, h2.2.1, h2.2.2.1, h2.2.2.2⟩
      · omega
    · omega
  · rintro ⟨a, b, c, d, e, f⟩
    rw [if_pos ⟨a, b⟩, if_pos ⟨c, d, e, f⟩]
theorem ofG_eq {a n p : Int} (ha : -255 ≤ a ∧ a ≤ 255) (hn : -255 ≤ n ∧ n ≤ 255) (hp : 1 ≤ p ∧ p ≤ 16) : ofG a n p = 32 * a + 32 * (p * n) + 16 * p := by
  have hm : -(255 * 16) ≤ n * p ∧ n * p ≤ 255 * 16 := mul_bd hn (by omega)
  have h1 : w64 (a * 32) = a * 32 := w64_in (by omega)
  have h2 : w64 (n * p) = n * p := w64_in (by omega)
  have h3 : w64 (n * p * 32) = n * p * 32 := w64_in (by omega)
  have h4 : w64 (p * 32) = p * 32 := w64_in (by omega)
  have h5 : (p * 32).tdiv 2 = 16 * p := by rw [Int.tdiv_eq_ediv_of_nonneg (by omega)]; omega
  unfold ofG
  rw [h1, h2, h3, h4, h5, w64_in (n := 16 * p) (by omega), w64_in (n := a * 32 + n * p * 32) (by omega), w64_in (by omega), Int.mul_comm p n]
  omega
theorem centre_eq {g : Gd} (hg : gdIn g) {i k : Int} (hi : -255 ≤ i ∧ i ≤ 255) (hk : -255 ≤ k ∧ k ≤ 255) : centre g i k = ⟨32 * g.x + 32 * (g.pitch * i) + 16 * g.pitch, 32 * g.y + 32 * (g.pitch * k) + 16 * g.pitch⟩ := by
  obtain ⟨_, _, hx, hy, hp, _⟩ := hg
  unfold centre
  rw [ofG_eq hx hi hp, ofG_eq hy hk hp]
theorem centre_in {g : Gd} (hg : gdIn g) {i k : Int} (hi : 0 ≤ i ∧ i < 24) (hk : 0 ≤ k ∧ k < 24) : ptIn 33000 (centre g i k) := by
  rw [centre_eq hg (by omega) (by omega)]
  obtain ⟨_, _, hx, hy, hp, _⟩ := hg
  have m1 := mul_bd (x := g.pitch) (y := i) (B := 16) (C := 24) (by omega) (by omega)
  have m2 := mul_bd (x := g.pitch) (y := k) (B := 16) (C := 24) (by omega) (by omega)
  unfold ptIn; dsimp only; omega
/-- what a texel holds -/
noncomputable def texel (es : List Ed) (g : Gd) (i k : Int) : Int := match es with
  | [] => codeN g.spread (-1) (w64 (256 * g.spread))
  | es => codeN g.spread (sign es (centre g i k)) (eight es (centre g i k))
theorem texel_pos {es : List Ed} {g : Gd} {i k : Int} (h : 0 < es.length) : texel es g i k = codeN g.spread (sign es (centre g i k)) (eight es (centre g i k)) := by
  cases es with
  | nil => simp at h
  | cons e es => rfl
theorem eight_neg {es : List Ed} {p : Pt} (h : edsIn es) (hp : ptIn 33000 p) : eight es p < 0 ↔ es = [] := by
  constructor
  · intro h'
    rcases Nat.eq_zero_or_pos es.length with h0 | h0
    · exact List.eq_nil_of_length_eq_zero h0
    · rw [eight_pos h0] at h'
      have := (eightF_ok (near_pos h hp h0).2.2.2).1
      omega
  · intro h'; subst h'; show (-1 : Int) < 0; decide
theorem texel_at {es : List Ed} {g : Gd} {i k : Int} (h : edsIn es) (hg : gdIn g) (hi : 0 ≤ i ∧ i < 24) (hk : 0 ≤ k ∧ k < 24) : FnAt Try.prog 24 [aEds es, aGd g, aI i, aI k] [aU8' (texel es g i k)] := by
  have hc := centre_in hg hi hk
  have hs := hg.2.2.2.2.2
  refine fn_at (E := EE) (fn := Try.f24) (c := Try.f24.body.getD .skip) (rs := Try.f24.results.toList) (nt := Try.f24.ntmps) EE_ok follows (by kernel_rfl) (by kernel_rfl) rfl rfl rfl [] rfl ?_
  refine ⟨_, centre_at g i k, ?_⟩
  refine ⟨_, eight_at h hc, ?_⟩
  refine if_dec (fun h0 => ?_) (fun h0 => ?_)
  · obtain rfl := (eight_neg h hc).1 h0
    refine ⟨_, code_at g (-1) (w64 (256 * g.spread)) hs, ?_⟩
    exact ⟨⟨rfl, trivial⟩, trivial⟩
  · have hp : 0 < es.length := by
      rcases Nat.eq_zero_or_pos es.length with h' | h'
      · exact absurd ((eight_neg h hc).2 (List.eq_nil_of_length_eq_zero h')) h0
      · exact h'
    refine ⟨_, sign_at h hc, ?_⟩
    refine ⟨_, code_at g _ _ hs, ?_⟩
    exact ⟨⟨vI (texel_pos hp), trivial⟩, trivial⟩
/-- rows of texels -/
noncomputable def rowTo (es : List Ed) (g : Gd) (k : Int) (i : Nat) : List Int := (List.range i).map fun a : Nat => texel es g (a : Int) k
noncomputable def fieldTo (es : List Ed) (g : Gd) (k : Nat) : List Int := (List.range k).flatMap fun b : Nat => rowTo es g (b : Int) g.w.toNat
theorem rowTo_succ (es : List Ed) (g : Gd) (k : Int) (i : Nat) : rowTo es g k (i + 1) = rowTo es g k i ++ [texel es g (i : Int) k] := by
  unfold rowTo; rw [List.range_succ, List.map_append]; rfl
theorem fieldTo_succ (es : List Ed) (g : Gd) (k : Nat) : fieldTo es g (k + 1) = fieldTo es g k ++ rowTo es g (k : Int) g.w.toNat := by
  unfold fieldTo; rw [List.range_succ, List.flatMap_append]; simp
theorem rowTo_len (es : List Ed) (g : Gd) (k : Int) (i : Nat) : (rowTo es g k i).length = i := by unfold rowTo; simp
theorem fieldTo_len (es : List Ed) (g : Gd) (k : Nat) : (fieldTo es g k).length = k * g.w.toNat := by
  induction k with
  | zero => unfold fieldTo; simp
  | succ k ih => rw [fieldTo_succ, List.length_append, ih, rowTo_len, Nat.add_mul, Nat.one_mul]
@[reducible] def rB (t : List Int) : OR := ⟨5, 1, t.length, rowOf bys t, true⟩
noncomputable def SRw (es : List Ed) (g : Gd) (k : Int) (i : Nat) : SS := mkS
  [(0, .o (.sl false 4 es.length (rowOf Ed.ls es))), (2, .o (.v (.int .i64 k))), (4, .o (.p 0 0)), (7, .o (.h 1)), (8, .o (.v (.int .i64 i)))]
  [(0, 46, [.v (.int .i64 g.x), .v (.int .i64 g.y), .v (.int .i64 g.pitch), .v (.int .i64 g.w), .v (.int .i64 g.h), .v (.int .i64 g.spread)])] [(1, rB (rowTo es g k i))] 2 Try.f48.ntmps
theorem row_at {es : List Ed} {g : Gd} {k : Int} (h : edsIn es) (hg : gdIn g) (hk : 0 ≤ k ∧ k < 24) : FnAt Try.prog 48 [aEds es, aGd g, aI k] [aBys (rowTo es g k g.w.toNat)] := by
  have hw := hg.1
  have hn : ((g.w.toNat : Nat) : Int) = g.w := by omega
  refine fn_at (E := EE) (fn := Try.f48) (c := Try.f48.body.getD .skip) (rs := Try.f48.results.toList) (nt := Try.f48.ntmps) EE_ok follows (by kernel_rfl) (by kernel_rfl) rfl rfl rfl [] rfl ?_
  refine loop_nat g.w.toNat (SRw es g k) ?_ (fun i hi => ?_)
  · refine ent_of (rl := []) (nl := [1]) ⟨rfl, ?_, ?_, ⟨⟨Nat.le_of_ble_eq_true rfl, rfl⟩, trivial⟩, rfl, rfl, Nat.zero_le _, ⟨Nat.zero_le _, trivial⟩, trivial⟩ <;> (repeat' (first | exact trivial | exact SameL.refl _ | exact ep_seal rfl rfl | assumption | exact congrArg (Value.int _) (by assumption) | exact rfl | exact Nat.le_of_ble_eq_true rfl | decide | apply And.intro))
  refine if_dec (fun hlt => ?_) (fun hge => ?_)
  · have hlt : i < g.w.toNat := by have : (i : Int) < g.w := hlt; omega
    have hw' := w64_succ hlt (by omega)
    have hl := rowTo_len es g k i
    refine ⟨_, texel_at h hg (by omega) hk, ?_⟩
    refine ⟨appB (n := (rowTo es g k i).length) (by omega) (by decide), ?_⟩
    refine ⟨i + 1, ⟨Nat.lt_succ_self _, hlt⟩, ?_⟩
    refine ent_of (rl := [(1, 13)]) (nl := []) ⟨rfl, ?_, ?_, ⟨⟨Nat.le_of_ble_eq_true rfl, subR_snoc rfl rfl (fun j hj => elem1 rfl) (rowTo_succ es g k i) rfl⟩, trivial⟩, rfl, rfl, Nat.zero_le _, trivial, ⟨⟨Nat.zero_le _, Nat.zero_le _⟩, trivial⟩⟩ <;> (repeat' (first | exact trivial | exact SameL.refl _ | exact ep_seal rfl rfl | assumption | exact congrArg (Value.int _) (by assumption) | exact rfl | exact Nat.le_of_ble_eq_true rfl | decide | apply And.intro))
  · have hin : i = g.w.toNat := by have : ¬ (i : Int) < g.w := hge; omega
    subst hin
    exact ⟨⟨row_ret rfl, trivial⟩, trivial⟩
noncomputable def SMk (es : List Ed) (g : Gd) (k : Nat) : SS := mkS
  [(0, .o (.sl false 4 es.length (rowOf Ed.ls es))), (3, .o (.p 0 0)), (4, .o (.p 1 0)), (7, .o (.p 2 0)), (8, .o (.v (.int .i64 k)))]
  [(0, 46, [.v (.int .i64 g.x), .v (.int .i64 g.y), .v (.int .i64 g.pitch), .v (.int .i64 g.w), .v (.int .i64 g.h), .v (.int .i64 g.spread)]), (1, 28, [.any, .any, .any]), (2, 28, [.v (.int .i64 g.w), .v (.int .i64 g.h), .h 3])] [(3, rB (fieldTo es g k))] 4 Try.f27.ntmps
theorem make_at {es : List Ed} {g : Gd} (h : edsIn es) (hg : gdIn g) : FnAt Try.prog 27 [aEds es, aGd g] [aFd g.w g.h (fieldTo es g g.h.toNat), aI 0] := by
  refine fn_at (E := EE) (fn := Try.f27) (c := Try.f27.body.getD .skip) (rs := Try.f27.results.toList) (nt := Try.f27.ntmps) EE_ok follows (by kernel_rfl) (by kernel_rfl) rfl rfl rfl [] rfl ?_
  have hc := check_at g
  rw [check_in.2 hg] at hc
  refine ⟨_, hc, ?_⟩
  refine if_ne (fun h => absurd rfl h) (fun _ => ?_)
  have hw := hg.1
  have hh := hg.2.1
  refine loop_nat g.h.toNat (SMk es g) ?_ (fun k hk => ?_)
  · refine ent_of (rl := [(2, 13)]) (nl := [3]) ⟨rfl, ?_, ?_, ⟨⟨Nat.le_of_ble_eq_true rfl, rfl⟩, trivial⟩, rfl, rfl, Nat.zero_le _, ⟨Nat.zero_le _, trivial⟩, ⟨⟨Nat.zero_le _, Nat.zero_le _⟩, trivial⟩⟩ <;> (repeat' (first | exact trivial | exact SameL.refl _ | exact ep_seal rfl rfl | assumption | exact congrArg (Value.int _) (by assumption) | exact rfl | exact Nat.le_of_ble_eq_true rfl | decide | apply And.intro))
  refine if_dec (fun hlt => ?_) (fun hge => ?_)
  · have hlt : k < g.h.toNat := by have : (k : Int) < g.h := hlt; omega
    have hw' := w64_succ hlt (by omega)
    have hl := fieldTo_len es g k
    have hl' := rowTo_len es g k g.w.toNat
    have hm : k * g.w.toNat ≤ 24 * 24 := Nat.mul_le_mul (by omega) (by omega)
    refine ⟨_, row_at h hg (by omega), ?_⟩
    refine ⟨appM (n := (fieldTo es g k).length) (m := (rowTo es g (k : Int) g.w.toNat).length) (by omega) (by decide), ?_⟩
    refine ⟨k + 1, ⟨Nat.lt_succ_self _, hlt⟩, ?_⟩
    refine ent_of (rl := [(3, 14)]) (nl := []) ⟨rfl, ?_, ?_, ⟨⟨Nat.le_of_ble_eq_true rfl, subR_app rfl rfl rfl rfl (fieldTo_succ es g k) rfl⟩, trivial⟩, rfl, rfl, Nat.zero_le _, trivial, ⟨⟨Nat.zero_le _, Nat.zero_le _⟩, trivial⟩⟩ <;> (repeat' (first | exact trivial | exact SameL.refl _ | exact ep_seal rfl rfl | assumption | exact congrArg (Value.int _) (by assumption) | exact rfl | exact Nat.le_of_ble_eq_true rfl | decide | apply And.intro))
  · have hin : k = g.h.toNat := by have : ¬ (k : Int) < g.h := hge; omega
    subst hin
    exact ⟨⟨rfl, rfl, row_ret rfl, trivial⟩, ⟨⟨rfl, rfl⟩, trivial⟩, trivial⟩
theorem texel_nil {g : Gd} (hg : gdIn g) (i k : Int) : texel [] g i k = 1 := by
  have hs := hg.2.2.2.2.2
  show codeN g.spread (-1) (w64 (256 * g.spread)) = 1
  unfold codeN
  rw [if_neg (by omega)]; rfl
theorem foldl_push (f : Nat → UInt8) : ∀ (l : List Nat) (r : ByteArray), (l.foldl (fun r i => r.push (f i)) r).data.toList = r.data.toList ++ l.map f
  | [], r => by simp
  | i :: l, r => by
    rw [List.foldl_cons, foldl_push f l]
    simp [ByteArray.push]
theorem bytes_list (n : Nat) (f : Nat → Nat → L) : (bytesOf n f).toList = (List.range n).map fun i => SX.byteOf (f i 0) := by
  rw [ByteArray.toList_eq]
  unfold bytesOf
  rw [foldl_push]
  rfl
def toU8 (c : Int) : UInt8 := UInt8.ofNat c.toNat
theorem range_getD {α β : Type} [Inhabited α] (f : α → β) : ∀ t : List α, (List.range t.length).map (fun i => f (t.getD i default)) = t.map f := fun t => by
  refine List.ext_getElem (by simp) fun i h1 h2 => ?_
  have h : i < t.length := by simpa using h1
  simp [List.getElem?_eq_getElem h]
theorem bytes_row (t : List Int) : (bytesOf t.length (rowOf bys t)).toList = t.map toU8 := by
  rw [bytes_list]
  exact range_getD toU8 t
theorem toU8_inj {a b : Int} (ha : 0 ≤ a ∧ a ≤ 255) (hb : 0 ≤ b ∧ b ≤ 255) (h : toU8 a = toU8 b) : a = b := by
  unfold toU8 at h
  have := congrArg UInt8.toNat h
  rw [UInt8.toNat_ofNat', UInt8.toNat_ofNat', Nat.mod_eq_of_lt (by omega), Nat.mod_eq_of_lt (by omega)] at this
  omega
theorem map_inj : ∀ {t t' : List Int}, (∀ c ∈ t, 0 ≤ c ∧ c ≤ 255) → (∀ c ∈ t', 0 ≤ c ∧ c ≤ 255) → t.map toU8 = t'.map toU8 → t = t'
  | [], [], _, _, _ => rfl
  | [], _ :: _, _, _, h => by simp at h
  | _ :: _, [], _, _, h => by simp at h
  | a :: t, b :: t', h1, h2, h => by
    simp only [List.map_cons, List.cons.injEq] at h
    rw [toU8_inj (h1 a List.mem_cons_self) (h2 b List.mem_cons_self) h.1, map_inj (fun c hc => h1 c (List.mem_cons_of_mem _ hc)) (fun c hc => h2 c (List.mem_cons_of_mem _ hc)) h.2]
theorem bytes_eq {t t' : List Int} (h : ∀ c ∈ t, 0 ≤ c ∧ c ≤ 255) (h' : ∀ c ∈ t', 0 ≤ c ∧ c ≤ 255) : ((bytesOf t.length (rowOf bys t)).toList == (bytesOf t'.length (rowOf bys t')).toList) = decide (t = t') := by
  rw [bytes_row, bytes_row, Bool.eq_iff_iff, beq_iff_eq, decide_eq_true_iff]
  exact ⟨map_inj h h', fun h => by rw [h]⟩
theorem same_at (w h w' h' : Int) (t t' : List Int) (ht : ∀ c ∈ t, 0 ≤ c ∧ c ≤ 255) (ht' : ∀ c ∈ t', 0 ≤ c ∧ c ≤ 255) : FnAt Try.prog 28 [aFd w h t, aFd w' h' t'] [aB (decide (w = w' ∧ h = h' ∧ t = t'))] := by
  refine fn_at (E := EE) (fn := Try.f28) (c := Try.f28.body.getD .skip) (rs := Try.f28.results.toList) (nt := Try.f28.ntmps) EE_ok follows (by kernel_rfl) (by kernel_rfl) rfl rfl rfl [] rfl ?_
  refine if_eq (fun h1 => ?_) (fun h1 => ?_)
  · refine if_eq (fun h2 => ?_) (fun h2 => ?_)
    · refine ⟨fun i hi => trivial, ?_⟩
      refine ⟨fun i hi => trivial, ?_⟩
      refine ⟨⟨vB ?_, trivial⟩, trivial⟩
      rw [bytes_eq ht ht', Bool.eq_iff_iff, decide_eq_true_iff, decide_eq_true_iff]
      exact ⟨fun h => h.2.2, fun h => ⟨h1, h2, h⟩⟩
    · exact ⟨⟨kB (decide_eq_false fun h => h2 h.2.1), trivial⟩, trivial⟩
  · exact ⟨⟨kB (decide_eq_false fun h => h1 h.1), trivial⟩, trivial⟩
end Go.Proofs.Ytpadocjddoenhaa
