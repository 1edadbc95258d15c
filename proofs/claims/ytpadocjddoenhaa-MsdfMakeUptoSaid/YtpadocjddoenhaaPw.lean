/- The contracts of wide, root. -/
import Derived.Test.YtpadocjddoenhaaPb
namespace Go.Proofs.Ytpadocjddoenhaa
open Go SX
set_option linter.unusedVariables false
set_option maxRecDepth 100000

/-! ### numbers of 64 bits -/
@[reducible] def U (n : Int) : L := .lit (.int .u64 n)
@[reducible] def aU (n : Int) : Bool × List L := (false, [U n])
@[reducible] def wu (n : Int) : Int := IntKind.u64.wrap n
def in64u (n : Int) : Prop := 0 ≤ n ∧ n < 18446744073709551616
theorem wu_in {n : Int} (h : in64u n) : wu n = n := by
  unfold in64u at h
  show n % 2 ^ 64 = n
  omega
theorem wu_mod (n : Int) : wu n = n % 18446744073709551616 := rfl
@[reducible] def andU (a b : Int) : Int := wu ((BitVec.ofInt 64 a &&& BitVec.ofInt 64 b).toNat : Nat)
@[reducible] def orU (a b : Int) : Int := wu ((BitVec.ofInt 64 a ||| BitVec.ofInt 64 b).toNat : Nat)
theorem mask32 {a : Int} (h : in64u a) : andU a 4294967295 = a % 4294967296 := by
  unfold in64u at h
  obtain ⟨n, rfl⟩ : ∃ n : Nat, a = n := ⟨a.toNat, by omega⟩
  have h1 : (BitVec.ofInt 64 (n : Int)).toNat = n := by simp; omega
  have h2 : (BitVec.ofInt 64 4294967295).toNat = 2 ^ 32 - 1 := by decide
  unfold andU
  rw [BitVec.toNat_and, h1, h2, Nat.and_two_pow_sub_one_eq_mod, wu_in (by unfold in64u; omega)]
  omega
theorem mask1 {a : Int} (h : in64u a) : andU a 1 = a % 2 := by
  unfold in64u at h
  obtain ⟨n, rfl⟩ : ∃ n : Nat, a = n := ⟨a.toNat, by omega⟩
  have h1 : (BitVec.ofInt 64 (n : Int)).toNat = n := by simp; omega
  have h2 : (BitVec.ofInt 64 1).toNat = 2 ^ 1 - 1 := by decide
  unfold andU
  rw [BitVec.toNat_and, h1, h2, Nat.and_two_pow_sub_one_eq_mod, wu_in (by unfold in64u; omega)]
  omega
theorem or_add {x y k : Nat} (hy : y < 2 ^ k) (h : 2 ^ k * x + y < 18446744073709551616) : orU ((2 ^ k * x : Nat) : Int) (y : Int) = ((2 ^ k * x + y : Nat) : Int) := by
  have h1 : (BitVec.ofInt 64 ((2 ^ k * x : Nat) : Int)).toNat = 2 ^ k * x := by
    rw [BitVec.ofInt_natCast, BitVec.toNat_ofNat]; exact Nat.mod_eq_of_lt (Nat.lt_of_le_of_lt (Nat.le_add_right _ y) h)
  have h2 : (BitVec.ofInt 64 (y : Int)).toNat = y := by
    rw [BitVec.ofInt_natCast, BitVec.toNat_ofNat]; exact Nat.mod_eq_of_lt (Nat.lt_of_le_of_lt (Nat.le_add_left _ _) h)
  unfold orU
  rw [BitVec.toNat_or, h1, h2, ← Nat.two_pow_add_eq_or_of_lt hy]
  exact wu_in ⟨Int.natCast_nonneg _, Int.ofNat_lt.2 h⟩
theorem mul_in32 {a b : Int} (ha : 0 ≤ a ∧ a < 4294967296) (hb : 0 ≤ b ∧ b < 4294967296) : 0 ≤ a * b ∧ a * b ≤ 18446744065119617025 := by
  refine ⟨Int.mul_nonneg ha.1 hb.1, ?_⟩
  exact Int.mul_le_mul (show a ≤ 4294967295 by omega) (show b ≤ 4294967295 by omega) hb.1 (by decide)
theorem vU {b b' : Int} (h : b = b') : Value.int .u64 b = Value.int .u64 b' := congrArg (Value.int .u64) h
/-- a product of two, its halves -/
@[reducible] def aHL (x : Int) : Bool × List L := (true, [U (x / 18446744073709551616), U (x % 18446744073709551616)])
@[reducible] def sh32 (a : Int) : Int := a.fdiv (2 ^ Int.toNat 32)
@[reducible] def low32 (a : Int) : Int := andU a 4294967295
def mulHi (a b : Int) : Int := wu (wu (wu (wu (sh32 a * sh32 b) + sh32 (wu (sh32 a * low32 b))) + sh32 (wu (low32 a * sh32 b))) + sh32 (wu (wu (sh32 (wu (low32 a * low32 b)) + low32 (wu (sh32 a * low32 b))) + low32 (wu (low32 a * sh32 b)))))
theorem sh32_eq (a : Int) : sh32 a = a / 4294967296 := Int.fdiv_eq_ediv_of_nonneg a (by decide)
theorem mulHi_eq {a b : Int} (ha : in64u a) (hb : in64u b) : mulHi a b = a * b / 18446744073709551616 := by
  unfold mulHi
  rw [sh32_eq a, sh32_eq b, show low32 a = a % 4294967296 from mask32 ha, show low32 b = b % 4294967296 from mask32 hb]
  unfold in64u at ha hb
  have hab : a * b = (a / 4294967296) * (b / 4294967296) * 18446744073709551616 + ((a / 4294967296) * (b % 4294967296) + (a % 4294967296) * (b / 4294967296)) * 4294967296 + (a % 4294967296) * (b % 4294967296) := by
    have h1 := Int.mul_ediv_add_emod a 4294967296
    have h2 := Int.mul_ediv_add_emod b 4294967296
    generalize a / 4294967296 = x at *
    generalize a % 4294967296 = y at *
    generalize b / 4294967296 = z at *
    generalize b % 4294967296 = w at *
    rw [← h1, ← h2]
    grind
  have p0 := mul_in32 (a := a % 4294967296) (b := b % 4294967296) (by omega) (by omega)
  have q0 := mul_in32 (a := a / 4294967296) (b := b % 4294967296) (by omega) (by omega)
  have r0 := mul_in32 (a := a % 4294967296) (b := b / 4294967296) (by omega) (by omega)
  have s0 := mul_in32 (a := a / 4294967296) (b := b / 4294967296) (by omega) (by omega)
  generalize (a % 4294967296) * (b % 4294967296) = p at *
  generalize (a / 4294967296) * (b % 4294967296) = q at *
  generalize (a % 4294967296) * (b / 4294967296) = r at *
  generalize (a / 4294967296) * (b / 4294967296) = s at *
  rw [wu_in (n := p) (by unfold in64u; omega), wu_in (n := q) (by unfold in64u; omega), wu_in (n := r) (by unfold in64u; omega), wu_in (n := s) (by unfold in64u; omega)]
  rw [show low32 q = q % 4294967296 from mask32 (by unfold in64u; omega), show low32 r = r % 4294967296 from mask32 (by unfold in64u; omega), sh32_eq p, sh32_eq q, sh32_eq r]
  rw [wu_in (n := p / 4294967296 + q % 4294967296) (by unfold in64u; omega), wu_in (n := p / 4294967296 + q % 4294967296 + r % 4294967296) (by unfold in64u; omega), sh32_eq]
  rw [wu_in (n := s + q / 4294967296) (by unfold in64u; omega), wu_in (n := s + q / 4294967296 + r / 4294967296) (by unfold in64u; omega), wu_in (by unfold in64u; omega)]
  omega
theorem mul_at {a b : Int} (ha : in64u a) (hb : in64u b) : FnAt Try.prog 45 [aU a, aU b] [aHL (a * b)] := by
  refine fn_at (E := EE) (fn := Try.f45) (c := Try.f45.body.getD .skip) (rs := Try.f45.results.toList) (nt := Try.f45.ntmps) EE_ok follows (by kernel_rfl) (by kernel_rfl) rfl rfl rfl [] rfl ?_
  refine ⟨by decide, by decide, by decide, by decide, by decide, by decide, ?_⟩
  exact ⟨⟨vU (show mulHi a b = _ from mulHi_eq ha hb), vU (wu_mod (a * b)), trivial⟩, trivial⟩
theorem u2_eq (a b c d : Int) : eqL [.int .u64 a, .int .u64 b] [.int .u64 c, .int .u64 d] = decide (a = c ∧ b = d) := by
  simp [eqL, eq1, Bool.decide_and]
  rfl
def cmpI (x y : Int) : Int := if x < y then -1 else if x = y then 0 else 1
theorem pcmp_at {x y : Int} (hx : 0 ≤ x) (hy : 0 ≤ y) : FnAt Try.prog 70 [aHL x, aHL y] [aI (cmpI x y)] := by
  refine fn_at (E := EE) (fn := Try.f70) (c := Try.f70.body.getD .skip) (rs := Try.f70.results.toList) (nt := Try.f70.ntmps) EE_ok follows (by kernel_rfl) (by kernel_rfl) rfl rfl rfl [] rfl ?_
  have e1 : x = x / 18446744073709551616 * 18446744073709551616 + x % 18446744073709551616 := by omega
  have e2 : y = y / 18446744073709551616 * 18446744073709551616 + y % 18446744073709551616 := by omega
  have lx := Int.emod_lt_of_pos x (b := 18446744073709551616) (by decide)
  have ly := Int.emod_lt_of_pos y (b := 18446744073709551616) (by decide)
  have lx0 := Int.emod_nonneg x (b := 18446744073709551616) (by decide)
  have ly0 := Int.emod_nonneg y (b := 18446744073709551616) (by decide)
  have fin : ¬ x < y → (eqL [.int .u64 (x / 18446744073709551616), .int .u64 (x % 18446744073709551616)] [.int .u64 (y / 18446744073709551616), .int .u64 (y % 18446744073709551616)] = true → cmpI x y = 0) ∧ (eqL [.int .u64 (x / 18446744073709551616), .int .u64 (x % 18446744073709551616)] [.int .u64 (y / 18446744073709551616), .int .u64 (y % 18446744073709551616)] = false → cmpI x y = 1) := by
    intro hlt
    rw [u2_eq]
    unfold cmpI
    rw [if_neg hlt]
    refine ⟨fun h => ?_, fun h => ?_⟩
    · have h := of_decide_eq_true h
      rw [if_pos (by omega)]
    · have h := of_decide_eq_false h
      rw [if_neg (by omega)]
  refine if_dec_f (fun h1 => ?_) (fun h1 => ?_)
  · have h1 : ¬ x / 18446744073709551616 < y / 18446744073709551616 := h1
    refine if_eq (fun h2 => ?_) (fun h2 => ?_)
    · have h2 : x / 18446744073709551616 = y / 18446744073709551616 := h2
      refine if_dec (fun h3 => ?_) (fun h3 => ?_)
      · have h3 : x % 18446744073709551616 < y % 18446744073709551616 := h3
        exact ⟨⟨kI (by unfold cmpI; rw [if_pos (by omega)]), trivial⟩, trivial⟩
      · have h3 : ¬ x % 18446744073709551616 < y % 18446744073709551616 := h3
        have fin := fin (by omega)
        exact ⟨fun h => ⟨⟨kI (fin.1 h), trivial⟩, trivial⟩, fun h => ⟨⟨kI (fin.2 h), trivial⟩, trivial⟩⟩
    · have h2 : x / 18446744073709551616 ≠ y / 18446744073709551616 := h2
      have fin := fin (by omega)
      exact ⟨fun h => ⟨⟨kI (fin.1 h), trivial⟩, trivial⟩, fun h => ⟨⟨kI (fin.2 h), trivial⟩, trivial⟩⟩
  · refine ⟨⟨kI (by unfold cmpI; rw [if_pos (by omega)]), trivial⟩, trivial⟩
theorem less_at {a b c d : Int} (ha : 0 ≤ a ∧ a ≤ 9223372036854775807) (hb : 0 ≤ b ∧ b ≤ 9223372036854775807) (hc : 0 ≤ c ∧ c ≤ 9223372036854775807) (hd : 0 ≤ d ∧ d ≤ 9223372036854775807) : FnAt Try.prog 56 [aI a, aI b, aI c, aI d] [aI (cmpI (a * d) (c * b))] := by
  have wa := wu_in (n := a) (by unfold in64u; omega)
  have wb := wu_in (n := b) (by unfold in64u; omega)
  have wc := wu_in (n := c) (by unfold in64u; omega)
  have wd := wu_in (n := d) (by unfold in64u; omega)
  refine fn_at (E := EE) (fn := Try.f56) (c := Try.f56.body.getD .skip) (rs := Try.f56.results.toList) (nt := Try.f56.ntmps) EE_ok follows (by kernel_rfl) (by kernel_rfl) rfl rfl rfl [] rfl ?_
  refine ⟨_, (mul_at (a := wu a) (b := wu d) (by rw [wa]; unfold in64u; omega) (by rw [wd]; unfold in64u; omega)), ?_⟩
  refine ⟨_, (mul_at (a := wu c) (b := wu b) (by rw [wc]; unfold in64u; omega) (by rw [wb]; unfold in64u; omega)), ?_⟩
  refine ⟨_, pcmp_at (x := wu a * wu d) (y := wu c * wu b) (by rw [wa, wd]; exact Int.mul_nonneg ha.1 hd.1) (by rw [wc, wb]; exact Int.mul_nonneg hc.1 hb.1), ?_⟩
  exact ⟨⟨vI (by rw [wa, wb, wc, wd]), trivial⟩, trivial⟩
/-! ### long division -/
def topV (X i : Nat) : Nat := X / 2 ^ (64 - i)
theorem topV_succ {X i : Nat} (h : i < 64) : topV X (i + 1) = 2 * topV X i + X / 2 ^ (63 - i) % 2 := by
  unfold topV
  rw [show 64 - i = (63 - i) + 1 by omega, show 64 - (i + 1) = 63 - i by omega, Nat.pow_succ, ← Nat.div_div_eq_div_mul]
  omega
theorem divs {V b d : Nat} (hd : 0 < d) : (2 * V + b) / d = 2 * (V / d) + (if d ≤ 2 * (V % d) + b then (2 * (V % d) + b) / d else 0) ∧ (2 * V + b) % d = (2 * (V % d) + b) % d := by
  have h := Nat.div_add_mod V d
  have e : 2 * V + b = 2 * (V % d) + b + d * (2 * (V / d)) := by
    have : d * (2 * (V / d)) = 2 * (d * (V / d)) := by rw [Nat.mul_left_comm]
    omega
  rw [e]
  refine ⟨?_, Nat.add_mul_mod_self_left ..⟩
  rw [Nat.add_mul_div_left _ _ hd]
  split
  · omega
  · rename_i hn; rw [Nat.div_eq_of_lt (by omega)]; omega
theorem low_bit {X k : Nat} (h : k < 64) : X % 18446744073709551616 / 2 ^ k % 2 = X / 2 ^ k % 2 := by
  have h1 := Nat.testBit_mod_two_pow X 64 k
  rw [Nat.testBit_eq_decide_div_mod_eq, Nat.testBit_eq_decide_div_mod_eq, show decide (k < 64) = true from decide_eq_true h, Bool.true_and] at h1
  have h2 := decide_eq_decide.1 h1
  have h3 : (2 : Nat) ^ 64 = 18446744073709551616 := by decide
  rw [h3] at h2
  omega
def outQ (X d i : Nat) : Nat := topV X i / d * 2 ^ (64 - i)
theorem div_step {X d i : Nat} (hd : 0 < d) (hi : i < 64) :
    (d ≤ 2 * (topV X i % d) + X / 2 ^ (63 - i) % 2 → topV X (i + 1) % d = 2 * (topV X i % d) + X / 2 ^ (63 - i) % 2 - d ∧ outQ X d (i + 1) = outQ X d i + 2 ^ (63 - i)) ∧
    (¬ d ≤ 2 * (topV X i % d) + X / 2 ^ (63 - i) % 2 → topV X (i + 1) % d = 2 * (topV X i % d) + X / 2 ^ (63 - i) % 2 ∧ outQ X d (i + 1) = outQ X d i) := by
  obtain ⟨h1, h2⟩ := divs (V := topV X i) (b := X / 2 ^ (63 - i) % 2) hd
  have hr := Nat.mod_lt (topV X i) hd
  have hb := Nat.mod_lt (X / 2 ^ (63 - i)) (show 0 < 2 by decide)
  have hp : 2 ^ (64 - i) = 2 * 2 ^ (63 - i) := by rw [show 64 - i = (63 - i) + 1 by omega, Nat.pow_succ, Nat.mul_comm]
  refine ⟨fun h => ?_, fun h => ?_⟩
  · have hq : (2 * (topV X i % d) + X / 2 ^ (63 - i) % 2) / d = 1 := by
      rw [Nat.div_eq_iff hd]; omega
    have hm : (2 * (topV X i % d) + X / 2 ^ (63 - i) % 2) % d = 2 * (topV X i % d) + X / 2 ^ (63 - i) % 2 - d := by
      rw [Nat.mod_eq_sub_mod h, Nat.mod_eq_of_lt (by omega)]
    refine ⟨by rw [topV_succ hi, h2, hm], ?_⟩
    unfold outQ
    rw [topV_succ hi, h1, if_pos h, hq, hp, show 64 - (i + 1) = 63 - i by omega, Nat.add_mul, Nat.one_mul, Nat.mul_comm 2, Nat.mul_assoc]
  · refine ⟨by rw [topV_succ hi, h2, Nat.mod_eq_of_lt (by omega)], ?_⟩
    unfold outQ
    rw [topV_succ hi, h1, if_neg h, hp, show 64 - (i + 1) = 63 - i by omega, Nat.add_zero, Nat.mul_comm 2, Nat.mul_assoc]
theorem outQ_lt {X d i : Nat} (h : X / 18446744073709551616 < d) (hi : i ≤ 64) : outQ X d i < 18446744073709551616 := by
  have hX : X < d * 2 ^ 64 := by
    have : (2 : Nat) ^ 64 = 18446744073709551616 := by decide
    rw [this]; omega
  have h1 : topV X i < d * 2 ^ i := by
    unfold topV
    rw [Nat.div_lt_iff_lt_mul (Nat.two_pow_pos _), Nat.mul_assoc, ← Nat.pow_add, show i + (64 - i) = 64 by omega]
    exact hX
  have h2 : topV X i / d < 2 ^ i := by
    rw [Nat.div_lt_iff_lt_mul (by omega), Nat.mul_comm]; exact h1
  unfold outQ
  have h3 := Nat.mul_lt_mul_of_pos_right h2 (Nat.two_pow_pos (64 - i))
  rw [← Nat.pow_add, show i + (64 - i) = 64 by omega] at h3
  exact h3
@[reducible] def restW (R lo k : Int) : Int := orU (wu (R * 2 ^ Int.toNat 1)) (andU (lo.fdiv (2 ^ k.toNat)) 1)
theorem restW_eq {X R i : Nat} (hi : i < 64) (hR : R < 18446744073709551616) : restW (R : Int) ((X % 18446744073709551616 : Nat) : Int) (63 - (i : Int)) = (((2 * R + X / 2 ^ (63 - i) % 2) % 18446744073709551616 : Nat) : Int) := by
  have hk : (63 - (i : Int)).toNat = 63 - i := by omega
  have hl := low_bit (X := X) (k := 63 - i) (by omega)
  have hf : ((X % 18446744073709551616 : Nat) : Int).fdiv (2 ^ (63 - i)) = ((X % 18446744073709551616 / 2 ^ (63 - i) : Nat) : Int) := by
    rw [Int.fdiv_eq_ediv_of_nonneg _ (Int.le_of_lt (Int.pow_pos (by decide)))]
    norm_cast
  have hlt : X % 18446744073709551616 / 2 ^ (63 - i) < 18446744073709551616 := Nat.lt_of_le_of_lt (Nat.div_le_self _ _) (Nat.mod_lt _ (by decide))
  have hb := Nat.mod_lt (X / 2 ^ (63 - i)) (show 0 < 2 by decide)
  unfold restW
  rw [hk, hf, mask1 ⟨Int.natCast_nonneg _, Int.ofNat_lt.2 hlt⟩]
  have e1 : (((X % 18446744073709551616 / 2 ^ (63 - i) : Nat) : Int) % 2) = ((X / 2 ^ (63 - i) % 2 : Nat) : Int) := by
    rw [← hl]; norm_cast
  have e2 : wu ((R : Int) * 2 ^ Int.toNat 1) = ((2 ^ 1 * (R % 9223372036854775808) : Nat) : Int) := by
    rw [wu_mod, show (2 : Int) ^ Int.toNat 1 = 2 by decide]; omega
  rw [e1, e2, or_add (by omega) (by omega)]
  omega
theorem or_out {Q k : Nat} {out : Int} (h : out = ((Q * 2 ^ (k + 1) : Nat) : Int)) (hk : k < 64) (hl : Q * 2 ^ (k + 1) + 2 ^ k < 18446744073709551616) : orU out (wu (1 * 2 ^ k)) = ((Q * 2 ^ (k + 1) + 2 ^ k : Nat) : Int) := by
  have h1 : wu (1 * 2 ^ k) = ((2 ^ k : Nat) : Int) := by
    rw [Int.one_mul, wu_in]
    · norm_cast
    · have h2 : (2 : Nat) ^ k < 18446744073709551616 := by omega
      have h3 : ((2 ^ k : Nat) : Int) < ((18446744073709551616 : Nat) : Int) := Int.ofNat_lt.2 h2
      rw [Int.natCast_pow] at h3
      exact ⟨Int.le_of_lt (Int.pow_pos (by decide)), h3⟩
  rw [h1, h, Nat.mul_comm, or_add (Nat.pow_lt_pow_right (by decide) (Nat.lt_succ_self _)) (by rw [Nat.mul_comm]; exact hl)]
noncomputable def SDv (X d i : Nat) : SS := mkS
  [(1, .o (.v (.int .u64 d))), (2, .o (.p 0 0)), (7, .o (.v (.int .u64 (outQ X d i)))), (8, .o (.v (.int .u64 ((topV X i % d : Nat) : Int)))), (9, .o (.v (.int .i64 (63 - (i : Int)))))]
  [(0, 92, [.v (.int .u64 ((X / 18446744073709551616 : Nat) : Int)), .v (.int .u64 ((X % 18446744073709551616 : Nat) : Int))])] [] 1 Try.f46.ntmps
theorem div_at (X d : Nat) (hd : d < 18446744073709551616) (h : X / 18446744073709551616 < d) : FnAt Try.prog 46 [(true, [U ((X / 18446744073709551616 : Nat) : Int), U ((X % 18446744073709551616 : Nat) : Int)]), aU (d : Int)] [aU ((X / d : Nat) : Int), aU ((X % d : Nat) : Int), aI 0] := by
  refine fn_at (E := EE) (fn := Try.f46) (c := Try.f46.body.getD .skip) (rs := Try.f46.results.toList) (nt := Try.f46.ntmps) EE_ok follows (by kernel_rfl) (by kernel_rfl) rfl rfl rfl [] rfl ?_
  refine if_dec (fun h1 => absurd (show ((X / 18446744073709551616 : Nat) : Int) ≥ (d : Int) from h1) (by omega)) (fun h1 => ?_)
  have v0 : topV X 0 = X / 18446744073709551616 := rfl
  have e1 : ((X / 18446744073709551616 : Nat) : Int) = ((topV X 0 % d : Nat) : Int) := by rw [v0, Nat.mod_eq_of_lt h]
  have e2 : (0 : Int) = ((outQ X d 0 : Nat) : Int) := by unfold outQ; rw [v0, Nat.div_eq_of_lt h, Nat.zero_mul]; rfl
  refine loop_nat 64 (SDv X d) ?_ (fun i hi => ?_)
  · refine ent_of (rl := []) (nl := []) ⟨rfl, ?_, ?_, trivial, rfl, rfl, Nat.zero_le _, trivial, trivial⟩ <;> (repeat' (first | exact trivial | exact SameL.refl _ | exact ep_seal rfl rfl | assumption | exact congrArg (Value.int _) (by assumption) | exact rfl | exact Nat.le_of_ble_eq_true rfl | decide | apply And.intro))
  refine if_dec (fun hlt => ?_) (fun hge => ?_)
  · have hlt : i < 64 := by omega
    refine ⟨by decide, ⟨by omega, by show (63 - (i : Int)) ≤ 64; omega⟩, ?_⟩
    have hd0 : 0 < d := by omega
    have hR := Nat.mod_lt (topV X i) hd0
    obtain ⟨s1, s2⟩ := div_step (X := X) hd0 hlt
    have hrw := restW_eq (X := X) (R := topV X i % d) hlt (by omega)
    have hob := outQ_lt h (i := i + 1) (by omega)
    have hb2 := Nat.mod_lt (X / 2 ^ (63 - i)) (show 0 < 2 by decide)
    have hk : (63 - (i : Int)).toNat = 63 - i := by omega
    have hw : w64 ((63 - (i : Int)) - 1) = 63 - ((i + 1 : Nat) : Int) := by rw [w64_in (by omega)]; omega
    have hoi : ((outQ X d i : Nat) : Int) = ((topV X i / d * 2 ^ (63 - i + 1) : Nat) : Int) := by unfold outQ; rw [show 64 - i = 63 - i + 1 by omega]
    have hor : d ≤ 2 * (topV X i % d) + X / 2 ^ (63 - i) % 2 → orU ((outQ X d i : Nat) : Int) (wu (1 * 2 ^ (63 - (i : Int)).toNat)) = ((outQ X d (i + 1) : Nat) : Int) := by
      intro h'
      have e := (s1 h').2
      rw [e] at hob
      unfold outQ at hob
      rw [show 64 - i = 63 - i + 1 by omega] at hob
      rw [hk, or_out hoi (by omega) hob, e]
      unfold outQ
      rw [show 64 - i = 63 - i + 1 by omega]
    have hwr : d ≤ 2 * (topV X i % d) + X / 2 ^ (63 - i) % 2 → wu (restW ((topV X i % d : Nat) : Int) ((X % 18446744073709551616 : Nat) : Int) (63 - (i : Int)) - (d : Int)) = ((topV X (i + 1) % d : Nat) : Int) := by
      intro h'
      rw [hrw, (s1 h').1, wu_mod]
      omega
    have htop : ((topV X i % d : Nat) : Int).fdiv (2 ^ Int.toNat 63) = (topV X i % d : Nat) / 9223372036854775808 := Int.fdiv_eq_ediv_of_nonneg _ (by decide)
    refine if_eq_f (fun h1 => ?_) (fun h1 => ?_)
    · have h1 : ((topV X i % d : Nat) : Int).fdiv (2 ^ Int.toNat 63) ≠ 1 := h1
      rw [htop] at h1
      have hsm : 2 * (topV X i % d) + X / 2 ^ (63 - i) % 2 < 18446744073709551616 := by omega
      rw [Nat.mod_eq_of_lt hsm] at hrw
      refine if_dec (fun h2 => ?_) (fun h2 => ?_)
      · have h2 : restW ((topV X i % d : Nat) : Int) ((X % 18446744073709551616 : Nat) : Int) (63 - (i : Int)) ≥ (d : Int) := h2
        rw [hrw] at h2
        have hge : d ≤ 2 * (topV X i % d) + X / 2 ^ (63 - i) % 2 := by omega
        have q1 := hor hge
        have q2 := hwr hge
        refine ⟨⟨by omega, by show (63 - (i : Int)) ≤ 64; omega⟩, ?_⟩
        refine ⟨i + 1, ⟨Nat.lt_succ_self _, hlt⟩, ?_⟩
        refine ent_of (rl := []) (nl := []) ⟨rfl, ?_, ?_, trivial, rfl, rfl, Nat.zero_le _, trivial, trivial⟩ <;> (repeat' (first | exact trivial | exact SameL.refl _ | exact ep_seal rfl rfl | assumption | exact congrArg (Value.int _) (by assumption) | exact rfl | exact Nat.le_of_ble_eq_true rfl | decide | apply And.intro))
      · have h2 : ¬ restW ((topV X i % d : Nat) : Int) ((X % 18446744073709551616 : Nat) : Int) (63 - (i : Int)) ≥ (d : Int) := h2
        rw [hrw] at h2
        have hge : ¬ d ≤ 2 * (topV X i % d) + X / 2 ^ (63 - i) % 2 := by omega
        have q1 : ((outQ X d i : Nat) : Int) = ((outQ X d (i + 1) : Nat) : Int) := by rw [(s2 hge).2]
        have q2 : restW ((topV X i % d : Nat) : Int) ((X % 18446744073709551616 : Nat) : Int) (63 - (i : Int)) = ((topV X (i + 1) % d : Nat) : Int) := by rw [hrw, (s2 hge).1]
        refine ⟨i + 1, ⟨Nat.lt_succ_self _, hlt⟩, ?_⟩
        refine ent_of (rl := []) (nl := []) ⟨rfl, ?_, ?_, trivial, rfl, rfl, Nat.zero_le _, trivial, trivial⟩ <;> (repeat' (first | exact trivial | exact SameL.refl _ | exact ep_seal rfl rfl | assumption | exact congrArg (Value.int _) (by assumption) | exact rfl | exact Nat.le_of_ble_eq_true rfl | decide | apply And.intro))
    · have h1 : ((topV X i % d : Nat) : Int).fdiv (2 ^ Int.toNat 63) = 1 := h1
      rw [htop] at h1
      have hge : d ≤ 2 * (topV X i % d) + X / 2 ^ (63 - i) % 2 := by omega
      have q1 := hor hge
      have q2 := hwr hge
      refine ⟨⟨by omega, by show (63 - (i : Int)) ≤ 64; omega⟩, ?_⟩
      refine ⟨i + 1, ⟨Nat.lt_succ_self _, hlt⟩, ?_⟩
      refine ent_of (rl := []) (nl := []) ⟨rfl, ?_, ?_, trivial, rfl, rfl, Nat.zero_le _, trivial, trivial⟩ <;> (repeat' (first | exact trivial | exact SameL.refl _ | exact ep_seal rfl rfl | assumption | exact congrArg (Value.int _) (by assumption) | exact rfl | exact Nat.le_of_ble_eq_true rfl | decide | apply And.intro))
  · have hin : i = 64 := by omega
    subst hin
    have v64 : topV X 64 = X := by unfold topV; rw [Nat.sub_self, Nat.pow_zero, Nat.div_one]
    refine ⟨⟨vU ?_, trivial⟩, ⟨vU ?_, trivial⟩, ⟨⟨rfl, rfl⟩, trivial⟩, trivial⟩
    · unfold outQ; rw [v64, Nat.sub_self, Nat.pow_zero, Nat.mul_one]
    · rw [v64]
noncomputable def SOf (a b : Int) (p : Int × Int) : SS := mkS [(0, .o (.v (.int .i64 a))), (1, .o (.v (.int .i64 b))), (4, .o (.p 0 0)), (6, .o (.v (.int .i64 p.1))), (7, .o (.v (.int .i64 p.2)))] [(0, 59, [.k (.int .i64 0), .k (.int .i64 0)])] [] 1 Try.f60.ntmps
def InvOf (a b : Int) (p : Int × Int) : Prop := 0 ≤ p.1 ∧ 0 ≤ p.2 ∧ 0 < p.1 + p.2 ∧ Int.gcd p.1 p.2 = Int.gcd a b
theorem rof_at (a b : Int) (h0 : 0 ≤ a) (h1 : 1 ≤ b) (ha : a ≤ 9223372036854775807) (hb : b ≤ 9223372036854775807) : FnAt Try.prog 60 [aI a, aI b] [aPt ⟨a / Int.gcd a b, b / Int.gcd a b⟩, aI 0] := by
  refine fn_at (E := EE) (fn := Try.f60) (c := Try.f60.body.getD .skip) (rs := Try.f60.results.toList) (nt := Try.f60.ntmps) EE_ok follows (by kernel_rfl) (by kernel_rfl) rfl rfl rfl [] rfl ?_
  refine if_dec_f (fun _ => ?_) (fun h => absurd h (by omega))
  refine if_dec (fun h => absurd h (by omega)) (fun _ => ?_)
  refine loop_inv (InvOf a b) (fun p => p.2.toNat) (SOf a b) (a, b) ⟨h0, by show 0 ≤ b; omega, by show 0 < a + b; omega, rfl⟩ ?_ (fun p hp => ?_)
  · refine ent_of (rl := []) (nl := []) ⟨rfl, ?_, ?_, trivial, rfl, rfl, Nat.zero_le _, trivial, trivial⟩ <;> (repeat' (first | exact trivial | exact SameL.refl _ | exact ep_seal rfl rfl | assumption | exact congrArg (Value.int _) (by assumption) | exact rfl | exact Nat.le_of_ble_eq_true rfl | decide | apply And.intro))
  obtain ⟨u, v⟩ := p
  obtain ⟨i1, i2, i3, i4⟩ := hp
  dsimp only at i1 i2 i3 i4
  refine if_ne (fun hne => ?_) (fun hz => ?_)
  · have hne : v ≠ 0 := hne
    have hmod : u.tmod v = u % v := Int.tmod_eq_emod_of_nonneg i1
    have hm1 := Int.emod_nonneg u hne
    have hm2 := Int.emod_lt_of_pos u (b := v) (by omega)
    refine ⟨hne, ?_⟩
    refine ⟨(v, u % v), ⟨?_, ?_⟩, ?_⟩
    · show (u % v).toNat < v.toNat; omega
    · exact ⟨i2, hm1, by show 0 < v + u % v; omega, by show Int.gcd v (u % v) = _; rw [← i4, Int.gcd_comm u v, Int.emod_def]; exact Int.gcd_sub_mul_left_right v u (u / v)⟩
    · rw [← hmod]
      refine ent_of (rl := []) (nl := []) ⟨rfl, ?_, ?_, trivial, rfl, rfl, Nat.zero_le _, trivial, trivial⟩ <;> (repeat' (first | exact trivial | exact SameL.refl _ | exact ep_seal rfl rfl | assumption | exact congrArg (Value.int _) (by assumption) | exact rfl | exact Nat.le_of_ble_eq_true rfl | decide | apply And.intro))
  · have hz : v = 0 := hz
    subst hz
    have hg : u = (Int.gcd a b : Nat) := by rw [← i4]; simp; omega
    have g0 : u ≠ 0 := by omega
    have q1 := Int.ediv_le_self u h0
    have q2 := Int.ediv_le_self u (show 0 ≤ b by omega)
    have q3 : w64 (a.tdiv u) = a / (Int.gcd a b : Nat) := by
      rw [Int.tdiv_eq_ediv_of_nonneg h0, w64_in, ← hg]
      have := Int.ediv_nonneg h0 i1
      omega
    have q4 : w64 (b.tdiv u) = b / (Int.gcd a b : Nat) := by
      rw [Int.tdiv_eq_ediv_of_nonneg (by omega), w64_in, ← hg]
      have := Int.ediv_nonneg (show 0 ≤ b by omega) i1
      omega
    refine ⟨g0, g0, ?_⟩
    exact ⟨⟨vI q3.symm, vI q4.symm, trivial⟩, ⟨⟨rfl, rfl⟩, trivial⟩, trivial⟩
end Go.Proofs.Ytpadocjddoenhaa
