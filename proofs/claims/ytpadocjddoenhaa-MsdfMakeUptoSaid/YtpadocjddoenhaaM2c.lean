/- The contracts of msdf.Median, msdf.Make. -/
import Derived.Test.YtpadocjddoenhaaM2b
import Derived.Test.YtpadocjddoenhaaR0e
namespace Go.Proofs.Ytpadocjddoenhaa
open Go SX
set_option linter.unusedVariables false
set_option maxRecDepth 100000
set_option maxHeartbeats 2000000

/-- a field, texel by texel -/
def genF (f : Nat → Nat → Int) (W H : Nat) : List Int := (txs W H).map fun p => f p.1 p.2
def genTo {W H : Nat} (f : Nat → Nat → Int) (pre : List (Tx W H)) : List Int := pre.map fun x => f x.1.1 x.1.2
theorem genTo_snoc {W H : Nat} (f : Nat → Nat → Int) (pre : List (Tx W H)) (x : Tx W H) : genTo f (pre ++ [x]) = genTo f pre ++ [f x.1.1 x.1.2] := by unfold genTo; rw [List.map_append]; rfl
theorem genTo_full {W H : Nat} {f : Nat → Nat → Int} {xs : List (Tx W H)} (h : xs.map (·.1) = txs W H) : genTo f xs = genF f W H := by
  unfold genTo genF
  rw [← h, List.map_map]
  rfl
theorem genTo_len {W H : Nat} (f : Nat → Nat → Int) (pre : List (Tx W H)) : (genTo f pre).length = pre.length := List.length_map ..
theorem genF_len (f : Nat → Nat → Int) (W H : Nat) : (genF f W H).length = H * W := by unfold genF; rw [List.length_map, txs_len]
theorem genF_get {f : Nat → Nat → Int} {W : Nat} : ∀ {H k i : Nat}, k < H → i < W → (genF f W H).getD (k * W + i) default = f i k
  | 0, k, i, h, _ => by omega
  | H + 1, k, i, h, hi => by
    have e : genF f W (H + 1) = genF f W H ++ (List.range W).map fun i => f i H := by
      unfold genF
      rw [txs_succ, List.map_append, List.map_map]
      rfl
    rw [e, getD_app, genF_len]
    rcases Nat.lt_or_ge k H with hk | hk
    · have : (k + 1) * W ≤ H * W := Nat.mul_le_mul_right _ hk
      rw [Nat.add_mul] at this
      rw [if_pos (by omega), genF_get hk hi]
    · obtain rfl : k = H := by omega
      rw [if_neg (by omega), show k * W + i - k * W = i by omega, List.getD_eq_getElem?_getD, List.getElem?_map, List.getElem?_range hi]
      rfl
theorem genF_in {f : Nat → Nat → Int} (h : ∀ i k, 0 ≤ f i k ∧ f i k ≤ 255) {W H : Nat} : ∀ c ∈ genF f W H, 0 ≤ c ∧ c ≤ 255 := fun c hc => by
  unfold genF at hc
  obtain ⟨p, _, rfl⟩ := List.mem_map.1 hc
  exact h _ _
theorem nOf_mono {s e e' : Int} (hs : 1 ≤ s ∧ s ≤ 64) (he : 0 ≤ e) (h : e ≤ e') : nOf s e ≤ nOf s e' := by
  have h1 := nOf_in hs he
  have h2 := nOf_in hs (show 0 ≤ e' by omega)
  unfold nOf at *
  split
  · split
    · exact Int.ediv_le_ediv (by omega) (by omega)
    · rename_i h3 h4; rw [if_pos h3] at h1; omega
  · split
    · omega
    · omega
noncomputable def chTx (es : List Ed) (l : List Int) (g : Gd) (c : Int) (i k : Nat) : Int := chanN es l g i k c
@[reducible] def aFds (w h : Int) (a b c : List Int) : Bool × List L := (true, [I w, I h, .sl 1 a.length (rowOf bys a), I w, I h, .sl 1 b.length (rowOf bys b), I w, I h, .sl 1 c.length (rowOf bys c)])
def medN (a b c : Int) : Int := max2I (min2I a b) (min2I (max2I a b) c)
theorem med_at (a b c : Int) : FnAt Try.prog 10 [aU8' a, aU8' b, aU8' c] [aU8' (medN a b c)] := by
  refine fn_at (E := EE) (fn := Try.f10) (c := Try.f10.body.getD .skip) (rs := Try.f10.results.toList) (nt := Try.f10.ntmps) EE_ok follows (by kernel_rfl) (by kernel_rfl) rfl rfl rfl [] rfl ?_
  exact ⟨⟨rfl, trivial⟩, trivial⟩
theorem gd_24m {g : Gd} (h : gdIn g) : 0 ≤ g.w ∧ g.w ≤ 1000 ∧ 0 ≤ g.h ∧ g.h ≤ 1000 := by unfold gdIn at h; omega
theorem tx_inm {g : Gd} (hg : gdIn g) (x : Tx g.w.toNat g.h.toNat) : (x.1.1 < g.w.toNat ∧ x.1.2 < g.h.toNat) ∧ (0 ≤ (x.1.1 : Int) ∧ (x.1.1 : Int) < 24) ∧ (0 ≤ (x.1.2 : Int) ∧ (x.1.2 : Int) < 24) := by
  obtain ⟨⟨i, k⟩, hi, hk⟩ := x
  have hi : i < g.w.toNat := hi
  have hk : k < g.h.toNat := hk
  have hw := hg.1
  have hh := hg.2.1
  refine ⟨⟨hi, hk⟩, ?_, ?_⟩ <;> (dsimp only; omega)
theorem sz_inm {g : Gd} (hg : gdIn g) : g.h.toNat * g.w.toNat ≤ 24 * 24 := Nat.mul_le_mul (by have := hg.2.1; omega) (by have := hg.1; omega)
@[reducible] def zMk : List C := [.k (.int .i64 0), .k (.int .i64 0), .k (Value.slice none 0 0), .k (.int .i64 0), .k (.int .i64 0), .k (Value.slice none 0 0), .k (.int .i64 0), .k (.int .i64 0), .k (Value.slice none 0 0)]
@[reducible] def tlMk (c : Int) : List (Nat × SV) := [(3, .o (.p 0 0)), (4, .o (.p 1 0)), (5, .o (.p 2 0)), (6, .o (.p 3 0)), (8, .o (.p 4 0)), (10, .o (.p 5 0)), (19, .o (.k (.int .i64 c))), (33, .o (.f 34 [6]))]
@[reducible] noncomputable def bsMk (es : List Ed) (l : List Int) (g : Gd) (c : Int) (cells : List C) : List (Nat × Nat × List C) :=
  [(0, 38, [.sl false 4 es.length (rowOf Ed.ls es)]), (1, 39, [.sl false 1 l.length (rowOf ints l)]), (2, 46, gdM g), (3, 30, zMk), (4, 30, cells), (5, 3, [.k (.int .i64 c)]), (6, 46, gdM g)]
theorem mmake_bad {es : List Ed} {l : List Int} {g : Gd} (hg : checkG g ≠ 0) : FnAt Try.prog 17 [aEds es, aInts l, aGd g] [aFds 0 0 [] [] [], aI (checkG g)] := by
  refine fn_at (E := EH) (fn := Try.f17) (c := Try.f17.body.getD .skip) (rs := Try.f17.results.toList) (nt := Try.f17.ntmps) EH_ok follows (by kernel_rfl) (by kernel_rfl) rfl rfl rfl [] rfl ?_
  refine ⟨_, check_at g, ?_⟩
  refine if_ne (fun _ => ?_) (fun h => absurd h hg)
  exact ⟨⟨⟨rfl, rfl⟩, ⟨rfl, rfl⟩, ⟨rfl, rfl⟩, ⟨rfl, rfl⟩, ⟨rfl, rfl⟩, ⟨rfl, rfl⟩, ⟨rfl, rfl⟩, ⟨rfl, rfl⟩, ⟨rfl, rfl⟩, trivial⟩, ⟨rfl, trivial⟩, trivial⟩
theorem mmake_at {es : List Ed} {l : List Int} {g : Gd} (h : edsIn es) (hl : l.length ≤ 9000000000000000) (hg : gdIn g) : FnAt Try.prog 17 [aEds es, aInts l, aGd g]
    [aFds g.w g.h (genF (chTx es l g 0) g.w.toNat g.h.toNat) (genF (chTx es l g 1) g.w.toNat g.h.toNat) (genF (chTx es l g 2) g.w.toNat g.h.toNat), aI 0] := by
  have hsz := sz_inm hg
  refine fn_at (E := EH) (fn := Try.f17) (c := Try.f17.body.getD .skip) (rs := Try.f17.results.toList) (nt := Try.f17.ntmps) EH_ok follows (by kernel_rfl) (by kernel_rfl) rfl rfl rfl [] rfl ?_
  have hc := check_at g
  rw [check_in.2 hg] at hc
  refine ⟨_, hc, ?_⟩
  refine if_ne (fun h => absurd rfl h) (fun _ => ?_)
  refine Or.inl ⟨4, ?_⟩
  refine ⟨_, _, _, _, [], [], each_at g, (by refine ⟨?_, ?_, ?_, ?_, ?_, ?_⟩ <;> (repeat' (first | exact trivial | exact subR.refl _ | exact SameL.refl _ | assumption | exact congrArg (Value.int _) (by assumption) | exact congrArg (Value.int _) (Eq.symm (by assumption)) | exact rfl | exact Nat.le_of_ble_eq_true rfl | decide | apply And.intro))), ?_⟩
  refine ⟨Tx g.w.toNat g.h.toNat, 34, 6, 46, _, 8, 9, gvOf g, Tx.enc, _, tlMk 0, fun pre => bsMk es l g 0 [.v (.int .i64 g.w), .v (.int .i64 g.h), .h 7, .k (.int .i64 0), .k (.int .i64 0), .k (Value.slice none 0 0), .k (.int .i64 0), .k (.int .i64 0), .k (Value.slice none 0 0)], fun pre => [(7, rB (genTo (chTx es l g 0) pre))], fun pre x => bsMk es l g 0 [.v (.int .i64 g.w), .v (.int .i64 g.h), .h 8, .k (.int .i64 0), .k (.int .i64 0), .k (Value.slice none 0 0), .k (.int .i64 0), .k (.int .i64 0), .k (Value.slice none 0 0)], fun pre x => [(8, rB (genTo (chTx es l g 0) (pre ++ [x])))],
    each1_sq (gd_24m hg), rfl, fun x => ⟨rfl, tx_one x⟩, fun _ => ⟨rfl, rfl, rfl⟩, ?_, fun pre x hpre => ?_, fun _ _ => ⟨by decide, rfl⟩, fun pre x _ => ?_, fun xs0 hx0 => ?_⟩
  · refine ent_of (rl := [(4, 5), (5, 14), (6, 30)]) (nl := [7]) ⟨rfl, ?_, ?_, ⟨⟨Nat.le_of_ble_eq_true rfl, rfl⟩, trivial⟩, rfl, rfl, (by first | exact Nat.zero_le _ | exact Nat.le_of_ble_eq_true rfl), ⟨(by first | exact Nat.zero_le _ | exact Nat.le_of_ble_eq_true rfl), trivial⟩, ⟨⟨(by first | exact Nat.zero_le _ | exact Nat.le_of_ble_eq_true rfl), (by first | exact Nat.zero_le _ | exact Nat.le_of_ble_eq_true rfl)⟩, ⟨(by first | exact Nat.zero_le _ | exact Nat.le_of_ble_eq_true rfl), (by first | exact Nat.zero_le _ | exact Nat.le_of_ble_eq_true rfl)⟩, ⟨(by first | exact Nat.zero_le _ | exact Nat.le_of_ble_eq_true rfl), (by first | exact Nat.zero_le _ | exact Nat.le_of_ble_eq_true rfl)⟩, trivial⟩⟩ <;> (repeat' (first | exact trivial | exact SameL.refl _ | exact ep_seal rfl rfl | assumption | exact congrArg (Value.int _) (by assumption) | exact rfl | exact Nat.le_of_ble_eq_true rfl | decide | apply And.intro | apply all1 | apply all2 | apply all3 | apply all4 | apply all5))
  · have hx := tx_inm hg x
    obtain ⟨⟨i, k⟩, hi', hk'⟩ := x
    obtain ⟨_, hi, hk⟩ := hx
    dsimp only at hi hk
    have hpl : (genTo (chTx es l g 0) pre).length ≤ 4000000000000 := by
      rw [genTo_len]
      have : pre.length < g.h.toNat * g.w.toNat := hpre
      omega
    refine ⟨_, chan_at h hl hg hi hk (c := 0) (by decide), ?_⟩
    refine ⟨appB hpl (by decide), ?_⟩
    refine ent_of (rl := [(8, 21)]) (nl := []) ⟨rfl, ?_, ?_, ⟨⟨Nat.le_of_ble_eq_true rfl, subR_snoc rfl rfl (fun j hj => elem1 rfl) (genTo_snoc _ _ _) rfl⟩, trivial⟩, rfl, rfl, (by first | exact Nat.zero_le _ | exact Nat.le_of_ble_eq_true rfl), trivial, ⟨⟨(by first | exact Nat.zero_le _ | exact Nat.le_of_ble_eq_true rfl), (by first | exact Nat.zero_le _ | exact Nat.le_of_ble_eq_true rfl)⟩, trivial⟩⟩ <;> (repeat' (first | exact trivial | exact SameL.refl _ | exact ep_seal rfl rfl | assumption | exact congrArg (Value.int _) (by assumption) | exact rfl | exact Nat.le_of_ble_eq_true rfl | decide | apply And.intro | apply all1 | apply all2 | apply all3 | apply all4 | apply all5))
  · refine ent_of (rl := [(7, 8)]) (nl := []) ⟨rfl, ?_, ?_, ⟨⟨Nat.le_of_ble_eq_true rfl, subR.refl _⟩, trivial⟩, rfl, rfl, (by first | exact Nat.zero_le _ | exact Nat.le_of_ble_eq_true rfl), trivial, ⟨⟨(by first | exact Nat.zero_le _ | exact Nat.le_of_ble_eq_true rfl), (by first | exact Nat.zero_le _ | exact Nat.le_of_ble_eq_true rfl)⟩, trivial⟩⟩ <;> (repeat' (first | exact trivial | exact SameL.refl _ | exact ep_seal rfl rfl | assumption | exact congrArg (Value.int _) (by assumption) | exact rfl | exact Nat.le_of_ble_eq_true rfl | decide | apply And.intro | apply all1 | apply all2 | apply all3 | apply all4 | apply all5))
  refine ⟨_, _, _, _, [], [], each_at g, (by refine ⟨?_, ?_, ?_, ?_, ?_, ?_⟩ <;> (repeat' (first | exact trivial | exact subR.refl _ | exact SameL.refl _ | assumption | exact congrArg (Value.int _) (by assumption) | exact congrArg (Value.int _) (Eq.symm (by assumption)) | exact rfl | exact Nat.le_of_ble_eq_true rfl | decide | apply And.intro))), ?_⟩
  refine ⟨Tx g.w.toNat g.h.toNat, 34, 6, 46, _, 9, 10, gvOf g, Tx.enc, _, tlMk 1, fun pre => bsMk es l g 1 [.v (.int .i64 g.w), .v (.int .i64 g.h), .h 7, .v (.int .i64 g.w), .v (.int .i64 g.h), .h 8, .k (.int .i64 0), .k (.int .i64 0), .k (Value.slice none 0 0)], fun pre => [(7, rB (genTo (chTx es l g 0) xs0)), (8, rB (genTo (chTx es l g 1) pre))], fun pre x => bsMk es l g 1 [.v (.int .i64 g.w), .v (.int .i64 g.h), .h 7, .v (.int .i64 g.w), .v (.int .i64 g.h), .h 9, .k (.int .i64 0), .k (.int .i64 0), .k (Value.slice none 0 0)], fun pre x => [(7, rB (genTo (chTx es l g 0) xs0)), (9, rB (genTo (chTx es l g 1) (pre ++ [x])))],
    each1_sq (gd_24m hg), rfl, fun x => ⟨rfl, tx_one x⟩, fun _ => ⟨rfl, rfl, rfl⟩, ?_, fun pre x hpre => ?_, fun _ _ => ⟨by decide, rfl⟩, fun pre x _ => ?_, fun xs1 hx1 => ?_⟩
  · refine ent_of (rl := [(5, 12), (6, 28)]) (nl := [8]) ⟨rfl, ?_, ?_, ⟨⟨Nat.le_of_ble_eq_true rfl, subR.refl _⟩, ⟨Nat.le_of_ble_eq_true rfl, rfl⟩, trivial⟩, rfl, rfl, (by first | exact Nat.zero_le _ | exact Nat.le_of_ble_eq_true rfl), ⟨(by first | exact Nat.zero_le _ | exact Nat.le_of_ble_eq_true rfl), trivial⟩, ⟨⟨(by first | exact Nat.zero_le _ | exact Nat.le_of_ble_eq_true rfl), (by first | exact Nat.zero_le _ | exact Nat.le_of_ble_eq_true rfl)⟩, ⟨(by first | exact Nat.zero_le _ | exact Nat.le_of_ble_eq_true rfl), (by first | exact Nat.zero_le _ | exact Nat.le_of_ble_eq_true rfl)⟩, trivial⟩⟩ <;> (repeat' (first | exact trivial | exact SameL.refl _ | exact ep_seal rfl rfl | assumption | exact congrArg (Value.int _) (by assumption) | exact rfl | exact Nat.le_of_ble_eq_true rfl | decide | apply And.intro | apply all1 | apply all2 | apply all3 | apply all4 | apply all5))
  · have hx := tx_inm hg x
    obtain ⟨⟨i, k⟩, hi', hk'⟩ := x
    obtain ⟨_, hi, hk⟩ := hx
    dsimp only at hi hk
    have hpl : (genTo (chTx es l g 1) pre).length ≤ 4000000000000 := by
      rw [genTo_len]
      have : pre.length < g.h.toNat * g.w.toNat := hpre
      omega
    refine ⟨_, chan_at h hl hg hi hk (c := 1) (by decide), ?_⟩
    refine ⟨appB hpl (by decide), ?_⟩
    refine ent_of (rl := [(9, 22)]) (nl := []) ⟨rfl, ?_, ?_, ⟨⟨Nat.le_of_ble_eq_true rfl, subR.refl _⟩, ⟨Nat.le_of_ble_eq_true rfl, subR_snoc rfl rfl (fun j hj => elem1 rfl) (genTo_snoc _ _ _) rfl⟩, trivial⟩, rfl, rfl, (by first | exact Nat.zero_le _ | exact Nat.le_of_ble_eq_true rfl), trivial, ⟨⟨(by first | exact Nat.zero_le _ | exact Nat.le_of_ble_eq_true rfl), (by first | exact Nat.zero_le _ | exact Nat.le_of_ble_eq_true rfl)⟩, trivial⟩⟩ <;> (repeat' (first | exact trivial | exact SameL.refl _ | exact ep_seal rfl rfl | assumption | exact congrArg (Value.int _) (by assumption) | exact rfl | exact Nat.le_of_ble_eq_true rfl | decide | apply And.intro | apply all1 | apply all2 | apply all3 | apply all4 | apply all5))
  · refine ent_of (rl := [(8, 9)]) (nl := []) ⟨rfl, ?_, ?_, ⟨⟨Nat.le_of_ble_eq_true rfl, subR.refl _⟩, ⟨Nat.le_of_ble_eq_true rfl, subR.refl _⟩, trivial⟩, rfl, rfl, (by first | exact Nat.zero_le _ | exact Nat.le_of_ble_eq_true rfl), trivial, ⟨⟨(by first | exact Nat.zero_le _ | exact Nat.le_of_ble_eq_true rfl), (by first | exact Nat.zero_le _ | exact Nat.le_of_ble_eq_true rfl)⟩, trivial⟩⟩ <;> (repeat' (first | exact trivial | exact SameL.refl _ | exact ep_seal rfl rfl | assumption | exact congrArg (Value.int _) (by assumption) | exact rfl | exact Nat.le_of_ble_eq_true rfl | decide | apply And.intro | apply all1 | apply all2 | apply all3 | apply all4 | apply all5))
  refine ⟨_, _, _, _, [], [], each_at g, (by refine ⟨?_, ?_, ?_, ?_, ?_, ?_⟩ <;> (repeat' (first | exact trivial | exact subR.refl _ | exact SameL.refl _ | assumption | exact congrArg (Value.int _) (by assumption) | exact congrArg (Value.int _) (Eq.symm (by assumption)) | exact rfl | exact Nat.le_of_ble_eq_true rfl | decide | apply And.intro))), ?_⟩
  refine ⟨Tx g.w.toNat g.h.toNat, 34, 6, 46, _, 10, 11, gvOf g, Tx.enc, _, tlMk 2, fun pre => bsMk es l g 2 [.v (.int .i64 g.w), .v (.int .i64 g.h), .h 7, .v (.int .i64 g.w), .v (.int .i64 g.h), .h 8, .v (.int .i64 g.w), .v (.int .i64 g.h), .h 9], fun pre => [(7, rB (genTo (chTx es l g 0) xs0)), (8, rB (genTo (chTx es l g 1) xs1)), (9, rB (genTo (chTx es l g 2) pre))], fun pre x => bsMk es l g 2 [.v (.int .i64 g.w), .v (.int .i64 g.h), .h 7, .v (.int .i64 g.w), .v (.int .i64 g.h), .h 8, .v (.int .i64 g.w), .v (.int .i64 g.h), .h 10], fun pre x => [(7, rB (genTo (chTx es l g 0) xs0)), (8, rB (genTo (chTx es l g 1) xs1)), (10, rB (genTo (chTx es l g 2) (pre ++ [x])))],
    each1_sq (gd_24m hg), rfl, fun x => ⟨rfl, tx_one x⟩, fun _ => ⟨rfl, rfl, rfl⟩, ?_, fun pre x hpre => ?_, fun _ _ => ⟨by decide, rfl⟩, fun pre x _ => ?_, fun xs2 hx2 => ?_⟩
  · refine ent_of (rl := [(5, 13), (6, 29)]) (nl := [9]) ⟨rfl, ?_, ?_, ⟨⟨Nat.le_of_ble_eq_true rfl, subR.refl _⟩, ⟨Nat.le_of_ble_eq_true rfl, subR.refl _⟩, ⟨Nat.le_of_ble_eq_true rfl, rfl⟩, trivial⟩, rfl, rfl, (by first | exact Nat.zero_le _ | exact Nat.le_of_ble_eq_true rfl), ⟨(by first | exact Nat.zero_le _ | exact Nat.le_of_ble_eq_true rfl), trivial⟩, ⟨⟨(by first | exact Nat.zero_le _ | exact Nat.le_of_ble_eq_true rfl), (by first | exact Nat.zero_le _ | exact Nat.le_of_ble_eq_true rfl)⟩, ⟨(by first | exact Nat.zero_le _ | exact Nat.le_of_ble_eq_true rfl), (by first | exact Nat.zero_le _ | exact Nat.le_of_ble_eq_true rfl)⟩, trivial⟩⟩ <;> (repeat' (first | exact trivial | exact SameL.refl _ | exact ep_seal rfl rfl | assumption | exact congrArg (Value.int _) (by assumption) | exact rfl | exact Nat.le_of_ble_eq_true rfl | decide | apply And.intro | apply all1 | apply all2 | apply all3 | apply all4 | apply all5))
  · have hx := tx_inm hg x
    obtain ⟨⟨i, k⟩, hi', hk'⟩ := x
    obtain ⟨_, hi, hk⟩ := hx
    dsimp only at hi hk
    have hpl : (genTo (chTx es l g 2) pre).length ≤ 4000000000000 := by
      rw [genTo_len]
      have : pre.length < g.h.toNat * g.w.toNat := hpre
      omega
    refine ⟨_, chan_at h hl hg hi hk (c := 2) (by decide), ?_⟩
    refine ⟨appB hpl (by decide), ?_⟩
    refine ent_of (rl := [(10, 23)]) (nl := []) ⟨rfl, ?_, ?_, ⟨⟨Nat.le_of_ble_eq_true rfl, subR.refl _⟩, ⟨Nat.le_of_ble_eq_true rfl, subR.refl _⟩, ⟨Nat.le_of_ble_eq_true rfl, subR_snoc rfl rfl (fun j hj => elem1 rfl) (genTo_snoc _ _ _) rfl⟩, trivial⟩, rfl, rfl, (by first | exact Nat.zero_le _ | exact Nat.le_of_ble_eq_true rfl), trivial, ⟨⟨(by first | exact Nat.zero_le _ | exact Nat.le_of_ble_eq_true rfl), (by first | exact Nat.zero_le _ | exact Nat.le_of_ble_eq_true rfl)⟩, trivial⟩⟩ <;> (repeat' (first | exact trivial | exact SameL.refl _ | exact ep_seal rfl rfl | assumption | exact congrArg (Value.int _) (by assumption) | exact rfl | exact Nat.le_of_ble_eq_true rfl | decide | apply And.intro | apply all1 | apply all2 | apply all3 | apply all4 | apply all5))
  · refine ent_of (rl := [(9, 10)]) (nl := []) ⟨rfl, ?_, ?_, ⟨⟨Nat.le_of_ble_eq_true rfl, subR.refl _⟩, ⟨Nat.le_of_ble_eq_true rfl, subR.refl _⟩, ⟨Nat.le_of_ble_eq_true rfl, subR.refl _⟩, trivial⟩, rfl, rfl, (by first | exact Nat.zero_le _ | exact Nat.le_of_ble_eq_true rfl), trivial, ⟨⟨(by first | exact Nat.zero_le _ | exact Nat.le_of_ble_eq_true rfl), (by first | exact Nat.zero_le _ | exact Nat.le_of_ble_eq_true rfl)⟩, trivial⟩⟩ <;> (repeat' (first | exact trivial | exact SameL.refl _ | exact ep_seal rfl rfl | assumption | exact congrArg (Value.int _) (by assumption) | exact rfl | exact Nat.le_of_ble_eq_true rfl | decide | apply And.intro | apply all1 | apply all2 | apply all3 | apply all4 | apply all5))
  exact ⟨⟨rfl, rfl, row_ret (genTo_full hx0), rfl, rfl, row_ret (genTo_full hx1), rfl, rfl, row_ret (genTo_full hx2), trivial⟩, ⟨⟨rfl, rfl⟩, trivial⟩, trivial⟩
end Go.Proofs.Ytpadocjddoenhaa
