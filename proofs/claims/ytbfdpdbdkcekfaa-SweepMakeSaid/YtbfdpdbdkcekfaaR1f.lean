/- The contracts of law13: awake, SweepAll, SweepSeed, SweepOne, SweepOver. -/
import Derived.Test.YtbfdpdbdkcekfaaR1e
import Derived.Test.YtbfdpdbdkcekfaaR0e
import Derived.Test.YtbfdpdbdkcekfaaPo
namespace Go.Proofs.Ytbfdpdbdkcekfaa
open Go SX
set_option linter.unusedVariables false
set_option maxRecDepth 100000
set_option maxHeartbeats 1000000

theorem genF_get {f : Nat → Nat → Int} {W : Nat} : ∀ {H k i : Nat}, k < H → i < W → (genF f W H).getD (k * W + i) default = f i k
  | 0, k, i, h, _ => by omega
  | H + 1, k, i, h, hi => by
    have e : genF f W (H + 1) = genF f W H ++ (List.range W).map fun i => f i H := by
      unfold genF
      rw [txs_succ, List.map_append, List.map_map]
      rfl
    rw [e, getD_app, genF_len]
    rcases Nat.lt_or_ge k H with hk | hk
    · have : (k + 1) * W ≤ H * W := Nat.mul_le_mul_right _ hk
      rw [Nat.add_mul] at this
      rw [if_pos (by omega), genF_get hk hi]
    · obtain rfl : k = H := by omega
      rw [if_neg (by omega), show k * W + i - k * W = i by omega, List.getD_eq_getElem?_getD, List.getElem?_map, List.getElem?_range hi]
      rfl
theorem nOf_mono {s e e' : Int} (hs : 1 ≤ s ∧ s ≤ 64) (he : 0 ≤ e) (h : e ≤ e') : nOf s e ≤ nOf s e' := by
  have h1 := nOf_in hs he
  have h2 := nOf_in hs (show 0 ≤ e' by omega)
  unfold nOf at *
  split
  · split
    · exact Int.ediv_le_ediv (by omega) (by omega)
    · rename_i h3 h4; rw [if_pos h3] at h1; omega
  · split
    · omega
    · omega
theorem sw_val {es : List Ed} {g : Gd} (hes : edsIn es) (hg : gdIn g) (h0 : 0 < es.length) {i k : Nat} (hi : inG g i k) : ∃ E, 0 ≤ E ∧ eight es (centre g i k) ≤ E ∧ swTx es g (knownL es g) i k = 128 + sign es (centre g i k) * nOf g.spread E ∧ (es.length = 1 → E = eight es (centre g i k)) := by
  have hk := all_kn hes hg h0 hi
  have hlt := knA_lt hg (knownL_ok (es := es) hg) hi
  unfold Kn knA at hk
  unfold knA at hlt
  have hmem := getD_mem' (l := es) (i := ((knownL es g).getD (ixG g i k) default).toNat) (by omega)
  have hc : ptIn 33000 (centre g i k) := by
    unfold inG at hi
    have hw := hg.1
    have hh := hg.2.1
    exact centre_in hg (by omega) (by omega)
  have hle := eight_le hes hc hmem
  have h8 := eight_ge0 hes hc h0
  refine ⟨_, by omega, hle, ?_, fun h1 => ?_⟩
  · unfold swTx
    rw [if_pos hk]
    exact codeN_eq hg.2.2.2.2.2 (by omega) (sign_in _ _)
  · obtain ⟨e, he, hq⟩ := eight_in hes hc h0
    rw [hq]
    have : e = es.getD ((knownL es g).getD (ixG g i k) default).toNat default := by
      match es, h1, he, hmem with
      | [x], _, he, hmem =>
        rw [List.mem_singleton.1 he, List.mem_singleton.1 hmem]
    rw [this]
theorem swTx_in (es : List Ed) (g : Gd) (l : List Int) (i k : Nat) : 0 ≤ swTx es g l i k ∧ swTx es g l i k ≤ 255 := by
  unfold swTx
  split <;> exact codeN_in _ _ _
theorem genF_in {f : Nat → Nat → Int} (h : ∀ i k, 0 ≤ f i k ∧ f i k ≤ 255) {W H : Nat} : ∀ c ∈ genF f W H, 0 ≤ c ∧ c ≤ 255 := fun c hc => by
  unfold genF at hc
  obtain ⟨p, _, rfl⟩ := List.mem_map.1 hc
  exact h _ _
theorem sw_5 : swTx l10 g10 (knownL l10 g10) 1 1 > 128 := by
  obtain ⟨E, h1, h2, h3, _⟩ := sw_val (i := 1) (k := 1) l10_in g10_in (by decide) (by unfold inG g10; decide)
  rw [h3]
  have e1 : sign l10 (centre g10 ((1 : Nat) : Int) ((1 : Nat) : Int)) = 1 := by decide
  have e2 : eight l10 (centre g10 ((1 : Nat) : Int) ((1 : Nat) : Int)) = 256 := by
    rw [eight_pos (by decide), show (near l10 (centre g10 ((1 : Nat) : Int) ((1 : Nat) : Int))).best = ⟨1024, 1⟩ by decide]
    unfold eightF; exact isq_uniq (by decide) (by decide) (by decide) (by decide)
  rw [e1]
  rw [e2] at h2
  have h4 : nOf g10.spread 256 ≤ nOf g10.spread E := nOf_mono (by decide) (by decide) h2
  have h5 : nOf g10.spread 256 = 15 := by decide
  omega
theorem awake13_at : FnAt Try.prog 16 [] [aB true] := by
  have n1 := smake_at l10_in g10_in
  have n2 := known_at l10_in g10_in
  have n3 := known_at (es := []) ⟨fun e he => (List.not_mem_nil he).elim, by decide⟩ g10_in
  have hk0 : Kn g10 (knownL l10 g10) 0 0 := all_kn l10_in g10_in (by decide) (by unfold inG g10; decide)
  have hl1 : (knownL l10 g10).length = 16 := (knownL_ok g10_in).1
  have hl3 : (knownL [] g10).length = 16 := (knownL_ok g10_in).1
  have hlt : (genF (swTx l10 g10 (knownL l10 g10)) g10.w.toNat g10.h.toNat).length = 16 := genF_len _ _ _
  have h5 : (genF (swTx l10 g10 (knownL l10 g10)) g10.w.toNat g10.h.toNat).getD 5 default > 128 := by
    have : (genF (swTx l10 g10 (knownL l10 g10)) g10.w.toNat g10.h.toNat).getD 5 default = swTx l10 g10 (knownL l10 g10) 1 1 := genF_get (W := 4) (H := 4) (k := 1) (i := 1) (by decide) (by decide)
    rw [this]; exact sw_5
  refine fn_at (E := EE) (fn := Try.f16) (c := Try.f16.body.getD .skip) (rs := Try.f16.results.toList) (nt := Try.f16.ntmps) EE_ok follows (by kernel_rfl) (by kernel_rfl) rfl rfl rfl [] rfl ?_
  refine ⟨_, n1.args ⟨rfl, ⟨lit_same l10 (fun _ => rfl) rfl rfl, trivial⟩, rfl, sameLs_refl _, trivial⟩, ?_⟩
  refine ⟨_, n2.args ⟨rfl, ⟨lit_same l10 (fun _ => rfl) rfl rfl, trivial⟩, rfl, sameLs_refl _, trivial⟩, ?_⟩
  refine ⟨fun _ => ?_, (fun h => nomatch h)⟩
  refine if_eq (fun _ => ?_) (fun h => absurd (by rw [hlt]; rfl) h)
  refine ⟨⟨by decide, by show (5 : Int) < ((genF (swTx l10 g10 (knownL l10 g10)) g10.w.toNat g10.h.toNat).length : Nat); rw [hlt]; decide⟩, ?_⟩
  refine if_dec (fun _ => ?_) (fun h => absurd h5 h)
  refine if_eq (fun _ => ?_) (fun h => absurd (by rw [hl1]; rfl) h)
  refine ⟨⟨by decide, by show (0 : Int) < ((knownL l10 g10).length : Nat); rw [hl1]; decide⟩, ?_⟩
  refine if_dec (fun _ => ?_) (fun h => absurd hk0 h)
  refine ⟨_, n3.args ⟨rfl, ⟨⟨rfl, rfl⟩, trivial⟩, rfl, sameLs_refl _, trivial⟩, ?_⟩
  exact ⟨⟨vB (beq_iff_eq.2 (by rw [hl3]; rfl)).symm, trivial⟩, trivial⟩
/-- what the two fields hold at a place -/
theorem over_fact {es : List Ed} {g : Gd} {n : Nat} (hi : edsIn es) (hg : gdIn g) (hn : n < szG g) : ∃ sg a b : Int, (genF (swTx es g (knownL es g)) g.w.toNat g.h.toNat).getD n default = 128 + sg * a ∧ (fieldTo es g g.h.toNat).getD n default = 128 + sg * b ∧ (sg = -1 ∨ sg = 0 ∨ sg = 1) ∧ 0 ≤ b ∧ b ≤ a ∧ a ≤ 127 := by
  have hw := hg.1
  have hh := hg.2.1
  have hw0 : 0 < g.w.toNat := by omega
  have e : n = n / g.w.toNat * g.w.toNat + n % g.w.toNat := by have := Nat.div_add_mod n g.w.toNat; rw [Nat.mul_comm] at this; omega
  have hr := Nat.mod_lt n hw0
  have hq : n / g.w.toNat < g.h.toNat := Nat.div_lt_of_lt_mul (by unfold szG at hn; rw [Nat.mul_comm]; exact hn)
  generalize n / g.w.toNat = k at *
  generalize n % g.w.toNat = i at *
  rw [e, genF_get hq hr, fieldTo_get hq hr]
  have hin : inG g i k := by unfold inG; omega
  rcases Nat.eq_zero_or_pos es.length with h0 | h0
  · obtain rfl := List.eq_nil_of_length_eq_zero h0
    refine ⟨-1, 127, 127, ?_, ?_, .inl rfl, by decide, by decide, by decide⟩
    · have := none_kn hg hin
      unfold knA at this
      unfold swTx
      rw [this, if_neg (by decide)]
      exact texel_nil hg 0 0
    · rw [texel_nil hg]; rfl
  · obtain ⟨E, h1, h2, h3, _⟩ := sw_val hi hg h0 hin
    obtain ⟨q1, q2, q3⟩ := texel_val (i := i) (k := k) hi hg (by omega) (by omega) h0
    rw [h3, q1]
    have hs := sign_in es (centre g i k)
    exact ⟨_, _, _, rfl, rfl, by omega, q2, nOf_mono hg.2.2.2.2.2 (eight_ge0 hi (centre_in hg (by omega) (by omega)) h0) h2, (nOf_in hg.2.2.2.2.2 h1).2⟩
theorem if_bnef {a b : Bool} {A B : Prop} (h : a = b → A) (h' : a ≠ b → B) : ((!(a == b)) = false → A) ∧ ((!(a == b)) = true → B) := ⟨fun e => h (by simpa using e), fun e => h' (by simpa using e)⟩
theorem if_bne' {a b : Bool} {A B : Prop} (h : a ≠ b → A) (h' : a = b → B) : ((!(a == b)) = true → A) ∧ ((!(a == b)) = false → B) := ⟨fun e => h (by simpa using e), fun e => h' (by simpa using e)⟩
noncomputable def SOv (g : Gd) (A B : List Int) (n : Nat) : SS := mkS
  [(7, .o (.p 0 0)), (9, .o (.p 1 0)), (49, .o (.v (.int .i64 A.length))), (50, .o (.v (.int .i64 n)))]
  [(0, 39, [.v (.int .i64 g.w), .v (.int .i64 g.h), .sl true 1 A.length (rowOf bys A)]), (1, 39, [.v (.int .i64 g.w), .v (.int .i64 g.h), .sl true 1 B.length (rowOf bys B)])] [] 2 Try.f15.ntmps
theorem sweepOver_at (cs : List (List Vx)) {s : Sp} (hs : spIn s) : FnAt Try.prog 15 [aSl dsL 1 cs, aSp s] [aB true] := by
  have hi := glyph_in cs
  have hg := spec_in hs
  refine fn_at (E := EE) (fn := Try.f15) (c := Try.f15.body.getD .skip) (rs := Try.f15.results.toList) (nt := Try.f15.ntmps) EE_ok follows (by kernel_rfl) (by kernel_rfl) rfl rfl rfl [] rfl ?_
  refine ⟨_, awake13_at, ?_⟩
  refine ⟨(fun h => nomatch h), fun _ => ?_⟩
  refine ⟨_, glyph_at cs, ?_⟩
  refine ⟨_, spec_at s, ?_⟩
  generalize glyph cs = es at *
  generalize specG s = g at *
  have l1 := hi.2
  refine ⟨_, smake_at hi hg, ?_⟩
  refine ⟨_, make_at hi hg, ?_⟩
  have hLa : (genF (swTx es g (knownL es g)) g.w.toNat g.h.toNat).length = g.h.toNat * g.w.toNat := genF_len _ _ _
  have hLb : (fieldTo es g g.h.toNat).length = g.h.toNat * g.w.toNat := fieldTo_len _ _ _
  have hsz := szG_le hg
  have key := fun n hn => over_fact (n := n) hi hg hn
  generalize hA : genF (swTx es g (knownL es g)) g.w.toNat g.h.toNat = A at *
  generalize hB : fieldTo es g g.h.toNat = B at *
  refine ⟨fun _ => ?_, (fun h => nomatch h)⟩
  refine ⟨fun _ => ?_, (fun h => nomatch h)⟩
  refine if_ne (fun h => absurd (by rw [hLa, hLb]) h) (fun _ => ?_)
  refine loop_nat A.length (SOv g A B) ?_ (fun n hn => ?_)
  · refine ent_of (rl := [(0, 17), (1, 26)]) (nl := []) ⟨rfl, ?_, ?_, trivial, rfl, rfl, Nat.zero_le _, trivial, ⟨⟨Nat.zero_le _, Nat.zero_le _⟩, ⟨Nat.zero_le _, Nat.zero_le _⟩, trivial⟩⟩ <;> (repeat' (first | exact trivial | exact SameL.refl _ | exact ep_seal rfl rfl | assumption | exact congrArg (Value.int _) (by assumption) | exact rfl | exact Nat.le_of_ble_eq_true rfl | decide | apply And.intro))
  refine if_dec (fun hlt => ?_) (fun hge => ?_)
  · have hlt : n < A.length := by omega
    have hn' := w64_succ hlt (by unfold szG at hsz; omega)
    obtain ⟨sg, a, b, k1, k2, k3, k4, k5, k6⟩ := key n (by unfold szG; omega)
    refine ⟨⟨by omega, by omega⟩, ?_⟩
    refine ⟨⟨by omega, by show (n : Int) < (B.length : Int); omega⟩, ?_⟩
    have hX : w64 (w64 (A.getD (Int.toNat (n : Int)) default) - 128) = sg * a := by
      rw [Int.toNat_natCast, k1]
      rcases k3 with rfl | rfl | rfl <;> (rw [w64_in (n := 128 + _) (by omega), w64_in (by omega)]; omega)
    have hY : w64 (w64 (B.getD (Int.toNat (n : Int)) default) - 128) = sg * b := by
      rw [Int.toNat_natCast, k2]
      rcases k3 with rfl | rfl | rfl <;> (rw [w64_in (n := 128 + _) (by omega), w64_in (by omega)]; omega)
    generalize hx : sg * a = x at *
    generalize hy : sg * b = y at *
    have hb : (-127 ≤ x ∧ x ≤ 127) ∧ (-127 ≤ y ∧ y ≤ 127) := by rcases k3 with rfl | rfl | rfl <;> omega
    have nX : w64 (0 - x) = 0 - x := w64_in (by omega)
    have nY : w64 (0 - y) = 0 - y := w64_in (by omega)
    have c1 : ¬ max2I (w64 (w64 (A.getD (Int.toNat (n : Int)) default) - 128)) (w64 (0 - w64 (w64 (A.getD (Int.toNat (n : Int)) default) - 128))) < max2I (w64 (w64 (B.getD (Int.toNat (n : Int)) default) - 128)) (w64 (0 - w64 (w64 (B.getD (Int.toNat (n : Int)) default) - 128))) := by
      rw [hX, hY, nX, nY]
      unfold max2I
      rcases k3 with rfl | rfl | rfl <;> (split <;> split <;> omega)
    have c2 : y ≠ 0 → (x > 0 ↔ y > 0) := by rcases k3 with rfl | rfl | rfl <;> omega
    have c3 : y ≠ 0 → (x < 0 ↔ y < 0) := by rcases k3 with rfl | rfl | rfl <;> omega
    refine if_dec_f (fun _ => ?_) (fun h => absurd h c1)
    refine if_bne' (fun q => ?_) (fun q => ?_)
    · have q : decide (w64 (w64 (A.getD (Int.toNat (n : Int)) default) - 128) > 0) ≠ decide (w64 (w64 (B.getD (Int.toNat (n : Int)) default) - 128) > 0) := q
      rw [hX, hY, ne_eq, decide_eq_decide] at q
      refine if_ne_f (fun _ => ?_) (fun h => ?_)
      rotate_left
      · have h : w64 (w64 (B.getD (Int.toNat (n : Int)) default) - 128) ≠ 0 := h
        rw [hY] at h
        exact absurd (c2 h) q
      refine if_bne' (fun q3 => ?_) (fun _ => ?_)
      · have q3 : decide (w64 (w64 (A.getD (Int.toNat (n : Int)) default) - 128) < 0) ≠ decide (w64 (w64 (B.getD (Int.toNat (n : Int)) default) - 128) < 0) := q3
        rw [hX, hY, ne_eq, decide_eq_decide] at q3
        refine if_ne (fun h => ?_) (fun _ => ?_)
        · have h : w64 (w64 (B.getD (Int.toNat (n : Int)) default) - 128) ≠ 0 := h
          rw [hY] at h
          exact absurd (c3 h) q3
        refine ⟨n + 1, ⟨Nat.lt_succ_self _, hlt⟩, ?_⟩
        refine ent_of (rl := []) (nl := []) ⟨rfl, ?_, ?_, trivial, rfl, rfl, Nat.zero_le _, trivial, trivial⟩ <;> (repeat' (first | exact trivial | exact SameL.refl _ | exact ep_seal rfl rfl | assumption | exact congrArg (Value.int _) (by assumption) | exact rfl | exact Nat.le_of_ble_eq_true rfl | decide | apply And.intro))
      · refine ⟨n + 1, ⟨Nat.lt_succ_self _, hlt⟩, ?_⟩
        refine ent_of (rl := []) (nl := []) ⟨rfl, ?_, ?_, trivial, rfl, rfl, Nat.zero_le _, trivial, trivial⟩ <;> (repeat' (first | exact trivial | exact SameL.refl _ | exact ep_seal rfl rfl | assumption | exact congrArg (Value.int _) (by assumption) | exact rfl | exact Nat.le_of_ble_eq_true rfl | decide | apply And.intro))
    · refine if_bne' (fun q3 => ?_) (fun _ => ?_)
      · have q3 : decide (w64 (w64 (A.getD (Int.toNat (n : Int)) default) - 128) < 0) ≠ decide (w64 (w64 (B.getD (Int.toNat (n : Int)) default) - 128) < 0) := q3
        rw [hX, hY, ne_eq, decide_eq_decide] at q3
        refine if_ne (fun h => ?_) (fun _ => ?_)
        · have h : w64 (w64 (B.getD (Int.toNat (n : Int)) default) - 128) ≠ 0 := h
          rw [hY] at h
          exact absurd (c3 h) q3
        refine ⟨n + 1, ⟨Nat.lt_succ_self _, hlt⟩, ?_⟩
        refine ent_of (rl := []) (nl := []) ⟨rfl, ?_, ?_, trivial, rfl, rfl, Nat.zero_le _, trivial, trivial⟩ <;> (repeat' (first | exact trivial | exact SameL.refl _ | exact ep_seal rfl rfl | assumption | exact congrArg (Value.int _) (by assumption) | exact rfl | exact Nat.le_of_ble_eq_true rfl | decide | apply And.intro))
      · refine ⟨n + 1, ⟨Nat.lt_succ_self _, hlt⟩, ?_⟩
        refine ent_of (rl := []) (nl := []) ⟨rfl, ?_, ?_, trivial, rfl, rfl, Nat.zero_le _, trivial, trivial⟩ <;> (repeat' (first | exact trivial | exact SameL.refl _ | exact ep_seal rfl rfl | assumption | exact congrArg (Value.int _) (by assumption) | exact rfl | exact Nat.le_of_ble_eq_true rfl | decide | apply And.intro))
  · exact ⟨⟨kB rfl, trivial⟩, trivial⟩
theorem getD_ext' {α : Type} [Inhabited α] {es fs : List α} (hl : es.length = fs.length) (h : ∀ k, k < es.length → es.getD k default = fs.getD k default) : es = fs := by
  refine List.ext_getElem hl fun i h1 h2 => ?_
  have := h i h1
  simpa [List.getD_eq_getElem?_getD, List.getElem?_eq_getElem h1, List.getElem?_eq_getElem h2] using this
/-- of one edge the two fields hold the same -/
theorem one_fact {es : List Ed} {g : Gd} {n : Nat} (hi : edsIn es) (h1 : es.length = 1) (hg : gdIn g) (hn : n < szG g) : (genF (swTx es g (knownL es g)) g.w.toNat g.h.toNat).getD n default = (fieldTo es g g.h.toNat).getD n default := by
  have hw := hg.1
  have hh := hg.2.1
  have hw0 : 0 < g.w.toNat := by omega
  have e : n = n / g.w.toNat * g.w.toNat + n % g.w.toNat := by have := Nat.div_add_mod n g.w.toNat; rw [Nat.mul_comm] at this; omega
  have hr := Nat.mod_lt n hw0
  have hq : n / g.w.toNat < g.h.toNat := Nat.div_lt_of_lt_mul (by unfold szG at hn; rw [Nat.mul_comm]; exact hn)
  generalize n / g.w.toNat = k at *
  generalize n % g.w.toNat = i at *
  rw [e, genF_get hq hr, fieldTo_get hq hr]
  have hin : inG g i k := by unfold inG; omega
  obtain ⟨E, _, _, h3, h4⟩ := sw_val hi hg (by omega) hin
  rw [h3, h4 h1, (texel_val (i := i) (k := k) hi hg (by omega) (by omega) (by omega)).1]
def smallP' (p : Pt) : Pt := ⟨(w64 p.x).tmod 8193, (w64 p.y).tmod 8193⟩
theorem smallP'_at (p : Pt) : FnAt Try.prog 41 [aPl p] [aPt (smallP' p)] := by
  refine fn_at (E := EE) (fn := Try.f41) (c := Try.f41.body.getD .skip) (rs := Try.f41.results.toList) (nt := Try.f41.ntmps) EE_ok follows (by kernel_rfl) (by kernel_rfl) rfl rfl rfl [] rfl ?_
  exact ⟨⟨rfl, rfl, trivial⟩, trivial⟩
theorem edge03_at' (a b : Pt) (ha : plIn a) (hb : plIn b) : FnAt Try.prog 17 [aPl a, aPl b] [aEd ⟨smallP' a, smallP' b⟩] := by
  refine fn_at (E := EE) (fn := Try.f17) (c := Try.f17.body.getD .skip) (rs := Try.f17.results.toList) (nt := Try.f17.ntmps) EE_ok follows (by kernel_rfl) (by kernel_rfl) rfl rfl rfl [] rfl ?_
  refine ⟨_, smallP'_at a, ?_⟩
  refine ⟨_, smallP'_at b, ?_⟩
  exact ⟨⟨rfl, rfl, rfl, rfl, trivial⟩, trivial⟩
theorem smallP'_in (p : Pt) : ptIn 8192 (smallP' p) := by
  have h1 := tmod_in (w64 p.x) (show (0 : Int) < 8193 by decide)
  have h2 := tmod_in (w64 p.y) (show (0 : Int) < 8193 by decide)
  unfold ptIn smallP'; dsimp only; omega
theorem sweepOne_at {a b : Pt} (ha : plIn a) (hb : plIn b) {s : Sp} (hs : spIn s) : FnAt Try.prog 3 [aPl a, aPl b, aSp s] [aB true] := by
  have hg := spec_in hs
  refine fn_at (E := EE) (fn := Try.f3) (c := Try.f3.body.getD .skip) (rs := Try.f3.results.toList) (nt := Try.f3.ntmps) EE_ok follows (by kernel_rfl) (by kernel_rfl) rfl rfl rfl [] rfl ?_
  refine ⟨_, awake13_at, ?_⟩
  refine ⟨(fun h => nomatch h), fun _ => ?_⟩
  refine ⟨_, edge03_at' a b ha hb, ?_⟩
  refine ⟨_, spec_at s, ?_⟩
  generalize specG s = g at *
  have hes : edsIn [⟨smallP' a, smallP' b⟩] := ⟨fun e he => by rw [List.mem_singleton.1 he]; exact ⟨smallP'_in a, smallP'_in b⟩, by show 1 ≤ 1000; omega⟩
  generalize smallP' a = p at *
  generalize smallP' b = q at *
  refine ⟨_, (smake_at hes hg).args ⟨rfl, ⟨lit_same (g := Ed.ls) (sz := 4) [(⟨p, q⟩ : Ed)] (fun _ => rfl) rfl rfl, trivial⟩, rfl, sameLs_refl _, trivial⟩, ?_⟩
  refine ⟨_, (make_at hes hg).args ⟨rfl, ⟨lit_same (g := Ed.ls) (sz := 4) [(⟨p, q⟩ : Ed)] (fun _ => rfl) rfl rfl, trivial⟩, rfl, sameLs_refl _, trivial⟩, ?_⟩
  have hLa : (genF (swTx [⟨p, q⟩] g (knownL [⟨p, q⟩] g)) g.w.toNat g.h.toNat).length = g.h.toNat * g.w.toNat := genF_len _ _ _
  have hLb : (fieldTo [⟨p, q⟩] g g.h.toNat).length = g.h.toNat * g.w.toNat := fieldTo_len _ _ _
  have hAB : genF (swTx [⟨p, q⟩] g (knownL [⟨p, q⟩] g)) g.w.toNat g.h.toNat = fieldTo [⟨p, q⟩] g g.h.toNat := getD_ext' (by rw [hLa, hLb]) fun n hn => one_fact hes rfl hg (by unfold szG; omega)
  refine ⟨fun _ => ?_, (fun h => nomatch h)⟩
  refine ⟨fun _ => ?_, (fun h => nomatch h)⟩
  refine ⟨_, same_at g.w g.h g.w g.h _ _ (genF_in (fun i k => swTx_in _ _ _ i k)) (fieldTo_in _ g _), ?_⟩
  exact ⟨⟨vB (decide_eq_true ⟨rfl, rfl, hAB⟩).symm, trivial⟩, trivial⟩
theorem sweepSeed_at (cs : List (List Vx)) {s : Sp} (hs : spIn s) {n : Int} (hn : 0 ≤ n ∧ n ≤ 255) : FnAt Try.prog 14 [aSl dsL 1 cs, aSp s, aU8' n] [aB true] := by
  have hi := glyph_in cs
  have hg := spec_in hs
  refine fn_at (E := EE) (fn := Try.f14) (c := Try.f14.body.getD .skip) (rs := Try.f14.results.toList) (nt := Try.f14.ntmps) EE_ok follows (by kernel_rfl) (by kernel_rfl) rfl rfl rfl [] rfl ?_
  refine ⟨_, awake13_at, ?_⟩
  refine ⟨(fun h => nomatch h), fun _ => ?_⟩
  refine ⟨_, glyph_at cs, ?_⟩
  refine ⟨_, spec_at s, ?_⟩
  generalize glyph cs = es at *
  generalize specG s = g at *
  have l1 := hi.2
  refine ⟨_, known_at hi hg, ?_⟩
  have hw := hg.1
  have hh := hg.2.1
  have hm := mul_bd (x := g.w) (y := g.h) (B := 24) (C := 24) (by omega) (by omega)
  have hL : ((knownL es g).length : Int) = w64 (g.w * g.h) := by
    rw [(knownL_ok (es := es) hg).1]
    unfold szG
    rw [w64_in (by omega), Int.natCast_mul, Int.toNat_of_nonneg (by omega), Int.toNat_of_nonneg (by omega), Int.mul_comm]
  refine if_eq_f (fun h0 => ?_) (fun h0 => ?_)
  rotate_left
  · refine if_eq (fun _ => ?_) (fun h => absurd h0 h)
    exact ⟨⟨vB (beq_iff_eq.2 hL).symm, trivial⟩, trivial⟩
  have h0 : 0 < es.length := by have h0 : (es.length : Int) ≠ 0 := h0; omega
  refine if_ne (fun h => absurd hL h) (fun _ => ?_)
  have hnn : (w64 n).tmod (es.length : Int) = ((n.toNat % es.length : Nat) : Int) := by
    rw [w64_in (by omega), tmod_u (by omega) (by omega), Int.natCast_emod, Int.toNat_of_nonneg hn.1]
  have hlt : n.toNat % es.length < es.length := Nat.mod_lt _ h0
  refine ⟨by show (es.length : Int) ≠ 0; omega, ?_⟩
  refine ⟨⟨by show 0 ≤ (w64 n).tmod _; rw [hnn]; omega, by show (w64 n).tmod _ < _; rw [hnn]; omega⟩, ?_⟩
  rw [hnn, Int.toNat_natCast]
  generalize n.toNat % es.length = m at *
  have heu := hi.1 _ (getD_mem' (l := es) (i := m) hlt)
  have ha := heu.1
  unfold ptIn at ha
  obtain ⟨_, _, gx, gy, gp, _⟩ := id hg
  have e1 : w64 ((es.getD m default).a.x - w64 (32 * g.x)) = (es.getD m default).a.x - 32 * g.x := by rw [w64_in (n := 32 * g.x) (by omega), w64_in (by omega)]
  have e2 : w64 ((es.getD m default).a.y - w64 (32 * g.y)) = (es.getD m default).a.y - 32 * g.y := by rw [w64_in (n := 32 * g.y) (by omega), w64_in (by omega)]
  have e3 : w64 (32 * g.pitch) = 32 * g.pitch := w64_in (by omega)
  have f1 := floor_at (n := (es.getD m default).a.x - 32 * g.x) (m := 32 * g.pitch) (by omega) (by omega)
  have f2 := floor_at (n := (es.getD m default).a.y - 32 * g.y) (m := 32 * g.pitch) (by omega) (by omega)
  have hseed := seed_cl hi hg hlt
  have hnx : ∀ v : Int, 0 ≤ v → v < g.w → v = ((es.getD m default).a.x - 32 * g.x) / (32 * g.pitch) → nearI (es.getD m default).a.x g.x g.pitch g.w = v := fun v h1 h2 h3 => by
    unfold nearI max2I min2I
    rw [← h3, w64_in (by omega)]
    repeat' split
    all_goals omega
  have hny : ∀ v : Int, 0 ≤ v → v < g.h → v = ((es.getD m default).a.y - 32 * g.y) / (32 * g.pitch) → nearI (es.getD m default).a.y g.y g.pitch g.h = v := fun v h1 h2 h3 => by
    unfold nearI max2I min2I
    rw [← h3, w64_in (by omega)]
    repeat' split
    all_goals omega
  generalize hfx : ((es.getD m default).a.x - 32 * g.x) / (32 * g.pitch) = fx at *
  generalize hfy : ((es.getD m default).a.y - 32 * g.y) / (32 * g.pitch) = fy at *
  rw [← e1, ← e3] at f1
  rw [← e2, ← e3] at f2
  refine ⟨_, f1, ?_⟩
  refine ⟨_, f2, ?_⟩
  refine if_dec_f (fun h1 => ?_) (fun _ => ?_)
  rotate_left
  · exact ⟨⟨kB rfl, trivial⟩, trivial⟩
  refine if_dec_f (fun h2 => ?_) (fun _ => ?_)
  rotate_left
  · exact ⟨⟨kB rfl, trivial⟩, trivial⟩
  refine if_dec_f (fun h3 => ?_) (fun _ => ?_)
  rotate_left
  · exact ⟨⟨kB rfl, trivial⟩, trivial⟩
  refine if_dec (fun _ => ?_) (fun h4 => ?_)
  · exact ⟨⟨kB rfl, trivial⟩, trivial⟩
  have hin : inG g fx fy := ⟨by omega, by omega, by omega, by omega⟩
  rw [hnx fx hin.1 hin.2.2.1 rfl, hny fy hin.2.1 hin.2.2.2 rfl] at hseed
  have hx := ixG_w hg hin
  have hxl := ixG_lt hg hin
  have hc := centre_in hg (i := fx) (k := fy) (by unfold inG at hin; omega) (by unfold inG at hin; omega)
  have hl1 := (knownL_ok (es := es) hg).1
  have hkl := knA_lt hg (knownL_ok (es := es) hg) hin
  obtain ⟨hs1, hs2⟩ := hseed
  refine ⟨_, centre_at g fx fy, ?_⟩
  refine ⟨⟨by show 0 ≤ w64 _; rw [hx]; omega, by show w64 _ < ((knownL es g).length : Int); rw [hx]; omega⟩, ?_⟩
  have hix : (knownL es g).getD (Int.toNat (w64 (w64 (fy * g.w) + fx))) default = knA g (knownL es g) fx fy := by rw [hx, Int.toNat_natCast]; rfl
  have hmem := hi.1 _ (getD_mem' (l := es) (i := (knA g (knownL es g) fx fy).toNat) (by omega))
  refine if_dec (fun _ => ?_) (fun h => absurd (show (knownL es g).getD (Int.toNat (w64 (w64 (fy * g.w) + fx))) default ≥ 0 by rw [hix]; exact hs1) h)
  refine if_dec (fun _ => ?_) (fun h => absurd (show (knownL es g).getD (Int.toNat (w64 (w64 (fy * g.w) + fx))) default < (es.length : Int) by rw [hix]; exact hkl.2) h)
  refine ⟨⟨by show 0 ≤ (knownL es g).getD (Int.toNat (w64 (w64 (fy * g.w) + fx))) default; rw [hix]; exact hs1, by show (knownL es g).getD (Int.toNat (w64 (w64 (fy * g.w) + fx))) default < _; rw [hix]; exact hkl.2⟩, ?_⟩
  have hsq := square_at hmem hc
  rw [← hix] at hsq
  refine ⟨_, hsq, ?_⟩
  refine ⟨_, square_at heu hc, ?_⟩
  rw [hix]
  refine ⟨_, rcmp_at (sqN_in hmem hc) (sqN_in heu hc), ?_⟩
  refine ⟨⟨vB (decide_eq_true ?_).symm, trivial⟩, trivial⟩
  rw [Int.toNat_natCast] at hs2
  show cmpF _ _ ≤ 0
  unfold leF at hs2
  unfold cmpF cmpI
  split
  · decide
  · rw [if_pos (by omega)]; decide
noncomputable def SAl (es : List Ed) (g : Gd) (l : List Int) (n : Nat) : SS := mkS
  [(5, .o (.sl true 4 es.length (rowOf Ed.ls es))), (6, .o (.p 0 0)), (7, .o (.sl true 1 l.length (rowOf ints l))), (28, .o (.sl true 1 l.length (rowOf ints l))), (29, .o (.v (.int .i64 l.length))), (30, .o (.v (.int .i64 n)))]
  [(0, 35, gdC' g)] [] 1 Try.f13.ntmps
theorem sweepAll_at (cs : List (List Vx)) {s : Sp} (hs : spIn s) : FnAt Try.prog 13 [aSl dsL 1 cs, aSp s] [aB true] := by
  have hi := glyph_in cs
  have hg := spec_in hs
  refine fn_at (E := EE) (fn := Try.f13) (c := Try.f13.body.getD .skip) (rs := Try.f13.results.toList) (nt := Try.f13.ntmps) EE_ok follows (by kernel_rfl) (by kernel_rfl) rfl rfl rfl [] rfl ?_
  refine ⟨_, awake13_at, ?_⟩
  refine ⟨(fun h => nomatch h), fun _ => ?_⟩
  refine ⟨_, glyph_at cs, ?_⟩
  refine ⟨_, spec_at s, ?_⟩
  generalize glyph cs = es at *
  generalize specG s = g at *
  have l1 := hi.2
  refine ⟨_, known_at hi hg, ?_⟩
  have hw := hg.1
  have hh := hg.2.1
  have hm := mul_bd (x := g.w) (y := g.h) (B := 24) (C := 24) (by omega) (by omega)
  have hL : ((knownL es g).length : Int) = w64 (g.w * g.h) := by
    rw [(knownL_ok (es := es) hg).1]
    unfold szG
    rw [w64_in (by omega), Int.natCast_mul, Int.toNat_of_nonneg (by omega), Int.toNat_of_nonneg (by omega), Int.mul_comm]
  have hsz := szG_le hg
  have hok := knownL_ok (es := es) hg
  refine if_ne (fun h => absurd hL h) (fun _ => ?_)
  have hall := fun i k h0 => all_kn (i := i) (k := k) hi hg h0
  have hright := fun i k h0 => right_cl (i := i) (k := k) hi hg h0
  have hnone : es = [] → ∀ i k : Int, inG g i k → knA g (knownL es g) i k = -1 := fun e i k h => by subst e; exact none_kn hg h
  generalize knownL es g = l at *
  have hl1 := hok.1
  refine loop_nat l.length (SAl es g l) ?_ (fun n hn => ?_)
  · refine ent_of (rl := [(0, 9)]) (nl := []) ⟨rfl, ?_, ?_, trivial, rfl, rfl, Nat.zero_le _, trivial, ⟨⟨Nat.zero_le _, Nat.zero_le _⟩, trivial⟩⟩ <;> (repeat' (first | exact trivial | exact SameL.refl _ | exact ep_seal rfl rfl | assumption | exact congrArg (Value.int _) (by assumption) | exact rfl | exact Nat.le_of_ble_eq_true rfl | decide | apply And.intro))
  refine if_dec (fun hlt => ?_) (fun hge => ?_)
  rotate_left
  · exact ⟨⟨kB rfl, trivial⟩, trivial⟩
  have hlt : n < l.length := by omega
  have hn' := w64_succ hlt (by omega)
  have hw0 : 0 < g.w.toNat := by omega
  have e : n = n / g.w.toNat * g.w.toNat + n % g.w.toNat := by have := Nat.div_add_mod n g.w.toNat; rw [Nat.mul_comm] at this; omega
  have hr := Nat.mod_lt n hw0
  have hq : n / g.w.toNat < g.h.toNat := Nat.div_lt_of_lt_mul (by rw [hl1] at hlt; unfold szG at hlt; rw [Nat.mul_comm]; exact hlt)
  have m1 : ((n : Int).tmod g.w) = ((n % g.w.toNat : Nat) : Int) := by rw [tmod_u (by omega) (by omega), Int.natCast_emod, Int.toNat_of_nonneg (by omega)]
  have m2 : w64 ((n : Int).tdiv g.w) = ((n / g.w.toNat : Nat) : Int) := by rw [Int.tdiv_eq_ediv_of_nonneg (by omega), w64_in (by have := Int.ediv_nonneg (a := (n : Int)) (b := g.w) (by omega) (by omega); have := Int.ediv_le_self (b := g.w) (show 0 ≤ (n : Int) by omega); omega), Int.natCast_ediv, Int.toNat_of_nonneg (by omega)]
  generalize n / g.w.toNat = k at *
  generalize n % g.w.toNat = i at *
  have hin : inG g i k := by unfold inG; omega
  have hnx : n = ixG g i k := by unfold ixG; rw [Int.toNat_natCast, Int.toNat_natCast]; exact e
  have hkn : l.getD n default = knA g l i k := by unfold knA; rw [← hnx]
  have hkl := knA_lt hg hok hin
  refine ⟨⟨by omega, by omega⟩, ?_⟩
  have t1 : (decide (l.getD n default ≥ 0)) = decide ((es.length : Int) > 0) := by
    rw [hkn, decide_eq_decide]
    rcases Nat.eq_zero_or_pos es.length with h0 | h0
    · have := hnone (List.eq_nil_of_length_eq_zero h0) i k hin; omega
    · have := hall i k h0 hin; unfold Kn at this; omega
  refine if_bnef (fun _ => ?_) (fun h => absurd t1 h)
  have hkn' : l.getD (Int.toNat (n : Int)) default = knA g l i k := by rw [Int.toNat_natCast]; exact hkn
  refine if_dec (fun h => absurd (show l.getD (Int.toNat (n : Int)) default ≥ (es.length : Int) from h) (by rw [hkn']; omega)) (fun _ => ?_)
  refine if_dec_f (fun q1 => ?_) (fun q1 => ?_)
  rotate_left
  · refine ⟨n + 1, ⟨Nat.lt_succ_self _, hlt⟩, ?_⟩
    refine ent_of (rl := []) (nl := []) ⟨rfl, ?_, ?_, trivial, rfl, rfl, Nat.zero_le _, trivial, trivial⟩ <;> (repeat' (first | exact trivial | exact SameL.refl _ | exact ep_seal rfl rfl | assumption | exact congrArg (Value.int _) (by assumption) | exact rfl | exact Nat.le_of_ble_eq_true rfl | decide | apply And.intro))
  have hW : (w64 (g.w - 1)) = g.w - 1 := w64_in (by omega)
  refine ⟨by show g.w ≠ 0; omega, ?_⟩
  refine if_eq (fun q2 => ?_) (fun q2 => ?_)
  · refine ⟨n + 1, ⟨Nat.lt_succ_self _, hlt⟩, ?_⟩
    refine ent_of (rl := []) (nl := []) ⟨rfl, ?_, ?_, trivial, rfl, rfl, Nat.zero_le _, trivial, trivial⟩ <;> (repeat' (first | exact trivial | exact SameL.refl _ | exact ep_seal rfl rfl | assumption | exact congrArg (Value.int _) (by assumption) | exact rfl | exact Nat.le_of_ble_eq_true rfl | decide | apply And.intro))
  have q2 : (n : Int).tmod g.w ≠ w64 (g.w - 1) := q2
  rw [m1, hW] at q2
  have hin1 : inG g ((i : Int) + 1) k := by unfold inG at hin ⊢; omega
  have h0 : 0 < es.length := by
    rcases Nat.eq_zero_or_pos es.length with h0 | h0
    · have := hnone (List.eq_nil_of_length_eq_zero h0) i k hin
      have q1 : ¬ l.getD (Int.toNat (n : Int)) default < 0 := q1
      rw [hkn'] at q1; omega
    · exact h0
  have hn1 : n + 1 < l.length := by
    have := ixG_lt hg hin1
    rw [hl1]
    unfold ixG at this
    rw [show ((i : Int) + 1).toNat = i + 1 by omega, Int.toNat_natCast] at this
    omega
  have hk1 : l.getD (Int.toNat (w64 ((n : Int) + 1))) default = knA g l ((i : Int) + 1) k := by
    rw [hn', Int.toNat_natCast]
    unfold knA ixG
    rw [show ((i : Int) + 1).toNat = i + 1 by omega, Int.toNat_natCast]
    congr 1; omega
  have hkr := hall _ _ h0 hin1
  unfold Kn at hkr
  have hkl1 := knA_lt hg hok hin1
  have hk0 := hall _ _ h0 hin
  unfold Kn at hk0
  have hc := centre_in hg (i := i) (k := k) (by omega) (by omega)
  have hcl := hright i k h0 hin hin1
  have hmA := hi.1 _ (getD_mem' (l := es) (i := (knA g l ((i : Int) + 1) k).toNat) (by omega))
  have hmB := hi.1 _ (getD_mem' (l := es) (i := (knA g l i k).toNat) (by omega))
  have hce := centre_at g i k
  rw [← m1, ← m2] at hce
  refine ⟨by show g.w ≠ 0; omega, ?_⟩
  refine ⟨by show g.w ≠ 0; omega, ?_⟩
  refine ⟨_, hce, ?_⟩
  have hc2 : ptIn 33000 (centre g ((n : Int).tmod g.w) (w64 ((n : Int).tdiv g.w))) := by rw [m1, m2]; exact hc
  have hmA' : edIn 8192 (es.getD (l.getD (Int.toNat (w64 ((n : Int) + 1))) default).toNat default) := by rw [hk1]; exact hmA
  have hmB' : edIn 8192 (es.getD (l.getD (Int.toNat (n : Int)) default).toNat default) := by rw [hkn']; exact hmB
  refine ⟨⟨by show 0 ≤ w64 _; rw [hn']; omega, by show w64 _ < (l.length : Int); rw [hn']; omega⟩, ?_⟩
  refine ⟨⟨by show 0 ≤ l.getD (Int.toNat (w64 ((n : Int) + 1))) default; rw [hk1]; omega, by show l.getD (Int.toNat (w64 ((n : Int) + 1))) default < _; rw [hk1]; omega⟩, ?_⟩
  refine ⟨_, square_at hmA' hc2, ?_⟩
  refine ⟨⟨by show 0 ≤ l.getD (Int.toNat (n : Int)) default; rw [hkn']; omega, by show l.getD (Int.toNat (n : Int)) default < _; rw [hkn']; omega⟩, ?_⟩
  refine ⟨_, square_at hmB' hc2, ?_⟩
  refine ⟨_, rcmp_at (sqN_in hmA' hc2) (sqN_in hmB' hc2), ?_⟩
  refine if_dec (fun h => absurd (show cmpF _ _ < 0 from h) ?_) (fun _ => ?_)
  · rw [hk1, hkn', m1, m2, cmpF_lt]
    have h2 := hcl.2
    unfold leF at h2
    omega
  · refine ⟨n + 1, ⟨Nat.lt_succ_self _, hlt⟩, ?_⟩
    refine ent_of (rl := []) (nl := []) ⟨rfl, ?_, ?_, trivial, rfl, rfl, Nat.zero_le _, trivial, trivial⟩ <;> (repeat' (first | exact trivial | exact SameL.refl _ | exact ep_seal rfl rfl | assumption | exact congrArg (Value.int _) (by assumption) | exact rfl | exact Nat.le_of_ble_eq_true rfl | decide | apply And.intro))
theorem row_css {g : Nat} (hat : ∀ (cs : List (List Vx)) {s : Sp} (_ : spIn s), FnAt Try.prog g [aSl dsL 1 cs, aSp s] [aB true]) : ∀ args, TyArgs tt 8 [45, 26] args → FnAt Try.prog g args [(false, [.lit (.bool true)])] := by
  intro args h
  obtain ⟨a1, a2, rfl, h1, h2⟩ := tyA2 h
  obtain ⟨l, cs, rfl, hcs⟩ := a_dots (k := 4) h1
  obtain ⟨s, rfl, hs⟩ := a_sp (k := 6) h2
  exact (hat cs hs).args ⟨rfl, hcs, rfl, sameLs_refl _, trivial⟩
theorem SweepOver_row : ∀ args, TyArgs tt 8 [45, 26] args → FnAt Try.prog 15 args [(false, [.lit (.bool true)])] := row_css fun cs _ hs => sweepOver_at cs hs
theorem SweepAll_row : ∀ args, TyArgs tt 8 [45, 26] args → FnAt Try.prog 13 args [(false, [.lit (.bool true)])] := row_css fun cs _ hs => sweepAll_at cs hs
theorem SweepOne_row : ∀ args, TyArgs tt 8 [24, 24, 26] args → FnAt Try.prog 3 args [(false, [.lit (.bool true)])] := by
  intro args h
  obtain ⟨a1, a2, a3, rfl, h1, h2, h3⟩ := tyA3 h
  obtain ⟨p, rfl, hp⟩ := a_pl (k := 6) h1
  obtain ⟨q, rfl, hq⟩ := a_pl (k := 6) h2
  obtain ⟨s, rfl, hs⟩ := a_sp (k := 6) h3
  exact (sweepOne_at hp hq hs).args ⟨rfl, sameLs_refl _, rfl, sameLs_refl _, rfl, sameLs_refl _, trivial⟩
theorem SweepSeed_row : ∀ args, TyArgs tt 8 [45, 26, 5] args → FnAt Try.prog 14 args [(false, [.lit (.bool true)])] := by
  intro args h
  obtain ⟨a1, a2, a3, rfl, h1, h2, h3⟩ := tyA3 h
  obtain ⟨l, cs, rfl, hcs⟩ := a_dots (k := 4) h1
  obtain ⟨s, rfl, hs⟩ := a_sp (k := 6) h2
  obtain ⟨n, rfl, hn⟩ := a_u8 (k := 7) h3
  exact (sweepSeed_at cs hs hn).args ⟨rfl, hcs, rfl, sameLs_refl _, rfl, sameLs_refl _, trivial⟩
end Go.Proofs.Ytbfdpdbdkcekfaa
