/- MsdfMedian, MsdfChannel, MsdfNear, MsdfMake. -/
import Derived.Test.YtpadocjddoenhaaM2d
namespace Go.Proofs.Ytpadocjddoenhaa
open Go SX
set_option linter.unusedVariables false
set_option maxRecDepth 100000
set_option maxHeartbeats 4000000

theorem med_ok (a b c : Int) : (medN a b c = a ∨ medN a b c = b ∨ medN a b c = c) ∧ ((a ≤ medN a b c ∧ b ≤ medN a b c) ∨ (a ≤ medN a b c ∧ c ≤ medN a b c) ∨ (b ≤ medN a b c ∧ c ≤ medN a b c)) ∧ ((a ≥ medN a b c ∧ b ≥ medN a b c) ∨ (a ≥ medN a b c ∧ c ≥ medN a b c) ∨ (b ≥ medN a b c ∧ c ≥ medN a b c)) := by
  unfold medN max2I min2I
  repeat' split
  all_goals omega
/-! ### contours' colours -/
def cols (cs : List (List Vx)) : List Int := (contours cs).flatMap colours
theorem glyph_fm (cs : List (List Vx)) : (contours cs).flatMap id = glyph cs := by
  unfold contours glyph flatAll
  rw [List.flatMap_map]; rfl
theorem colourN_in (k m : Nat) : 0 ≤ colourN k m ∧ colourN k m ≤ 8 := by
  unfold colourN
  repeat' split
  all_goals decide
theorem colours_in (es : List Ed) : colsIn (colours es) := fun x hx => by
  unfold colours at hx
  obtain ⟨k, _, rfl⟩ := List.mem_map.1 hx
  unfold colourAt
  split
  · decide
  · split <;> decide
  · exact colourN_in _ _
theorem cols_in (cs : List (List Vx)) : colsIn (cols cs) := fun x hx => by
  unfold cols at hx
  obtain ⟨es, _, h⟩ := List.mem_flatMap.1 hx
  exact colours_in es x h
theorem cols_len (cs : List (List Vx)) : (cols cs).length = (glyph cs).length := by
  unfold cols
  rw [← glyph_fm]
  generalize contours cs = l
  induction l with
  | nil => rfl
  | cons c q ih => rw [List.flatMap_cons, List.flatMap_cons, List.length_append, List.length_append, ih, colours_len]; rfl
theorem all_at (cs : List (List Vx)) : FnAt Try.prog 13 [aSl edsL 1 (contours cs)] [aEds (glyph cs), aInts (cols cs)] := by
  have h := cornerAll_at (contours cs) (by have := contours_len cs; omega) (fun c hc => by have := (contours_ok c hc).2; omega)
  rw [glyph_fm] at h
  exact h
theorem chan_in (es : List Ed) (l : List Int) (g : Gd) (i k c : Int) : 0 ≤ chanN es l g i k c ∧ chanN es l g i k c ≤ 255 := by
  unfold chanN
  split
  · exact texel_in _ _ _ _
  · exact codeN_in _ _ _
theorem msdfChannel_at (cs : List (List Vx)) {s : Sp} (hs : spIn s) {i k c : Int} (hi' : 0 ≤ i ∧ i ≤ 255) (hk' : 0 ≤ k ∧ k ≤ 255) (hc' : 0 ≤ c ∧ c ≤ 255) : FnAt Try.prog 6 [aSl dsL 1 cs, aSp s, aU8' i, aU8' k, aU8' c] [aB true] := by
  have hi := glyph_in cs
  have hg := spec_in hs
  have hci := cols_in cs
  have hcl := cols_len cs
  have l1 := hi.2
  refine fn_at (E := EE) (fn := Try.f6) (c := Try.f6.body.getD .skip) (rs := Try.f6.results.toList) (nt := Try.f6.ntmps) EE_ok follows (by kernel_rfl) (by kernel_rfl) rfl rfl rfl [] rfl ?_
  refine ⟨_, awake12_at, ?_⟩
  refine ⟨(fun h => nomatch h), fun _ => ?_⟩
  refine ⟨_, contours_at cs, ?_⟩
  refine ⟨_, all_at cs, ?_⟩
  refine ⟨_, spec_at s, ?_⟩
  generalize glyph cs = es at *
  generalize cols cs = l at *
  generalize specG s = g at *
  have hw := hg.1
  have hh := hg.2.1
  refine ⟨by show g.w ≠ 0; omega, ?_⟩
  refine ⟨by show g.h ≠ 0; omega, ?_⟩
  have e1 : (w64 i).tmod g.w = ((i.toNat % g.w.toNat : Nat) : Int) := by
    rw [w64_in (by omega), tmod_u (by omega) (by omega), Int.natCast_emod, Int.toNat_of_nonneg hi'.1, Int.toNat_of_nonneg (by omega)]
  have e2 : (w64 k).tmod g.h = ((k.toNat % g.h.toNat : Nat) : Int) := by
    rw [w64_in (by omega), tmod_u (by omega) (by omega), Int.natCast_emod, Int.toNat_of_nonneg hk'.1, Int.toNat_of_nonneg (by omega)]
  have ha : i.toNat % g.w.toNat < g.w.toNat := Nat.mod_lt _ (by omega)
  have hb : k.toNat % g.h.toNat < g.h.toNat := Nat.mod_lt _ (by omega)
  have e3 : 0 ≤ w64 (c.tmod 3) ∧ w64 (c.tmod 3) ≤ 2 := by
    rw [tmod_u hc'.1 (by decide), w64_in (by omega)]; omega
  rw [e1, e2]
  generalize i.toNat % g.w.toNat = a at *
  generalize k.toNat % g.h.toNat = b at *
  refine ⟨_, chan_at (i := a) (k := b) (c := w64 (c.tmod 3)) hi (by omega) hg (by omega) (by omega) e3, ?_⟩
  refine ⟨_, lchan_at (i := a) (k := b) (c := w64 (c.tmod 3)) hi (by omega) hci hg (by omega) (by omega) e3, ?_⟩
  exact ⟨⟨vB (beq_iff_eq.2 rfl).symm, trivial⟩, trivial⟩
theorem tkN_at {l : List Int} {c : Int} (hc : 0 ≤ c ∧ c ≤ 255) {k : Nat} (h : k < l.length) : FnAt Try.prog 23 [aI k, (false, [.pt 1 (nth [slI l])]), (false, [.pt 1 (nth [.lit (.int .u8 c)])])] [aB (tkC l (w64 (c.tmod 3)) k)] := by
  have e : c.tmod 3 = c % 3 := tmod_u hc.1 (by decide)
  have e2 : w64 (c.tmod 3) = c.tmod 3 := w64_in (by omega)
  refine fn_at (E := EE) (fn := Try.f23) (c := Try.f23.body.getD .skip) (rs := Try.f23.results.toList) (nt := Try.f23.ntmps) EE_ok follows (by kernel_rfl) (by kernel_rfl) rfl rfl rfl [] rfl ?_
  refine ⟨⟨by omega, by omega⟩, ?_⟩
  refine ⟨by show 0 ≤ c.tmod 3 ∧ c.tmod 3 ≤ 64; omega, ?_⟩
  refine ⟨⟨vB ?_, trivial⟩, trivial⟩
  unfold tkC; rw [if_pos h, e2]; rfl
def MNr (l : List Int) (c : Int) : LM := ⟨[(0, 39, [.sl true 1 l.length (rowOf ints l)]), (1, 5, [.v (.int .u8 c)])], [], 2⟩
noncomputable def SSn (l : List Int) (c : Int) (es : List Ed) (p : Pt) (i : Nat) : SS := mkS
  [(2, .o (.f 23 [0, 1])), (4, .o (.p 2 0)), (6, .o (.p 3 0)), (8, .o (.p 4 0)), (9, .o (.v (.int .i64 (someTo (tkC l (w64 (c.tmod 3))) es p i).at'))), (14, .o (.sl true 4 es.length (rowOf Ed.ls es))), (15, .o (.v (.int .i64 es.length))), (16, .o (.v (.int .i64 i)))]
  ((MNr l c).bs ++ [(2, 56, [.v (.int .i64 p.x), .v (.int .i64 p.y)]), (3, 59, [.any, .any]), (4, 59, [.v (.int .i64 (someTo (tkC l (w64 (c.tmod 3))) es p i).best.num), .v (.int .i64 (someTo (tkC l (w64 (c.tmod 3))) es p i).best.den)])]) [] 5 Try.f22.ntmps
theorem someN_at {l : List Int} {c : Int} {es : List Ed} {p : Pt} (hc : 0 ≤ c ∧ c ≤ 255) (hll : l.length = es.length) (h : edsIn es) (hp : ptIn 33000 p) : HvAt Try.prog 22 [.o (.sl true 4 es.length (rowOf Ed.ls es)), .a [.v (.int .i64 p.x), .v (.int .i64 p.y)], .o (.f 23 [0, 1])] (MNr l c)
    (.t [(true, [.v (.int .i64 (someTo (tkC l (w64 (c.tmod 3))) es p es.length).best.num), .v (.int .i64 (someTo (tkC l (w64 (c.tmod 3))) es p es.length).best.den)]), (false, [.v (.int .i64 (someTo (tkC l (w64 (c.tmod 3))) es p es.length).at')])]) (MNr l c) := by
  obtain ⟨hb, hl⟩ := h
  refine hv_at (E := EH) (fn := Try.f22) (c := Try.f22.body.getD .skip) (rs := Try.f22.results.toList) (nt := Try.f22.ntmps) EH_ok follows (by kernel_rfl) (by kernel_rfl) rfl rfl rfl [] rfl ?_
  refine loop_nat es.length (SSn l c es p) ?_ (fun i hi => ?_)
  · refine ent_of (rl := [(4, 6)]) (nl := []) ⟨rfl, ?_, ?_, trivial, rfl, rfl, (by first | exact Nat.zero_le _ | exact Nat.le_of_ble_eq_true rfl), trivial, ⟨⟨(by first | exact Nat.zero_le _ | exact Nat.le_of_ble_eq_true rfl), (by first | exact Nat.zero_le _ | exact Nat.le_of_ble_eq_true rfl)⟩, trivial⟩⟩ <;> (repeat' (first | exact trivial | exact SameL.refl _ | exact ep_seal rfl rfl | assumption | exact congrArg (Value.int _) (by assumption) | exact rfl | exact Nat.le_of_ble_eq_true rfl | decide | apply And.intro | apply all1 | apply all2 | apply all3 | apply all4 | apply all5))
  have k1 := someTo_ok (tk := tkC l (w64 (c.tmod 3))) hb hp i hi
  refine if_dec (fun hlt => ?_) (fun hge => ?_)
  · have hlt : i < es.length := by omega
    have hw := w64_succ hlt (by omega)
    have hst : someTo (tkC l (w64 (c.tmod 3))) es p (i + 1) = if tkC l (w64 (c.tmod 3)) i = true then nearStep p (someTo (tkC l (w64 (c.tmod 3))) es p i) (i, es.getD i default) else someTo (tkC l (w64 (c.tmod 3))) es p i := rfl
    have he := hb _ (getD_mem' hlt)
    refine ⟨⟨by omega, by omega⟩, ?_⟩
    refine ⟨_, tkN_at (l := l) hc (k := i) (by omega), ?_⟩
    refine if_nb (fun h0 => ?_) (fun h0 => ?_)
    · refine ⟨i + 1, ⟨Nat.lt_succ_self _, hlt⟩, ?_⟩
      unfold SSn
      rw [hst, if_neg (by rw [h0]; decide)]
      refine ent_of (rl := []) (nl := []) ⟨rfl, ?_, ?_, trivial, rfl, rfl, (by first | exact Nat.zero_le _ | exact Nat.le_of_ble_eq_true rfl), trivial, trivial⟩ <;> (repeat' (first | exact trivial | exact SameL.refl _ | exact ep_seal rfl rfl | assumption | exact congrArg (Value.int _) (by assumption) | exact rfl | exact Nat.le_of_ble_eq_true rfl | decide | apply And.intro | apply all1 | apply all2 | apply all3 | apply all4 | apply all5))
    rw [if_pos h0] at hst
    refine ⟨_, square_at he hp, ?_⟩
    refine if_dec_f (fun h1 => ?_) (fun h1 => ?_)
    · have h1 : ¬ (someTo (tkC l (w64 (c.tmod 3))) es p i).at' < 0 := h1
      have k3 : frIn (someTo (tkC l (w64 (c.tmod 3))) es p i).best := by
        rcases k1 with h | h
        · omega
        · exact h.2.2.2
      refine ⟨_, rcmp_at (sqN_in he hp) k3, ?_⟩
      refine if_dec (fun h2 => ?_) (fun h2 => ?_)
      · have h2 : cmpF (sqN (es.getD i default) p) (someTo (tkC l (w64 (c.tmod 3))) es p i).best < 0 := h2
        refine ⟨i + 1, ⟨Nat.lt_succ_self _, hlt⟩, ?_⟩
        unfold SSn
        rw [hst]
        unfold nearStep
        rw [if_pos (.inr h2)]
        refine ent_of (rl := []) (nl := []) ⟨rfl, ?_, ?_, trivial, rfl, rfl, (by first | exact Nat.zero_le _ | exact Nat.le_of_ble_eq_true rfl), trivial, trivial⟩ <;> (repeat' (first | exact trivial | exact SameL.refl _ | exact ep_seal rfl rfl | assumption | exact congrArg (Value.int _) (by assumption) | exact rfl | exact Nat.le_of_ble_eq_true rfl | decide | apply And.intro | apply all1 | apply all2 | apply all3 | apply all4 | apply all5))
      · have h2 : ¬ cmpF (sqN (es.getD i default) p) (someTo (tkC l (w64 (c.tmod 3))) es p i).best < 0 := h2
        refine ⟨i + 1, ⟨Nat.lt_succ_self _, hlt⟩, ?_⟩
        unfold SSn
        rw [hst]
        unfold nearStep
        rw [if_neg (by rintro (h | h); exact h1 h; exact h2 h)]
        refine ent_of (rl := []) (nl := []) ⟨rfl, ?_, ?_, trivial, rfl, rfl, (by first | exact Nat.zero_le _ | exact Nat.le_of_ble_eq_true rfl), trivial, trivial⟩ <;> (repeat' (first | exact trivial | exact SameL.refl _ | exact ep_seal rfl rfl | assumption | exact congrArg (Value.int _) (by assumption) | exact rfl | exact Nat.le_of_ble_eq_true rfl | decide | apply And.intro | apply all1 | apply all2 | apply all3 | apply all4 | apply all5))
    · have h1 : (someTo (tkC l (w64 (c.tmod 3))) es p i).at' < 0 := h1
      refine ⟨i + 1, ⟨Nat.lt_succ_self _, hlt⟩, ?_⟩
      unfold SSn
      rw [hst]
      unfold nearStep
      rw [if_pos (.inl h1)]
      refine ent_of (rl := []) (nl := []) ⟨rfl, ?_, ?_, trivial, rfl, rfl, (by first | exact Nat.zero_le _ | exact Nat.le_of_ble_eq_true rfl), trivial, trivial⟩ <;> (repeat' (first | exact trivial | exact SameL.refl _ | exact ep_seal rfl rfl | assumption | exact congrArg (Value.int _) (by assumption) | exact rfl | exact Nat.le_of_ble_eq_true rfl | decide | apply And.intro | apply all1 | apply all2 | apply all3 | apply all4 | apply all5))
  · have hin : i = es.length := by omega
    subst hin
    refine ent_of (rl := []) (nl := []) ⟨rfl, ?_, ?_, trivial, rfl, rfl, (by first | exact Nat.zero_le _ | exact Nat.le_of_ble_eq_true rfl), trivial, trivial⟩ <;> (repeat' (first | exact trivial | exact SameL.refl _ | exact ep_seal rfl rfl | assumption | exact congrArg (Value.int _) (by assumption) | exact rfl | exact Nat.le_of_ble_eq_true rfl | decide | apply And.intro | apply all1 | apply all2 | apply all3 | apply all4 | apply all5))
theorem sideW_in (e : Ed) (p : Pt) : -1 ≤ sideW e p ∧ sideW e p ≤ 1 := by
  unfold sideW sgn
  repeat' split
  all_goals decide
theorem chan_near {es : List Ed} {l : List Int} {g : Gd} {i k c : Int} (h : edsIn es) (hg : gdIn g) (hi : 0 ≤ i ∧ i < 24) (hk : 0 ≤ k ∧ k < 24) (h0 : ¬ (someTo (tkC l c) es (centre g i k) es.length).at' < 0) :
    0 ≤ eightF (someTo (tkC l c) es (centre g i k) es.length).best ∧ 128 - nOf g.spread (eightF (someTo (tkC l c) es (centre g i k) es.length).best) ≤ chanN es l g i k c ∧ chanN es l g i k c ≤ 128 + nOf g.spread (eightF (someTo (tkC l c) es (centre g i k) es.length).best) := by
  have hp := centre_in hg hi hk
  have hs := hg.2.2.2.2.2
  obtain ⟨a0, a1, a2, a3⟩ := (someTo_ok (tk := tkC l c) h.1 hp es.length (Nat.le_refl _)).resolve_left (by omega)
  have hm := getD_mem' (l := es) (i := (someTo (tkC l c) es (centre g i k) es.length).at'.toNat) (by omega)
  have he := h.1 _ hm
  have he0 := (eightF_ok a3).1
  refine ⟨he0, ?_⟩
  have hn0 := nOf_in hs he0
  unfold chanN
  split
  · have hlen : 0 < es.length := by omega
    obtain ⟨e1, e2, e3⟩ := texel_val h hg hi hk hlen
    have hle := eight_le h hp hm
    rw [← a2] at hle
    have hmo := nOf_mono hs (eight_ge0 h hp hlen) hle
    have hsg := sign_in es (centre g i k)
    rw [e1]
    generalize sign es (centre g i k) = sg at *
    generalize nOf g.spread (eight es (centre g i k)) = n at *
    generalize nOf g.spread (eightF (someTo (tkC l c) es (centre g i k) es.length).best) = N at *
    have : sg = -1 ∨ sg = 0 ∨ sg = 1 := by omega
    rcases this with rfl | rfl | rfl <;> omega
  · have hl := eight_line he hp
    rw [← a2] at hl
    have hl0 := (eightF_ok (lineN_in he hp)).1
    have hmo := nOf_mono hs hl0 hl
    have hn1 := nOf_in hs hl0
    have hsg := sideW_in (es.getD (someTo (tkC l c) es (centre g i k) es.length).at'.toNat default) (centre g i k)
    rw [codeN_eq hs hl0 hsg]
    generalize sideW (es.getD (someTo (tkC l c) es (centre g i k) es.length).at'.toNat default) (centre g i k) = sg at *
    generalize nOf g.spread (eightF (lineN (es.getD (someTo (tkC l c) es (centre g i k) es.length).at'.toNat default) (centre g i k))) = n at *
    generalize nOf g.spread (eightF (someTo (tkC l c) es (centre g i k) es.length).best) = N at *
    have : sg = -1 ∨ sg = 0 ∨ sg = 1 := by omega
    rcases this with rfl | rfl | rfl <;> omega
theorem msdfNear_at (cs : List (List Vx)) {s : Sp} (hs : spIn s) {i k c : Int} (hi' : 0 ≤ i ∧ i ≤ 255) (hk' : 0 ≤ k ∧ k ≤ 255) (hc' : 0 ≤ c ∧ c ≤ 255) : FnAt Try.prog 7 [aSl dsL 1 cs, aSp s, aU8' i, aU8' k, aU8' c] [aB true] := by
  have hi := glyph_in cs
  have hg := spec_in hs
  have hci := cols_in cs
  have hcl := cols_len cs
  have l1 := hi.2
  refine fn_at (E := EH) (fn := Try.f7) (c := Try.f7.body.getD .skip) (rs := Try.f7.results.toList) (nt := Try.f7.ntmps) EH_ok follows (by kernel_rfl) (by kernel_rfl) rfl rfl rfl [] rfl ?_
  refine ⟨_, awake12_at, ?_⟩
  refine ⟨(fun h => nomatch h), fun _ => ?_⟩
  refine ⟨_, contours_at cs, ?_⟩
  refine ⟨_, all_at cs, ?_⟩
  refine ⟨_, spec_at s, ?_⟩
  generalize glyph cs = es at *
  generalize cols cs = l at *
  generalize specG s = g at *
  have hw := hg.1
  have hh := hg.2.1
  refine ⟨by show g.w ≠ 0; omega, ?_⟩
  refine ⟨by show g.h ≠ 0; omega, ?_⟩
  have e1 : (w64 i).tmod g.w = ((i.toNat % g.w.toNat : Nat) : Int) := by
    rw [w64_in (by omega), tmod_u (by omega) (by omega), Int.natCast_emod, Int.toNat_of_nonneg hi'.1, Int.toNat_of_nonneg (by omega)]
  have e2 : (w64 k).tmod g.h = ((k.toNat % g.h.toNat : Nat) : Int) := by
    rw [w64_in (by omega), tmod_u (by omega) (by omega), Int.natCast_emod, Int.toNat_of_nonneg hk'.1, Int.toNat_of_nonneg (by omega)]
  have ha : i.toNat % g.w.toNat < g.w.toNat := Nat.mod_lt _ (by omega)
  have hb : k.toNat % g.h.toNat < g.h.toNat := Nat.mod_lt _ (by omega)
  have e3 : 0 ≤ w64 (c.tmod 3) ∧ w64 (c.tmod 3) ≤ 2 := by
    rw [tmod_u hc'.1 (by decide), w64_in (by omega)]; omega
  rw [e1, e2]
  generalize i.toNat % g.w.toNat = a at *
  generalize k.toNat % g.h.toNat = b at *
  have hp := centre_in hg (i := a) (k := b) (by omega) (by omega)
  refine ⟨_, centre_at g a b, ?_⟩
  refine ⟨_, _, _, _, [(0, 11), (1, 1)], [], someN_at (l := l) (c := c) hc' hcl hi hp, (by refine ⟨?_, ?_, ?_, ?_, ?_, ?_⟩ <;> (repeat' (first | exact trivial | exact subR.refl _ | exact SameL.refl _ | assumption | exact congrArg (Value.int _) (by assumption) | exact congrArg (Value.int _) (Eq.symm (by assumption)) | exact rfl | exact Nat.le_of_ble_eq_true rfl | decide | apply And.intro))), ?_⟩
  have k1 := someTo_ok (tk := tkC l (w64 (c.tmod 3))) hi.1 hp es.length (Nat.le_refl _)
  refine if_dec (fun h0 => ?_) (fun h0 => ?_)
  · have h0 : (someTo (tkC l (w64 (c.tmod 3))) es (centre g a b) es.length).at' < 0 := h0
    refine ⟨_, chan_at (i := a) (k := b) (c := w64 (c.tmod 3)) hi (by omega) hg (by omega) (by omega) e3, ?_⟩
    refine ⟨_, texel_at hi hg (by omega) (by omega), ?_⟩
    refine ⟨⟨vB (beq_iff_eq.2 ?_).symm, trivial⟩, trivial⟩
    unfold chanN; rw [if_pos (.inl h0)]
  · have h0 : ¬ (someTo (tkC l (w64 (c.tmod 3))) es (centre g a b) es.length).at' < 0 := h0
    obtain ⟨q1, q2, q3⟩ := chan_near hi hg (i := a) (k := b) (by omega) (by omega) h0
    obtain ⟨a0, a1, a2, a3⟩ := k1.resolve_left (by omega)
    have he := hi.1 _ (getD_mem' (l := es) (i := (someTo (tkC l (w64 (c.tmod 3))) es (centre g a b) es.length).at'.toNat) (by omega))
    have hsc := scaled_at a3 (by have := eight_q (sqN_in he hp) (sqN_le he hp); rw [a2]; omega)
    have hn := nOf_in hg.2.2.2.2.2 q1
    refine ⟨_, chan_at (i := a) (k := b) (c := w64 (c.tmod 3)) hi (by omega) hg (by omega) (by omega) e3, ?_⟩
    refine ⟨_, hsc, ?_⟩
    refine ⟨_, code_at g 1 (eightF (someTo (tkC l (w64 (c.tmod 3))) es (centre g a b) es.length).best) hg.2.2.2.2.2, ?_⟩
    rw [codeN_eq hg.2.2.2.2.2 q1 (by decide)]
    have hci2 := chan_in es l g a b (w64 (c.tmod 3))
    generalize chanN es l g a b (w64 (c.tmod 3)) = v at *
    generalize nOf g.spread (eightF (someTo (tkC l (w64 (c.tmod 3))) es (centre g a b) es.length).best) = n at *
    refine ⟨⟨vB (decide_eq_true ?_).symm, trivial⟩, trivial⟩
    show max2I (w64 (w64 v - 128)) (w64 (0 - w64 (w64 v - 128))) ≤ w64 (w64 (128 + 1 * n) - 128)
    rw [w64_in (n := v) (by omega), w64_in (n := v - 128) (by omega), w64_in (n := 0 - (v - 128)) (by omega), w64_in (n := 128 + 1 * n) (by omega), w64_in (by omega)]
    unfold max2I
    split <;> omega
end Go.Proofs.Ytpadocjddoenhaa
