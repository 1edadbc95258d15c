/- Plain laws of the passes: all texels know an edge; none's neighbour on the right knows a nearer one; seeds. -/
import Derived.Test.YtbfdpdbdkcekfaaR1c
namespace Go.Proofs.Ytbfdpdbdkcekfaa
open Go SX
set_option linter.unusedVariables false
set_option maxRecDepth 100000
set_option maxHeartbeats 1000000

def knA (g : Gd) (l : List Int) (i k : Int) : Int := l.getD (ixG g i k) default
theorem ixG_inj {g : Gd} {i k i' k' : Int} (h : inG g i k) (h' : inG g i' k') (e : ixG g i k = ixG g i' k') : i = i' ∧ k = k' := by
  unfold inG at h h'
  unfold ixG at e
  have hw : 0 < g.w.toNat := by omega
  have a1 : (k.toNat * g.w.toNat + i.toNat) % g.w.toNat = i.toNat := by rw [Nat.add_comm, Nat.add_mul_mod_self_right, Nat.mod_eq_of_lt (by omega)]
  have a2 : (k'.toNat * g.w.toNat + i'.toNat) % g.w.toNat = i'.toNat := by rw [Nat.add_comm, Nat.add_mul_mod_self_right, Nat.mod_eq_of_lt (by omega)]
  have hi : i.toNat = i'.toNat := by rw [← a1, ← a2, e]
  rw [hi] at e
  have hk : k.toNat = k'.toNat := Nat.eq_of_mul_eq_mul_right hw (by omega)
  omega
section
variable {es : List Ed} {g : Gd}
/-- a texel knows an edge that is no farther than e -/
def Cl (es : List Ed) (g : Gd) (l : List Int) (i k e : Int) : Prop := 0 ≤ knA g l i k ∧ leF (sqN (es.getD (knA g l i k).toNat default) (centre g i k)) (sqN (es.getD e.toNat default) (centre g i k))
theorem ed_fr (hes : edsIn es) (hg : gdIn g) {i k e : Int} (hi : inG g i k) (he : 0 ≤ e ∧ e < es.length) : frIn (sqN (es.getD e.toNat default) (centre g i k)) := by
  unfold inG at hi
  have hw := hg.1
  have hh := hg.2.1
  exact sqN_in (hes.1 _ (getD_mem' (by omega))) (centre_in hg (by omega) (by omega))
theorem knA_lt {l : List Int} (hg : gdIn g) (h : atOK es g l) {i k : Int} (hi : inG g i k) : -1 ≤ knA g l i k ∧ knA g l i k < es.length := h.2 _ (getD_mem' (by rw [h.1]; exact ixG_lt hg hi))
theorem offG_get {l : List Int} (hg : gdIn g) (h : atOK es g l) {i k e i' k' : Int} (hi' : inG g i' k') :
    knA g (offG es g l i k e) i' k' = knA g l i' k' ∨ (i' = i ∧ k' = k ∧ 0 ≤ e ∧ knA g (offG es g l i k e) i' k' = e ∧ (knA g l i k < 0 ∨ cmpF (sqN (es.getD e.toNat default) (centre g i k)) (sqN (es.getD (knA g l i k).toNat default) (centre g i k)) < 0)) := by
  unfold offG
  split
  · rename_i hc
    by_cases hx : ixG g i' k' = ixG g i k
    · obtain ⟨rfl, rfl⟩ := ixG_inj hi' hc.2.1 hx
      refine .inr ⟨rfl, rfl, hc.1, ?_, hc.2.2⟩
      unfold knA
      rw [getD_set _ _ _ (by rw [h.1]; exact ixG_lt hg hi'), if_pos rfl]
    · left
      unfold knA
      rw [getD_set _ _ _ (by rw [h.1]; exact ixG_lt hg hc.2.1), if_neg hx]
  · exact .inl rfl
theorem offG_other {l : List Int} (hg : gdIn g) (h : atOK es g l) {i k e i' k' : Int} (hi' : inG g i' k') (hne : i' ≠ i ∨ k' ≠ k) : knA g (offG es g l i k e) i' k' = knA g l i' k' := by
  rcases offG_get (e := e) (i := i) (k := k) hg h hi' with h1 | ⟨h1, h2, _⟩
  · exact h1
  · omega
theorem told (hes : edsIn es) {l : List Int} (hg : gdIn g) (h : atOK es g l) {i k e : Int} (hi : inG g i k) (he : 0 ≤ e ∧ e < es.length) : Cl es g (offG es g l i k e) i k e := by
  have hk := knA_lt hg h hi
  by_cases hc : knA g l i k < 0 ∨ cmpF (sqN (es.getD e.toNat default) (centre g i k)) (sqN (es.getD (knA g l i k).toNat default) (centre g i k)) < 0
  · have e1 : offG es g l i k e = l.set (ixG g i k) e := by unfold offG; rw [if_pos ⟨he.1, hi, hc⟩]
    have e2 : knA g (offG es g l i k e) i k = e := by
      rw [e1]; unfold knA
      rw [getD_set _ _ _ (by rw [h.1]; exact ixG_lt hg hi), if_pos rfl]
    unfold Cl
    rw [e2]
    exact ⟨he.1, leF.refl _⟩
  · have e1 : offG es g l i k e = l := by unfold offG; rw [if_neg (fun h => hc h.2.2)]
    rw [e1]
    refine ⟨by omega, ?_⟩
    have h2 : ¬ cmpF (sqN (es.getD e.toNat default) (centre g i k)) (sqN (es.getD (knA g l i k).toNat default) (centre g i k)) < 0 := fun h => hc (.inr h)
    rw [cmpF_lt] at h2
    unfold leF; omega
/-- what is known is known, and no farther -/
def Mono (es : List Ed) (g : Gd) (l l' : List Int) : Prop := ∀ i k e : Int, inG g i k → 0 ≤ e ∧ e < es.length → Cl es g l i k e → Cl es g l' i k e
theorem Mono.refl (l : List Int) : Mono es g l l := fun _ _ _ _ _ h => h
theorem Mono.trans {a b c : List Int} (h : Mono es g a b) (h' : Mono es g b c) : Mono es g a c := fun i k e hi he hc => h' i k e hi he (h i k e hi he hc)
theorem off_mono (hes : edsIn es) {l : List Int} (hg : gdIn g) (h : atOK es g l) {i k e : Int} (he : e < es.length) : Mono es g l (offG es g l i k e) := by
  intro i' k' e' hi' he' ⟨hc1, hc2⟩
  rcases offG_get (e := e) (i := i) (k := k) hg h hi' with h1 | ⟨rfl, rfl, h3, h4, h5⟩
  · unfold Cl; rw [h1]; exact ⟨hc1, hc2⟩
  · unfold Cl; rw [h4]
    refine ⟨h3, ?_⟩
    have hk := knA_lt hg h hi'
    have h5 := cmpF_lt.1 (h5.resolve_left (by omega))
    refine leF.trans (ed_fr hes hg hi' ⟨h3, he⟩) (ed_fr hes hg hi' ⟨hc1, hk.2⟩) (ed_fr hes hg hi' he') ?_ hc2
    unfold leF; omega
/-- a texel knows some edge -/
def Kn (g : Gd) (l : List Int) (i k : Int) : Prop := 0 ≤ knA g l i k
theorem Mono.kn {l l' : List Int} (hg : gdIn g) (h : atOK es g l) (hm : Mono es g l l') {i k : Int} (hi : inG g i k) (hk : Kn g l i k) : Kn g l' i k :=
  (hm i k (knA g l i k) hi ⟨hk, (knA_lt hg h hi).2⟩ ⟨hk, leF.refl _⟩).1
theorem Cl.kn {l : List Int} {i k e : Int} (h : Cl es g l i k e) : Kn g l i k := h.1
theorem knG_in {l : List Int} {i k : Int} (hi : inG g i k) : knG g l i k = knA g l i k := by unfold knG; rw [if_pos hi]; rfl
theorem step_mono (hes : edsIn es) {l : List Int} (hg : gdIn g) (h : atOK es g l) {i k a b : Int} : Mono es g l (stepG es g l i k a b) := off_mono hes hg h (knG_lt hg h _ _)
theorem step_told (hes : edsIn es) {l : List Int} (hg : gdIn g) (h : atOK es g l) {i k a b : Int} (hi : inG g i k) (hn : inG g (i + a) (k + b)) (hk : Kn g l (i + a) (k + b)) : Cl es g (stepG es g l i k a b) i k (knA g l (i + a) (k + b)) := by
  unfold stepG
  rw [knG_in hn]
  exact told hes hg h hi ⟨hk, (knA_lt hg h hn).2⟩
theorem step_other {l : List Int} (hg : gdIn g) (h : atOK es g l) {i k a b i' k' : Int} (hi' : inG g i' k') (hne : i' ≠ i ∨ k' ≠ k) : knA g (stepG es g l i k a b) i' k' = knA g l i' k' := offG_other hg h hi' hne
theorem step4_mono (hes : edsIn es) {l : List Int} (hg : gdIn g) (h : atOK es g l) {d i k : Int} : Mono es g l (step4 es g l d i k) := by
  have h1 := stepG_ok (i := i) (k := k) (a := -d) (b := 0) hg h
  have h2 := stepG_ok (i := i) (k := k) (a := 0) (b := -d) hg h1
  have h3 := stepG_ok (i := i) (k := k) (a := -d) (b := -d) hg h2
  exact (step_mono hes hg h).trans ((step_mono hes hg h1).trans ((step_mono hes hg h2).trans (step_mono hes hg h3)))
theorem step4_other {l : List Int} (hg : gdIn g) (h : atOK es g l) {d i k i' k' : Int} (hi' : inG g i' k') (hne : i' ≠ i ∨ k' ≠ k) : knA g (step4 es g l d i k) i' k' = knA g l i' k' := by
  have h1 := stepG_ok (i := i) (k := k) (a := -d) (b := 0) hg h
  have h2 := stepG_ok (i := i) (k := k) (a := 0) (b := -d) hg h1
  have h3 := stepG_ok (i := i) (k := k) (a := -d) (b := -d) hg h2
  unfold step4
  rw [step_other hg h3 hi' hne, step_other hg h2 hi' hne, step_other hg h1 hi' hne, step_other hg h hi' hne]
/-- told by the one beside it -/
theorem step4_side (hes : edsIn es) {l : List Int} (hg : gdIn g) (h : atOK es g l) {d i k : Int} (hi : inG g i k) (hn : inG g (i + -d) k) (hk : Kn g l (i + -d) k) : Cl es g (step4 es g l d i k) i k (knA g l (i + -d) k) := by
  have h1 := stepG_ok (i := i) (k := k) (a := -d) (b := 0) hg h
  have h2 := stepG_ok (i := i) (k := k) (a := 0) (b := -d) hg h1
  have h3 := stepG_ok (i := i) (k := k) (a := -d) (b := -d) hg h2
  have hn' : inG g (i + -d) (k + 0) := by rw [Int.add_zero]; exact hn
  have hk' : Kn g l (i + -d) (k + 0) := by rw [Int.add_zero]; exact hk
  have := step_told hes hg h (a := -d) (b := 0) hi hn' hk'
  rw [Int.add_zero] at this
  exact ((step_mono hes hg h1).trans ((step_mono hes hg h2).trans (step_mono hes hg h3))) _ _ _ hi ⟨hk, (knA_lt hg h hn).2⟩ this
/-- told by the one ahead of it -/
theorem step4_up (hes : edsIn es) {l : List Int} (hg : gdIn g) (h : atOK es g l) {d i k : Int} (hi : inG g i k) (hn : inG g i (k + -d)) (hk : Kn g l i (k + -d)) : Kn g (step4 es g l d i k) i k := by
  have h1 := stepG_ok (i := i) (k := k) (a := -d) (b := 0) hg h
  have h2 := stepG_ok (i := i) (k := k) (a := 0) (b := -d) hg h1
  have h3 := stepG_ok (i := i) (k := k) (a := -d) (b := -d) hg h2
  have hn' : inG g (i + 0) (k + -d) := by rw [Int.add_zero]; exact hn
  have hk1 : Kn g (stepG es g l i k (-d) 0) (i + 0) (k + -d) := by rw [Int.add_zero]; exact (step_mono hes hg h).kn hg h hn hk
  have := (step_told hes hg h1 (a := 0) (b := -d) hi hn' hk1).kn
  exact ((step_mono hes hg h2).trans (step_mono hes hg h3)).kn hg h2 hi this
theorem col1_mono (hes : edsIn es) {l : List Int} (hg : gdIn g) (h : atOK es g l) {k : Nat} : ∀ i, Mono es g l (col1 es g l k i)
  | 0 => .refl _
  | i + 1 => (col1_mono hes hg h i).trans (step4_mono hes hg (col1_ok hg h i))
theorem row1_mono (hes : edsIn es) {l : List Int} (hg : gdIn g) (h : atOK es g l) : ∀ k, Mono es g l (row1 es g l k)
  | 0 => .refl _
  | k + 1 => (row1_mono hes hg h k).trans (col1_mono hes hg (row1_ok hg h k) _)
theorem col2_mono (hes : edsIn es) {l : List Int} (hg : gdIn g) (h : atOK es g l) {k : Int} : ∀ i, Mono es g l (col2 es g l k i)
  | 0 => .refl _
  | i + 1 => (col2_mono hes hg h i).trans (step4_mono hes hg (col2_ok hg h i))
theorem row2_mono (hes : edsIn es) {l : List Int} (hg : gdIn g) (h : atOK es g l) : ∀ k, Mono es g l (row2 es g l k)
  | 0 => .refl _
  | k + 1 => (row2_mono hes hg h k).trans (col2_mono hes hg (row2_ok hg h k) _)
theorem seed3_mono (hes : edsIn es) {l : List Int} (hg : gdIn g) (h : atOK es g l) {n : Nat} (hn : n < es.length) : Mono es g l (seed3 es g l n) :=
  (off_mono hes hg h (by omega)).trans ((off_mono hes hg (offP_ok h (by omega)) (by omega)).trans (off_mono hes hg (offP_ok (offP_ok h (by omega)) (by omega)) (by omega)))
theorem seedTo_mono (hes : edsIn es) (hg : gdIn g) {i : Nat} : ∀ {j : Nat}, i ≤ j → j ≤ es.length → Mono es g (seedTo es g i) (seedTo es g j)
  | 0, h, _ => by obtain rfl : i = 0 := by omega
                  exact .refl _
  | j + 1, h, hj => by
    by_cases e : i = j + 1
    · subst e; exact .refl _
    · exact (seedTo_mono hes hg (j := j) (by omega) (by omega)).trans (seed3_mono hes hg (seedTo_ok (by omega)) (by omega))
theorem near_in' (hg : gdIn g) (p : Pt) : inG g (nearI p.x g.x g.pitch g.w) (nearI p.y g.y g.pitch g.h) := by
  have a := nearI_in (n := p.x) (x := g.x) (pitch := g.pitch) hg.1
  have b := nearI_in (n := p.y) (x := g.y) (pitch := g.pitch) hg.2.1
  exact ⟨a.1, b.1, a.2, b.2⟩
/-- the texel of an edge's beginning -/
theorem seed_s (hes : edsIn es) (hg : gdIn g) {n : Nat} (hn : n < es.length) : Cl es g (seedTo es g es.length) (nearI (es.getD n default).a.x g.x g.pitch g.w) (nearI (es.getD n default).a.y g.y g.pitch g.h) n := by
  have h0 := seedTo_ok (es := es) (g := g) (i := n) (by omega)
  have hi := near_in' hg (es.getD n default).a
  have h1 := told hes hg h0 hi (e := n) ⟨by omega, by omega⟩
  have o1 := offP_ok (g := g) (p := (es.getD n default).a) (n := n) h0 (by omega)
  have o2 := offP_ok (g := g) (p := midP (es.getD n default)) (n := n) o1 (by omega)
  have m1 : Mono es g (offP es g (seedTo es g n) (es.getD n default).a n) (seedTo es g (n + 1)) := (off_mono hes hg o1 (by omega)).trans (off_mono hes hg o2 (by omega))
  have m2 := seedTo_mono hes hg (i := n + 1) (j := es.length) (by omega) (Nat.le_refl _)
  exact (m1.trans m2) _ _ _ hi ⟨by omega, by omega⟩ h1
theorem seed_cl (hes : edsIn es) (hg : gdIn g) {n : Nat} (hn : n < es.length) : Cl es g (knownL es g) (nearI (es.getD n default).a.x g.x g.pitch g.w) (nearI (es.getD n default).a.y g.y g.pitch g.h) n := by
  have hS := seedTo_ok (es := es) (g := g) (i := es.length) (Nat.le_refl _)
  have m3 := row1_mono hes hg hS g.h.toNat
  have m4 := row2_mono hes hg (row1_ok hg hS g.h.toNat) g.h.toNat
  exact (m3.trans m4) _ _ _ (near_in' hg _) ⟨by omega, by omega⟩ (seed_s hes hg hn)
/-- the first pass leads to the last texel -/
theorem col1_right (hes : edsIn es) {l : List Int} (hg : gdIn g) (h : atOK es g l) {k : Nat} {i0 : Int} (hi0 : inG g i0 k) (hk : Kn g l i0 k) : ∀ i : Nat, i ≤ g.w.toNat → ∀ j : Int, i0 ≤ j → j < i → Kn g (col1 es g l k i) j k
  | 0, _, j, h1, h2 => by unfold inG at hi0; omega
  | i + 1, hi, j, h1, h2 => by
    have ok := col1_ok (k := k) hg h i
    have hin : inG g (i : Int) k := by unfold inG at hi0 ⊢; omega
    show Kn g (step4 es g (col1 es g l k i) 1 i k) j k
    rcases Int.lt_or_le j i with hj | hj
    · have hjn : inG g j k := by unfold inG at hi0 hin ⊢; omega
      exact (step4_mono hes hg ok).kn hg ok hjn (col1_right hes hg h hi0 hk i (by omega) j h1 hj)
    · obtain rfl : j = i := by omega
      rcases Int.lt_or_le i0 i with hlt | hge
      · have hn : inG g ((i : Int) + -1) k := by unfold inG at hi0 hin ⊢; omega
        exact (step4_side hes hg ok hin hn (col1_right hes hg h hi0 hk i (by omega) _ (by omega) (by omega))).kn
      · obtain rfl : i0 = i := by omega
        exact ((col1_mono hes hg h i).trans (step4_mono hes hg ok)).kn hg h hin hk
theorem row1_last (hes : edsIn es) {l : List Int} (hg : gdIn g) (h : atOK es g l) {i0 k0 : Int} (hi0 : inG g i0 k0) (hk : Kn g l i0 k0) : ∀ k : Nat, k ≤ g.h.toNat → k0 < k → Kn g (row1 es g l k) (g.w - 1) ((k : Int) - 1)
  | 0, _, h2 => by unfold inG at hi0; omega
  | k + 1, hk1, h2 => by
    have ok := row1_ok hg h k
    have hw := hg.1
    have hh := hg.2.1
    have hin : inG g (g.w - 1) k := by unfold inG; omega
    rw [show ((k + 1 : Nat) : Int) - 1 = k by omega]
    show Kn g (col1 es g (row1 es g l k) k g.w.toNat) (g.w - 1) k
    rcases Int.lt_or_le k0 k with hlt | hge
    · have ih := row1_last hes hg h hi0 hk k (by omega) hlt
      obtain ⟨n, hn⟩ : ∃ n, g.w.toNat = n + 1 := ⟨g.w.toNat - 1, by omega⟩
      rw [hn]
      show Kn g (step4 es g (col1 es g (row1 es g l k) k n) 1 n k) (g.w - 1) k
      have e : g.w - 1 = (n : Int) := by omega
      have okc := col1_ok (k := k) hg ok n
      have hup : inG g (n : Int) ((k : Int) + -1) := by unfold inG at hi0 hin ⊢; omega
      rw [e] at ih hin ⊢
      rw [show (k : Int) - 1 = (k : Int) + -1 by omega] at ih
      exact step4_up hes hg okc hin hup ((col1_mono hes hg ok n).kn hg ok hup ih)
    · obtain rfl : k0 = k := by omega
      have hk' := (row1_mono hes hg h k).kn hg h hi0 hk
      exact col1_right hes hg ok hi0 hk' g.w.toNat (Nat.le_refl _) _ (by unfold inG at hi0; omega) (by omega)
/-- the second pass leads everywhere -/
theorem col2_left (hes : edsIn es) {l : List Int} (hg : gdIn g) (h : atOK es g l) {k : Int} (hkk : 0 ≤ k ∧ k < g.h) (hk : Kn g l (g.w - 1) k ∨ (inG g (g.w - 1) (k + 1) ∧ Kn g l (g.w - 1) (k + 1))) : ∀ j : Nat, j ≤ g.w.toNat → ∀ i : Int, g.w - j ≤ i → i < g.w → Kn g (col2 es g l k j) i k
  | 0, _, i, h1, h2 => by omega
  | j + 1, hj, i, h1, h2 => by
    have ok := col2_ok (k := k) hg h j
    have hw := hg.1
    have hin : inG g (g.w - 1 - j) k := by unfold inG; omega
    show Kn g (step4 es g (col2 es g l k j) (-1) (g.w - 1 - j) k) i k
    rcases Int.lt_or_le (g.w - 1 - j) i with hlt | hge
    · exact (step4_mono hes hg ok).kn hg ok (by unfold inG; omega) (col2_left hes hg h hkk hk j (by omega) i (by omega) h2)
    · obtain rfl : i = g.w - 1 - j := by omega
      rcases Nat.eq_zero_or_pos j with rfl | hpos
      · rcases hk with hk | ⟨hn, hk⟩
        · refine (step4_mono hes hg ok).kn hg ok hin ?_
          rw [show g.w - 1 - ((0 : Nat) : Int) = g.w - 1 by omega]; exact hk
        · refine step4_up hes hg ok hin ?_ ?_
          · rw [show g.w - 1 - ((0 : Nat) : Int) = g.w - 1 by omega]; exact hn
          · rw [show g.w - 1 - ((0 : Nat) : Int) = g.w - 1 by omega]; exact hk
      · refine (step4_side hes hg ok hin ?_ ?_).kn
        · unfold inG; omega
        · exact col2_left hes hg h hkk hk j (by omega) _ (by omega) (by omega)
theorem row2_all (hes : edsIn es) {l : List Int} (hg : gdIn g) (h : atOK es g l) (hk : Kn g l (g.w - 1) (g.h - 1)) : ∀ j : Nat, j ≤ g.h.toNat → ∀ i k : Int, inG g i k → g.h - j ≤ k → Kn g (row2 es g l j) i k
  | 0, _, i, k, hi, h2 => by unfold inG at hi; omega
  | j + 1, hj, i, k, hi, h2 => by
    have ok := row2_ok hg h j
    have hw := hg.1
    have hh := hg.2.1
    show Kn g (col2 es g (row2 es g l j) (g.h - 1 - j) g.w.toNat) i k
    rcases Int.lt_or_le (g.h - 1 - j) k with hlt | hge
    · exact (col2_mono hes hg ok _).kn hg ok hi (row2_all hes hg h hk j (by omega) i k hi (by omega))
    · obtain rfl : k = g.h - 1 - j := by omega
      refine col2_left hes hg ok (by omega) ?_ g.w.toNat (Nat.le_refl _) i (by unfold inG at hi; omega) (by unfold inG at hi; omega)
      rcases Nat.eq_zero_or_pos j with rfl | hpos
      · left; rw [show g.h - 1 - ((0 : Nat) : Int) = g.h - 1 by omega]; exact hk
      · right
        have hn : inG g (g.w - 1) (g.h - 1 - (j : Int) + 1) := by unfold inG; omega
        exact ⟨hn, row2_all hes hg h hk j (by omega) _ _ hn (by omega)⟩
/-- with some edge, all texels know one -/
theorem all_kn (hes : edsIn es) (hg : gdIn g) (h0 : 0 < es.length) {i k : Int} (hi : inG g i k) : Kn g (knownL es g) i k := by
  have hS := seedTo_ok (es := es) (g := g) (i := es.length) (Nat.le_refl _)
  have hh := hg.2.1
  have hi0 := near_in' hg (es.getD 0 default).a
  have hk0 : Kn g (seedTo es g es.length) _ _ := (seed_s hes hg h0).kn
  have hr := row1_last hes hg hS hi0 hk0 g.h.toNat (Nat.le_refl _) (by unfold inG at hi0; omega)
  rw [show ((g.h.toNat : Nat) : Int) - 1 = g.h - 1 by omega] at hr
  exact row2_all hes hg (row1_ok hg hS _) hr g.h.toNat (Nat.le_refl _) i k hi (by unfold inG at hi; omega)
theorem col2_other {l : List Int} (hg : gdIn g) (h : atOK es g l) {k i' k' : Int} (hi' : inG g i' k') : ∀ j : Nat, (k' ≠ k ∨ i' < g.w - j) → knA g (col2 es g l k j) i' k' = knA g l i' k'
  | 0, _ => rfl
  | j + 1, hne => by
    show knA g (step4 es g (col2 es g l k j) (-1) (g.w - 1 - j) k) i' k' = _
    rw [step4_other hg (col2_ok hg h j) hi' (by omega), col2_other hg h hi' j (by omega)]
theorem col2_later {l : List Int} (hg : gdIn g) (h : atOK es g l) {k i' k' : Int} (hi' : inG g i' k') {j : Nat} (hj : i' > g.w - 1 - j) : ∀ d : Nat, knA g (col2 es g l k (j + d)) i' k' = knA g (col2 es g l k j) i' k'
  | 0 => rfl
  | d + 1 => by
    show knA g (step4 es g (col2 es g l k (j + d)) (-1) (g.w - 1 - ((j + d : Nat) : Int)) k) i' k' = _
    rw [step4_other hg (col2_ok hg h _) hi' (by omega), col2_later hg h hi' hj d]
theorem row2_later {l : List Int} (hg : gdIn g) (h : atOK es g l) {i' k' : Int} (hi' : inG g i' k') {j : Nat} (hj : k' > g.h - 1 - j) : ∀ d : Nat, knA g (row2 es g l (j + d)) i' k' = knA g (row2 es g l j) i' k'
  | 0 => rfl
  | d + 1 => by
    show knA g (col2 es g (row2 es g l (j + d)) (g.h - 1 - ((j + d : Nat) : Int)) g.w.toNat) i' k' = _
    rw [col2_other hg (row2_ok hg h _) hi' _ (.inl (by omega)), row2_later hg h hi' hj d]
theorem row2_mono' (hes : edsIn es) {l : List Int} (hg : gdIn g) (h : atOK es g l) {j : Nat} : ∀ d, Mono es g (row2 es g l j) (row2 es g l (j + d))
  | 0 => .refl _
  | d + 1 => (row2_mono' hes hg h d).trans (col2_mono hes hg (row2_ok hg h _) _)
theorem col2_mono' (hes : edsIn es) {l : List Int} (hg : gdIn g) (h : atOK es g l) {k : Int} {j : Nat} : ∀ d, Mono es g (col2 es g l k j) (col2 es g l k (j + d))
  | 0 => .refl _
  | d + 1 => (col2_mono' hes hg h d).trans (step4_mono hes hg (col2_ok hg h _))
/-- none's neighbour on the right knows a nearer one -/
theorem right_cl (hes : edsIn es) (hg : gdIn g) (h0 : 0 < es.length) {i k : Int} (hi : inG g i k) (hr : inG g (i + 1) k) : Cl es g (knownL es g) i k (knA g (knownL es g) (i + 1) k) := by
  have hS := seedTo_ok (es := es) (g := g) (i := es.length) (Nat.le_refl _)
  have hw := hg.1
  have hh := hg.2.1
  have okR := row1_ok hg hS g.h.toNat
  generalize hL : row1 es g (seedTo es g es.length) g.h.toNat = L at okR
  have hkn : knownL es g = row2 es g L g.h.toNat := by unfold knownL; rw [hL]
  -- the place of the row, of the texel
  obtain ⟨j, hj⟩ : ∃ j : Nat, k = g.h - 1 - j := ⟨(g.h - 1 - k).toNat, by unfold inG at hi; omega⟩
  obtain ⟨c, hc⟩ : ∃ c : Nat, i = g.w - 1 - c := ⟨(g.w - 1 - i).toNat, by unfold inG at hi; omega⟩
  obtain ⟨d, hd⟩ : ∃ d : Nat, g.h.toNat = (j + 1) + d := ⟨g.h.toNat - (j + 1), by unfold inG at hi; omega⟩
  obtain ⟨f, hf⟩ : ∃ f : Nat, g.w.toNat = (c + 1) + f := ⟨g.w.toNat - (c + 1), by unfold inG at hi; omega⟩
  have okJ := row2_ok hg okR j
  have okC := col2_ok (k := k) hg okJ c
  have hfin : Kn g (knownL es g) (i + 1) k := all_kn hes hg h0 hr
  have e1 : knA g (knownL es g) (i + 1) k = knA g (col2 es g (row2 es g L j) k c) (i + 1) k := by
    rw [hkn, hd, row2_later hg okR hr (by omega) d]
    show knA g (col2 es g (row2 es g L j) (g.h - 1 - j) g.w.toNat) (i + 1) k = _
    rw [← hj, hf, col2_later hg okJ hr (j := c + 1) (by omega) f]
    show knA g (step4 es g (col2 es g (row2 es g L j) k c) (-1) (g.w - 1 - c) k) (i + 1) k = _
    rw [step4_other hg okC hr (by omega)]
  have hk : Kn g (col2 es g (row2 es g L j) k c) (i + 1) k := by unfold Kn at hfin ⊢; rw [← e1]; exact hfin
  have e0 : i + -(-1) = i + 1 := by omega
  have hs := step4_side hes hg okC (d := -1) (i := i) (k := k) hi (by rw [e0]; exact hr) (by rw [e0]; exact hk)
  rw [e0] at hs
  have hs : Cl es g (col2 es g (row2 es g L j) k (c + 1)) i k (knA g (col2 es g (row2 es g L j) k c) (i + 1) k) := by
    show Cl es g (step4 es g (col2 es g (row2 es g L j) k c) (-1) (g.w - 1 - c) k) i k _
    rw [← hc]; exact hs
  rw [← e1] at hs
  have m1 := col2_mono' hes hg okJ (k := k) (j := c + 1) f
  rw [← hf] at m1
  have m2 := row2_mono' hes hg okR (j := j + 1) d
  rw [← hd, ← hkn] at m2
  have m1' : Mono es g (col2 es g (row2 es g L j) k (c + 1)) (row2 es g L (j + 1)) := by
    show Mono es g _ (col2 es g (row2 es g L j) (g.h - 1 - j) g.w.toNat)
    rw [← hj]; exact m1
  exact (m1'.trans m2) _ _ _ hi ⟨hfin, (knA_lt hg (knownL_ok hg) hr).2⟩ hs
/-- without an edge none knows one -/
theorem none_kn (hg : gdIn g) {i k : Int} (hi : inG g i k) : knA g (knownL [] g) i k = -1 := by
  have := knA_lt hg (knownL_ok (es := []) hg) hi
  have h : (([] : List Ed).length : Int) = 0 := rfl
  omega
end
end Go.Proofs.Ytbfdpdbdkcekfaa
