/- A block of the call's own becomes read-only data: its first cells; a slice literal of one element too. -/
import Derived.Test.YtggappbiedkopaaGreatSr
namespace Go.Proofs.YtggappbiedkopaaGreat.SX
open Go Go.RowKit
set_option linter.unusedVariables false

def sealC2 (i : Nat) (ls : List L) (c : C) : C := match c with
  | .p j off => match Nat.beq j i with
    | true => .ep true (ls.length - off) (fun k => nth ls (off + k))
    | false => .p j off
  | .s j n => match Nat.beq j i with
    | true => match Nat.beq n 1 with
      | true => .sl true ls.length 1 (fun a b => nth ls (a * ls.length + b))
      | false => .any
    | false => .s j n
  | .f g caps => match hasN i caps with
    | true => .any
    | false => .f g caps
  | c => c
def sealP (i : Nat) (ls : List L) (s : SS) : SS :=
  { s with tm := fun t => mapSV (sealC2 i ls) (s.tm t)
           bl := fun j => match Nat.beq j i with
             | true => none
             | false => match s.bl j with
               | some (T, cs) => some (T, mapC (sealC2 i ls) cs)
               | none => none }
theorem ent_sealP {s : SS} {i T : Nat} {cs : List C} {ls : List L} (hb : s.bl i = some (T, cs)) {m : Nat} (hl : litsOf (cs.take m) = some ls) (hf : frCs (cs.take m) = true) : Ent 0 s (sealP i ls s) := by
  intro A cx a w hA hs
  have hnA : ∀ i, ¬ A.cx.D i := fun i h => by have := hA i h; omega
  obtain ⟨m1, m2, m3, ys, m4, m5⟩ := hs.mem.bl i T cs hb
  have hlt := (Array.getElem?_eq_some_iff.1 m4).1
  have hS : ∀ b, cx.S b → cx.S b ∨ b = cx.β i := fun b h => .inl h
  have hd := litsOf_fr (m5.take m) hl hf
  have hlen := hd.length
  have hc : ∀ c y, crel A.base cx w c y → crel A.base { cx with S := fun b => cx.S b ∨ b = cx.β i } w (sealC2 i ls c) y := by
    intro c y hcr
    cases c with
    | p j off =>
      show crel A.base _ w (match Nat.beq j i with | true => C.ep true (ls.length - off) (fun k => nth ls (off + k)) | false => .p j off) y
      cases hj : Nat.beq j i with
      | false => exact crel_up hS hcr
      | true =>
        have := beq_eq hj
        subst this
        refine ⟨_, hcr.2, ⟨.inr rfl, fun _ => m2⟩, fun k hk => ?_⟩
        have hk' : off + k < (ys.take m).length := by omega
        have hk2 : off + k < ys.length := by have := List.length_take_le m ys; have : (ys.take m).length ≤ ys.length := by rw [List.length_take]; omega
                                             omega
        refine ⟨ys[off + k], ?_, (hd.nth _ _ (by rw [List.getElem?_eq_getElem hk', List.getElem_take])).lt fun b hb => ⟨.inl hb.1, hb.2⟩⟩
        rw [add_none, block_cell m4, List.getElem?_eq_getElem hk2]
    | s j n =>
      show crel A.base _ w (match Nat.beq j i with | true => (match Nat.beq n 1 with | true => C.sl true ls.length 1 (fun a b => nth ls (a * ls.length + b)) | false => .any) | false => .s j n) y
      cases hj : Nat.beq j i
      · exact crel_up hS hcr
      · cases hn : Nat.beq n 1
        · trivial
        · have := beq_eq hj
          subst this
          have := beq_eq hn
          subst this
          refine ⟨_, _, hcr.2, Nat.le_refl _, by decide, fun _ => ⟨_, rfl, ⟨.inr rfl, fun _ => m2⟩, fun q hq k hk => ?_⟩⟩
          have hq0 : q = 0 := Nat.lt_one_iff.1 hq
          subst hq0
          have hk' : k < (ys.take m).length := by omega
          have hk2 : k < ys.length := by have : (ys.take m).length ≤ ys.length := by rw [List.length_take]; omega
                                         omega
          refine ⟨ys[k], ?_, ?_⟩
          · rw [add_none, block_cell m4, Nat.zero_mul, Nat.zero_add, Nat.zero_add, List.getElem?_eq_getElem hk2]
          · show Den w _ (nth ls (0 * ls.length + k)) _
            rw [Nat.zero_mul, Nat.zero_add]
            exact (hd.nth _ _ (by rw [List.getElem?_eq_getElem hk', List.getElem_take])).lt fun b hb => ⟨.inl hb.1, hb.2⟩
    | f g caps =>
      show crel A.base _ w (match hasN i caps with | true => C.any | false => .f g caps) y
      cases hasN i caps
      · exact crel_up hS hcr
      · trivial
    | _ => exact crel_up hS hcr
  have hk : ∀ c y, crel A.base cx w c y → (match c with | .any => True | .k z => y = z | _ => one y = true) → match sealC2 i ls c with | .any => True | .k z => y = z | _ => one y = true := by
    intro c y hcr h
    cases c with
    | p j off =>
      show match (match Nat.beq j i with | true => C.ep true (ls.length - off) (fun k => nth ls (off + k)) | false => .p j off) with | .any => True | .k z => y = z | _ => one y = true
      cases Nat.beq j i <;> exact h
    | s j n =>
      show match (match Nat.beq j i with | true => (match Nat.beq n 1 with | true => C.sl true ls.length 1 (fun a b => nth ls (a * ls.length + b)) | false => .any) | false => .s j n) with | .any => True | .k z => y = z | _ => one y = true
      cases Nat.beq j i
      · exact h
      · cases Nat.beq n 1
        · trivial
        · exact h
    | f g caps =>
      show match (match hasN i caps with | true => C.any | false => .f g caps) with | .any => True | .k z => y = z | _ => one y = true
      cases hasN i caps
      · exact h
      · trivial
    | _ => exact h
  have hbl : ∀ j T' cs', (sealP i ls s).bl j = some (T', cs') → j ≠ i ∧ ∃ cs0, s.bl j = some (T', cs0) ∧ cs' = mapC (sealC2 i ls) cs0 := by
    intro j T' cs' h
    simp only [sealP] at h
    split at h
    · cases h
    · rename_i hj
      refine ⟨(fun e => by rw [e, Nat.beq_refl] at hj; cases hj), ?_⟩
      split at h
      · rename_i T0 cs0 h0
        simp only [Option.some.injEq, Prod.mk.injEq] at h
        obtain ⟨rfl, rfl⟩ := h
        exact ⟨cs0, h0, rfl⟩
      · cases h
  refine ⟨{ cx with S := fun b => cx.S b ∨ b = cx.β i }, Marks.mono (cx := cx) (fun b h => Or.inl h) hs.df, hs.sz, fun t => map_svrel hc hk (hs.tm t), ⟨?_, ?_, ?_, ?_, ?_⟩, ?_, hs.D, ?_, hs.hb⟩
  · intro j T' cs' h
    obtain ⟨hj, cs0, h0, rfl⟩ := hbl j T' cs' h
    obtain ⟨q1, q2, q3, zs, q4, q5⟩ := hs.mem.bl j T' cs0 h0
    refine ⟨q1, q2, ?_, zs, q4, map_crels hc q5⟩
    rintro (h | h)
    · exact q3 h
    · exact hj (hs.mem.inj j i ⟨_, h0⟩ ⟨_, hb⟩ h)
  · rintro j q ⟨⟨T1, c1⟩, h1⟩ ⟨⟨T2, c2⟩, h2⟩ h3
    obtain ⟨_, _, h1, _⟩ := hbl j T1 c1 h1
    obtain ⟨_, _, h2, _⟩ := hbl q T2 c2 h2
    exact hs.mem.inj j q ⟨_, h1⟩ ⟨_, h2⟩ h3
  · intro j r' h
    obtain ⟨q1, cells, q2, q3⟩ := hs.mem.ow j r' h
    refine ⟨q1, cells, q2, fun x hx q hq => ?_⟩
    obtain ⟨z, hz, hd⟩ := q3 x hx q hq
    exact ⟨z, hz, hd.lt fun b hb => ⟨hS b hb.1, hb.2⟩⟩
  · intro j r' g h hg
    obtain ⟨q1, q2⟩ := hs.mem.owS j r' g h hg
    refine ⟨?_, fun q hq => q2 q ?_⟩
    · rintro (h' | h')
      · exact q1 h'
      · exact q2 i ⟨_, hb⟩ h'.symm
    · obtain ⟨⟨T1, c1⟩, hq⟩ := hq
      obtain ⟨_, cs0, h', _⟩ := hbl q T1 c1 hq
      exact ⟨_, h'⟩
  · exact hs.mem.owi
  · rintro b (h | h)
    · exact hs.S b h
    · rw [h]; exact hlt
  · exact { hs.fr with
      S := fun b hb => .inl (hs.fr.S b hb)
      S' := fun b hb => by
        rcases hb with h | h
        · exact hs.fr.S' b h
        · exact .inr ⟨by rw [h]; exact hs.fr.nβ i m1 (hnA i), by rw [h]; exact hlt⟩ }
/-- a row of plain values is new in all that it leads to -/
theorem ent_rowLit {k : Nat} {s : SS} {i : Nat} {r : OR} (how : s.ow i = some r) (hl : ∀ a, a < r.n → ∀ j, j < r.sz → isLit (r.f a j) = true) : Ent k s { s with ow := upd s.ow i (some { r with fr := true }) } := by
  intro A cx a w hA hs
  have how' : ∀ j r1, upd s.ow i (some { r with fr := true }) j = some r1 → ∃ r0, s.ow j = some r0 := by
    intro j r1 h
    by_cases hj : j = i
    · subst hj; exact ⟨r, how⟩
    · rw [upd_ne _ _ hj] at h; exact ⟨_, h⟩
  refine ⟨cx, hs.df, hs.sz, hs.tm, ⟨hs.mem.bl, hs.mem.inj, ?_, ?_, ?_⟩, hs.S, hs.D, hs.fr, hs.hb⟩
  · intro j r1 h
    by_cases hj : j = i
    · subst hj
      rw [show (SS.ow { s with ow := upd s.ow j (some { r with fr := true }) }) j = upd s.ow j (some { r with fr := true }) j from rfl, upd_same] at h
      simp only [Option.some.injEq] at h
      subst h
      obtain ⟨m1, cells, m2, m3⟩ := hs.mem.ow j r how
      refine ⟨m1, cells, m2, fun x hx q hq => ?_⟩
      obtain ⟨z, hz, hd⟩ := m3 x hx q hq
      refine ⟨z, hz, ?_⟩
      show Den w _ (r.f x q) z
      have := hl x hx q hq
      cases hf : r.f x q with
      | lit y => rw [hf] at hd; exact hd
      | sl _ _ _ => rw [hf] at this; cases this
      | pt _ _ => rw [hf] at this; cases this
    · rw [show (SS.ow { s with ow := upd s.ow i (some { r with fr := true }) }) j = upd s.ow i (some { r with fr := true }) j from rfl, upd_ne _ _ hj] at h
      exact hs.mem.ow j r1 h
  · intro j r1 g h hg
    obtain ⟨r0, h0⟩ := how' j r1 h
    exact hs.mem.owS j r0 g h0 hg
  · intro j q r1 r2 g h h' hg hg'
    obtain ⟨_, h0⟩ := how' j r1 h
    obtain ⟨_, h0'⟩ := how' q r2 h'
    exact hs.mem.owi j q _ _ g h0 h0' hg hg'
end Go.Proofs.YtggappbiedkopaaGreat.SX
