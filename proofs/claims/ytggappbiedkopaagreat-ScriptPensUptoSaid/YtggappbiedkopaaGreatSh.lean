/- The symbolic executor, part h: sources, appended rows, made rows, calls; every operation. -/
import Derived.Test.YtggappbiedkopaaGreatSg
namespace Go.Proofs.YtggappbiedkopaaGreat.SX
open Go Go.RowKit
set_option linter.unusedVariables false
set_option linter.unusedSimpArgs false

section
variable {P : Program} {E : Env} {base : Nat} {cx : Cx} {w w' : World} {s : SS} {a : Act} {o : Oper} {next : Act → World → Prop} {Q : Exit → Act → World → Prop}

theorem Den.lt {S S' : Nat → Prop} (hS : ∀ b, S b → S' b) {l : L} {y : Value} (h : Den w S l y) : Den w S' l y := h.mono hS fun _ _ => rfl

theorem nth_lt : ∀ {ls : List L} {i : Nat}, i < ls.length → ∃ l, ls[i]? = some l ∧ nth ls i = l
  | [], i, h => by simp at h
  | l :: ls, 0, _ => ⟨l, rfl, rfl⟩
  | l :: ls, i + 1, h => by
    obtain ⟨l', h1, h2⟩ := nth_lt (ls := ls) (i := i) (by simpa using h)
    exact ⟨l', by simpa using h1, h2⟩

/-- a cell as data; the blocks that are read lie in the heap -/
theorem toL_ok (hE : EnvOK P E) (hm : Mem base cx w s) (hS : ∀ b, cx.S b → b < w.heap.size) {c : C} {l : L} {y : Value} (hc : crel base cx w c y) (h1 : one y = true) (h : toL s E.tt c = some l) :
    Den w (fun b => b < w.heap.size) l y ∧ ∀ sz n f, l = .sl sz n f → ∃ A cap, y = .slice A n cap ∧ n ≤ cap ∧ cap ≤ maxLen ∧ (0 < n → ∃ ad, A = some ad ∧ ∀ i, i < n → ∀ j, j < sz → ∃ z, w.cell? (ad.add (i * sz + j)) = some z ∧ Den w (cx.SB base (srcFr s c)) (f i j) z) := by
  unfold toL at h
  split at h
  · split at h
    · rename_i x hx
      simp only [Option.some.injEq] at h; subst h
      exact ⟨⟨hc, hx⟩, fun _ _ _ h => by cases h⟩
    · cases h
  · simp only [Option.some.injEq] at h; subst h
    exact ⟨⟨hc, by rw [← show y = _ from hc]; exact h1⟩, fun _ _ _ h => by cases h⟩
  · rename_i fr sz n f
    simp only [Option.some.injEq] at h; subst h
    have hc' : Den w (cx.SB base fr) (.sl sz n f) y := hc
    refine ⟨hc'.lt fun b hb => hS b hb.1, fun sz' n' f' heq => ?_⟩
    cases heq
    obtain ⟨A, cap, k1, k2, k3, k4⟩ := hc'
    refine ⟨A, cap, k1, k2, k3, fun h0 => ?_⟩
    obtain ⟨ad, k5, k6, k7⟩ := k4 h0
    refine ⟨ad, k5, fun i hi j hj => ?_⟩
    obtain ⟨z, hz, hd⟩ := k7 i hi j hj
    exact ⟨z, hz, hd⟩
  · rename_i fr m g
    simp only [Option.some.injEq] at h; subst h
    have hc' : Den w (cx.SB base fr) (.pt m g) y := hc
    exact ⟨hc'.lt fun b hb => hS b hb.1, fun _ _ _ h => by cases h⟩
  · rename_i i off
    split at h
    · rename_i T cs hbl
      split at h
      · rename_i ls hls
        simp only [Option.some.injEq] at h; subst h
        obtain ⟨m1, m2, m3, ys, m4, m5⟩ := hm.bl i T cs hbl
        have hd := litsOf_ok (m5.drop off) hls
        have hyl := hd.length
        refine ⟨⟨_, hc.2, (Array.getElem?_eq_some_iff.1 m4).1, fun j hj => ?_⟩, fun _ _ _ h => by cases h⟩
        have hlt : j < (ys.drop off).length := by omega
        refine ⟨(ys.drop off)[j], ?_, (hd.nth _ _ (List.getElem?_eq_getElem hlt)).lt hS⟩
        rw [add_none, block_cell m4]
        rw [← List.getElem?_drop, List.getElem?_eq_getElem hlt]
      · cases h
    · cases h
  · rename_i i
    split at h
    · rename_i r how
      simp only [Option.some.injEq] at h; subst h
      obtain ⟨m1, cells, m2, m3⟩ := hm.ow i r how
      have hy : y = cx.η i := hc.2
      have key : ∃ A cap, y = .slice A r.n cap ∧ r.n ≤ cap ∧ cap ≤ maxLen ∧ (0 < r.n → ∃ ad, A = some ad ∧ ad.block < w.heap.size ∧ ∀ i, i < r.n → ∀ j, j < r.sz → ∃ z, w.cell? (ad.add (i * r.sz + j)) = some z ∧ Den w (cx.SB base r.fr) (r.f i j) z) := by
        rcases m2.2 with ⟨h4, h5⟩ | ⟨g', cap, cur, h4, h5, h6, h7, h8, _⟩
        · exact ⟨none, 0, by rw [hy, h4, h5], by omega, by simp [maxLen], fun h => by omega⟩
        · refine ⟨_, cap, by rw [hy, h4], h7, h8, fun _ => ⟨_, rfl, (Array.getElem?_eq_some_iff.1 h6).1, fun a ha j hj => ?_⟩⟩
          obtain ⟨z, hz, hd⟩ := m3 a ha j hj
          exact ⟨z, m2.cells (g := g') (by rw [h4]; rfl) _ z hz, hd⟩
      obtain ⟨A, cap, k1, k2, k3, k4⟩ := key
      refine ⟨⟨A, cap, k1, k2, k3, fun h0 => ?_⟩, fun sz n f heq => ?_⟩
      · obtain ⟨ad, k5, k6, k7⟩ := k4 h0
        refine ⟨ad, k5, k6, fun i hi j hj => ?_⟩
        obtain ⟨z, hz, hd⟩ := k7 i hi j hj
        exact ⟨z, hz, hd.lt fun b hb => hS b hb.1⟩
      · cases heq
        refine ⟨A, cap, k1, k2, k3, fun h0 => ?_⟩
        obtain ⟨ad, k5, k6, k7⟩ := k4 h0
        have hfr : srcFr s (.h i) = r.fr := by simp only [srcFr, how]
        rw [hfr]
        exact ⟨ad, k5, k7⟩
    · cases h
  · rename_i i cnt
    split at h
    · rename_i T cs hbl
      split at h
      · rename_i ti ht
        split at h
        · rename_i ls hls
          split at h
          · rename_i hbe
            simp only [Option.some.injEq] at h; subst h
            simp only [Bool.and_eq_true] at hbe
            have hlen := beq_eq hbe.1
            obtain ⟨m1, m2, m3, ys, m4, m5⟩ := hm.bl i T cs hbl
            have hd := litsOf_any (b := frCs cs) m5 hls id
            have hfr : srcFr s (.s i cnt) = frCs cs := by simp only [srcFr, hbl]
            have hyl := hd.length
            have key : ∀ a, a < cnt → ∀ b, b < ti.sz → ∃ z, w.cell? ((⟨cx.β i, 0, none⟩ : Addr).add (a * ti.sz + b)) = some z ∧ Den w (cx.SB base (frCs cs)) (nth ls (a * ti.sz + b)) z := by
              intro a ha b hb
              have hlt : a * ti.sz + b < ys.length := by
                have : (a + 1) * ti.sz ≤ cnt * ti.sz := Nat.mul_le_mul_right _ ha
                rw [Nat.add_mul] at this; omega
              refine ⟨ys[a * ti.sz + b], ?_, hd.nth _ _ (List.getElem?_eq_getElem hlt)⟩
              rw [add_none, block_cell m4, Nat.zero_add, List.getElem?_eq_getElem hlt]
            have hcnt : cnt ≤ maxLen := Nat.le_trans (ble_le hbe.2) (by simp [maxLen])
            refine ⟨⟨_, cnt, hc.2, Nat.le_refl _, hcnt, fun _ => ⟨_, rfl, (Array.getElem?_eq_some_iff.1 m4).1, fun a ha b hb => ?_⟩⟩, fun sz n f heq => ?_⟩
            · obtain ⟨z, hz, hd⟩ := key a ha b hb
              exact ⟨z, hz, hd.lt fun b hb => hS b hb.1⟩
            · cases heq
              refine ⟨_, cnt, hc.2, Nat.le_refl _, hcnt, fun _ => ⟨_, rfl, fun a ha b hb => ?_⟩⟩
              obtain ⟨z, hz, hd⟩ := key a ha b hb
              exact ⟨z, hz, by rw [hfr]; exact hd⟩
          · cases h
        · cases h
      · cases h
    · cases h
  · split at h
    · simp only [Option.some.injEq] at h; subst h
      have h2 := hc.2
      exact ⟨⟨by rw [h2]; rfl, rfl⟩, fun _ _ _ h => by cases h⟩
    · cases h
  · cases h

/-- the cells of a row, as a list -/
theorem src_cells {sz' n : Nat} {f : Nat → Nat → L} {ad : Addr} (S : Nat → Prop) : (∀ i, i < n → ∀ j, j < sz' → ∃ z, w.cell? (ad.add (i * sz' + j)) = some z ∧ Den w S (f i j) z) →
    ∃ news : List Value, news.length = n * sz' ∧ (∀ j u, news[j]? = some u → w.cell? (ad.add j) = some u) ∧ (∀ u ∈ news, one u = true) ∧ ∀ a, a < n → ∀ j, j < sz' → ∃ z, news[a * sz' + j]? = some z ∧ Den w S (f a j) z := by
  induction n with
  | zero => intro _; exact ⟨[], by simp, fun j u h => by simp at h, (fun u hu => by cases hu), fun a ha => by omega⟩
  | succ n ih =>
    intro hcell
    obtain ⟨news, n1, n2, n3, n4⟩ := ih fun i hi j hj => hcell i (by omega) j hj
    have hrow : ∀ k, k ≤ sz' → ∃ rs : List Value, rs.length = k ∧ (∀ j u, rs[j]? = some u → w.cell? (ad.add (n * sz' + j)) = some u ∧ Den w S (f n j) u) ∧ ∀ u ∈ rs, one u = true := by
      intro k
      induction k with
      | zero => intro _; exact ⟨[], rfl, fun j u h => by simp at h, (fun u hu => by cases hu)⟩
      | succ k ihk =>
        intro hk
        obtain ⟨rs, r1, r2, r3⟩ := ihk (by omega)
        obtain ⟨z, hz, hd⟩ := hcell n (by omega) k (by omega)
        refine ⟨rs ++ [z], by simp [r1], fun j u hj => ?_, fun u hu => ?_⟩
        · by_cases hjk : j < k
          · rw [List.getElem?_append_left (by omega)] at hj; exact r2 j u hj
          · have hjl : j < (rs ++ [z]).length := (List.getElem?_eq_some_iff.1 hj).1
            have : j = k := by simp [r1] at hjl; omega
            subst this
            rw [List.getElem?_append_right (by omega), r1] at hj
            simp at hj; subst hj
            exact ⟨hz, hd⟩
        · rcases List.mem_append.1 hu with hu | hu
          · exact r3 u hu
          · simp at hu; subst hu; exact hd.one
    obtain ⟨rs, r1, r2, r3⟩ := hrow sz' (Nat.le_refl _)
    refine ⟨news ++ rs, by simp [n1, r1, Nat.add_mul], fun j u hj => ?_, fun u hu => ?_, fun a ha j hj => ?_⟩
    · by_cases hjn : j < n * sz'
      · rw [List.getElem?_append_left (by omega)] at hj; exact n2 j u hj
      · rw [List.getElem?_append_right (by omega), n1] at hj
        have := (r2 _ u hj).1
        rw [show n * sz' + (j - n * sz') = j by omega] at this
        exact this
    · rcases List.mem_append.1 hu with hu | hu
      · exact n3 u hu
      · exact r3 u hu
    · by_cases han : a < n
      · obtain ⟨z, hz, hd⟩ := n4 a han j hj
        have hlt : a * sz' + j < news.length := (List.getElem?_eq_some_iff.1 hz).1
        exact ⟨z, by rw [List.getElem?_append_left hlt]; exact hz, hd⟩
      · have : a = n := by omega
        subst this
        refine ⟨rs[j]'(by omega), ?_, (r2 j _ (List.getElem?_eq_getElem (by omega))).2⟩
        rw [List.getElem?_append_right (by omega), n1, show a * sz' + j - a * sz' = j by omega, List.getElem?_eq_getElem (by omega)]

/-- a slice as a source of an append -/
theorem srcOf_ok (hE : EnvOK P E) (hm : Mem base cx w s) (hS : ∀ b, cx.S b → b < w.heap.size) {sz : Nat} {c : C} {m : Nat} {g : Nat → Nat → L} {y : Value} (hc : svrel base cx w (.o c) y) (h : srcOf s E.tt sz c = some (m, g)) :
    ∃ (A : Option Addr) (cap : Nat) (news : List Value), y = .slice A m cap ∧ news.length = m * sz ∧ (0 < m → ∃ ad, A = some ad ∧ ∀ j u, news[j]? = some u → w.cell? (ad.add j) = some u) ∧ (∀ u ∈ news, one u = true) ∧
      ∀ a, a < m → ∀ j, j < sz → ∃ z, news[a * sz + j]? = some z ∧ Den w (cx.SB base (srcFr s c)) (g a j) z := by
  unfold srcOf at h
  split at h
  · simp only [Option.some.injEq, Prod.mk.injEq] at h
    obtain ⟨rfl, rfl⟩ := h
    exact ⟨none, 0, [], rel_k hc, by simp, fun h => by omega, (fun u hu => by cases hu), fun a ha => by omega⟩
  · generalize hl : toL s E.tt c = tl at h
    split at h
    · rename_i sz' n f
      split at h
      · rename_i hbe
        simp only [Option.some.injEq, Prod.mk.injEq] at h
        obtain ⟨rfl, rfl⟩ := h
        have hsz := beq_eq hbe
        subst hsz
        have h1 : one y = true := by
          have := hc.2
          cases c <;> simp only at this <;> first | exact this | skip
          · simp [toL] at hl
          · rename_i x
            simp only [toL] at hl
            split at hl
            · cases hl
            · cases hl
        obtain ⟨_, h3⟩ := toL_ok hE hm hS hc.1 h1 hl
        obtain ⟨A, cap, k1, k2, k3, k4⟩ := h3 _ _ _ rfl
        have key := fun ad : Addr => src_cells (w := w) (sz' := sz') (n := n) (f := f) (ad := ad) (cx.SB base (srcFr s c))
        by_cases hn : 0 < n
        · obtain ⟨ad, rfl, k5⟩ := k4 hn
          obtain ⟨news, n1, n2, n3, n4⟩ := key ad k5
          exact ⟨_, cap, news, k1, n1, fun _ => ⟨ad, rfl, n2⟩, n3, n4⟩
        · have : n = 0 := by omega
          subst this
          exact ⟨A, cap, [], k1, by simp, fun h => absurd h hn, (fun u hu => by cases hu), fun a ha => by omega⟩
      · cases h
    · cases h

/-- an append of nothing -/
theorem run_append_zero {t e : Nat} {ti : TI} {ty : TypeId} (ht : P.underlying t = some (.slice e)) (hti : TIok P e ti) {v : Value} {n : Nat} {xs : List Value} (hown : w.ownsRow base e ti.sz v n xs) (A : Option Addr) (c : Nat) :
    (Builtin.append_ #[t, t] ty #[v, .slice A 0 c]).run P w = .ok v w := by
  obtain ⟨i, _, hi, _⟩ := hti.info
  have hf : ∀ x, (Builtin.firstCells x 0 (.slice A 0 c)).run P w = .ok #[] w := by
    intro x; cases A <;> simp [Builtin.firstCells, loadCells, loadCellsFrom]
  rcases hown.2 with ⟨rfl, rfl⟩ | ⟨g, cap, cur, rfl, _, _, hnc, _⟩
  · simp [Builtin.append_, run_underlying ht, sizeOf, typeInfo, hi, Builtin.lenOf, hf]
  · simp [Builtin.append_, run_underlying ht, sizeOf, typeInfo, hi, Builtin.lenOf, hf, hnc, storeCells]

theorem append_run (hb : base ≤ w.heap.size) {t e : Nat} {ti : TI} {ty : TypeId} (ht : P.underlying t = some (.slice e)) (hti : TIok P e ti) (hsz : ti.sz ≠ 0) {v : Value} {n : Nat} {xs : List Value} (hown : w.ownsRow base e ti.sz v n xs)
    {A : Option Addr} {m c : Nat} {news : List Value} (hl : news.length = m * ti.sz) (hnews : 0 < m → ∃ ad, A = some ad ∧ ∀ j u, news[j]? = some u → w.cell? (ad.add j) = some u) (h1 : ∀ u ∈ news, one u = true)
    (h63 : n + m ≤ maxLen) (hbytes : (n + m) * ti.byt ≤ 140737488355328) :
    ∃ v' w', (Builtin.append_ #[t, t] ty #[v, .slice A m c]).run P w = .ok v' w' ∧ w'.ownsRow base e ti.sz v' (n + m) (xs ++ news) ∧ w.grownBy w' v.ownBlock ∧ (∀ g, v'.ownBlock = some g → v.ownBlock = some g ∨ g = w.heap.size) := by
  by_cases hm : 0 < m
  · obtain ⟨ad, rfl, hcell⟩ := hnews hm
    obtain ⟨i, zv, k1, k2, k3, k4, k5, k6, k7⟩ := hti.info
    obtain ⟨g, cap, w', r1, r2, r3, r4, r5⟩ := run_append_lies (P := P) (w := w) t ty base e i zv ti.sz ti.byt ht k1 k4 k2 k3 (by rw [← k6, ← k5]; simp) (by omega) v n xs hown ad m c news hl hcell (fun u hu => by rw [← one_iff]; exact h1 u hu) hm h63 hbytes hb _ rfl
    refine ⟨_, w', r1, r2, r3, fun g' hg' => ?_⟩
    simp only [Value.ownBlock, Option.some.injEq] at hg'
    subst hg'
    exact r4
  · have hm0 : m = 0 := by omega
    subst hm0
    have hn : news = [] := List.eq_nil_of_length_eq_zero (by simpa using hl)
    subst hn
    exact ⟨v, w, run_append_zero ht hti hown A c, by simpa using hown, World.grownBy.refl w _, fun g hg => .inl hg⟩

/-- a new row, out of an elder one or of none -/
theorem own_newB (hb : base ≤ w.heap.size) (hm : Mem base cx w s) (hS : ∀ b, cx.S b → b < w.heap.size) (hD : ∀ i, cx.D i → i ≠ s.nx) {e : Eff} {r : OR} {vo v' : Value} {xs : List Value} {x : SV}
    (he : (e = .own r ∧ vo.ownBlock = none) ∨ (∃ i r', e = .app i r ∧ s.ow i = some r' ∧ cx.η i = vo) ∨ ∃ i b, e = .appB i r ∧ s.bl i = some b ∧ vo.ownBlock = some (cx.β i)) (hx : x = .o (.h s.nx))
    (hown : w'.ownsRow base r.T r.sz v' r.n xs) (hgr : w.grownBy w' vo.ownBlock) (hlies : ∀ g, v'.ownBlock = some g → vo.ownBlock = some g ∨ w.heap.size ≤ g)
    (hc : ∀ a, a < r.n → ∀ j, j < r.sz → ∃ z, xs[a * r.sz + j]? = some z ∧ Den w (cx.SB base r.fr) (r.f a j) z)
    {K : Value → World → Prop} (hp : Post base cx w s x e K) : K v' w' := by
  let cx' : Cx := { D := fun i => cx.D i ∨ i = s.nx, β := upd cx.β s.nx w.heap.size, η := upd cx.η s.nx v', S := cx.S }
  have hη : cx'.η s.nx = v' := upd_same ..
  have hβ' : ∀ i, i ≠ s.nx → cx'.β i = cx.β i := fun i hi => upd_ne _ _ hi
  have hη' : ∀ i, i ≠ s.nx → cx'.η i = cx.η i := fun i hi => upd_ne _ _ hi
  have hnx : (e.apply s).nx = s.nx + 1 := by rcases he with ⟨rfl, _⟩ | ⟨i, r', rfl, _⟩ | ⟨i, r', rfl, _⟩ <;> rfl
  have hW : ∀ b, vo.ownBlock = some b → e.W cx b := by
    intro b hb
    rcases he with ⟨rfl, h⟩ | ⟨i, r', rfl, _, h⟩ | ⟨i, r', rfl, _, h⟩
    · rw [h] at hb; cases hb
    · show (cx.η i).ownBlock = some b; rw [h]; exact hb
    · show b = cx.β i; rw [h] at hb; simp only [Option.some.injEq] at hb; exact hb.symm
  have hnS : ∀ b, e.W cx b → ¬ cx.S b := by
    intro b hb
    rcases he with ⟨rfl, h⟩ | ⟨i, r', rfl, how, h⟩ | ⟨i, q, rfl, hbl, h⟩
    · exact hb.elim
    · exact (hm.owS i r' b how hb).1
    · have hb : b = cx.β i := hb
      rw [hb]; exact (hm.bl i q.1 q.2 hbl).2.2.1
  have hF : Fr cx cx' w w' (e.W cx) s.nx (e.apply s).nx := by
    refine ⟨fun i h => .inl h, ?_, fun i h => hβ' i (hD i h), fun i h => hη' i (hD i h), fun b h => h, fun b h => .inl h, hgr.size, hgr.os, hgr.tape, hgr.output, fun b hb hn => hgr.block b hb (fun e => hn (hW b e.symm)), ?_, ?_⟩
    · rintro i (h | rfl)
      · exact .inl h
      · exact .inr ⟨Nat.le_refl _, by rw [hnx]; exact Nat.lt_succ_self _⟩
    · rintro i (h | rfl) h'
      · exact absurd h h'
      · show w.heap.size ≤ upd cx.β s.nx w.heap.size s.nx; rw [upd_same]; exact Nat.le_refl _
    · rintro i g (h | rfl) h' hg
      · exact absurd h h'
      · rw [hη] at hg
        rcases hlies g hg with h | h
        · exact .inr (hW g h)
        · exact .inl (by omega)
  have hs : ∀ b, cx.S b → b < w.heap.size ∧ ¬ e.W cx b := fun b h => ⟨hS b h, fun h' => hnS b h' h⟩
  have hbl : ∀ i b, (e.apply s).bl i = some b → s.bl i = some b ∧ vo.ownBlock ≠ some (cx.β i) := by
    intro i b h
    rcases he with ⟨rfl, h0⟩ | ⟨k, rk, rfl, hk, hkv⟩ | ⟨k, q, rfl, hk, hkv⟩
    · exact ⟨h, by rw [h0]; intro h; cases h⟩
    · exact ⟨h, fun e' => (hm.owS k rk _ hk (by rw [hkv]; exact e')).2 i ⟨_, h⟩ rfl⟩
    · simp only [Eff.apply] at h
      by_cases hik : i = k
      · subst hik; rw [upd_same] at h; cases h
      · rw [upd_ne _ _ hik] at h
        exact ⟨h, fun e' => hik (hm.inj i k ⟨_, h⟩ ⟨_, hk⟩ (by rw [hkv] at e'; simp only [Option.some.injEq] at e'; exact e'.symm))⟩
  have how : ∀ i r', (e.apply s).ow i = some r' → (i = s.nx ∧ r' = r) ∨ (i ≠ s.nx ∧ s.ow i = some r' ∧ ∀ g, (cx.η i).ownBlock = some g → vo.ownBlock ≠ some g) := by
    intro i r' h
    rcases he with ⟨rfl, h0⟩ | ⟨k, rk, rfl, hk, hkv⟩ | ⟨k, q, rfl, hk, hkv⟩
    · simp only [Eff.apply] at h
      by_cases hi : i = s.nx
      · subst hi; rw [upd_same] at h; simp only [Option.some.injEq] at h; exact .inl ⟨rfl, h.symm⟩
      · rw [upd_ne _ _ hi] at h; exact .inr ⟨hi, h, fun g _ => by rw [h0]; simp⟩
    · simp only [Eff.apply] at h
      by_cases hi : i = s.nx
      · subst hi; rw [upd_same] at h; simp only [Option.some.injEq] at h; exact .inl ⟨rfl, h.symm⟩
      · rw [upd_ne _ _ hi] at h
        by_cases hik : i = k
        · subst hik; rw [upd_same] at h; cases h
        · rw [upd_ne _ _ hik] at h
          refine .inr ⟨hi, h, fun g hg hv => hik (hm.owi i k r' rk g h hk hg (by rw [hkv]; exact hv))⟩
    · simp only [Eff.apply] at h
      by_cases hi : i = s.nx
      · subst hi; rw [upd_same] at h; simp only [Option.some.injEq] at h; exact .inl ⟨rfl, h.symm⟩
      · rw [upd_ne _ _ hi] at h
        refine .inr ⟨hi, h, fun g hg hv => (hm.owS i r' g h hg).2 k ⟨_, hk⟩ ?_⟩
        rw [hkv] at hv; simp only [Option.some.injEq] at hv; exact hv
  refine hp v' w' cx' hF ?_ ⟨?_, ?_, ?_, ?_, ?_⟩ (fun b h => Nat.lt_of_lt_of_le (hS b h) hgr.size)
  · rw [hx]
    refine sv_of ⟨.inr rfl, hη.symm⟩ ?_
    rcases hown.2 with ⟨h, _⟩ | ⟨_, _, _, h, _⟩ <;> rw [h] <;> rfl
  · intro i T cs h
    obtain ⟨h, hnv⟩ := hbl i _ h
    obtain ⟨h1, h2, h3, zs, h4, h5⟩ := hm.bl i T cs h
    have hi : i ≠ s.nx := hD i h1
    refine ⟨.inl h1, by rw [hβ' i hi]; exact h2, by rw [hβ' i hi]; exact h3, zs, ?_, hF.crels hs h5⟩
    rw [hβ' i hi, hgr.block _ (Array.getElem?_eq_some_iff.1 h4).1]
    · exact h4
    · intro e'
      exact hnv e'.symm
  · intro i j h1 h2 h3
    obtain ⟨b1, h1⟩ := h1
    obtain ⟨b2, h2⟩ := h2
    obtain ⟨h1, _⟩ := hbl i _ h1
    obtain ⟨h2, _⟩ := hbl j _ h2
    rw [hβ' i (hD i (hm.bl i b1.1 b1.2 h1).1), hβ' j (hD j (hm.bl j b2.1 b2.2 h2).1)] at h3
    exact hm.inj i j ⟨_, h1⟩ ⟨_, h2⟩ h3
  · intro i r' h
    rcases how i r' h with ⟨rfl, rfl⟩ | ⟨hi, h, hne⟩
    · refine ⟨.inr rfl, xs, by rw [hη]; exact hown, fun a ha j hj => ?_⟩
      obtain ⟨z, hz, hd⟩ := hc a ha j hj
      exact ⟨z, hz, hF.den hs hd⟩
    · obtain ⟨h1, cells, h2, h3⟩ := hm.ow i r' h
      have hne' : (cx.η i).ownBlock = none ∨ (cx.η i).ownBlock ≠ vo.ownBlock := by
        rcases hob : (cx.η i).ownBlock with _ | g
        · exact .inl rfl
        · exact .inr fun e' => hne g hob e'.symm
      refine ⟨.inl h1, cells, by rw [hη' i hi]; exact h2.kept hgr hne', fun a ha j hj => ?_⟩
      · obtain ⟨z, hz, hd⟩ := h3 a ha j hj
        exact ⟨z, hz, hF.den hs hd⟩
  · intro i r' g h hg
    rcases how i r' h with ⟨rfl, rfl⟩ | ⟨hi, h, hne⟩
    · rw [hη] at hg
      clear h
      rcases hlies g hg with h | h
      · refine ⟨hnS g (hW g h), fun j hj => ?_⟩
        obtain ⟨b, hj⟩ := hj
        obtain ⟨hj, hnv⟩ := hbl j _ hj
        rw [hβ' j (hD j (hm.bl j b.1 b.2 hj).1)]
        intro e'; exact hnv (by rw [e']; exact h)
      · refine ⟨fun h' => by have := hS _ h'; omega, fun j hj => ?_⟩
        obtain ⟨b, hj⟩ := hj
        obtain ⟨hj, _⟩ := hbl j _ hj
        obtain ⟨m1, _, _, zs, m4, _⟩ := hm.bl j b.1 b.2 hj
        rw [hβ' j (hD j m1)]
        have := (Array.getElem?_eq_some_iff.1 m4).1
        omega
    · rw [hη' i hi] at hg
      obtain ⟨h4, h5⟩ := hm.owS i r' g h hg
      refine ⟨h4, fun j hj => ?_⟩
      obtain ⟨b, hj⟩ := hj
      obtain ⟨hj, _⟩ := hbl j _ hj
      rw [hβ' j (hD j (hm.bl j b.1 b.2 hj).1)]
      exact h5 j ⟨_, hj⟩
  · intro i j r1 r2 g h1 h2 h3 h4
    rcases how i r1 h1 with ⟨rfl, rfl⟩ | ⟨hi, h1, hne1⟩ <;> rcases how j r2 h2 with ⟨rfl, rfl⟩ | ⟨hj, h2, hne2⟩
    · rfl
    · rw [hη] at h3
      rw [hη' j hj] at h4
      rcases hlies g h3 with h | h
      · exact absurd h (hne2 g h4)
      · have := ((hm.ow j r2 h2).2.choose_spec.1.lt g h4).2; omega
    · rw [hη] at h4
      rw [hη' i hi] at h3
      rcases hlies g h4 with h | h
      · exact absurd h (hne1 g h3)
      · have := ((hm.ow i r1 h1).2.choose_spec.1.lt g h3).2; omega
    · rw [hη' i hi] at h3
      rw [hη' j hj] at h4
      exact hm.owi i j r1 r2 g h1 h2 h3 h4
theorem own_new (hb : base ≤ w.heap.size) (hm : Mem base cx w s) (hS : ∀ b, cx.S b → b < w.heap.size) (hD : ∀ i, cx.D i → i ≠ s.nx) {e : Eff} {r : OR} {vo v' : Value} {xs : List Value} {x : SV}
    (he : (e = .own r ∧ vo.ownBlock = none) ∨ (∃ i r', e = .app i r ∧ s.ow i = some r' ∧ cx.η i = vo) ∨ ∃ i b, e = .appB i r ∧ s.bl i = some b ∧ vo.ownBlock = some (cx.β i)) (hx : x = .o (.h s.nx))
    (hown : w'.ownsRow base r.T r.sz v' r.n xs) (hgr : w.grownBy w' vo.ownBlock) (hlies : ∀ g, v'.ownBlock = some g → vo.ownBlock = some g ∨ g = w.heap.size)
    (hc : ∀ a, a < r.n → ∀ j, j < r.sz → ∃ z, xs[a * r.sz + j]? = some z ∧ Den w (cx.SB base r.fr) (r.f a j) z)
    {K : Value → World → Prop} (hp : Post base cx w s x e K) : K v' w' :=
  own_newB hb hm hS hD he hx hown hgr (fun g hg => (hlies g hg).imp id fun h => by omega) hc hp
end
end Go.Proofs.YtggappbiedkopaaGreat.SX
