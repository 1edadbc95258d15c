/- The symbolic executor, part g: indexing, slicing, lengths, sources, appended rows, made rows, calls. -/
import Derived.Test.YtggappbiedkopaaGreatSf
namespace Go.Proofs.YtggappbiedkopaaGreat.SX
open Go Go.RowKit
set_option linter.unusedVariables false
set_option linter.unusedSimpArgs false

section
variable {P : Program} {E : Env} {base : Nat} {cx : Cx} {w w' : World} {s : SS} {a : Act} {o : Oper} {next : Act → World → Prop} {Q : Exit → Act → World → Prop}

theorem run_part {T off : Nat} {ti : TI} (ht : TIok P T ti) {ys : List Value} {y : Value} (hl : ((ys.drop off).take ti.sz).length = ti.sz) (hy : (ti.agg = true ∧ y = .agg ((ys.drop off).take ti.sz).toArray) ∨ (ti.agg = false ∧ (ys.drop off).take ti.sz = [y])) :
    (part T ys.toArray off).run P w = .ok y w := by
  have h1 := run_agg ht w
  have h2 := run_size ht w
  rcases hy with ⟨h3, rfl⟩ | ⟨h3, h4⟩
  · simp only [part, Sem.run_bind, h1, h3, Result.andThen_ok, if_true, h2, Sem.run_pure]
    congr 2
    rw [List.extract_toArray]
    simp [List.extract, List.drop_take]
  · have h5 : ys[off]? = some y := by
      have h6 : ((ys.drop off).take ti.sz)[0]? = some y := by rw [h4]; rfl
      rw [List.getElem?_take] at h6
      split at h6
      · simpa using h6
      · cases h6
    simp [part, h1, h3, h5]

theorem field_ok (hE : EnvOK P E) (hm : Mem base cx w s) (hS : ∀ b, cx.S b → b < w.heap.size) (hv : ∀ x, svrel base cx w (opv s x) (a.eval x)) {T k off : Nat} {fi : TI} {x : Operand} {cs : List C} {sv : SV} (hf : evField E.tt T k = some (off, fi)) (hx : opv s x = .a cs) (has : asSV fi (cut cs off fi.sz) = some sv) (ho : o.op = .field T x k)
    (hp : Post base cx w s sv .no fun y w' => next (a.put o.dst y) w') : o.wp P a w next Q := by
  obtain ⟨fields, f, hu, hfk, hoff, hft⟩ := evField_ok hE hf
  have h := hv x
  rw [hx] at h
  obtain ⟨ys, h1, h2⟩ := h
  obtain ⟨hl, y, h3, h4⟩ := asSV_rel has ((h2.drop off).take fi.sz)
  refine pure_ok hm hS hp (y := y) ?_ h3
  have h5 := run_part (P := P) (w := w) (hE.tt _ fi hft) hl h4
  simp [execOp, ho, Instr.field, run_underlying hu, hfk, h1, asAgg, hoff, h5]

theorem intsOf_ok : ∀ {xs : List Value} {is : List Int}, intsOf xs = some is → xs = is.map (Value.int .i64)
  | [], is, h => by simp [intsOf] at h; subst h; rfl
  | x :: xs, is, h => by
    unfold intsOf at h
    split at h
    · rename_i heq; cases heq
    · rename_i a xs' heq
      simp only [List.cons.injEq] at heq
      obtain ⟨rfl, rfl⟩ := heq
      split at h
      · rename_i r hr
        simp only [Option.some.injEq] at h
        subst h
        rw [intsOf_ok hr]; rfl
      · cases h
    · cases h

theorem index_ok (hE : EnvOK P E) (hm : Mem base cx w s) (hS : ∀ b, cx.S b → b < w.heap.size) (hv : ∀ x, svrel base cx w (opv s x) (a.eval x)) {T : Nat} {x i : Operand} {ob : Option Prop} {sv : SV} {e : Eff} (he : evIndex E.tt T (opv s x) (opv s i) = some (ob, sv, e)) (ho : o.op = .index T x i)
    (hob : ∀ p, ob = some p → p) (hp : Post base cx w s sv e fun y w' => next (a.put o.dst y) w') : o.wp P a w next Q := by
  have hx := hv x
  have hi := hv i
  unfold evIndex at he
  split at he
  · cases he
  rename_i ti ht
  have hk := (hE.tt T ti ht).kd
  split at he
  · rename_i ic hic
    rw [hic] at hi
    split at he
    · cases he
    rename_i lit iv hiv
    obtain ⟨kk, hi1, hi2⟩ := idxOf_ok hi.1 hiv
    split at he
    · rename_i n e' hkd
      rw [hkd] at hk
      split at he
      · cases he
      rename_i ei hei
      have hte := hE.tt _ ei hei
      have hsz := run_size hte w
      split at he
      · rename_i cs hsv
        rw [hsv] at hx
        obtain ⟨ys, hx1, hx2⟩ := hx
        split at he
        · rename_i hcl
          have hcl := beq_eq hcl
          split at he
          · rename_i q
            split at he
            · rename_i hlt
              have hlt := blt_lt hlt
              split at he
              · rename_i y has
                simp only [pur, Option.some.injEq, Prod.mk.injEq] at he
                obtain ⟨rfl, rfl, rfl⟩ := he
                have hivq := hi2 q rfl
                subst hivq
                obtain ⟨hl, y', h3, h4⟩ := asSV_rel has ((hx2.drop (q * ei.sz)).take ei.sz)
                refine pure_ok hm hS hp (y := y') ?_ h3
                have h5 := run_part (P := P) (w := w) hte hl h4
                have hb1 : (q : Int) < (n : Int) := by omega
                simp only [execOp, ho, Instr.index, hi1, asIntOf, Sem.run_bind, Sem.run_pure, Result.andThen_ok, run_underlying hk, hx1]
                rw [if_pos ⟨by omega, hb1⟩]
                simp [hsz, h5]
              · cases he
            · cases he
          · split at he
            · cases he
            · rename_i hagg
              simp only [Bool.or_eq_false_iff, Bool.not_eq_false'] at hagg
              have h1z := beq_eq hagg.2
              split at he
              · rename_i vs hvs
                split at he
                · rename_i is his
                  simp only [Option.some.injEq, Prod.mk.injEq] at he
                  obtain ⟨rfl, rfl, rfl⟩ := he
                  have hbd := hob _ rfl
                  obtain rfl := valsOf_ok hx2 hvs
                  have hys := intsOf_ok his
                  have hlen : ys.length = n := by rw [← hx2.length, hcl, h1z, Nat.mul_one]
                  refine pure_ok hm hS hp (y := .int .i64 (is.getD iv.toNat 0)) ?_ (sv_v rfl)
                  simp only [execOp, ho, Instr.index, hi1, asIntOf, Sem.run_bind, Sem.run_pure, Result.andThen_ok, run_underlying hk, hx1]
                  rw [if_pos hbd]
                  have hil : iv.toNat < is.length := by
                    have : is.length = n := by rw [← hlen, hys]; simp
                    omega
                  have h6 : ys[iv.toNat]? = some (.int .i64 (is.getD iv.toNat 0)) := by
                    rw [hys, List.getElem?_map, List.getElem?_eq_getElem hil]
                    simp [hil]
                  simp [hsz, h1z, part, run_agg hte w, hagg.1, h6]
                · cases he
              · cases he
        · cases he
      · cases he
    · cases he
  · cases he

theorem numOf_ok (hv : ∀ x, svrel base cx w (opv s x) (a.eval x)) {v : Option Operand} {d n : Int} (h : (match v.map (opv s) with | none => some d | some (.o c) => (match idxOf c with | some (_, iv) => some iv | none => none) | some _ => none) = some n) :
    (v = none ∧ n = d) ∨ ∃ x k, v = some x ∧ a.eval x = .int k n := by
  cases v with
  | none => simp only [Option.map_none, Option.some.injEq] at h; exact .inl ⟨rfl, h.symm⟩
  | some x =>
    simp only [Option.map_some] at h
    have hx := hv x
    split at h
    · rename_i heq; cases heq
    · rename_i c heq
      simp only [Option.some.injEq] at heq
      rw [heq] at hx
      split at h
      · rename_i lit iv hi
        simp only [Option.some.injEq] at h
        subst h
        obtain ⟨k, h1, _⟩ := idxOf_ok hx.1 hi
        exact .inr ⟨x, k, rfl, h1⟩
      · cases h
    · cases h

theorem run_bound {k : IntKind} {i : Int} {y : Nat} {code : BoundsCode} (h : 0 ≤ i ∧ i ≤ (y : Int)) : (Instr.sliceBound (.int k i) y code).run P w = .ok i.toNat w := by
  simp [Instr.sliceBound, asIntOf, h]

theorem slice_ok (hE : EnvOK P E) (hm : Mem base cx w s) (hS : ∀ b, cx.S b → b < w.heap.size) (hv : ∀ x, svrel base cx w (opv s x) (a.eval x)) {T : Nat} {x : Operand} {lo hi : Option Operand} {ob : Option Prop} {sv : SV} {e : Eff} (he : evSlice E.tt T (opv s x) (lo.map (opv s)) (hi.map (opv s)) = some (ob, sv, e)) (ho : o.op = .slice T x lo hi none)
    (hob : ∀ p, ob = some p → p) (hp : Post base cx w s sv e fun y w' => next (a.put o.dst y) w') : o.wp P a w next Q := by
  have hx := hv x
  unfold evSlice at he
  split at he
  · cases he
  rename_i ti ht
  have hk := (hE.tt T ti ht).kd
  split at he
  · rename_i e' hkd
    rw [hkd] at hk
    split at he
    · cases he
    rename_i ei hei
    have hsz := run_size (hE.tt _ ei hei) w
    have hrun : ∀ A len cap l h, a.eval x = .slice A len cap → len ≤ cap → 0 ≤ l → l ≤ h → h ≤ (len : Int) → ((lo = none ∧ l = 0) ∨ ∃ x k, lo = some x ∧ a.eval x = .int k l) → ((hi = none ∧ h = (len : Int)) ∨ ∃ x k, hi = some x ∧ a.eval x = .int k h) →
        (execOp a.eval o).run P w = .ok (.value (.slice (if cap = l.toNat then A else A.map (·.add (l.toNat * ei.sz))) (h.toNat - l.toNat) (cap - l.toNat))) w := by
      intro A len cap l h hx hlc h0 hlh hhn hlo hhi
      have h1 : (Instr.sliceBounds true len cap (lo.map a.eval) (hi.map a.eval) none).run P w = .ok (l.toNat, h.toNat, cap) w := by
        rcases hlo with ⟨rfl, rfl⟩ | ⟨xl, kl, rfl, hl⟩ <;> rcases hhi with ⟨rfl, rfl⟩ | ⟨xh, kh, rfl, hh⟩
        · simp [Instr.sliceBounds]
        · simp [Instr.sliceBounds, hh, run_bound (P := P) (w := w) (k := kh) (i := h) (y := cap) (code := .sliceAcap) ⟨by omega, by omega⟩]
        · simp [Instr.sliceBounds, hl, run_bound (P := P) (w := w) (k := kl) (i := l) (y := len) (code := .sliceB) ⟨by omega, by omega⟩]
        · simp [Instr.sliceBounds, hl, hh, run_bound (P := P) (w := w) (k := kh) (i := h) (y := cap) (code := .sliceAcap) ⟨by omega, by omega⟩,
            run_bound (P := P) (w := w) (k := kl) (i := l) (y := h.toNat) (code := .sliceB) ⟨by omega, by omega⟩]
      simp only [execOp, ho, Instr.sliceAt, Instr.slice, Sem.run_bind, run_underlying hk, Result.andThen_ok, hx, h1, hsz, Sem.run_pure, Option.map_none]
    simp only at he
    split at he
    · rename_i fr sz n f hsv
      rw [hsv] at hx
      obtain ⟨⟨A, cap, k1, k2, k3, k4⟩, _⟩ := hx
      split at he
      · cases he
      rename_i hbe
      have hszeq : sz = ei.sz := beq_eq hbe
      split at he
      · cases he
      rename_i l hl
      split at he
      · cases he
      rename_i h hh
      simp only [Option.some.injEq, Prod.mk.injEq] at he
      obtain ⟨rfl, rfl, rfl⟩ := he
      obtain ⟨hb1, hb2, hb3⟩ := hob _ rfl
      refine pure_ok hm hS hp (hrun A n cap l h k1 k2 hb1 hb2 hb3 (numOf_ok hv hl) (numOf_ok hv hh)) ⟨⟨_, _, rfl, by omega, by omega, fun h0 => ?_⟩, rfl⟩
      obtain ⟨ad, rfl, k5, k6⟩ := k4 (by omega)
      rw [if_neg (by omega)]
      refine ⟨_, rfl, by rw [add_block]; exact k5, fun i hi j hj => ?_⟩
      obtain ⟨z, hz, hd⟩ := k6 (l.toNat + i) (by omega) j hj
      refine ⟨z, ?_, hd⟩
      rw [add_add, ← hz]
      congr 2
      rw [hszeq, Nat.add_mul]; omega
    · rename_i hsv
      rw [hsv] at hx
      have hx := rel_k hx
      split at he
      · cases he
      rename_i l hl
      split at he
      · cases he
      rename_i h hh
      simp only [Option.some.injEq, Prod.mk.injEq] at he
      obtain ⟨rfl, rfl, rfl⟩ := he
      obtain ⟨hb1, hb2⟩ := hob _ rfl
      subst hb1
      subst hb2
      have hr := hrun none 0 0 0 0 hx (Nat.le_refl _) (by omega) (by omega) (by omega) (numOf_ok hv hl) (by
        rcases numOf_ok hv hh with ⟨h1, _⟩ | h1
        · exact .inl ⟨h1, rfl⟩
        · exact .inr h1)
      exact pure_ok hm hS hp hr (sv_k _)
    · cases he
  · rename_i hkd
    rw [hkd] at hk
    simp only at he
    split at he
    · rename_i c hsv
      rw [hsv] at hx
      split at he
      · rename_i u hu
        have hx := valOf_ok hx.1 hu
        split at he
        · cases he
        rename_i l hl
        split at he
        · cases he
        rename_i h hh
        simp only [Option.some.injEq, Prod.mk.injEq] at he
        obtain ⟨rfl, rfl, rfl⟩ := he
        obtain ⟨hb1, hb2, hb3⟩ := hob _ rfl
        have h1 : (Instr.sliceBounds false u.size u.size (lo.map a.eval) (hi.map a.eval) none).run P w = .ok (l.toNat, h.toNat, u.size) w := by
          rcases numOf_ok hv hl with ⟨rfl, rfl⟩ | ⟨xl, kl, rfl, hl1⟩ <;> rcases numOf_ok hv hh with ⟨rfl, rfl⟩ | ⟨xh, kh, rfl, hh1⟩
          · simp [Instr.sliceBounds]
          · simp [Instr.sliceBounds, hh1, run_bound (P := P) (w := w) (k := kh) (i := h) (y := u.size) (code := .sliceAlen) ⟨by omega, by omega⟩]
          · simp [Instr.sliceBounds, hl1, run_bound (P := P) (w := w) (k := kl) (i := l) (y := u.size) (code := .sliceB) ⟨by omega, by omega⟩]
          · simp [Instr.sliceBounds, hl1, hh1, run_bound (P := P) (w := w) (k := kh) (i := h) (y := u.size) (code := .sliceAlen) ⟨by omega, by omega⟩,
              run_bound (P := P) (w := w) (k := kl) (i := l) (y := h.toNat) (code := .sliceB) ⟨by omega, by omega⟩]
        refine pure_ok hm hS hp (y := .string (u.extract l.toNat h.toNat)) ?_ (sv_v rfl)
        simp [execOp, ho, Instr.sliceAt, Instr.slice, run_underlying hk, hx, h1]
      · cases he
    · cases he
  · cases he

theorem lenS_ok (hE : EnvOK P E) (hm : Mem base cx w s) (hS : ∀ b, cx.S b → b < w.heap.size) (hv : ∀ x, svrel base cx w (opv s x) (a.eval x)) {T : Nat} {ti : TI} {x : Operand} {c : C} {u : ByteArray} (ht : E.tt T = some ti) (hkd : ti.kd = .str) (hx : opv s x = .o c) (hc : valOf c = some (.string u)) (ho : o.op = .call { callee := .builtin .len, args := #[x], argTypes := #[T] })
    (hp : Post base cx w s (.o (.v (.int .i64 (u.size : Int)))) .no fun y w' => next (a.put o.dst y) w') : o.wp P a w next Q := by
  have h1 := hv x
  rw [hx] at h1
  have h1 := valOf_ok h1.1 hc
  have hk := (hE.tt T ti ht).kd
  rw [hkd] at hk
  refine pure_ok hm hS hp (y := .int .i64 (u.size : Int)) ?_ (sv_v rfl)
  simp [execOp, ho, resolve, invoke, builtin, Builtin.len_, run_underlying hk, h1, goInt]

theorem evLenC_ok (hm : Mem base cx w s) {x : SV} {c : C} {y : Value} (hx : svrel base cx w x y) (h : evLenC s x = some c) : ∃ A n cap, y = .slice A n cap ∧ crel base cx w c (.int .i64 (n : Int)) := by
  unfold evLenC at h
  split at h
  · simp only [Option.some.injEq] at h; subst h
    obtain ⟨⟨A, cap, k1, _⟩, _⟩ := hx
    exact ⟨A, _, cap, k1, rfl⟩
  · obtain ⟨⟨k1, k2⟩, _⟩ := hx
    split at h
    · rename_i r how
      simp only [Option.some.injEq] at h; subst h
      obtain ⟨m1, cells, m2, m3⟩ := hm.ow _ r how
      rcases m2.2 with ⟨h4, h5⟩ | ⟨g', cap, cur, h4, _⟩
      · exact ⟨none, 0, 0, by rw [k2, h4], by rw [h5]; rfl⟩
      · exact ⟨_, _, cap, by rw [k2, h4], rfl⟩
    · cases h
  · simp only [Option.some.injEq] at h; subst h
    obtain ⟨⟨k1, k2⟩, _⟩ := hx
    exact ⟨_, _, _, k2, rfl⟩
  · simp only [Option.some.injEq] at h; subst h
    exact ⟨none, 0, 0, rel_k hx, rfl⟩
  · cases h

theorem len_ok (hE : EnvOK P E) (hm : Mem base cx w s) (hS : ∀ b, cx.S b → b < w.heap.size) (hv : ∀ x, svrel base cx w (opv s x) (a.eval x)) {T : Nat} {ti : TI} {e : Nat} {x : Operand} {c : C} (ht : E.tt T = some ti) (hkd : ti.kd = .sl e) (hc : evLenC s (opv s x) = some c) (ho : o.op = .call { callee := .builtin .len, args := #[x], argTypes := #[T] })
    (hp : Post base cx w s (.o c) .no fun y w' => next (a.put o.dst y) w') : o.wp P a w next Q := by
  obtain ⟨A, n, cap, h1, h2⟩ := evLenC_ok hm (hv x) hc
  have hk := (hE.tt T ti ht).kd
  rw [hkd] at hk
  refine pure_ok hm hS hp (y := .int .i64 (n : Int)) ?_ (sv_of h2 rfl)
  simp [execOp, ho, resolve, invoke, builtin, Builtin.len_, run_underlying hk, h1, goInt]

theorem map2 {α β : Type} {f : α → β} {xs : List α} {c d : β} (h : xs.map f = [c, d]) : ∃ x1 x2, xs = [x1, x2] ∧ f x1 = c ∧ f x2 = d := by
  cases xs with
  | nil => simp at h
  | cons x1 xs => cases xs with
    | nil => simp at h
    | cons x2 xs => simp at h; exact ⟨x1, x2, by rw [h.2.2], h.1, h.2.1⟩
theorem map3 {α β : Type} {f : α → β} {xs : List α} {c d e : β} (h : xs.map f = [c, d, e]) : ∃ x1 x2 x3, xs = [x1, x2, x3] ∧ f x1 = c ∧ f x2 = d ∧ f x3 = e := by
  cases xs with
  | nil => simp at h
  | cons x1 xs =>
    simp only [List.map_cons, List.cons.injEq] at h
    obtain ⟨x2, x3, rfl, h1, h2⟩ := map2 h.2
    exact ⟨x1, x2, x3, rfl, h.1, h1, h2⟩

theorem mm_ok (hm : Mem base cx w s) (hS : ∀ b, cx.S b → b < w.heap.size) (hv : ∀ x, svrel base cx w (opv s x) (a.eval x)) {mx : Bool} {xs : List Operand} {ts : Array TypeId} {ob : Option Prop} {sv : SV} {e : Eff} (he : evMM (if mx then max2I else min2I) (xs.map (opv s)) = some (ob, sv, e))
    (ho : o.op = .call { callee := .builtin (if mx then .max else .min), args := xs.toArray, argTypes := ts }) (hp : Post base cx w s sv e fun y w' => next (a.put o.dst y) w') : o.wp P a w next Q := by
  unfold evMM at he
  split at he
  · rename_i c d heq
    · obtain ⟨x1, x2, rfl, hc, hd⟩ := map2 heq
      have h1 := hv x1
      have h2 := hv x2
      rw [hc] at h1
      rw [hd] at h2
      split at he
      · rename_i k m hvc
        split at he
        · rename_i k' n hvd
          simp only [pur, Option.some.injEq, Prod.mk.injEq] at he
          obtain ⟨rfl, rfl, rfl⟩ := he
          have e1 := valOf_ok h1.1 hvc
          have e2 := valOf_ok h2.1 hvd
          refine pure_ok hm hS hp (y := .int k ((if mx then max2I else min2I) m n)) ?_ (sv_v rfl)
          cases mx
          · simp [execOp, ho, resolve, invoke, builtin, Builtin.min_, e1, e2, Builtin.min2, min2I]
          · simp [execOp, ho, resolve, invoke, builtin, Builtin.max_, e1, e2, Builtin.max2, max2I]
        · cases he
      · cases he
  · rename_i c d d' heq
    · obtain ⟨x1, x2, x3, rfl, hc, hd, hd'⟩ := map3 heq
      have h1 := hv x1
      have h2 := hv x2
      have h3 := hv x3
      rw [hc] at h1
      rw [hd] at h2
      rw [hd'] at h3
      split at he
      · rename_i k m hvc
        split at he
        · rename_i k' n hvd
          split at he
          · rename_i k'' n' hvd'
            simp only [pur, Option.some.injEq, Prod.mk.injEq] at he
            obtain ⟨rfl, rfl, rfl⟩ := he
            have e1 := valOf_ok h1.1 hvc
            have e2 := valOf_ok h2.1 hvd
            have e3 := valOf_ok h3.1 hvd'
            refine pure_ok hm hS hp (y := .int k ((if mx then max2I else min2I) ((if mx then max2I else min2I) m n) n')) ?_ (sv_v rfl)
            cases mx
            · simp [execOp, ho, resolve, invoke, builtin, Builtin.min_, e1, e2, e3, Builtin.min2, min2I]
            · simp [execOp, ho, resolve, invoke, builtin, Builtin.max_, e1, e2, e3, Builtin.max2, max2I]
          · cases he
        · cases he
      · cases he
  · cases he
end
end Go.Proofs.YtggappbiedkopaaGreat.SX
