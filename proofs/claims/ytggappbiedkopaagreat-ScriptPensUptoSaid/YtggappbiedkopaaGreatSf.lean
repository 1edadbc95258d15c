/- The symbolic executor, part f: built values, addresses, slices, appended rows, calls. -/
import Derived.Test.YtggappbiedkopaaGreatSe
import Derived.Deep.AppendLies
import Derived.Laws.OwnMore
import Derived.Laws.MakeOwn
namespace Go.Proofs.YtggappbiedkopaaGreat.SX
open Go Go.RowKit
set_option linter.unusedVariables false
set_option linter.unusedSimpArgs false

section
variable {P : Program} {E : Env} {base : Nat} {cx : Cx} {w w' : World} {s : SS} {a : Act} {o : Oper} {next : Act → World → Prop} {Q : Exit → Act → World → Prop}

theorem placesOf_ok (hE : EnvOK P E) : ∀ {fl : List Field} {pl : List (Nat × Nat)}, placesOf E.tt (fl.map fun f => (f.offset, f.type)) = some pl → ∀ w : World,
    (fl.mapM fun f => (do pure (f.offset, ← sizeOf f.type) : Sem (Nat × Nat))).run P w = .ok pl w
  | [], pl, h, w => by simp [placesOf] at h; subst h; simp
  | f :: fl, pl, h, w => by
    simp only [List.map_cons] at h
    unfold placesOf at h
    split at h
    · rename_i fi hfi
      split at h
      · rename_i r hr
        simp only [Option.some.injEq] at h
        subst h
        have h1 := run_size (hE.tt _ fi hfi) w
        have h2 := placesOf_ok hE hr w
        simp only [List.mapM_cons, Sem.run_bind, h1, Result.andThen_ok, Sem.run_pure, h2]
      · cases h
    · cases h

theorem build_ok (hE : EnvOK P E) (hm : Mem base cx w s) (hS : ∀ b, cx.S b → b < w.heap.size) (hv : ∀ x, svrel base cx w (opv s x) (a.eval x)) {T : Nat} {ti : TI} (ht : E.tt T = some ti) {ps : Array (Nat × Operand)} {qs : List (Nat × List C)} (hq : partsC s ps.toList = some qs) (ho : o.op = .build T ps) {cs : List C}
    (h : (∃ fs pl, ti.kd = .st fs ∧ placesOf E.tt fs = some pl ∧ fillC (fun i => pl[i]?) (ti.z.map .k) qs = some cs) ∨ (∃ n e ei, ti.kd = .ar n e ∧ E.tt e = some ei ∧ fillC (fun i => some (i * ei.sz, ei.sz)) (ti.z.map .k) qs = some cs))
    (hp : Post base cx w s (.a cs) .no fun y w' => next (a.put o.dst y) w') : o.wp P a w next Q := by
  have hti := hE.tt T ti ht
  obtain ⟨zv, hz1, hz2⟩ := run_zero hti w
  obtain ⟨_, _, _, _, _, _, _, _, h7⟩ := info_run hti
  obtain ⟨vs, hvs, hv1, hv2, hv3⟩ := partsC_ok hv hq
  have hk := hti.kd
  let us : List (Nat × Value) := ps.toList.map fun p => (p.1, a.eval p.2)
  have hus : us.map (fun p => (p.1, p.2.cells.toList)) = vs := hvs
  have hlen : us.length = qs.length := by rw [← hv2, ← hus]; simp
  have hrel : ∀ (j : Nat) (p : Nat × Value) (q : Nat × List C), us[j]? = some p → qs[j]? = some q → p.1 = q.1 ∧ crels base cx w q.2 p.2.cells.toList := by
    intro j p q hj hq
    have h1 : vs[j]? = some (p.1, p.2.cells.toList) := by rw [← hus, List.getElem?_map, hj]; rfl
    refine ⟨?_, hv3 j _ q h1 hq⟩
    have h2 : (vs.map (·.1))[j]? = some p.1 := by rw [List.getElem?_map, h1]; rfl
    rw [hv1, List.getElem?_map, hq] at h2
    simpa using h2.symm
  have hzc : crels base cx w (ti.z.map C.k) ti.z := crels.map_k _ h7
  have hps : (ps.map fun x => (x.1, a.eval x.2)).toList = us := by simp [us]
  rcases h with ⟨fs, pl, hkd, hpl, hf⟩ | ⟨n, e, ei, hkd, hei, hf⟩
  · rw [hkd] at hk
    obtain ⟨fields, hu, hfs⟩ := hk
    rw [← hfs] at hpl
    have hr := placesOf_ok hE hpl w
    obtain ⟨zs, hz3, hz4⟩ := fillC_ok (base := base) (cx := cx) (w := w) (place' := fun i => pl.toArray[i]?) (fun i r h => by simpa using h) hf hzc hlen hrel
    refine pure_ok hm hS hp (y := .agg zs.toArray) ?_ ⟨zs, rfl, hz4⟩
    have hr' : (fields.mapM fun f => (do pure (f.offset, ← sizeOf f.type) : Sem (Nat × Nat))).run P w = .ok pl.toArray w := by
      have : fields = fields.toList.toArray := by simp
      rw [this, List.mapM_toArray, Sem.run_map, hr]; rfl
    simp only [execOp, ho, Instr.build, Sem.run_bind, hz1, Result.andThen_ok, run_underlying hu, hr', hz2, hps, hz3, Sem.run_pure]
  · rw [hkd] at hk
    obtain ⟨zs, hz3, hz4⟩ := fillC_ok (base := base) (cx := cx) (w := w) (fun i r h => h) hf hzc hlen hrel
    refine pure_ok hm hS hp (y := .agg zs.toArray) ?_ ⟨zs, rfl, hz4⟩
    have h1 := run_size (hE.tt _ ei hei) w
    simp only [execOp, ho, Instr.build, Sem.run_bind, hz1, Result.andThen_ok, run_underlying hk, h1, hz2, hps, hz3, Sem.run_pure]

theorem rep_cells (z : List Value) : ∀ n, ((Array.range (n * z.length)).map (z.toArray[· % z.toArray.size]!)).toList = (List.replicate n z).flatten := by
  intro n
  simp only [Array.toList_map, Array.toList_range, List.size_toArray]
  induction n with
  | zero => simp
  | succ n ih =>
    rw [List.replicate_succ', List.flatten_append, ← ih, Nat.add_mul, Nat.one_mul, List.range_add, List.map_append]
    congr 1
    simp only [List.flatten_cons, List.flatten_nil, List.append_nil]
    apply List.ext_getElem?
    intro j
    rw [List.getElem?_map, List.getElem?_map]
    by_cases hj : j < z.length
    · rw [List.getElem?_range hj]
      simp only [Option.map_some, Nat.add_mod, Nat.mul_mod_left, Nat.zero_add, Nat.mod_mod]
      rw [Nat.mod_eq_of_lt hj, List.getElem?_eq_getElem hj]
      simp [hj]
    · rw [List.getElem?_eq_none (by simp; omega), List.getElem?_eq_none (by omega)]; rfl

theorem crels_rep : ∀ (n : Nat) {cs : List C} {ys : List Value}, crels base cx w cs ys → crels base cx w (List.replicate n cs).flatten (List.replicate n ys).flatten
  | 0, _, _, _ => trivial
  | n + 1, _, _, h => by rw [List.replicate_succ, List.replicate_succ, List.flatten_cons, List.flatten_cons]; exact h.append (crels_rep n h)

theorem buildSlice_run (hE : EnvOK P E) (hv : ∀ x, svrel base cx w (opv s x) (a.eval x)) {T e n : Nat} {ti ei : TI} (ht : E.tt T = some ti) (hkd : ti.kd = .sl e) (hei : E.tt e = some ei)
    {ps : Array (Nat × Operand)} {qs : List (Nat × List C)} (hq : partsC s ps.toList = some qs) (ho : o.op = .buildSlice T n ps) {cs : List C} (hle : n * ei.sz ≤ 4096) (hzl : ei.z.length = ei.sz)
    (hf : fillC (fun i => some (i * ei.sz, ei.sz)) (List.replicate n (ei.z.map C.k)).flatten qs = some cs) :
    ∃ zs, crels base cx w cs zs ∧ (execOp a.eval o).run P w = .ok (.value (.slice (some ⟨w.heap.size, 0, none⟩) n n)) (w.alloc (.cells zs.toArray e)) := by
  have hti := hE.tt T ti ht
  have hte := hE.tt e ei hei
  obtain ⟨zv, hz1, hz2⟩ := run_zero hte w
  obtain ⟨_, _, _, _, _, _, _, _, h7⟩ := info_run hte
  obtain ⟨vs, hvs, hv1, hv2, hv3⟩ := partsC_ok hv hq
  have hk := hti.kd
  rw [hkd] at hk
  let us : List (Nat × Value) := ps.toList.map fun p => (p.1, a.eval p.2)
  have hus : us.map (fun p => (p.1, p.2.cells.toList)) = vs := hvs
  have hlen : us.length = qs.length := by rw [← hv2, ← hus]; simp
  have hrel : ∀ (j : Nat) (p : Nat × Value) (q : Nat × List C), us[j]? = some p → qs[j]? = some q → p.1 = q.1 ∧ crels base cx w q.2 p.2.cells.toList := by
    intro j p q hj hq
    have h1 : vs[j]? = some (p.1, p.2.cells.toList) := by rw [← hus, List.getElem?_map, hj]; rfl
    refine ⟨?_, hv3 j _ q h1 hq⟩
    have h2 : (vs.map (·.1))[j]? = some p.1 := by rw [List.getElem?_map, h1]; rfl
    rw [hv1, List.getElem?_map, hq] at h2
    simpa using h2.symm
  have hzc : crels base cx w (List.replicate n (ei.z.map C.k)).flatten (List.replicate n ei.z).flatten := crels_rep n (crels.map_k _ h7)
  have hps : (ps.map fun x => (x.1, a.eval x.2)).toList = us := by simp [us]
  obtain ⟨zs, hz3, hz4⟩ := fillC_ok (base := base) (cx := cx) (w := w) (fun i r h => h) hf hzc hlen hrel
  have h1 := run_size hte w
  have hrow : (Array.range (n * ei.sz)).map (zv.cells[· % zv.cells.size]!) = (List.replicate n ei.z).flatten.toArray := by
    rw [← rep_cells ei.z n, hz2, hzl]
  have hrun : (execOp a.eval o).run P w = .ok (.value (.slice (some ⟨w.heap.size, 0, none⟩) n n)) (w.alloc (.cells zs.toArray e)) := by
    simp only [execOp, ho, Instr.buildSlice, Sem.run_bind, run_underlying hk, Result.andThen_ok, h1]
    rw [if_neg (by omega)]
    by_cases h0 : n * ei.sz = 0
    · have hn : (List.replicate n ei.z).flatten = [] := by
        rcases Nat.mul_eq_zero.1 h0 with h0 | h0
        · simp [h0]
        · have : ei.z = [] := List.eq_nil_of_length_eq_zero (by omega)
          simp [this]
      rw [hn] at hz3
      simp only [h0, if_true, Sem.run_bind, Sem.run_pure, Result.andThen_ok, hps]
      have : (Array.range 0).map (fun x => (#[] : Array Value)[x % (#[] : Array Value).size]!) = ([] : List Value).toArray := by simp
      rw [this, hz3]
      simp [newRow]
    · simp only [h0, if_false, Sem.run_bind, hz1, Sem.run_pure, Result.andThen_ok, hps, hrow, hz3]
      simp [newRow]
  exact ⟨zs, hz4, hrun⟩
/-! ### addresses -/
theorem evField_ok (hE : EnvOK P E) {T k off : Nat} {fi : TI} (h : evField E.tt T k = some (off, fi)) : ∃ fields f, P.underlying T = some (.struct fields) ∧ fields[k]? = some f ∧ f.offset = off ∧ E.tt f.type = some fi := by
  unfold evField at h
  split at h
  · rename_i ti ht
    have hk := (hE.tt T ti ht).kd
    split at h
    · rename_i fs hkd
      rw [hkd] at hk
      obtain ⟨fields, hu, hfs⟩ := hk
      split at h
      · rename_i off' ft hf
        split at h
        · rename_i fi' hfi
          simp only [Option.some.injEq, Prod.mk.injEq] at h
          obtain ⟨rfl, rfl⟩ := h
          rw [← hfs, List.getElem?_map] at hf
          cases hfk : fields.toList[k]? with
          | none => rw [hfk] at hf; cases hf
          | some f =>
            rw [hfk] at hf
            simp only [Option.map_some, Option.some.injEq, Prod.mk.injEq] at hf
            obtain ⟨rfl, rfl⟩ := hf
            exact ⟨fields, f, hu, by simpa using hfk, rfl, hfi⟩
        · cases h
      · cases h
    · cases h
  · cases h

theorem fieldAddr_ok (hE : EnvOK P E) (hm : Mem base cx w s) (hS : ∀ b, cx.S b → b < w.heap.size) (hv : ∀ x, svrel base cx w (opv s x) (a.eval x)) {T k : Nat} {x : Operand} {ob : Option Prop} {sv : SV} {e : Eff} (he : evFieldAddr E.tt T k (opv s x) = some (ob, sv, e)) (ho : o.op = .fieldAddr T x k)
    (hp : Post base cx w s sv e fun y w' => next (a.put o.dst y) w') : o.wp P a w next Q := by
  have hx := hv x
  unfold evFieldAddr at he
  split at he
  · cases he
  rename_i off fi hf
  obtain ⟨fields, f, hu, hfk, hoff, hft⟩ := evField_ok hE hf
  split at he
  · cases he
  rename_i hnz
  have h1 := run_size (hE.tt _ fi hft) w
  have hnz' : fi.sz ≠ 0 := by
    intro h0; rw [h0] at hnz; cases hnz
  have hrun : ∀ ad, a.eval x = .pointer (some ad) → (execOp a.eval o).run P w = .ok (.value (.pointer (some (ad.add off)))) w := by
    intro ad hx
    simp [execOp, ho, Instr.fieldAt, run_underlying hu, hfk, hx, Instr.sureAddr, fieldPlace, h1, hnz', hoff]
  split at he
  · rename_i i o' hsv
    simp only [pur, Option.some.injEq, Prod.mk.injEq] at he
    obtain ⟨rfl, rfl, rfl⟩ := he
    rw [hsv] at hx
    obtain ⟨⟨k1, k2⟩, _⟩ := hx
    exact pure_ok hm hS hp (hrun _ k2) ⟨⟨k1, by rw [add_none]⟩, rfl⟩
  · rename_i fr m g hsv
    rw [hsv] at hx
    obtain ⟨⟨ad, k1, k2, k3⟩, _⟩ := hx
    split at he
    · rename_i hlt
      simp only [pur, Option.some.injEq, Prod.mk.injEq] at he
      obtain ⟨rfl, rfl, rfl⟩ := he
      have hlt := blt_lt hlt
      refine pure_ok hm hS hp (hrun _ k1) ⟨⟨_, rfl, by rw [add_block]; exact k2, fun j hj => ?_⟩, rfl⟩
      obtain ⟨z, hz, hd⟩ := k3 (off + j) (by omega)
      exact ⟨z, by rw [add_add]; exact hz, hd⟩
    · cases he
  · rename_i i sz idx j hsv
    simp only [pur, Option.some.injEq, Prod.mk.injEq] at he
    obtain ⟨rfl, rfl, rfl⟩ := he
    rw [hsv] at hx
    obtain ⟨⟨k1, g, n, cap, k2, k3⟩, _⟩ := hx
    exact pure_ok hm hS hp (hrun _ k3) ⟨⟨k1, g, n, cap, k2, by rw [add_none, Nat.add_assoc]⟩, rfl⟩
  · cases he

theorem idxOf_ok {c : C} {y : Value} {lit : Option Nat} {iv : Int} (h : crel base cx w c y) (hi : idxOf c = some (lit, iv)) : ∃ k, y = .int k iv ∧ ∀ q, lit = some q → iv = (q : Int) := by
  unfold idxOf at hi
  split at hi
  · split at hi
    · simp only [Option.some.injEq, Prod.mk.injEq] at hi
      obtain ⟨rfl, rfl⟩ := hi
      exact ⟨_, h, fun q hq => by simp only [Option.some.injEq] at hq; rw [← hq]; rfl⟩
    · cases hi
  · simp only [Option.some.injEq, Prod.mk.injEq] at hi
    obtain ⟨rfl, rfl⟩ := hi
    exact ⟨_, h, fun q hq => by cases hq⟩
  · cases hi

theorem theIx_ok {ci lit : Option Nat} {iv : Int} {ob : Option Prop} {q : Nat} (h : theIx ci lit iv = some (ob, q)) (hi : ∀ q, lit = some q → iv = (q : Int)) (hob : ∀ p, ob = some p → p) : iv = (q : Int) := by
  unfold theIx at h
  split at h
  · simp only [Option.some.injEq, Prod.mk.injEq] at h
    obtain ⟨rfl, rfl⟩ := h
    exact hi _ rfl
  · split at h
    · simp only [Option.some.injEq, Prod.mk.injEq] at h
      obtain ⟨rfl, rfl⟩ := h
      exact hob _ rfl
    · cases h
theorem indexAddr_ok (hE : EnvOK P E) (hm : Mem base cx w s) (hS : ∀ b, cx.S b → b < w.heap.size) (hv : ∀ x, svrel base cx w (opv s x) (a.eval x)) {T : Nat} {x i : Operand} {ob : Option Prop} {sv : SV} {e : Eff} (he : evIndexAddr E.tt E.ix s T (opv s x) (opv s i) = some (ob, sv, e)) (ho : o.op = .indexAddr T x i)
    (hob : ∀ p, ob = some p → p) (hp : Post base cx w s sv e fun y w' => next (a.put o.dst y) w') : o.wp P a w next Q := by
  have hx := hv x
  have hi := hv i
  unfold evIndexAddr at he
  split at he
  · cases he
  rename_i ti ht
  have hk := (hE.tt T ti ht).kd
  split at he
  · rename_i ic hic
    rw [hic] at hi
    split at he
    · cases he
    rename_i lit iv hiv
    obtain ⟨kk, hi1, hi2⟩ := idxOf_ok hi.1 hiv
    split at he
    · rename_i e' hkd
      rw [hkd] at hk
      split at he
      · cases he
      rename_i ei hei
      have hsz := run_size (hE.tt _ ei hei) w
      have hrun : ∀ ad len cap, a.eval x = .slice (some ad) len cap → 0 ≤ iv ∧ iv < (len : Int) → (execOp a.eval o).run P w = .ok (.value (.pointer (some (ad.add (iv.toNat * ei.sz))))) w := by
        intro ad len cap hx hb
        simp [execOp, ho, Instr.indexAt, hi1, asIntOf, run_underlying hk, hx, hb, hsz]
      split at he
      · rename_i fr sz n f hsv
        rw [hsv] at hx
        obtain ⟨hx, _⟩ := hx
        split at he
        · rename_i hbe
          simp only [Option.some.injEq, Prod.mk.injEq] at he
          obtain ⟨rfl, rfl, rfl⟩ := he
          obtain ⟨A, cap, k1, k2, k3, k4⟩ := hx
          have hbd := hob _ rfl
          have hn0 : 0 < n := by omega
          obtain ⟨ad, rfl, k5, k6⟩ := k4 hn0
          have hszeq : sz = ei.sz := beq_eq hbe
          refine pure_ok hm hS hp (hrun _ _ _ k1 hbd) ⟨⟨_, rfl, by rw [add_block]; exact k5, fun j hj => ?_⟩, rfl⟩
          obtain ⟨z, hz, hd⟩ := k6 iv.toNat (by omega) j hj
          exact ⟨z, by rw [add_add, ← hszeq]; exact hz, hd⟩
        · cases he
      · rename_i b cnt hsv
        rw [hsv] at hx
        obtain ⟨⟨k1, k2⟩, _⟩ := hx
        split at he
        · rename_i ob' q hq
          split at he
          · rename_i hlt
            simp only [Option.some.injEq, Prod.mk.injEq] at he
            obtain ⟨rfl, rfl, rfl⟩ := he
            have hivq := theIx_ok hq hi2 hob
            subst hivq
            refine pure_ok hm hS hp (hrun _ _ _ k2 ⟨by omega, by have := blt_lt hlt; omega⟩) ⟨⟨k1, by rw [add_none]; simp⟩, rfl⟩
          · cases he
        · cases he
      · rename_i q hsv
        rw [hsv] at hx
        obtain ⟨⟨k1, k2⟩, _⟩ := hx
        split at he
        · rename_i r how
          split at he
          · rename_i hbe
            simp only [Option.some.injEq, Prod.mk.injEq] at he
            obtain ⟨rfl, rfl, rfl⟩ := he
            have hbd := hob _ rfl
            have hszeq : r.sz = ei.sz := beq_eq hbe
            obtain ⟨m1, cells, m2, m3⟩ := hm.ow q r how
            rcases m2.2 with ⟨h4, h5⟩ | ⟨g', cap, cur, h4, _⟩
            · omega
            rw [h4] at k2
            refine pure_ok hm hS hp (hrun _ _ _ k2 hbd) ⟨⟨m1, g', r.n, cap, h4, by rw [add_none, hszeq]; simp⟩, rfl⟩
          · cases he
        · cases he
      · cases he
    · rename_i n e' hkd
      rw [hkd] at hk
      split at he
      · cases he
      rename_i ei hei
      have hsz := run_size (hE.tt _ ei hei) w
      split at he
      · rename_i b off hsv
        rw [hsv] at hx
        obtain ⟨⟨k1, k2⟩, _⟩ := hx
        split at he
        · rename_i ob' q hq
          split at he
          · rename_i hlt
            simp only [Option.some.injEq, Prod.mk.injEq] at he
            obtain ⟨rfl, rfl, rfl⟩ := he
            have hivq := theIx_ok hq hi2 hob
            subst hivq
            have hlt := blt_lt hlt
            refine pure_ok hm hS hp (y := .pointer (some ⟨cx.β b, off + q * ei.sz, none⟩)) ?_ ⟨⟨k1, rfl⟩, rfl⟩
            have hb1 : (q : Int) < (n : Int) := by omega
            simp [execOp, ho, Instr.indexAt, hi1, asIntOf, run_underlying hk, k2, Instr.sureAddr, hb1, hsz, add_none]
            intro h; omega
          · cases he
        · cases he
      · cases he
    · cases he
  · cases he
end
end Go.Proofs.YtggappbiedkopaaGreat.SX
