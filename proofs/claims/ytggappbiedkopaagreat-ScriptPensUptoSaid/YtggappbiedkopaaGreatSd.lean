/- The symbolic executor, part d: loads, stores, addresses, aggregates. -/
import Derived.Test.YtggappbiedkopaaGreatSc
namespace Go.Proofs.YtggappbiedkopaaGreat.SX
open Go Go.RowKit
set_option linter.unusedVariables false
set_option linter.unusedSimpArgs false

section
variable {P : Program} {E : Env} {base : Nat} {cx : Cx} {w w' : World} {s : SS} {a : Act} {o : Oper} {next : Act → World → Prop} {Q : Exit → Act → World → Prop}

theorem box_ok (hb : base ≤ w.heap.size) (hm : Mem base cx w s) (hS : ∀ b, cx.S b → b < w.heap.size) (hD : ∀ i, cx.D i → i ≠ s.nx) (hv : ∀ x, svrel base cx w (opv s x) (a.eval x)) {T : Nat} {x : Operand} {cs : List C} (hc : (opv s x).cells = some cs) (ho : o.op = .box T x)
    (hp : Post base cx w s (.o (.p s.nx 0)) (.new T cs) fun y w' => next (a.put o.dst y) w') : o.wp P a w next Q := by
  obtain ⟨ys, h1, h2⟩ := cells_ok (hv x) hc
  have hrun : (execOp a.eval o).run P w = .ok (.value (.pointer (some ⟨w.heap.size, 0, none⟩))) (w.alloc (.cells ys.toArray T)) := by
    simp [execOp, ho, Instr.box, newVar, newRow, h1]
  exact val_ok hrun (new_ok (x := .o (.p s.nx 0)) (K := fun y w' => next (a.put o.dst y) w') hb hm hS hD h2 (fun cx' h h' => ⟨⟨h, by rw [h']⟩, rfl⟩) hp)

theorem beq_eq {m n : Nat} (h : Nat.beq m n = true) : m = n := Nat.eq_of_beq_eq_true h
theorem ble_le {m n : Nat} (h : Nat.ble m n = true) : m ≤ n := Nat.le_of_ble_eq_true h
theorem blt_lt {m n : Nat} (h : Nat.blt m n = true) : m < n := Nat.le_of_ble_eq_true h

theorem asSV_inv {ti : TI} {cs : List C} {x : SV} (h : asSV ti cs = some x) : cs.length = ti.sz ∧ ((ti.agg = true ∧ x = .a cs) ∨ (ti.agg = false ∧ ∃ c, cs = [c] ∧ x = .o c)) := by
  unfold asSV at h
  split at h
  · rename_i h1
    refine ⟨beq_eq h1, ?_⟩
    split at h
    · rename_i h2; exact .inl ⟨h2, by simpa using h.symm⟩
    · rename_i h2
      split at h
      · exact .inr ⟨h2, _, rfl, by simpa using h.symm⟩
      · cases h
  · cases h

/-- a value of a type, read of cells -/
theorem asSV_rel {ti : TI} {cs : List C} {x : SV} (h : asSV ti cs = some x) {ys : List Value} (hc : crels base cx w cs ys) : ys.length = ti.sz ∧ ∃ y, svrel base cx w x y ∧ ((ti.agg = true ∧ y = .agg ys.toArray) ∨ (ti.agg = false ∧ ys = [y])) := by
  obtain ⟨h1, h2⟩ := asSV_inv h
  refine ⟨by rw [← hc.length]; exact h1, ?_⟩
  rcases h2 with ⟨h2, rfl⟩ | ⟨h2, c, rfl, rfl⟩
  · exact ⟨_, ⟨ys, rfl, hc⟩, .inl ⟨h2, rfl⟩⟩
  · match ys, hc with
    | [y], hc => exact ⟨y, sv_of hc.1 hc.2.1, .inr ⟨h2, rfl⟩⟩

theorem run_loadVar {T : Nat} {ti : TI} (ht : TIok P T ti) {ad : Addr} {ys : List Value} {y : Value} (hl : ys.length = ti.sz) (hy : (ti.agg = true ∧ y = .agg ys.toArray) ∨ (ti.agg = false ∧ ys = [y]))
    (hc : ∀ j v, ys[j]? = some v → w.cell? (ad.add j) = some v) : (loadVar T ad).run P w = .ok y w := by
  have h1 := run_agg ht w
  have h2 := run_size ht w
  rcases hy with ⟨h3, rfl⟩ | ⟨h3, rfl⟩
  · have h4 := run_loadCells_list (P := P) w ad ys hc
    rw [hl] at h4
    simp [loadVar, h1, h2, h3, h4]
  · have h5 := hc 0 y rfl
    rw [Addr.add, if_pos rfl] at h5
    simp [loadVar, h1, h3, load, Sem.run, h5]

theorem load_gen (hE : EnvOK P E) (hm : Mem base cx w s) (hS : ∀ b, cx.S b → b < w.heap.size) {T : Nat} {ti : TI} (ht : E.tt T = some ti) {x : Operand} {cs : List C} {sv : SV} (has : asSV ti cs = some sv) (ho : o.op = .load T x)
    {ad : Addr} (hx : a.eval x = .pointer (some ad)) {ys : List Value} (hc : crels base cx w cs ys) (hcell : ∀ j v, ys[j]? = some v → w.cell? (ad.add j) = some v)
    (hp : Post base cx w s sv .no fun y w' => next (a.put o.dst y) w') : o.wp P a w next Q := by
  obtain ⟨hl, y, h1, h2⟩ := asSV_rel has hc
  refine pure_ok hm hS hp (y := y) ?_ h1
  have hr := run_loadVar (hE.tt T ti ht) hl h2 hcell
  simp [execOp, ho, Instr.loadAt, hx, Instr.sureAddr, hr]

theorem block_cell {g : Nat} {ys : List Value} {T : Nat} (h : w.heap[g]? = some (.cells ys.toArray T (0, 0))) (j : Nat) : w.cell? ⟨g, j, none⟩ = ys[j]? := by
  rw [cell_of_row w g j _ T (0, 0) h]; simp
theorem add_none (g off j : Nat) : (⟨g, off, none⟩ : Addr).add j = ⟨g, off + j, none⟩ := by
  unfold Addr.add; split <;> simp_all

theorem mkEp_ok {fr : Bool} {g : Nat → L} {ad : Addr} : ∀ (n : Nat), (∀ j, j < n → ∃ z, w.cell? (ad.add j) = some z ∧ Den w (cx.SB base fr) (g j) z) →
    ∃ ys, ys.length = n ∧ crels base cx w (mkEp fr g n) ys ∧ ∀ j v, ys[j]? = some v → w.cell? (ad.add j) = some v := by
  intro n
  induction n with
  | zero => intro _; exact ⟨[], rfl, trivial, fun j v h => by simp at h⟩
  | succ n ih =>
    intro h
    obtain ⟨ys, h1, h2, h3⟩ := ih fun j hj => h j (by omega)
    obtain ⟨z, hz, hd⟩ := h n (by omega)
    refine ⟨ys ++ [z], by simp [h1], ?_, ?_⟩
    · unfold mkEp
      rw [List.range_succ, List.map_append]
      exact h2.append ⟨hd.crel, hd.one, trivial⟩
    · intro j v hj
      by_cases hjn : j < n
      · rw [List.getElem?_append_left (by omega)] at hj; exact h3 j v hj
      · have hlen : j < (ys ++ [z]).length := (List.getElem?_eq_some_iff.1 hj).1
        have : j = n := by simp [h1] at hlen; omega
        subst this
        rw [List.getElem?_append_right (by omega), h1] at hj
        simp at hj
        rw [← hj]; exact hz

/-- the cells of an element of a row of the call's own -/
theorem own_cells {i : Nat} {r : OR} (hm : Mem base cx w s) (h : s.ow i = some r) {idx : Nat} (hi : idx < r.n) : ∃ g cap, cx.η i = .slice (some ⟨g, 0, none⟩) r.n cap ∧
    ∀ j, j < r.sz → ∃ z, w.cell? ⟨g, idx * r.sz + j, none⟩ = some z ∧ Den w (cx.SB base r.fr) (r.f idx j) z := by
  obtain ⟨h1, cells, h2, h3⟩ := hm.ow i r h
  rcases h2.2 with ⟨h4, h5⟩ | ⟨g, cap, cur, h4, _⟩
  · omega
  · refine ⟨g, cap, h4, fun j hj => ?_⟩
    obtain ⟨z, hz, hd⟩ := h3 idx hi j hj
    refine ⟨z, ?_, hd⟩
    have := h2.cells (g := g) (by rw [h4]; rfl) _ z hz
    rw [add_none] at this
    simpa using this

theorem load_ok (hE : EnvOK P E) (hm : Mem base cx w s) (hS : ∀ b, cx.S b → b < w.heap.size) (hv : ∀ x, svrel base cx w (opv s x) (a.eval x)) {T : Nat} {x : Operand} {ob : Option Prop} {sv : SV} {e : Eff} (he : evLoad E.tt s T (opv s x) = some (ob, sv, e)) (ho : o.op = .load T x)
    (hob : ∀ p, ob = some p → p) (hp : Post base cx w s sv e fun y w' => next (a.put o.dst y) w') : o.wp P a w next Q := by
  have hx := hv x
  unfold evLoad at he
  split at he
  · cases he
  · rename_i ti ht
    split at he
    · rename_i i off hsv
      rw [hsv] at hx
      obtain ⟨⟨h1, h2⟩, _⟩ := hx
      split at he
      · rename_i T' cs hbl
        split at he
        · rename_i y has
          simp only [pur, Option.some.injEq, Prod.mk.injEq] at he
          obtain ⟨rfl, rfl, rfl⟩ := he
          obtain ⟨_, _, _, ys, h3, h4⟩ := hm.bl i T' cs hbl
          refine load_gen hE hm hS ht has ho h2 ((h4.drop off).take ti.sz) (fun j v hj => ?_) hp
          rw [add_none, block_cell h3]
          have := hj
          rw [List.getElem?_take] at this
          split at this
          · simpa using this
          · cases this
        · cases he
      · cases he
    · rename_i fr m g hsv
      rw [hsv] at hx
      obtain ⟨⟨ad, h1, h2, h3⟩, _⟩ := hx
      split at he
      · rename_i hle
        split at he
        · rename_i y has
          simp only [pur, Option.some.injEq, Prod.mk.injEq] at he
          obtain ⟨rfl, rfl, rfl⟩ := he
          obtain ⟨ys, h4, h5, h6⟩ := mkEp_ok ti.sz fun j hj => h3 j (Nat.lt_of_lt_of_le hj (ble_le hle))
          exact load_gen hE hm hS ht has ho h1 h5 h6 hp
        · cases he
      · cases he
    · rename_i i sz idx j hsv
      rw [hsv] at hx
      obtain ⟨⟨h1, g, n, cap, h2, h3⟩, _⟩ := hx
      split at he
      · rename_i r how
        split at he
        · rename_i hc
          simp only [Bool.and_eq_true] at hc
          have hsz := beq_eq hc.1
          have hle := ble_le hc.2
          split at he
          · rename_i y has
            simp only [Option.some.injEq, Prod.mk.injEq] at he
            obtain ⟨rfl, rfl, rfl⟩ := he
            have hidx : idx < r.n := hob _ rfl
            obtain ⟨g', cap', h4, h5⟩ := own_cells hm how hidx
            rw [h2] at h4
            simp only [Value.slice.injEq, Option.some.injEq, Addr.mk.injEq] at h4
            obtain ⟨⟨rfl, _⟩, _⟩ := h4
            subst hsz
            obtain ⟨ys, h6, h7, h8⟩ := mkEp_ok (cx := cx) (base := base) (w := w) (fr := r.fr) (g := fun q => r.f idx (j + q)) (ad := ⟨g, idx * r.sz + j, none⟩) ti.sz fun q hq => by
              obtain ⟨z, hz, hd⟩ := h5 (j + q) (by omega)
              exact ⟨z, by rw [add_none, Nat.add_assoc]; exact hz, hd⟩
            exact load_gen hE hm hS ht has ho h3 h7 h8 hp
          · cases he
        · cases he
      · cases he
    · cases he

theorem litsOf_ok : ∀ {cs : List C} {ys : List Value} {ls : List L}, crels base cx w cs ys → litsOf cs = some ls → Dens w cx.S ls ys
  | [], [], ls, _, h => by simp only [litsOf, Option.some.injEq] at h; subst h; trivial
  | c :: cs, y :: ys, ls, hc, h => by
    unfold litsOf at h
    split at h
    · rename_i x hx
      split at h
      · rename_i xs hxs
        simp only [Option.some.injEq] at h
        subst h
        refine ⟨?_, litsOf_ok hc.2.2 hxs⟩
        have h1 := hc.1
        cases c <;> simp only [litOf, Option.some.injEq] at hx <;> first | (subst hx) | cases hx
        · exact ⟨h1, by rw [← show y = _ from h1]; exact hc.2.1⟩
        · exact ⟨h1, by rw [← show y = _ from h1]; exact hc.2.1⟩
        · exact Den.mono (fun b hb => hb.1) (fun _ _ => rfl) h1
        · exact Den.mono (l := .pt _ _) (fun b hb => hb.1) (fun _ _ => rfl) h1
      · cases h
    · cases h
  | [], _ :: _, _, hc, _ => hc.elim
  | _ :: _, [], _, hc, _ => hc.elim

theorem SB_weak {b : Bool} : ∀ n, cx.SB base b n → cx.S n := fun n h => h.1
/-- the same, and what is new is told -/
theorem litsOf_fr : ∀ {cs : List C} {ys : List Value} {ls : List L}, crels base cx w cs ys → litsOf cs = some ls → frCs cs = true → Dens w (cx.SB base true) ls ys
  | [], [], ls, _, h, _ => by simp only [litsOf, Option.some.injEq] at h; subst h; trivial
  | c :: cs, y :: ys, ls, hc, h, hf => by
    unfold litsOf at h
    split at h
    · rename_i x hx
      split at h
      · rename_i xs hxs
        simp only [Option.some.injEq] at h
        subst h
        unfold frCs at hf
        split at hf
        · rename_i hfc
          refine ⟨?_, litsOf_fr hc.2.2 hxs hf⟩
          have h1 := hc.1
          cases c <;> simp only [litOf, Option.some.injEq] at hx <;> first | (subst hx) | cases hx
          · exact ⟨h1, by rw [← show y = _ from h1]; exact hc.2.1⟩
          · exact ⟨h1, by rw [← show y = _ from h1]; exact hc.2.1⟩
          · have hfc : _ = true := hfc
            subst hfc; exact h1
          · have hfc : _ = true := hfc
            subst hfc; exact h1
        · cases hf
      · cases h
    · cases h
  | [], _ :: _, _, hc, _, _ => hc.elim
  | _ :: _, [], _, hc, _, _ => hc.elim
theorem Dens.weak {S S' : Nat → Prop} (hS : ∀ b, S b → S' b) : ∀ {ls : List L} {ys : List Value}, Dens w S ls ys → Dens w S' ls ys
  | [], [], _ => trivial
  | _ :: _, _ :: _, h => ⟨Den.mono hS (fun _ _ => rfl) h.1, Dens.weak hS h.2⟩
  | [], _ :: _, h => h.elim
  | _ :: _, [], h => h.elim
theorem litsOf_any {cs : List C} {ys : List Value} {ls : List L} {b : Bool} (hc : crels base cx w cs ys) (h : litsOf cs = some ls) (hb : b = true → frCs cs = true) : Dens w (cx.SB base b) ls ys := by
  cases b with
  | true => exact litsOf_fr hc h (hb rfl)
  | false => exact Dens.weak (fun b hb => ⟨hb, fun h => by cases h⟩) (litsOf_ok hc h)

theorem Dens.length : ∀ {S : Nat → Prop} {ls : List L} {ys : List Value}, Dens w S ls ys → ls.length = ys.length
  | _, [], [], _ => rfl
  | _, _ :: _, _ :: _, h => by simp [Dens.length h.2]
  | _, [], _ :: _, h => h.elim
  | _, _ :: _, [], h => h.elim
theorem Dens.nth : ∀ {S : Nat → Prop} {ls : List L} {ys : List Value}, Dens w S ls ys → ∀ j v, ys[j]? = some v → Den w S (nth ls j) v
  | _, [], [], _, j, v, h => by simp at h
  | _, _ :: _, _ :: _, h, 0, v, hj => by simp at hj; subst hj; exact h.1
  | _, _ :: _, _ :: _, h, j + 1, v, hj => by simp at hj; exact Dens.nth h.2 j v hj
  | _, [], _ :: _, h, _, _, _ => h.elim
  | _, _ :: _, [], h, _, _, _ => h.elim

theorem setRow_Fr {g : Nat} {cs : Array Value} {W : Nat → Prop} (hW : W g) (lo : Nat) : Fr cx cx w (w.setRow g cs) W lo lo :=
  ⟨fun _ h => h, fun _ h => .inl h, fun _ _ => rfl, fun _ _ => rfl, fun _ h => h, fun _ h => .inl h, by simp [World.setRow], rfl, rfl, rfl, fun b _ hb => setRow_other w g b _ (fun e => hb (e ▸ hW)), fun _ h h' => absurd h h', fun _ _ h h' => absurd h h'⟩

theorem size_setRow (g : Nat) (cs : Array Value) : (w.setRow g cs).heap.size = w.heap.size := by simp [World.setRow]

theorem run_store_row {T T' : Nat} {ti : TI} (ht : TIok P T ti) {g off : Nat} {cur ys : List Value} {v : Value} (hv : v.cells = ys.toArray) (hl : ys.length = ti.sz) (h1 : ∀ y ∈ ys, one y = true)
    (hg : w.heap[g]? = some (.cells cur.toArray T' (0, 0))) (hle : off + ys.length ≤ cur.length) :
    (Instr.storeAt T (.pointer (some ⟨g, off, none⟩)) v).run P w = .ok () (w.setRow g (cur.take off ++ (ys ++ cur.drop (off + ys.length))).toArray) := by
  have h2 := run_size ht w
  have h3 := run_storeCells_at P g off T' ys 0 cur.toArray w hg (by simpa using hle) (fun v hv => by rw [← one_iff]; exact h1 v hv)
  simp only [Nat.add_zero] at h3
  simp [Instr.storeAt, Instr.sureAddr, storeVar, h2, hv, hl, h3]

/-- a store into a named block -/
theorem set_ok (hm : Mem base cx w s) (hS : ∀ b, cx.S b → b < w.heap.size) {i T' : Nat} {cs ds : List C} {ys zs : List Value} {g : Nat} (hbl : s.bl i = some (T', cs)) (hg : cx.β i = g) (hds : crels base cx w ds zs)
    (hh : (w.setRow g zs.toArray).heap[g]? = some (.cells zs.toArray T' (0, 0))) {K : Value → World → Prop} (hp : Post base cx w s und (.set i T' ds) K) : K undef (w.setRow g zs.toArray) := by
  subst hg
  obtain ⟨h1, h2, h3, _⟩ := hm.bl i T' cs hbl
  have hF : Fr cx cx w (w.setRow (cx.β i) zs.toArray) (Eff.W (.set i T' ds) cx) s.nx ((Eff.set i T' ds).apply s).nx := setRow_Fr (W := Eff.W (.set i T' ds) cx) rfl s.nx
  have hs : ∀ b, cx.S b → b < w.heap.size ∧ ¬ Eff.W (.set i T' ds) cx b := fun b h => ⟨hS b h, fun e => h3 ((show b = cx.β i from e) ▸ h)⟩
  have hbl' : ∀ j, (∃ b, ((Eff.set i T' ds).apply s).bl j = some b) → ∃ b, s.bl j = some b := by
    rintro j ⟨b, h⟩
    by_cases hj : j = i
    · subst hj; exact ⟨_, hbl⟩
    · simp only [Eff.apply] at h; rw [upd_ne _ _ hj] at h; exact ⟨b, h⟩
  refine hp undef _ cx hF (sv_k undef) ⟨?_, ?_, ?_, ?_, ?_⟩ (fun b h => by rw [size_setRow]; exact hS b h)
  · intro j T'' cs'' h
    simp only [Eff.apply] at h
    by_cases hj : j = i
    · subst hj
      rw [upd_same] at h
      simp only [Option.some.injEq, Prod.mk.injEq] at h
      obtain ⟨rfl, rfl⟩ := h
      exact ⟨h1, h2, h3, zs, hh, hF.crels hs hds⟩
    · rw [upd_ne _ _ hj] at h
      obtain ⟨k1, k2, k3, us, k4, k5⟩ := hm.bl j T'' cs'' h
      refine ⟨k1, k2, k3, us, ?_, hF.crels hs k5⟩
      rw [setRow_other w _ _ _ (fun e => hj (hm.inj j i ⟨_, h⟩ ⟨_, hbl⟩ e))]
      exact k4
  · intro j k hj hk h
    exact hm.inj j k (hbl' j hj) (hbl' k hk) h
  · intro j r h
    obtain ⟨k1, cells, k2, k3⟩ := hm.ow j r h
    refine ⟨k1, cells, k2.kept (row := some (cx.β i)) ⟨rfl, rfl, rfl, by rw [size_setRow]; exact Nat.le_refl _, fun b _ hb => setRow_other w _ b _ (fun e => hb (by rw [e]))⟩ ?_, fun a ha q hq => ?_⟩
    · rcases hob : (cx.η j).ownBlock with _ | g
      · exact .inl rfl
      · refine .inr fun e => ?_
        simp only [Option.some.injEq] at e
        exact (hm.owS j r g h hob).2 i ⟨_, hbl⟩ e.symm
    · obtain ⟨z, hz, hd⟩ := k3 a ha q hq
      exact ⟨z, hz, hF.den hs hd⟩
  · intro j r g h hg
    obtain ⟨k1, k2⟩ := hm.owS j r g h hg
    exact ⟨k1, fun q hq => k2 q (hbl' q hq)⟩
  · exact hm.owi

/-- a store into a row of the call's own -/
theorem seta_ok (hm : Mem base cx w s) (hS : ∀ b, cx.S b → b < w.heap.size) {i : Nat} {r : OR} (how : s.ow i = some r) {idx j : Nat} {ls : List L} {ys : List Value} (hidx : idx < r.n) (hj : j + ys.length ≤ r.sz) {fq : Bool} (hls : Dens w (cx.SB base (r.fr && fq)) ls ys) (h1 : ∀ y ∈ ys, one y = true)
    {T : Nat} {ti : TI} (ht : TIok P T ti) {v : Value} (hv : v.cells = ys.toArray) (hl : ys.length = ti.sz) {g : Nat} (hg : (cx.η i).ownBlock = some g) {K : Value → World → Prop} (hp : Post base cx w s und (.seta i { r with f := setf r.f idx j ls, fr := r.fr && fq }) K) :
    ∃ w', (Instr.storeAt T (.pointer (some ⟨g, idx * r.sz + j, none⟩)) v).run P w = .ok () w' ∧ K undef w' := by
  obtain ⟨k1, cells, k2, k3⟩ := hm.ow i r how
  rcases k2.2 with ⟨h4, h5⟩ | ⟨g', cap, cur, h4, hb, hh, hnc, hcm, hcs, htake⟩
  · omega
  rw [h4] at hg
  simp only [Value.ownBlock, Option.some.injEq] at hg
  subst hg
  have hlen : cells.length = r.n * r.sz := k2.1
  have hin : idx * r.sz + j + ys.length ≤ r.n * r.sz := by
    have : (idx + 1) * r.sz ≤ r.n * r.sz := Nat.mul_le_mul_right _ hidx
    rw [Nat.add_mul] at this; omega
  have hcap : r.n * r.sz ≤ cap * r.sz := Nat.mul_le_mul_right _ hnc
  have hcur : cur = cur.toList.toArray := by simp
  rw [hcur] at hh
  have hcl : cur.toList.length = cap * r.sz := by simpa using hcs
  have hrun := run_store_row (P := P) (w := w) ht (g := g') (off := idx * r.sz + j) hv hl h1 hh (by omega)
  refine ⟨_, hrun, ?_⟩
  generalize hnew : (cur.toList.take (idx * r.sz + j) ++ (ys ++ cur.toList.drop (idx * r.sz + j + ys.length))) = new at *
  have hnl : new.length = cap * r.sz := by rw [← hnew]; simp; omega
  have hW : Eff.W (.seta i { r with f := setf r.f idx j ls, fr := r.fr && fq }) cx g' := by show (cx.η i).ownBlock = some g'; rw [h4]; rfl
  have hF : Fr cx cx w (w.setRow g' new.toArray) (Eff.W (.seta i { r with f := setf r.f idx j ls, fr := r.fr && fq }) cx) s.nx ((Eff.seta i { r with f := setf r.f idx j ls, fr := r.fr && fq }).apply s).nx := setRow_Fr (W := Eff.W (.seta i { r with f := setf r.f idx j ls, fr := r.fr && fq }) cx) hW s.nx
  have hnS : ¬ cx.S g' := (hm.owS i r g' how (by rw [h4]; rfl)).1
  have hs : ∀ b, cx.S b → b < w.heap.size ∧ ¬ Eff.W (.seta i { r with f := setf r.f idx j ls, fr := r.fr && fq }) cx b := fun b h => ⟨hS b h, fun e => by
    have e' : (cx.η i).ownBlock = some b := e
    rw [h4] at e'
    simp only [Value.ownBlock, Option.some.injEq] at e'
    exact hnS (e' ▸ h)⟩
  have hh' := setRow_heap w g' cur.toList.toArray new.toArray r.T (0, 0) hh
  refine hp undef _ cx hF (sv_k undef) ⟨?_, ?_, ?_, ?_, ?_⟩ (fun b h => by rw [size_setRow]; exact hS b h)
  · intro q T'' cs'' h
    obtain ⟨m1, m2, m3, us, m4, m5⟩ := hm.bl q T'' cs'' h
    refine ⟨m1, m2, m3, us, ?_, hF.crels hs m5⟩
    rw [setRow_other w _ _ _ ((hm.owS i r g' how (by rw [h4]; rfl)).2 q ⟨_, h⟩)]
    exact m4
  · exact hm.inj
  · intro q r' h
    simp only [Eff.apply] at h
    by_cases hq : q = i
    · subst hq
      rw [upd_same] at h
      simp only [Option.some.injEq] at h
      subst h
      refine ⟨k1, new.take (r.n * r.sz), ⟨(by rw [List.length_take, hnl]; exact Nat.min_eq_left hcap), .inr ⟨g', cap, new.toArray, h4, hb, hh', hnc, hcm, by simpa using hnl, by simp⟩⟩, fun a ha b hb => ?_⟩
      have hab : a * r.sz + b < r.n * r.sz := by
        have : (a + 1) * r.sz ≤ r.n * r.sz := Nat.mul_le_mul_right _ ha
        rw [Nat.add_mul] at this
        have hb' : b < r.sz := hb
        omega
      show ∃ z, (new.take (r.n * r.sz))[a * r.sz + b]? = some z ∧ Den _ _ (setf r.f idx j ls a b) z
      unfold setf
      have hpos : a = idx ∧ j ≤ b ∧ b < j + ls.length ↔ idx * r.sz + j ≤ a * r.sz + b ∧ a * r.sz + b < idx * r.sz + j + ys.length := by
        rw [hls.length]
        constructor
        · rintro ⟨rfl, h6, h7⟩; omega
        · rintro ⟨h6, h7⟩
          have hb' : b < r.sz := hb
          have ha' : a = idx := by
            rcases Nat.lt_trichotomy a idx with hlt | heq | hgt
            · have : (a + 1) * r.sz ≤ idx * r.sz := Nat.mul_le_mul_right _ hlt
              rw [Nat.add_mul] at this; omega
            · exact heq
            · have : (idx + 1) * r.sz ≤ a * r.sz := Nat.mul_le_mul_right _ hgt
              rw [Nat.add_mul] at this; omega
          subst ha'
          omega
      by_cases hc : a = idx ∧ j ≤ b ∧ b < j + ls.length
      · rw [if_pos hc]
        obtain ⟨h6, h7⟩ := hpos.1 hc
        obtain ⟨rfl, h8, h9⟩ := hc
        have hy : b - j < ys.length := by rw [← hls.length]; omega
        refine ⟨ys[b - j], ?_, hF.den (fr := r.fr && fq) hs (hls.nth (b - j) _ (List.getElem?_eq_getElem hy))⟩
        rw [List.getElem?_take, if_pos hab, ← hnew, List.getElem?_append_right (by simp; omega), List.getElem?_append_left (by simp; omega)]
        simp only [List.length_take, hcl]
        rw [List.getElem?_eq_some_iff]
        refine ⟨by omega, ?_⟩
        congr 1
        omega
      · rw [if_neg hc]
        obtain ⟨z, hz, hd⟩ := k3 a ha b hb
        refine ⟨z, ?_, hF.den hs (Den.mono (fun b hb => ⟨hb.1, fun h => hb.2 (by revert h; cases r.fr <;> simp)⟩) (fun _ _ => rfl) hd)⟩
        rw [← htake, List.getElem?_take, if_pos hab] at hz
        rw [List.getElem?_take, if_pos hab, ← hnew]
        have hn : ¬ (idx * r.sz + j ≤ a * r.sz + b ∧ a * r.sz + b < idx * r.sz + j + ys.length) := fun h => hc (hpos.2 h)
        by_cases hlt : a * r.sz + b < idx * r.sz + j
        · rw [List.getElem?_append_left (by simp; omega), List.getElem?_take, if_pos hlt]; exact hz
        · rw [List.getElem?_append_right (by simp; omega), List.getElem?_append_right (by simp; omega), List.getElem?_drop]
          simp only [List.length_take, hcl]
          rw [← hz]
          congr 1
          omega
    · rw [upd_ne _ _ hq] at h
      obtain ⟨m1, us, m2, m3⟩ := hm.ow q r' h
      refine ⟨m1, us, m2.kept (row := some g') ⟨rfl, rfl, rfl, by rw [size_setRow]; exact Nat.le_refl _, fun b _ hb => setRow_other w _ b _ (fun e => hb (by rw [e]))⟩ ?_, fun a ha q hq => ?_⟩
      · rcases hob : (cx.η q).ownBlock with _ | g2
        · exact .inl rfl
        · refine .inr fun e => ?_
          simp only [Option.some.injEq] at e
          subst e
          exact hq (hm.owi q i r' r g2 h how hob (by rw [h4]; rfl))
      · obtain ⟨z, hz, hd⟩ := m3 a ha q hq
        exact ⟨z, hz, hF.den hs hd⟩
  · intro q r' g2 h hg
    have h' : ∃ r'', s.ow q = some r'' := by
      simp only [Eff.apply] at h
      by_cases hq : q = i
      · subst hq; exact ⟨_, how⟩
      · rw [upd_ne _ _ hq] at h; exact ⟨_, h⟩
    obtain ⟨r'', h'⟩ := h'
    exact hm.owS q r'' g2 h' hg
  · intro p q r1 r2 g2 hp hq h5 h6
    have h' : ∀ q r', ((Eff.seta i { r with f := setf r.f idx j ls, fr := r.fr && fq }).apply s).ow q = some r' → ∃ r'', s.ow q = some r'' := by
      intro q r' h
      simp only [Eff.apply] at h
      by_cases hq : q = i
      · subst hq; exact ⟨_, how⟩
      · rw [upd_ne _ _ hq] at h; exact ⟨_, h⟩
    obtain ⟨_, hp⟩ := h' p r1 hp
    obtain ⟨_, hq⟩ := h' q r2 hq
    exact hm.owi p q _ _ g2 hp hq h5 h6

theorem store_ok (hE : EnvOK P E) (hm : Mem base cx w s) (hS : ∀ b, cx.S b → b < w.heap.size) (hv : ∀ x, svrel base cx w (opv s x) (a.eval x)) {T : Nat} {x y : Operand} {ob : Option Prop} {sv : SV} {e : Eff} (he : evStore E.tt s T (opv s x) (opv s y) = some (ob, sv, e)) (ho : o.op = .store T x y)
    (hob : ∀ p, ob = some p → p) (hp : Post base cx w s sv e fun y w' => next (a.put o.dst y) w') : o.wp P a w next Q := by
  have hx := hv x
  unfold evStore at he
  split at he
  · cases he
  rename_i ti ht
  split at he
  · cases he
  rename_i xs hxs
  obtain ⟨ys, hy1, hy2⟩ := cells_ok (hv y) hxs
  split at he
  · cases he
  rename_i hlen
  have hl : ys.length = ti.sz := by rw [← hy2.length]; exact beq_eq hlen
  split at he
  · rename_i i off hsv
    rw [hsv] at hx
    obtain ⟨⟨h1, h2⟩, _⟩ := hx
    split at he
    · rename_i T' cs hbl
      split at he
      · rename_i hle
        simp only [Option.some.injEq, Prod.mk.injEq] at he
        obtain ⟨rfl, rfl, rfl⟩ := he
        obtain ⟨_, _, _, cur, h3, h4⟩ := hm.bl i T' cs hbl
        have hle' : off + ys.length ≤ cur.length := by rw [← h4.length, hl]; exact ble_le hle
        have hrun := run_store_row (hE.tt T ti ht) hy1 hl (hy2.one) h3 hle'
        refine skip_ok (w' := w.setRow (cx.β i) (cur.take off ++ (ys ++ cur.drop (off + ys.length))).toArray) (by simp [execOp, ho, h2, hrun]) ?_
        exact set_ok (ys := ys) (K := fun y w' => next (a.put o.dst y) w') hm hS hbl rfl (h4.lay off hy2) (setRow_heap w _ _ _ T' (0, 0) h3) hp
      · cases he
    · cases he
  · rename_i i sz idx j hsv
    rw [hsv] at hx
    obtain ⟨⟨h1, g, n, cap, h2, h3⟩, _⟩ := hx
    split at he
    · rename_i r how
      split at he
      · rename_i hc
        simp only [Bool.and_eq_true] at hc
        have hsz := beq_eq hc.1
        have hle := ble_le hc.2
        split at he
        · rename_i ls hls
          simp only [Option.some.injEq, Prod.mk.injEq] at he
          obtain ⟨rfl, rfl, rfl⟩ := he
          subst hsz
          obtain ⟨w', hr, hk⟩ := seta_ok (P := P) (K := fun y w' => next (a.put o.dst y) w') hm hS how (hob _ rfl) (by rw [hl]; exact hle) (litsOf_any hy2 hls (by cases r.fr <;> simp)) hy2.one (hE.tt T ti ht) hy1 hl (g := g) (by rw [h2]; rfl) hp
          exact skip_ok (w' := w') (by simp [execOp, ho, h3, hr]) hk
        · cases he
      · cases he
    · cases he
  · cases he
end
end Go.Proofs.YtggappbiedkopaaGreat.SX
