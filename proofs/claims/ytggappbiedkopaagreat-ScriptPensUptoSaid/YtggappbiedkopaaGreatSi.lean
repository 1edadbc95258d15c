/- The symbolic executor, part i: appends, made rows, calls by contract; every operation. -/
import Derived.Test.YtggappbiedkopaaGreatSha
import Derived.Test.YtggappbiedkopaaGreatShz
import Derived.Laws.BytesString
namespace Go.Proofs.YtggappbiedkopaaGreat.SX
open Go Go.RowKit
set_option linter.unusedVariables false
set_option linter.unusedSimpArgs false

section
variable {P : Program} {E : Env} {base : Nat} {cx : Cx} {w w' : World} {s : SS} {a : Act} {o : Oper} {next : Act → World → Prop} {Q : Exit → Act → World → Prop}

/-- a slice literal is a row of one's own -/
theorem lit_owns (hE : EnvOK P E) (hm : Mem base cx w s) (hS : ∀ b, cx.S b → b < w.heap.size) {b cnt T m : Nat} {cs : List C} {ei : TI} {g : Nat → Nat → L} {y : Value} (hbl : s.bl b = some (T, cs)) (hei : E.tt T = some ei) (hx : svrel base cx w (.o (.s b cnt)) y) (h : srcOf s E.tt ei.sz (.s b cnt) = some (m, g)) :
    ∃ xs, w.ownsRow base T ei.sz y m xs ∧ ∀ a, a < m → ∀ j, j < ei.sz → ∃ z, xs[a * ei.sz + j]? = some z ∧ Den w (cx.SB base (srcFr s (.s b cnt))) (g a j) z := by
  obtain ⟨A, cap, news, k1, k2, k3, k4, k5⟩ := srcOf_ok hE hm hS hx h
  obtain ⟨m1, m2, m3, ys, m4, m5⟩ := hm.bl b T cs hbl
  have hy : y = .slice (some ⟨cx.β b, 0, none⟩) cnt cnt := hx.1.2
  rw [hy] at k1
  simp only [Value.slice.injEq] at k1
  obtain ⟨rfl, rfl, rfl⟩ := k1
  have hlen : cnt * ei.sz = ys.length ∧ cnt ≤ 4096 := by
    simp only [srcOf, toL, hbl, hei] at h
    split at h
    · rename_i h'
      split at h'
      · rename_i ls hls
        split at h'
        · rename_i hbe
          simp only [Bool.and_eq_true] at hbe
          have e1 := Nat.eq_of_beq_eq_true hbe.1
          have e2 := Nat.le_of_ble_eq_true hbe.2
          have := (litsOf_ok m5 hls).length
          exact ⟨by omega, e2⟩
        · cases h'
      · cases h'
    · cases h
  have hnews : news = ys := by
    refine List.ext_getElem (by omega) fun j h1 h2 => ?_
    have h0 : 0 < cnt := by
      rcases Nat.eq_zero_or_pos cnt with h0 | h0
      · subst h0; rw [Nat.zero_mul] at k2; omega
      · exact h0
    obtain ⟨ad, q1, q2⟩ := k3 h0
    simp only [Option.some.injEq] at q1
    subst q1
    have q3 := q2 j _ (List.getElem?_eq_getElem h1)
    rw [add_none, block_cell m4, Nat.zero_add, List.getElem?_eq_getElem h2] at q3
    simp only [Option.some.injEq] at q3
    exact q3.symm
  subst hnews
  refine ⟨news, ⟨k2, .inr ⟨cx.β b, cnt, news.toArray, hy, m2, m4, Nat.le_refl _, by simp only [maxLen]; omega, by simp; omega, ?_⟩⟩, k5⟩
  rw [List.toList_toArray, hlen.1, List.take_length]

theorem append_ok (hE : EnvOK P E) (hb : base ≤ w.heap.size) (hm : Mem base cx w s) (hS : ∀ b, cx.S b → b < w.heap.size) (hD : ∀ i, cx.D i → i ≠ s.nx) (hv : ∀ x, svrel base cx w (opv s x) (a.eval x)) {T : Nat} {x y : Operand} {ob : Option Prop} {sv : SV} {e : Eff} (he : evAppend E.tt s T (opv s x) (opv s y) = some (ob, sv, e))
    (ho : o.op = .call { callee := .builtin .append, args := #[x, y], argTypes := #[T, T] }) (hob : ∀ p, ob = some p → p) (hp : Post base cx w s sv e fun y w' => next (a.put o.dst y) w') : o.wp P a w next Q := by
  have hx := hv x
  have hy := hv y
  unfold evAppend at he
  split at he
  · cases he
  rename_i ti ht
  have hk := (hE.tt T ti ht).kd
  split at he
  · rename_i e' hkd
    rw [hkd] at hk
    split at he
    · cases he
    rename_i ei hei
    have hte := hE.tt _ ei hei
    split at he
    · rename_i yc hyc
      rw [hyc] at hy
      split at he
      · cases he
      rename_i m g hsrc
      split at hsrc
      · cases hsrc
      rename_i hsz
      obtain ⟨A, cap, news, k1, k2, k3, k4, k5⟩ := srcOf_ok hE hm hS hy hsrc
      have hex : ∀ v' w', (Builtin.append_ #[T, T] o.type #[a.eval x, a.eval y]).run P w = .ok v' w' → (execOp a.eval o).run P w = .ok (.value v') w' := by
        intro v' w' h
        simp [execOp, ho, resolve, invoke, builtin, h]
      split at he
      · rename_i hsv
        rw [hsv] at hx
        have hx := rel_k hx
        simp only [Option.some.injEq, Prod.mk.injEq] at he
        obtain ⟨rfl, rfl, rfl⟩ := he
        obtain ⟨hb1, hb2⟩ := hob _ rfl
        obtain ⟨v', w', r1, r2, r3, r4⟩ := append_run (ty := o.type) hb hk hte hsz (World.ownsRow_nil w base e' ei.sz) (A := A) (c := cap) k2 k3 k4 (by omega) (by rw [Nat.zero_add]; exact hb1)
        refine val_ok (hex v' w' (by rw [hx, k1]; exact r1)) ?_
        rw [Nat.zero_add, List.nil_append] at r2
        exact own_new (K := fun y w' => next (a.put o.dst y) w') hb hm hS hD (.inl ⟨rfl, rfl⟩) rfl r2 r3 r4 k5 hp
      · rename_i i hsv
        rw [hsv] at hx
        obtain ⟨⟨q1, q2⟩, _⟩ := hx
        split at he
        · rename_i r how
          split at he
          · rename_i hc
            simp only [Bool.and_eq_true] at hc
            have hrsz := beq_eq hc.1
            have hrT := beq_eq hc.2
            simp only [Option.some.injEq, Prod.mk.injEq] at he
            obtain ⟨rfl, rfl, rfl⟩ := he
            obtain ⟨hb1, hb2⟩ := hob _ rfl
            obtain ⟨m1, cells, m2, m3⟩ := hm.ow i r how
            rw [hrT, hrsz] at m2
            obtain ⟨v', w', r1, r2, r3, r4⟩ := append_run (ty := o.type) hb hk hte hsz m2 (A := A) (c := cap) k2 k3 k4 hb2 hb1
            refine val_ok (hex v' w' (by rw [q2, k1]; exact r1)) ?_
            refine own_new (r := ⟨e', ei.sz, r.n + m, appf r.f r.n g, r.fr && srcFr s yc⟩) (K := fun y w' => next (a.put o.dst y) w') hb hm hS hD (.inr (.inl ⟨i, r, rfl, how, rfl⟩)) rfl r2 r3 r4 ?_ hp
            intro b hb' j hj
            show ∃ z, (cells ++ news)[b * ei.sz + j]? = some z ∧ Den w (cx.SB base (r.fr && srcFr s yc)) (appf r.f r.n g b j) z
            have hcl : cells.length = r.n * ei.sz := m2.1
            have hj' : j < ei.sz := hj
            unfold appf
            by_cases hbn : b < r.n
            · rw [if_pos hbn]
              obtain ⟨z, hz, hd⟩ := m3 b hbn j (by rw [hrsz]; exact hj')
              rw [hrsz] at hz
              have hlt : b * ei.sz + j < cells.length := (List.getElem?_eq_some_iff.1 hz).1
              exact ⟨z, by rw [List.getElem?_append_left hlt]; exact hz, hd.lt fun b hb => ⟨hb.1, fun h => hb.2 (by revert h; cases r.fr <;> simp)⟩⟩
            · rw [if_neg hbn]
              have hbm : b < r.n + m := hb'
              obtain ⟨z, hz, hd⟩ := k5 (b - r.n) (by omega) j hj'
              refine ⟨z, ?_, hd.lt fun b hb => ⟨hb.1, fun h => hb.2 (by revert h; cases r.fr <;> simp)⟩⟩
              have hge : r.n * ei.sz ≤ b * ei.sz := Nat.mul_le_mul_right _ (by omega)
              rw [List.getElem?_append_right (by omega), hcl, ← hz]
              congr 1
              rw [Nat.mul_sub_right_distrib] <;> omega
          · cases he
        · cases he
      · rename_i b cnt hsv
        rw [hsv] at hx
        split at he
        · rename_i T' cs hbl
          split at he
          · rename_i hbe
            have hT' := beq_eq hbe
            subst hT'
            split at he
            · rename_i m0 g0 hsrc0
              simp only [Option.some.injEq, Prod.mk.injEq] at he
              obtain ⟨rfl, rfl, rfl⟩ := he
              obtain ⟨hb1, hb2⟩ := hob _ rfl
              obtain ⟨xs0, m2, m3⟩ := lit_owns hE hm hS hbl hei hx hsrc0
              obtain ⟨v', w', r1, r2, r3, r4⟩ := append_run (ty := o.type) hb hk hte hsz m2 (A := A) (c := cap) k2 k3 k4 hb2 hb1
              refine val_ok (hex v' w' (by rw [k1]; exact r1)) ?_
              refine own_new (r := ⟨T', ei.sz, m0 + m, appf g0 m0 g, srcFr s (.s b cnt) && srcFr s yc⟩) (K := fun y w' => next (a.put o.dst y) w') hb hm hS hD (.inr (.inr ⟨b, (T', cs), rfl, hbl, by rw [hx.1.2]; rfl⟩)) rfl r2 r3 r4 ?_ hp
              intro b' hb' j hj
              show ∃ z, (xs0 ++ news)[b' * ei.sz + j]? = some z ∧ Den w (cx.SB base (srcFr s (.s b cnt) && srcFr s yc)) (appf g0 m0 g b' j) z
              have hcl : xs0.length = m0 * ei.sz := m2.1
              have hj' : j < ei.sz := hj
              unfold appf
              by_cases hbn : b' < m0
              · rw [if_pos hbn]
                obtain ⟨z, hz, hd⟩ := m3 b' hbn j hj'
                have hlt : b' * ei.sz + j < xs0.length := (List.getElem?_eq_some_iff.1 hz).1
                exact ⟨z, by rw [List.getElem?_append_left hlt]; exact hz, hd.lt fun b hb => ⟨hb.1, fun h => hb.2 (by revert h; cases srcFr s (.s _ cnt) <;> simp)⟩⟩
              · rw [if_neg hbn]
                have hbm : b' < m0 + m := hb'
                obtain ⟨z, hz, hd⟩ := k5 (b' - m0) (by omega) j hj'
                refine ⟨z, ?_, hd.lt fun b hb => ⟨hb.1, fun h => hb.2 (by revert h; cases srcFr s (.s _ cnt) <;> simp)⟩⟩
                have hge : m0 * ei.sz ≤ b' * ei.sz := Nat.mul_le_mul_right _ (by omega)
                rw [List.getElem?_append_right (by omega), hcl, ← hz]
                congr 1
                rw [Nat.mul_sub_right_distrib] <;> omega
            · cases he
          · cases he
        · cases he
      · cases he
    · cases he
  · cases he

theorem appendZ_ok (hE : EnvOK P E) (hb : base ≤ w.heap.size) (hm : Mem base cx w s) (hS : ∀ b, cx.S b → b < w.heap.size) (hD : ∀ i, cx.D i → i ≠ s.nx) (hv : ∀ x, svrel base cx w (opv s x) (a.eval x)) {T T' : Nat} {x y : Operand} {ob : Option Prop} {sv : SV} {e : Eff} (he : evAppendZ E.tt s T T' (opv s x) (opv s y) = some (ob, sv, e))
    (ho : o.op = .call { callee := .builtin .append, args := #[x, y], argTypes := #[T, T'] }) (hob : ∀ p, ob = some p → p) (hp : Post base cx w s sv e fun y w' => next (a.put o.dst y) w') : o.wp P a w next Q := by
  have hx := hv x
  have hy := hv y
  unfold evAppendZ at he
  split at he
  · rename_i i hsv
    rw [hsv] at hx
    obtain ⟨⟨q1, q2⟩, _⟩ := hx
    split at he
    · rename_i r how
      split at he
      · rename_i ti' ht'
        have hk' := (hE.tt T' ti' ht').kd
        split at he
        · rename_i kx hkd'
          rw [hkd'] at hk'
          split at he
          · rename_i yc hyc
            rw [hyc] at hy
            split at he
            · rename_i q n hvl
              have hyv := valOf_ok hy.1 hvl
              split at he
              · rename_i ti ht
                have hk := (hE.tt T ti ht).kd
                split at he
                · rename_i e' hkd
                  rw [hkd] at hk
                  split at he
                  · rename_i ei hei
                    have hte := hE.tt _ ei hei
                    split at he
                    · rename_i hc
                      simp only [Bool.and_eq_true] at hc
                      have hrsz := beq_eq hc.1.1
                      have hrT := beq_eq hc.1.2
                      have hsz : ei.sz ≠ 0 := by have := blt_lt hc.2; omega
                      simp only [Option.some.injEq, Prod.mk.injEq] at he
                      obtain ⟨rfl, rfl, rfl⟩ := he
                      obtain ⟨hb0, hb1, hb2⟩ := hob _ rfl
                      obtain ⟨m, rfl⟩ := Int.eq_ofNat_of_zero_le hb0
                      rw [Int.toNat_natCast] at hb1 hb2 hp
                      obtain ⟨m1, cells, m2, m3⟩ := hm.ow i r how
                      rw [hrT, hrsz] at m2
                      obtain ⟨v', w', r1, r2, r3, r4⟩ := appendz_run (ty := o.type) (q := q) hb hk hk' hte hsz m2 hb2 hb1
                      have hex : (execOp a.eval o).run P w = .ok (.value v') w' := by
                        have h : (Builtin.append_ #[T, T'] o.type #[a.eval x, a.eval y]).run P w = .ok v' w' := by rw [q2, hyv]; exact r1
                        simp [execOp, ho, resolve, invoke, builtin, h]
                      refine val_ok hex ?_
                      refine own_new (r := ⟨e', ei.sz, r.n + m, appf r.f r.n fun _ j => .lit (ei.z.getD j undef), r.fr⟩) (K := fun y w' => next (a.put o.dst y) w') hb hm hS hD (.inr (.inl ⟨i, r, rfl, how, rfl⟩)) rfl r2 r3 r4 ?_ hp
                      intro b hb' j hj
                      show ∃ z, (cells ++ (Builtin.zeroCells ei.z.toArray m).toList)[b * ei.sz + j]? = some z ∧ Den w (cx.SB base r.fr) (appf r.f r.n (fun _ j => .lit (ei.z.getD j undef)) b j) z
                      obtain ⟨_, _, _, _, _, _, _, hzl, hz1⟩ := hte.info
                      have hcl : cells.length = r.n * ei.sz := m2.1
                      have hj' : j < ei.sz := hj
                      unfold appf
                      by_cases hbn : b < r.n
                      · rw [if_pos hbn]
                        obtain ⟨z, hz, hd⟩ := m3 b hbn j (by rw [hrsz]; exact hj')
                        rw [hrsz] at hz
                        have hlt : b * ei.sz + j < cells.length := (List.getElem?_eq_some_iff.1 hz).1
                        exact ⟨z, by rw [List.getElem?_append_left hlt]; exact hz, hd⟩
                      · rw [if_neg hbn]
                        have hbm : b < r.n + m := hb'
                        have hge : r.n * ei.sz ≤ b * ei.sz := Nat.mul_le_mul_right _ (by omega)
                        have hlt : (b - r.n) * ei.sz + j < m * ei.sz := by
                          have : (b - r.n + 1) * ei.sz ≤ m * ei.sz := Nat.mul_le_mul_right _ (by omega)
                          rw [Nat.add_mul] at this; omega
                        refine ⟨ei.z.getD j undef, ?_, rfl, ?_⟩
                        · rw [List.getElem?_append_right (by omega), hcl]
                          have he : b * ei.sz + j - r.n * ei.sz = (b - r.n) * ei.sz + j := by rw [Nat.mul_sub_right_distrib]; omega
                          rw [he]
                          simp only [Builtin.zeroCells, Array.toList_map, Array.toList_range, List.size_toArray, hzl]
                          rw [List.getElem?_map, List.getElem?_range hlt]
                          have hmod : ((b - r.n) * ei.sz + j) % ei.sz = j := by
                            rw [Nat.add_comm, Nat.mul_comm, Nat.add_mul_mod_self_left, Nat.mod_eq_of_lt hj']
                          rw [Option.map_some, hmod]
                          simp [hzl, hj']
                        · rw [List.getD_eq_getElem?_getD, List.getElem?_eq_getElem (by omega)]
                          exact allOne_mem hz1 _ (List.getElem_mem _)
                    · cases he
                  · cases he
                · cases he
              · cases he
            · cases he
          · cases he
        · cases he
      · cases he
    · cases he
  · cases he

theorem make_ok (hE : EnvOK P E) (hb : base ≤ w.heap.size) (hm : Mem base cx w s) (hS : ∀ b, cx.S b → b < w.heap.size) (hD : ∀ i, cx.D i → i ≠ s.nx) {T e : Nat} {ti ei : TI} (ht : E.tt T = some ti) (hkd : ti.kd = .sl e) (hei : E.tt e = some ei) {l c : Operand} {k k' : IntKind} {n m : Int} (hl : a.eval l = .int k n) (hc : a.eval c = .int k' m)
    (hob : n = m ∧ 0 ≤ n ∧ ei.byt * n ≤ 140737488355328 ∧ n ≤ 9223372036854775807) (ho : o.op = .makeSlice T l c) (hp : Post base cx w s (.o (.h s.nx)) (.own ⟨e, ei.sz, n.toNat, fun _ j => .lit (ei.z.getD j undef), true⟩) fun y w' => next (a.put o.dst y) w') : o.wp P a w next Q := by
  obtain ⟨h1, h2, h3, h4⟩ := hob
  subst h1
  obtain ⟨q, rfl⟩ := Int.eq_ofNat_of_zero_le h2
  have hk := (hE.tt T ti ht).kd
  rw [hkd] at hk
  have hte := hE.tt e ei hei
  obtain ⟨i, zv, k1, k2, k3, k4, k5, k6, k7⟩ := hte.info
  have hbq : i.bytes * q ≤ 281474976710656 := by
    rw [k3]
    have : ((ei.byt * q : Nat) : Int) ≤ 140737488355328 := by push_cast; exact h3
    omega
  obtain ⟨w', r1, r2, r3⟩ := run_make_full (P := P) w base T e i zv ei.sz hk k1 k4 k2 k k' q hbq (by simp only [maxLen]; omega) hb
  refine val_ok (w' := w') (y := .slice (some ⟨w.heap.size, 0, none⟩) q q) (by simp [execOp, ho, hl, hc, r1]) ?_
  refine own_new (r := ⟨e, ei.sz, (q : Int).toNat, fun _ j => .lit (ei.z.getD j undef), true⟩) (vo := .slice none 0 0) (K := fun y w' => next (a.put o.dst y) w') hb hm hS hD (.inl ⟨rfl, rfl⟩) rfl (by simpa using r2) r3 (fun g hg => .inr (by simp [Value.ownBlock] at hg; exact hg.symm)) ?_ hp
  intro b hb' j hj
  have hj' : j < ei.sz := hj
  have hbq' : b < q := by simpa using hb'
  have hlt : b * ei.sz + j < q * ei.sz := by
    have : (b + 1) * ei.sz ≤ q * ei.sz := Nat.mul_le_mul_right _ hbq'
    rw [Nat.add_mul] at this; omega
  have hzc : zv.cells = ei.z.toArray := by rw [← k5]
  refine ⟨ei.z.getD j undef, ?_, rfl, ?_⟩
  · simp only [madeCells, Array.toList_map, Array.toList_range, List.getElem?_map, List.getElem?_range hlt, Option.map_some, hzc]
    have : (b * ei.sz + j) % ei.z.toArray.size = j := by
      simp only [List.size_toArray, k6]
      rw [Nat.add_comm, Nat.mul_comm, Nat.add_mul_mod_self_left, Nat.mod_eq_of_lt hj']
    rw [this]
    simp [k6, hj']
  · rw [List.getD_eq_getElem?_getD, List.getElem?_eq_getElem (by omega)]
    exact allOne_mem k7 _ (List.getElem_mem _)

theorem toLs_ok (hE : EnvOK P E) (hm : Mem base cx w s) (hS : ∀ b, cx.S b → b < w.heap.size) : ∀ {cs : List C} {ys : List Value} {ls : List L}, crels base cx w cs ys → toLs s E.tt cs = some ls → Dens w (fun b => b < w.heap.size) ls ys
  | [], [], ls, _, h => by simp only [toLs, Option.some.injEq] at h; subst h; trivial
  | c :: cs, y :: ys, ls, hc, h => by
    unfold toLs at h
    split at h
    · rename_i x hx
      split at h
      · rename_i xs hxs
        simp only [Option.some.injEq] at h
        subst h
        exact ⟨(toL_ok hE hm hS hc.1 hc.2.1 hx).1, toLs_ok hE hm hS hc.2.2 hxs⟩
      · cases h
    · cases h
  | [], _ :: _, _, hc, _ => hc.elim
  | _ :: _, [], _, hc, _ => hc.elim

theorem litsOfD_ok (hE : EnvOK P E) (hm : Mem base cx w s) (hS : ∀ b, cx.S b → b < w.heap.size) : ∀ {cs : List C} {ys : List Value} {ls : List L}, crels base cx w cs ys → litsOfD s E.tt cs = some ls → Dens w (fun b => b < w.heap.size) ls ys
  | [], [], ls, _, h => by simp only [litsOfD, Option.some.injEq] at h; subst h; trivial
  | c :: cs, y :: ys, ls, hc, h => by
    unfold litsOfD at h
    split at h
    · rename_i x hx
      split at h
      · rename_i xs hxs
        simp only [Option.some.injEq] at h
        subst h
        refine ⟨?_, litsOfD_ok hE hm hS hc.2.2 hxs⟩
        unfold litOfD at hx
        split at hx
        · exact (toL_ok hE hm hS hc.1 hc.2.1 hx).1
        · exact (toL_ok hE hm hS hc.1 hc.2.1 hx).1
        · have h1 : litsOf [c] = some [x] := by unfold litsOf; rw [hx]; rfl
          have h2 : crels base cx w [c] [y] := ⟨hc.1, hc.2.1, trivial⟩
          exact (litsOf_ok h2 h1).1.lt hS
      · cases h
    · cases h
  | [], _ :: _, _, hc, _ => hc.elim
  | _ :: _, [], _, hc, _ => hc.elim
theorem toLD2_ok (hE : EnvOK P E) (hm : Mem base cx w s) (hS : ∀ b, cx.S b → b < w.heap.size) {c : C} {l : L} {y : Value} (hc : crel base cx w c y) (h : toLD2 s E.tt c = some l) : one y = true ∧ Den w (fun b => b < w.heap.size) l y := by
  unfold toLD2 at h
  split at h
  · rename_i i cnt
    split at h
    · rename_i T cs hbl
      split at h
      · rename_i ti ht
        split at h
        · rename_i ls hls
          split at h
          · rename_i hbe
            simp only [Option.some.injEq] at h; subst h
            simp only [Bool.and_eq_true] at hbe
            have hlen := beq_eq hbe.1
            obtain ⟨m1, m2, m3, ys, m4, m5⟩ := hm.bl i T cs hbl
            have hd := litsOfD_ok hE hm hS m5 hls
            have hyl := hd.length
            have hcnt : cnt ≤ maxLen := Nat.le_trans (ble_le hbe.2) (by simp [maxLen])
            refine ⟨by rw [hc.2]; rfl, _, cnt, hc.2, Nat.le_refl _, hcnt, fun _ => ⟨_, rfl, (Array.getElem?_eq_some_iff.1 m4).1, fun a ha b hb => ?_⟩⟩
            have hlt : a * ti.sz + b < ys.length := by
              have : (a + 1) * ti.sz ≤ cnt * ti.sz := Nat.mul_le_mul_right _ ha
              rw [Nat.add_mul] at this; omega
            refine ⟨ys[a * ti.sz + b], ?_, hd.nth _ _ (List.getElem?_eq_getElem hlt)⟩
            rw [add_none, block_cell m4, Nat.zero_add, List.getElem?_eq_getElem hlt]
          · cases h
        · cases h
      · cases h
    · cases h
  · cases h
theorem toLD_ok (hE : EnvOK P E) (hm : Mem base cx w s) (hS : ∀ b, cx.S b → b < w.heap.size) {c : C} {l : L} {y : Value} (hc : crel base cx w c y) (h1 : toL s E.tt c = some l → one y = true) (h : toLD s E.tt c = some l) : Den w (fun b => b < w.heap.size) l y := by
  unfold toLD at h
  split at h
  · rename_i l' hl
    simp only [Option.some.injEq] at h; subst h
    exact (toL_ok hE hm hS hc (h1 hl) hl).1
  · exact (toLD2_ok hE hm hS hc h).2
theorem toLsD_ok (hE : EnvOK P E) (hm : Mem base cx w s) (hS : ∀ b, cx.S b → b < w.heap.size) : ∀ {cs : List C} {ys : List Value} {ls : List L}, crels base cx w cs ys → toLsD s E.tt cs = some ls → Dens w (fun b => b < w.heap.size) ls ys
  | [], [], ls, _, h => by simp only [toLsD, Option.some.injEq] at h; subst h; trivial
  | c :: cs, y :: ys, ls, hc, h => by
    unfold toLsD at h
    split at h
    · rename_i x hx
      split at h
      · rename_i xs hxs
        simp only [Option.some.injEq] at h
        subst h
        exact ⟨toLD_ok hE hm hS hc.1 (fun _ => hc.2.1) hx, toLsD_ok hE hm hS hc.2.2 hxs⟩
      · cases h
    · cases h
  | [], _ :: _, _, hc, _ => hc.elim
  | _ :: _, [], _, hc, _ => hc.elim

theorem argL_ok (hE : EnvOK P E) (hm : Mem base cx w s) (hS : ∀ b, cx.S b → b < w.heap.size) {x : SV} {y : Value} {r : Bool × List L} (hx : svrel base cx w x y) (h : argL s E.tt x = some r) : argD w (fun b => b < w.heap.size) r.1 r.2 y := by
  unfold argL at h
  split at h
  · rename_i c
    split at h
    · rename_i l hl
      simp only [Option.some.injEq] at h
      subst h
      refine ⟨toLD_ok hE hm hS hx.1 (fun hl => ?_) hl, trivial⟩
      have := hx.2
      cases c <;> simp only at this <;> first | exact this | skip
      · simp [toL] at hl
      · rename_i z _
        simp only [toL] at hl
        split at hl
        · rw [this]; assumption
        · cases hl
    · cases h
  · split at h
    · rename_i ls hls
      simp only [Option.some.injEq] at h
      subst h
      obtain ⟨ys, rfl, h2⟩ := hx
      exact ⟨ys, rfl, toLsD_ok hE hm hS h2 hls⟩
    · cases h
  · cases h

theorem argsL_ok (hE : EnvOK P E) (hm : Mem base cx w s) (hS : ∀ b, cx.S b → b < w.heap.size) (hv : ∀ x, svrel base cx w (opv s x) (a.eval x)) : ∀ {xs : List Operand} {r : Res}, argsL s E.tt xs = some r → ArgsD w (fun b => b < w.heap.size) r (xs.map a.eval)
  | [], r, h => by simp only [argsL, Option.some.injEq] at h; subst h; trivial
  | x :: xs, r, h => by
    unfold argsL at h
    split at h
    · rename_i l hl
      split at h
      · rename_i ls hls
        simp only [Option.some.injEq] at h
        subst h
        exact ⟨argL_ok hE hm hS (hv x) hl, argsL_ok hE hm hS hv hls⟩
      · cases h
    · cases h

theorem Dens.crels {fr : Bool} : ∀ {ls : List L} {ys : List Value}, Dens w (cx.SB base fr) ls ys → SX.crels base cx w (ls.map (ofL fr)) ys
  | [], [], _ => trivial
  | _ :: _, _ :: _, h => ⟨h.1.crel, h.1.one, Dens.crels h.2⟩
  | [], _ :: _, h => h.elim
  | _ :: _, [], h => h.elim
theorem Dens.lt {S S' : Nat → Prop} (hS : ∀ b, S b → S' b) : ∀ {ls : List L} {ys : List Value}, Dens w S ls ys → Dens w S' ls ys
  | [], [], _ => trivial
  | _ :: _, _ :: _, h => ⟨h.1.lt hS, Dens.lt hS h.2⟩
  | [], _ :: _, h => h.elim
  | _ :: _, [], h => h.elim
theorem ArgsD.trel {S : Nat → Prop} (hS : ∀ b, S b → cx.SB base true b) : ∀ {r : Res} {ys : List Value}, ArgsD w S r ys → SX.trel base cx w (r.map resC) ys
  | [], [], _ => trivial
  | (b, ls) :: r, y :: ys, h => by
    refine ⟨?_, ArgsD.trel hS h.2⟩
    have h1 := h.1
    cases b with
    | true => obtain ⟨zs, rfl, h2⟩ := h1; exact ⟨zs, rfl, (h2.lt hS).crels⟩
    | false => exact ⟨y, rfl, (Dens.lt hS h1).crels⟩
  | [], _ :: _, h => h.elim
  | (_, _) :: _, [], h => h.elim

theorem resSV_ok {S : Nat → Prop} (hS : ∀ b, S b → cx.SB base true b) {r : Res} {y : Value} (h : ResD w S r y) : svrel base cx w (resSV r) y := by
  unfold ResD at h
  unfold resSV
  split at h
  · rename_i b ls
    cases b with
    | true => obtain ⟨zs, rfl, h2⟩ := h; exact ⟨zs, rfl, (h2.lt hS).crels⟩
    | false =>
      have h' : Dens w S ls [y] := h
      match ls, h' with
      | [l], h' => exact sv_of (h'.1.lt hS).crel h'.1.one
  · rename_i r' hr
    split
    · rename_i b ls; exact absurd rfl (hr b ls)
    · obtain ⟨ys, rfl, h2⟩ := h
      exact ⟨ys, rfl, h2.trel hS⟩

theorem resSVo_ok {S : Nat → Prop} (hS : ∀ b, S b → cx.S b) {r : Res} {y : Value} (h : ResD w S r y) : svrel base cx w (resSVo r) y := by
  have hS' : ∀ b, S b → cx.SB base false b := fun b hb => ⟨hS b hb, fun h => by cases h⟩
  unfold ResD at h
  unfold resSVo
  split at h
  · rename_i b ls
    cases b with
    | true => obtain ⟨zs, rfl, h2⟩ := h; exact ⟨zs, rfl, (h2.lt hS').crels⟩
    | false =>
      have h' : Dens w S ls [y] := h
      match ls, h' with
      | [l], h' => exact sv_of (h'.1.lt hS').crel h'.1.one
  · rename_i r' hr
    split
    · rename_i b ls; exact absurd rfl (hr b ls)
    · exact ⟨trivial, trivial⟩
theorem dat_lit {tt : Nat → Option TI} {c : C} {l : L} (hd : datC c = true) (h : toLD s tt c = some l) : litOf c = some l := by
  cases c with
  | k x =>
    unfold toLD at h
    split at h
    · rename_i l' hl
      simp only [toL] at hl
      split at hl
      · simp only [Option.some.injEq] at hl h
        subst h; subst hl; rfl
      · cases hl
    · simp [toLD2] at h
  | v x => simp only [toLD, toL] at h; exact h
  | sl _ _ _ _ => simp only [toLD, toL] at h; exact h
  | ep _ _ _ => simp only [toLD, toL] at h; exact h
  | _ => cases hd
theorem dats_lit {tt : Nat → Option TI} : ∀ {cs : List C} {ls : List L}, datCs cs = true → toLsD s tt cs = some ls → litsOf cs = some ls
  | [], ls, _, h => by simp only [toLsD, Option.some.injEq] at h; subst h; rfl
  | c :: cs, ls, hd, h => by
    unfold datCs at hd
    split at hd
    · rename_i hc
      unfold toLsD at h
      split at h
      · rename_i x hx
        split at h
        · rename_i xs hxs
          simp only [Option.some.injEq] at h
          subst h
          unfold litsOf
          rw [dat_lit hc hx, dats_lit hd hxs]
        · cases h
      · cases h
    · cases hd
theorem datArg_ok (hE : EnvOK P E) {x : SV} {y : Value} {r : Bool × List L} (hx : svrel base cx w x y) (hd : datSV x = true) (h : argL s E.tt x = some r) : argD w cx.S r.1 r.2 y := by
  unfold argL at h
  split at h
  · rename_i c
    split at h
    · rename_i l hl
      simp only [Option.some.injEq] at h
      subst h
      have hlit := dat_lit hd hl
      have h1 : one y = true := by
        have h0 := hx.2
        cases c with
        | k z =>
          have h0 : y = z := h0
          rw [h0]
          cases ho : one z with
          | true => rfl
          | false => simp [toLD, toL, toLD2, ho] at hl
        | v z => exact h0
        | sl _ _ _ _ => exact h0
        | ep _ _ _ => exact h0
        | _ => cases hd
      have h2 : litsOf [c] = some [l] := by unfold litsOf; rw [hlit]; rfl
      have h3 : crels base cx w [c] [y] := ⟨hx.1, h1, trivial⟩
      exact litsOf_ok h3 h2
    · cases h
  · rename_i cs
    split at h
    · rename_i ls hls
      simp only [Option.some.injEq] at h
      subst h
      obtain ⟨ys, rfl, h2⟩ := hx
      exact ⟨ys, rfl, litsOf_ok h2 (dats_lit hd hls)⟩
    · cases h
  · cases h
theorem datArgs_ok (hE : EnvOK P E) (hv : ∀ x, svrel base cx w (opv s x) (a.eval x)) : ∀ {xs : List Operand} {r : Res}, datArgs s xs = true → argsL s E.tt xs = some r → ArgsD w cx.S r (xs.map a.eval)
  | [], r, _, h => by simp only [argsL, Option.some.injEq] at h; subst h; trivial
  | x :: xs, r, hd, h => by
    unfold datArgs at hd
    split at hd
    · rename_i hdx
      unfold argsL at h
      split at h
      · rename_i l hl
        split at h
        · rename_i ls hls
          simp only [Option.some.injEq] at h
          subst h
          exact ⟨datArg_ok hE (hv x) hdx hl, datArgs_ok hE hv hd hls⟩
        · cases h
      · cases h
    · cases hd
/-- the world behind a call that only makes memory -/
theorem below_post (hb : base ≤ w.heap.size) (hm : Mem base cx w s) (hS : ∀ b, cx.S b → b < w.heap.size) (hbl : Below w.heap.size w w') {x : SV} {y : Value} {K : Value → World → Prop}
    (hx : svrel base { cx with S := fun b => cx.S b ∨ (w.heap.size ≤ b ∧ b < w'.heap.size) } w' x y) (hp : Post base cx w s x .no K) : K y w' := by
  have hF : Fr cx { cx with S := fun b => cx.S b ∨ (w.heap.size ≤ b ∧ b < w'.heap.size) } w w' (Eff.W .no cx) s.nx s.nx :=
    ⟨fun _ h => h, fun _ h => .inl h, fun _ _ => rfl, fun _ _ => rfl, fun _ h => .inl h, fun _ h => h, hbl.size, hbl.os, hbl.tape, hbl.output, fun b hb _ => hbl.block b hb, fun _ h h' => absurd h h', fun _ _ h h' => absurd h h'⟩
  have hs : ∀ b, cx.S b → b < w.heap.size ∧ ¬ Eff.W .no cx b := fun b h => ⟨hS b h, id⟩
  refine hp y w' _ hF hx ⟨?_, hm.inj, ?_, ?_, hm.owi⟩ ?_
  · intro i T cs h
    obtain ⟨h1, h2, h3, ys, h4, h5⟩ := hm.bl i T cs h
    have hlt := (Array.getElem?_eq_some_iff.1 h4).1
    refine ⟨h1, h2, ?_, ys, by rw [hbl.block _ hlt]; exact h4, hF.crels hs h5⟩
    rintro (h | h)
    · exact h3 h
    · have h' : w.heap.size ≤ cx.β i := h.1
      omega
  · intro i r h
    obtain ⟨h1, cells, h2, h3⟩ := hm.ow i r h
    refine ⟨h1, cells, h2.kept (row := none) ⟨hbl.os, hbl.tape, hbl.output, hbl.size, fun b hb _ => hbl.block b hb⟩ (by cases (cx.η i).ownBlock <;> simp), fun a ha j hj => ?_⟩
    obtain ⟨z, hz, hd⟩ := h3 a ha j hj
    exact ⟨z, hz, hF.den hs hd⟩
  · intro i r g h hg
    obtain ⟨h4, h5⟩ := hm.owS i r g h hg
    refine ⟨?_, h5⟩
    rintro (h' | h')
    · exact h4 h'
    · have := ((hm.ow i r h).2.choose_spec.1.lt g hg).2; omega
  · rintro b (h | h)
    · exact Nat.lt_of_lt_of_le (hS b h) hbl.size
    · exact h.2

theorem ArgsD.append {S : Nat → Prop} : ∀ {r r' : Res} {ys ys' : List Value}, ArgsD w S r ys → ArgsD w S r' ys' → ArgsD w S (r ++ r') (ys ++ ys')
  | [], _, [], _, _, h' => h'
  | (_, _) :: _, _, _ :: _, _, h, h' => ⟨h.1, ArgsD.append h.2 h'⟩
  | [], _, _ :: _, _, h, _ => h.elim
  | (_, _) :: _, _, [], _, h, _ => h.elim
theorem capsL_ok (hE : EnvOK P E) (hm : Mem base cx w s) (hS : ∀ b, cx.S b → b < w.heap.size) : ∀ {is : List Nat} {r : Res}, (∀ i ∈ is, cx.D i) → capsL s E.tt is = some r → ArgsD w (fun b => b < w.heap.size) r (is.map fun i => Value.pointer (some ⟨cx.β i, 0, none⟩))
  | [], r, _, h => by simp only [capsL, Option.some.injEq] at h; subst h; trivial
  | i :: is, r, hd, h => by
    unfold capsL at h
    split at h
    · rename_i l hl
      split at h
      · rename_i ls hls
        simp only [Option.some.injEq] at h
        subst h
        exact ⟨⟨(toL_ok hE hm hS (c := .p i 0) ⟨hd i (by simp), rfl⟩ rfl hl).1, trivial⟩, capsL_ok hE hm hS (fun j hj => hd j (List.mem_cons_of_mem _ hj)) hls⟩
      · cases h
    · cases h

theorem call_ok (hE : EnvOK P E) (hb : base ≤ w.heap.size) (hm : Mem base cx w s) (hS : ∀ b, cx.S b → b < w.heap.size) (hv : ∀ x, svrel base cx w (opv s x) (a.eval x)) {g : Nat} {f : Operand} {xs : Array Operand} {ts : Array TypeId} {caps : List Nat} (hf : normF (opv s f) = .o (.f g caps)) {ob : Option Prop} {sv : SV} {e : Eff} (he : evCall E s g caps xs.toList = some (ob, sv, e))
    (ho : o.op = .call { callee := .value f, args := xs, argTypes := ts }) (hob : ∀ p, ob = some p → p) (hp : Post base cx w s sv e fun y w' => next (a.put o.dst y) w') : o.wp P a w next Q := by
  have hfv := normF_ok (hv f)
  rw [hf] at hfv
  obtain ⟨⟨hcD, hfv⟩, _⟩ := hfv
  unfold evCall at he
  split at he
  · cases he
  rename_i sp hsp
  split at he
  · cases he
  rename_i ls hls
  split at he
  · cases he
  rename_i ks hks
  split at he
  · cases he
  rename_i pre r hr
  obtain ⟨hen, hfn⟩ := hE.ct g sp hsp
  have hrun : (execOp a.eval o).run P w = .ok (.enter g (xs.toList.map a.eval ++ caps.map fun i => Value.pointer (some ⟨cx.β i, 0, none⟩)).toArray) w := by
    have h1 := hen ((#[] ++ xs.map a.eval) ++ (caps.map fun i => Value.pointer (some ⟨cx.β i, 0, none⟩)).toArray) w
    have h2 : (xs.toList.map a.eval ++ caps.map fun i => Value.pointer (some ⟨cx.β i, 0, none⟩)).toArray = (#[] ++ xs.map a.eval) ++ (caps.map fun i => Value.pointer (some ⟨cx.β i, 0, none⟩)).toArray := by simp [← List.map_toArray]
    rw [h2, ← h1]
    simp [execOp, ho, resolve, hfv, Deferred.ofValue, invoke]
  split at he
  · rename_i hold
    rw [hold] at hfn
    simp only [Option.some.injEq, Prod.mk.injEq] at he
    obtain ⟨rfl, rfl, rfl⟩ := he
    have hargs := (argsL_ok hE hm hS hv hls).append (capsL_ok hE hm hS hcD hks)
    have hc := hfn w (ls ++ ks) _ pre r hr (hob _ rfl) hargs
    unfold Oper.wp
    rw [hrun, Oper.upon_enter]
    refine hc.mono ?_
    rintro e w' ⟨⟨v, rfl, hres⟩, hbl⟩
    refine below_post (K := fun y w' => next (a.put o.dst y) w') hb hm hS hbl (resSV_ok ?_ hres) hp
    intro b hb'
    exact ⟨.inr hb', fun _ => Nat.le_trans hb hb'.1⟩
  · rename_i hold
    rw [hold] at hfn
    split at he
    · split at he
      · rename_i hdat
        simp only [Option.some.injEq, Prod.mk.injEq] at he
        obtain ⟨rfl, rfl, rfl⟩ := he
        simp only [capsL, Option.some.injEq] at hks
        subst hks
        have hargs := datArgs_ok hE hv hdat hls
        have hc := hfn cx.S w (ls ++ []) _ pre r hr (hob _ rfl) hS (by rw [List.append_nil]; exact hargs)
        unfold Oper.wp
        rw [hrun, Oper.upon_enter]
        refine Calls.mono (by simpa using hc) ?_
        rintro e w' ⟨⟨v, rfl, hres⟩, hbl⟩
        refine below_post (K := fun y w' => next (a.put o.dst y) w') hb hm hS hbl (resSVo_ok ?_ hres) hp
        intro b hb'
        exact hb'
      · cases he
    · cases he

theorem litArgs {P : Program} {S : Nat → Prop} : ∀ {ls : Res} {vs : List Value}, ArgsD w S ls vs → allLitR ls = true → svrels base cx w (ls.map litSV) vs
  | [], [], _, _ => trivial
  | (b, ls) :: r, v :: vs, h, hl => by
    have hl1 : allLitL ls = true ∧ allLitR r = true := by
      simp only [allLitR] at hl
      split at hl
      · rename_i h1; exact ⟨h1, hl⟩
      · cases hl
    refine ⟨?_, litArgs (P := P) h.2 hl1.2⟩
    have key : ∀ {ls : List L} {zs : List Value}, allLitL ls = true → Dens w S ls zs → crels base cx w (ls.map (ofL false)) zs := by
      intro ls
      induction ls with
      | nil => intro zs _ h; cases zs with
        | nil => trivial
        | cons _ _ => exact h.elim
      | cons l ls ih =>
        intro zs h1 h2
        cases zs with
        | nil => exact h2.elim
        | cons z zs =>
          cases l with
          | lit x =>
            obtain ⟨⟨rfl, h3⟩, h4⟩ := h2
            exact ⟨rfl, h3, ih h1 h4⟩
          | _ => simp [allLitL] at h1
    have h1 := h.1
    cases b with
    | true => obtain ⟨zs, rfl, h2⟩ := h1; exact ⟨zs, rfl, key hl1.1 h2⟩
    | false =>
      have h2 : Dens w S ls [v] := h1
      cases ls with
      | nil => exact h2.elim
      | cons l ls =>
        cases ls with
        | nil =>
          have := key hl1.1 h2
          exact sv_of this.1 this.2.1
        | cons l' ls => exact h2.2.elim
  | [], _ :: _, h, _ => h.elim
  | _ :: _, [], h, _ => h.elim
theorem ap_ok (hE : EnvOK P E) (hb : base ≤ w.heap.size) (hm : Mem base cx w s) (hS : ∀ b, cx.S b → b < w.heap.size) (hD : ∀ i, cx.D i → i ≠ s.nx) (hv : ∀ x, svrel base cx w (opv s x) (a.eval x)) {g : Nat} {f : Operand} {xs : Array Operand} {ts : Array TypeId} (hf : normF (opv s f) = .o (.f g [])) {F : OR → Res → Option OR} (hF : E.ap g = some F) {ob : Option Prop} {sv : SV} {e : Eff} (he : evAp E s F xs.toList = some (ob, sv, e))
    (ho : o.op = .call { callee := .value f, args := xs, argTypes := ts }) (hp : Post base cx w s sv e fun y w' => next (a.put o.dst y) w') : o.wp P a w next Q := by
  have hfv := normF_ok (hv f)
  rw [hf] at hfv
  obtain ⟨⟨_, hfv⟩, _⟩ := hfv
  unfold evAp at he
  split at he
  · cases he
  rename_i x ys hxs
  split at he
  · rename_i i hx
    split at he
    · rename_i r how
      split at he
      · rename_i ls hls
        split at he
        · rename_i hlit
          split at he
          · rename_i r' hr'
            simp only [Option.some.injEq, Prod.mk.injEq] at he
            obtain ⟨rfl, rfl, rfl⟩ := he
            obtain ⟨hl', hen, _, hat⟩ := hE.ap g F hF r ls r' hr'
            have hx1 := hv x
            rw [hx] at hx1
            obtain ⟨⟨_, hx1⟩, _⟩ := hx1
            have hargs := argsL_ok hE hm hS hv hls
            obtain ⟨m1, cells, m2, m3⟩ := hm.ow i r how
            let cxl : Cx := { D := fun j => j < 1, β := fun _ => w.heap.size, η := fun _ => cx.η i, S := cx.S }
            have hrl : ∀ (j : Nat) (q : OR), look [(0, r)] j = some q → j = 0 ∧ q = r := by
              intro j q h
              unfold look at h
              split at h
              · rename_i hj; simp only [Option.some.injEq] at h; exact ⟨beq_eq hj, h.symm⟩
              · cases h
            have hml : Mem base cxl w (LM.ss ⟨[], [(0, r)], 1⟩) := by
              refine ⟨fun j T cs h => (by cases h), fun j j' h => (by obtain ⟨b, h⟩ := h; cases h), fun j q h => ?_, fun j q gg h hg => ?_, fun j j' q q' gg h h' _ _ => ?_⟩
              · obtain ⟨rfl, rfl⟩ := hrl j q h; exact ⟨Nat.zero_lt_one, cells, m2, m3⟩
              · obtain ⟨rfl, rfl⟩ := hrl j q h; exact ⟨(hm.owS i q gg how hg).1, fun j' hj' => (by obtain ⟨b, h⟩ := hj'; cases h)⟩
              · rw [(hrl j q h).1, (hrl j' q' h').1]
            have h0 : svrels base cxl w (.o (.h 0) :: ls.map litSV) (a.eval x :: ys.map a.eval) :=
              ⟨sv_of ⟨Nat.zero_lt_one, hx1⟩ (by rw [hx1]; rcases m2.2 with ⟨h, _⟩ | ⟨_, _, _, h, _⟩ <;> rw [h] <;> rfl), litArgs (P := P) hargs hlit⟩
            have hc := hat base cxl w (a.eval x :: ys.map a.eval) hb hS (fun j => Iff.rfl) hml h0
            have hrun : (execOp a.eval o).run P w = .ok (.enter g (a.eval x :: ys.map a.eval).toArray) w := by
              have h1 := hen ((#[] ++ xs.map a.eval) ++ #[]) w
              have h2 : (a.eval x :: ys.map a.eval).toArray = (#[] ++ xs.map a.eval) ++ #[] := by
                have : xs = (x :: ys).toArray := by rw [← hxs]
                rw [this]; simp
              rw [h2, ← h1]
              simp [execOp, ho, resolve, hfv, Deferred.ofValue, invoke]
            unfold Oper.wp
            rw [hrun, Oper.upon_enter]
            refine hc.mono ?_
            rintro e w' ⟨v, cx', rfl, hxv, hFr, hS', hm'⟩
            obtain ⟨⟨_, hv1⟩, _⟩ := hxv
            have hr1 : (LM.ss ⟨[], [(1, r')], 2⟩).ow 1 = some r' := rfl
            obtain ⟨_, cells', k2, k3⟩ := hm'.ow 1 r' hr1
            rw [← hv1] at k2
            have hW : ∀ b, An.W ⟨base, cxl, w⟩ b → b = w.heap.size ∨ (cx.η i).ownBlock = some b := by
              rintro b (⟨j, _, rfl⟩ | ⟨j, _, h⟩)
              · exact .inl rfl
              · exact .inr h
            refine own_newB (w' := w') (r := r') (vo := cx.η i) (xs := cells') (K := fun y w' => next (a.put o.dst y) w') hb hm hS hD (.inr (.inl ⟨i, r, rfl, how, rfl⟩)) rfl k2
              ⟨hFr.os, hFr.tape, hFr.output, hFr.size, fun k hk hne => hFr.blk k hk fun h => (hW k h).elim (fun h => by omega) (fun h => hne h.symm)⟩ (fun gg hg => ?_) (fun q hq j hj => ?_) hp
            · rw [hv1] at hg
              rcases hFr.nη 1 gg (hm'.ow 1 r' hr1).1 (fun h => by have h : 1 < 1 := h; omega) hg with h | h
              · exact .inr h
              · rcases hW gg h with h | h
                · exact .inr (by omega)
                · exact .inl h
            · obtain ⟨z, hz, hd⟩ := k3 q hq j hj
              refine ⟨z, hz, ?_⟩
              have := hl' q hq j hj
              cases hfl : r'.f q j with
              | lit y => rw [hfl] at hd; exact hd
              | _ => rw [hfl] at this; simp [allLitL] at this
          · cases he
        · cases he
      · cases he
    · cases he
  · cases he

theorem makeFunc_ok (hv : ∀ x, svrel base cx w (opv s x) (a.eval x)) : ∀ {caps : List Operand} {is : List Nat}, caps.foldr (fun x (r : Option (List Nat)) => match opv s x with
          | .o (.p i 0) => r.map (i :: ·)
          | _ => none) (some []) = some is → (∀ i ∈ is, cx.D i) ∧ caps.map a.eval = is.map fun i => Value.pointer (some ⟨cx.β i, 0, none⟩)
  | [], is, h => by simp only [List.foldr_nil, Option.some.injEq] at h; subst h; exact ⟨fun i h => (by cases h), rfl⟩
  | x :: caps, is, h => by
    simp only [List.foldr_cons] at h
    have hx := hv x
    split at h
    · rename_i i heq
      rw [heq] at hx
      obtain ⟨⟨h1, h2⟩, _⟩ := hx
      generalize hr : caps.foldr (fun x (r : Option (List Nat)) => match opv s x with
          | .o (.p i 0) => r.map (i :: ·)
          | _ => none) (some []) = r at h
      cases r with
      | none => simp at h
      | some js =>
        simp only [Option.map_some, Option.some.injEq] at h
        subst h
        obtain ⟨h3, h4⟩ := makeFunc_ok hv hr
        exact ⟨fun j hj => by rcases List.mem_cons.1 hj with rfl | hj; exact h1; exact h3 j hj, by simp only [List.map_cons, h2, h4]⟩
    · cases h

/-- **Every operation.** -/
theorem lit_args {S S' : Nat → Prop} : ∀ {r : Res} {ys : List Value}, allLitR r = true → ArgsD w S r ys → ArgsD w S' r ys
  | [], [], _, _ => trivial
  | (b, ls) :: r, y :: ys, h, hd => by
    unfold allLitR at h
    split at h
    · rename_i hl
      have key : ∀ {ls : List L} {zs : List Value}, allLitL ls = true → Dens w S ls zs → Dens w S' ls zs := by
        intro ls
        induction ls with
        | nil => intro zs _ h; cases zs <;> first | trivial | exact h.elim
        | cons l ls ih =>
          intro zs hl h
          cases zs with
          | nil => exact h.elim
          | cons z zs =>
            cases l with
            | lit x => exact ⟨h.1, ih hl h.2⟩
            | _ => cases hl
      refine ⟨?_, lit_args h hd.2⟩
      have h1 := hd.1
      cases b with
      | true => obtain ⟨zs, h2, h3⟩ := h1; exact ⟨zs, h2, key hl h3⟩
      | false => exact key hl h1
    · cases h
  | [], _ :: _, _, hd => hd.elim
  | (_, _) :: _, [], _, hd => hd.elim

def rowVal (cx : Cx) (old : Option Nat) : Value := match old with
  | some o => cx.η o
  | none => .slice none 0 0
/-- the names as the closure sees them -/
def cloCx (cx : Cx) (size : Nat) (caps : List Nat) (k : Nat) (old : Option Nat) : Cx :=
  { D := fun i => i < k + 1, β := fun j => bif Nat.blt j k then cx.β (caps.getD j 0) else size, η := fun i => bif Nat.beq i k then rowVal cx old else .slice none 0 0, S := cx.S }
/-- the captured variables as the closure sees them -/
theorem clo_mem (hm : Mem base cx w s) (hb : base ≤ w.heap.size) {caps : List Nat} {ks : List CK} {vs : List (Nat × CV)} {old : Option Nat} {out : List CV} (hc : capsV s ks caps = some (vs, old)) (hn : caps.Nodup) (hl : likeV vs out false = true) :
    Mem base (cloCx cx w.heap.size caps vs.length old) w (memS vs.length (List.range vs.length) vs (vs.map (·.2))) := by
  obtain ⟨c1, c2, c3⟩ := capsV_ok hc
  obtain ⟨l1, l2, l3, l4⟩ := likeV_ok hl
  have hβ : ∀ j, j < vs.length → ∀ i, caps[j]? = some i → (cloCx cx w.heap.size caps vs.length old).β j = cx.β i := by
    intro j hj i hi
    show (bif Nat.blt j vs.length then cx.β (caps.getD j 0) else w.heap.size) = cx.β i
    have : Nat.blt j vs.length = true := Nat.ble_eq_true_of_le hj
    rw [this]
    show cx.β (caps.getD j 0) = _
    rw [List.getD_eq_getElem?_getD, hi]; rfl
  have hηk : (cloCx cx w.heap.size caps vs.length old).η vs.length = rowVal cx old := by
    show (bif Nat.beq vs.length vs.length then rowVal cx old else .slice none 0 0) = _
    rw [Nat.beq_refl]; rfl
  have hbl : ∀ i T cs, (memS vs.length (List.range vs.length) vs (vs.map (·.2))).bl i = some (T, cs) → ∃ v c cs', i < vs.length ∧ vs[i]? = some (T, v) ∧ cs = cellsV vs.length v ∧ caps[i]? = some c ∧ s.bl c = some (T, cs') ∧ (match v with
      | .d ls => litsOf cs' = some ls
      | .r r => (∃ o, old = some o ∧ cs' = [.h o] ∧ s.ow o = some r) ∨ (cs' = [.k (.slice none 0 0)] ∧ r.n = 0)) := by
    intro i T cs h
    obtain ⟨j, v0, v, h1, h2, h3, h4⟩ := outB_look h
    have hj : j < vs.length := (List.getElem?_eq_some_iff.1 h2).1
    rw [List.getElem?_range hj] at h1
    simp only [Option.some.injEq] at h1
    subst h1
    rw [List.getElem?_map, h2] at h3
    simp only [Option.map_some, Option.some.injEq] at h3
    subst h3
    obtain ⟨c, cs', q1, q2, q3⟩ := c2 j T v0 h2
    exact ⟨v0, c, cs', hj, h2, h4, q1, q2, q3⟩
  have how : ∀ i r, (memS vs.length (List.range vs.length) vs (vs.map (·.2))).ow i = some r → i = vs.length ∧ ∃ (j T : Nat), vs[j]? = some (T, .r r) := by
    intro i r h
    have h : look (match outR (vs.map (·.2)) with | some r => [(vs.length, r)] | none => []) i = some r := h
    split at h
    · rename_i r' hr
      have := look_mem h
      simp only [List.mem_cons, Prod.mk.injEq, List.not_mem_nil, or_false] at this
      obtain ⟨rfl, rfl⟩ := this
      obtain ⟨j, hj⟩ := outR_mem hr
      rw [List.getElem?_map] at hj
      cases hv : vs[j]? with
      | none => rw [hv] at hj; cases hj
      | some p =>
        rw [hv] at hj
        simp only [Option.map_some, Option.some.injEq] at hj
        obtain ⟨T, v⟩ := p
        have hj : v = .r r := hj
        subst hj
        exact ⟨rfl, j, T, hv⟩
    · cases h
  -- the row's value, under its new name
  have hη : ∀ (j T : Nat) (r : OR) (c : Nat) (cs' : List C), vs[j]? = some (T, .r r) → caps[j]? = some c → s.bl c = some (T, cs') → ((∃ o, old = some o ∧ cs' = [.h o] ∧ s.ow o = some r) ∨ (cs' = [.k (.slice none 0 0)] ∧ r.n = 0)) →
      (∃ o, old = some o ∧ cs' = [.h o] ∧ s.ow o = some r) ∨ (old = none ∧ cs' = [.k (.slice none 0 0)] ∧ r.n = 0) := by
    intro j T r c cs' h1 h2 h3 h4
    rcases h4 with h4 | ⟨h4, h5⟩
    · exact .inl h4
    · right
      refine ⟨?_, h4, h5⟩
      cases hold : old with
      | none => rfl
      | some o =>
        obtain ⟨j', T', i', r', q1, q2, q3, q4⟩ := c3 o hold
        have hjj := l4 j j' T T' r r' h1 q1
        subst hjj
        rw [h2] at q2
        cases q2
        rw [h3] at q3
        simp only [Option.some.injEq, Prod.mk.injEq] at q3
        rw [q3.2] at h4
        cases h4
  refine ⟨?_, ?_, ?_, ?_, ?_⟩
  · intro i T cs h
    obtain ⟨v, c, cs', h1, h2, rfl, h4, h5, h6⟩ := hbl i T cs h
    obtain ⟨m1, m2, m3, ys, m4, m5⟩ := hm.bl c T cs' h5
    have hβi := hβ i h1 c h4
    refine ⟨by show i < _; omega, by rw [hβi]; exact m2, by rw [hβi]; exact m3, ys, by rw [hβi]; exact m4, ?_⟩
    cases v with
    | d ls =>
      have hd := litsOf_ok m5 h6
      refine Dens.crels (fr := false) (hd.lt fun b hb => ⟨hb, fun h => by cases h⟩)
    | r r =>
      rcases hη i T r c cs' h2 h4 h5 h6 with ⟨o, ho, hcs, hro⟩ | ⟨ho, hcs, hn0⟩
      · subst hcs
        cases ys with
        | nil => exact m5.elim
        | cons y ys =>
          obtain ⟨q1, q2, q3⟩ := m5
          refine ⟨⟨by show vs.length < _; omega, ?_⟩, q2, ?_⟩
          · rw [q1.2, hηk, ho]; rfl
          · cases ys with
            | nil => trivial
            | cons _ _ => exact q3.elim
      · subst hcs
        cases ys with
        | nil => exact m5.elim
        | cons y ys =>
          obtain ⟨q1, q2, q3⟩ := m5
          refine ⟨⟨by show vs.length < _; omega, ?_⟩, q2, ?_⟩
          · rw [show y = _ from q1, hηk, ho]; rfl
          · cases ys with
            | nil => trivial
            | cons _ _ => exact q3.elim
  · rintro i j ⟨b, hi⟩ ⟨b', hj⟩ he
    obtain ⟨v, c, cs, h1, h2, _, h4, h5, _⟩ := hbl i b.1 b.2 hi
    obtain ⟨v', c', cs', h1', h2', _, h4', h5', _⟩ := hbl j b'.1 b'.2 hj
    rw [hβ i h1 c h4, hβ j h1' c' h4'] at he
    have := hm.inj c c' ⟨_, h5⟩ ⟨_, h5'⟩ he
    subst this
    have hi' : i < caps.length := by omega
    exact (List.getElem?_inj hi' hn).1 (h4.trans h4'.symm)
  · intro i r h
    obtain ⟨rfl, j, T, hj⟩ := how i r h
    obtain ⟨c, cs', q1, q2, q3⟩ := c2 j T _ hj
    refine ⟨by show vs.length < _; omega, ?_⟩
    rw [hηk]
    rcases hη j T r c cs' hj q1 q2 q3 with ⟨o, ho, _, hro⟩ | ⟨ho, _, hn0⟩
    · rw [ho]
      exact (hm.ow o r hro).2
    · rw [ho, hn0]
      exact ⟨[], World.ownsRow_nil .., fun a ha => by omega⟩
  · intro i r g h hg
    obtain ⟨rfl, j, T, hj⟩ := how i r h
    rw [hηk] at hg
    cases hold : old with
    | none => rw [hold] at hg; cases hg
    | some o =>
      rw [hold] at hg
      obtain ⟨j', T', i', r', q1, q2, q3, q4⟩ := c3 o hold
      obtain ⟨k1, k2⟩ := hm.owS o r' g q4 hg
      refine ⟨k1, fun j hj => ?_⟩
      obtain ⟨b, hj⟩ := hj
      obtain ⟨v, c, cs, h1, h2, _, h4, h5, _⟩ := hbl j b.1 b.2 hj
      rw [← hold, hβ j h1 c h4]
      exact k2 c ⟨_, h5⟩
  · intro i j r r' g h1 h2 _ _
    rw [(how i r h1).1, (how j r' h2).1]

theorem over_some {α : Type} {xs : List (Nat × α)} {g : Nat → Option α} {i : Nat} {x : α} (h : over xs g i = some x) : look xs i = some x ∨ (look xs i = none ∧ g i = some x) := by
  unfold over at h
  split at h
  · rename_i y hy; exact .inl (hy.trans h)
  · rename_i hy; exact .inr ⟨hy, h⟩

theorem litsOf_map (fr : Bool) : ∀ ls : List L, litsOf (ls.map (ofL fr)) = some ls
  | [] => rfl
  | l :: ls => by
    have h1 : litOf (ofL fr l) = some l := by cases l <;> rfl
    simp only [List.map_cons, litsOf]
    rw [h1, litsOf_map fr ls]

theorem clo_ok (hE : EnvOK P E) (hb : base ≤ w.heap.size) (hm : Mem base cx w s) (hS : ∀ b, cx.S b → b < w.heap.size) (hD : ∀ i, cx.D i → i ≠ s.nx) (hv : ∀ x, svrel base cx w (opv s x) (a.eval x)) {g : Nat} {f : Operand} {xs : Array Operand} {ts : Array TypeId} {caps : List Nat} {csp : ClSpec} (hf : normF (opv s f) = .o (.f g caps)) (hcl : E.cl g = some csp) {ob : Option Prop} {sv : SV} {e : Eff} (he : evClo E s csp caps xs.toList = some (ob, sv, e))
    (ho : o.op = .call { callee := .value f, args := xs, argTypes := ts }) (hob : ∀ p, ob = some p → p) (hp : Post base cx w s sv e fun y w' => next (a.put o.dst y) w') : o.wp P a w next Q := by
  have hfv := normF_ok (hv f)
  rw [hf] at hfv
  obtain ⟨⟨hcD, hfv⟩, _⟩ := hfv
  unfold evClo at he
  split at he
  · cases he
  rename_i ls hls
  split at he
  · cases he
  rename_i hck
  simp only [Bool.and_eq_true] at hck
  split at he
  · cases he
  rename_i vs old hcap
  split at he
  · cases he
  rename_i pre r out hfn
  split at he
  · cases he
  rename_i hck2
  simp only [Bool.and_eq_true] at hck2
  simp only [Option.some.injEq, Prod.mk.injEq] at he
  obtain ⟨rfl, rfl, rfl⟩ := he
  have hn := distinctN_nodup hck.2
  obtain ⟨c1, c2, c3⟩ := capsV_ok hcap
  obtain ⟨l1, l2, l3, l4⟩ := likeV_ok hck2.1
  have hM1 := clo_mem hm hb hcap hn hck2.1
  obtain ⟨hen, hclo⟩ := hE.cl g csp hcl
  have hargs := lit_args (S' := fun _ => False) hck.1 (argsL_ok hE hm hS hv hls)
  have hβ : ∀ j, j < vs.length → ∀ i, caps[j]? = some i → (cloCx cx w.heap.size caps vs.length old).β j = cx.β i := by
    intro j hj i hi
    show (bif Nat.blt j vs.length then cx.β (caps.getD j 0) else w.heap.size) = cx.β i
    have : Nat.blt j vs.length = true := Nat.ble_eq_true_of_le hj
    rw [this]
    show cx.β (caps.getD j 0) = _
    rw [List.getD_eq_getElem?_getD, hi]; rfl
  have hcaps : (List.range vs.length).map (fun j => Value.pointer (some ⟨(cloCx cx w.heap.size caps vs.length old).β j, 0, none⟩)) = caps.map fun i => Value.pointer (some ⟨cx.β i, 0, none⟩) := by
    apply List.ext_getElem?
    intro j
    rw [List.getElem?_map, List.getElem?_map]
    by_cases hj : j < vs.length
    · rw [List.getElem?_range hj]
      have : caps[j]? = some caps[j] := List.getElem?_eq_getElem (by omega)
      rw [this]
      simp only [Option.map_some]
      rw [hβ j hj _ this]
    · rw [List.getElem?_eq_none (by simp; omega), List.getElem?_eq_none (by omega)]; rfl
  have hc := hclo base (cloCx cx w.heap.size caps vs.length old) w ls _ vs pre r out hfn (hob _ rfl) hck2.1 hck2.2 hargs hb hS (fun i => Iff.rfl) hM1
  rw [hcaps] at hc
  have hrun : (execOp a.eval o).run P w = .ok (.enter g (xs.toList.map a.eval ++ caps.map fun i => Value.pointer (some ⟨cx.β i, 0, none⟩)).toArray) w := by
    have h1 := hen ((#[] ++ xs.map a.eval) ++ (caps.map fun i => Value.pointer (some ⟨cx.β i, 0, none⟩)).toArray) w
    have h2 : (xs.toList.map a.eval ++ caps.map fun i => Value.pointer (some ⟨cx.β i, 0, none⟩)).toArray = (#[] ++ xs.map a.eval) ++ (caps.map fun i => Value.pointer (some ⟨cx.β i, 0, none⟩)).toArray := by simp [← List.map_toArray]
    rw [h2, ← h1]
    simp [execOp, ho, resolve, hfv, Deferred.ofValue, invoke]
  unfold Oper.wp
  rw [hrun, Oper.upon_enter]
  refine hc.mono ?_
  rintro e w' ⟨v, cxf, n', q, rfl, hres, hF, hSf, hMf⟩
  -- the blocks that were turned
  have hW1 : ∀ b, (An.W ⟨base, cloCx cx w.heap.size caps vs.length old, w⟩) b → (∃ j i, j < vs.length ∧ caps[j]? = some i ∧ b = cx.β i) ∨ w.heap.size ≤ b ∨ ∃ o, old = some o ∧ (cx.η o).ownBlock = some b := by
    rintro b (⟨i, hi, h⟩ | ⟨i, hi, h⟩)
    · have h : (bif Nat.blt i vs.length then cx.β (caps.getD i 0) else w.heap.size) = b := h
      by_cases hj : i < vs.length
      · left
        have : caps[i]? = some caps[i] := List.getElem?_eq_getElem (by omega)
        have hbe : Nat.blt i vs.length = true := Nat.ble_eq_true_of_le hj
        rw [hbe] at h
        exact ⟨i, _, hj, this, by rw [← h]; show cx.β (caps.getD i 0) = _; rw [List.getD_eq_getElem?_getD, this]; rfl⟩
      · have hbe : Nat.blt i vs.length = false := by
          cases hbe : Nat.blt i vs.length
          · rfl
          · exact absurd (blt_lt hbe) hj
        rw [hbe] at h
        exact .inr (.inl (Nat.le_of_eq h))
    · have h : (bif Nat.beq i vs.length then rowVal cx old else .slice none 0 0 : Value).ownBlock = some b := h
      cases hbe : Nat.beq i vs.length
      · rw [hbe] at h; cases h
      · rw [hbe] at h
        have h : (rowVal cx old).ownBlock = some b := h
        cases hold : old with
        | none => rw [hold] at h; cases h
        | some o => rw [hold] at h; exact .inr (.inr ⟨o, rfl, h⟩)
  let bs := outB s.nx caps vs out
  have hkey : ∀ j i, j < vs.length → caps[j]? = some i → ∃ T v0 v cs, vs[j]? = some (T, v0) ∧ out[j]? = some v ∧ s.bl i = some (T, cs) ∧ look bs i = some (T, cellsV s.nx v) := by
    intro j i hj hi
    have h1 : vs[j]? = some vs[j] := List.getElem?_eq_getElem hj
    have h2 : out[j]? = some out[j] := List.getElem?_eq_getElem (by omega)
    obtain ⟨i', cs, q1, q2, _⟩ := c2 j vs[j].1 vs[j].2 h1
    rw [hi] at q1
    cases q1
    exact ⟨_, _, _, cs, h1, h2, q2, outB_at hn hi h1 h2⟩
  have hWb : ∀ b, b < w.heap.size → (An.W ⟨base, cloCx cx w.heap.size caps vs.length old, w⟩) b → Eff.W (.clo bs old (outR out)) cx b := by
    intro b hlt h
    rcases hW1 b h with ⟨j, i, hj, hi, rfl⟩ | h | h
    · obtain ⟨T, v0, v, cs, _, _, _, h4⟩ := hkey j i hj hi
      exact .inl ⟨(i, _), look_mem h4, rfl⟩
    · omega
    · exact .inr h
  -- the row behind the call
  have hrow : ∀ ro, outR out = some ro → (memS q (List.range vs.length) vs out).ow q = some ro := by
    intro ro hro
    show look (match outR out with | some r => [(q, r)] | none => []) q = some ro
    rw [hro]
    show (match Nat.beq q q with | true => some ro | false => none) = some ro
    rw [Nat.beq_refl]
  have hblf : ∀ j, j < vs.length → ∃ b, (memS q (List.range vs.length) vs out).bl j = some b := by
    intro j hj
    have h1 : vs[j]? = some vs[j] := List.getElem?_eq_getElem hj
    have h2 : out[j]? = some out[j] := List.getElem?_eq_getElem (by omega)
    exact ⟨_, outB_at (List.nodup_range) (List.getElem?_range hj) h1 h2⟩
  have hβf : ∀ j i, j < vs.length → caps[j]? = some i → cxf.β j = cx.β i := by
    intro j i hj hi
    rw [hF.β j (show j < vs.length + 1 by omega), hβ j hj i hi]
  have hrowB : ∀ ro g, outR out = some ro → (cxf.η q).ownBlock = some g → ¬ cxf.S g ∧ (w.heap.size ≤ g ∨ ∃ o, old = some o ∧ (cx.η o).ownBlock = some g) := by
    intro ro g hro hg
    obtain ⟨k1, k2⟩ := hMf.owS q ro g (hrow ro hro) hg
    refine ⟨k1, ?_⟩
    have hcap' : ∀ j i, j < vs.length → caps[j]? = some i → cx.β i ≠ g := fun j i hj hi => by rw [← hβf j i hj hi]; exact k2 j (hblf j hj)
    have hDq := (hMf.ow q ro (hrow ro hro)).1
    by_cases hD1 : (cloCx cx w.heap.size caps vs.length old).D q
    · rw [hF.η q hD1] at hg
      rcases hW1 g (.inr ⟨q, hD1, hg⟩) with ⟨j, i, hj, hi, h⟩ | h | h
      · exact absurd h.symm (hcap' j i hj hi)
      · exact .inl h
      · exact .inr h
    · rcases hF.nη q g hDq hD1 hg with h | h
      · exact .inl h
      · rcases hW1 g h with ⟨j, i, hj, hi, h⟩ | h | h
        · exact absurd h.symm (hcap' j i hj hi)
        · exact .inl h
        · exact .inr h
  let ηq : Value := match outR out with
    | some _ => cxf.η q
    | none => .slice none 0 0
  have hηq : ∀ g, ηq.ownBlock = some g → ∃ ro, outR out = some ro ∧ (cxf.η q).ownBlock = some g := by
    intro g hg
    show ∃ ro, outR out = some ro ∧ _
    have hg : (match outR out with | some _ => cxf.η q | none => .slice none 0 0 : Value).ownBlock = some g := hg
    split at hg
    · rename_i ro hro; exact ⟨ro, hro, hg⟩
    · cases hg
  let cxN : Cx := { D := fun i => cx.D i ∨ i = s.nx, β := upd cx.β s.nx w.heap.size, η := upd cx.η s.nx ηq, S := cxf.S }
  have hβN : ∀ i, i ≠ s.nx → cxN.β i = cx.β i := fun i hi => upd_ne _ _ hi
  have hηN : ∀ i, i ≠ s.nx → cxN.η i = cx.η i := fun i hi => upd_ne _ _ hi
  have hηn : cxN.η s.nx = ηq := upd_same ..
  have hFr : Fr cx cxN w w' (Eff.W (.clo bs old (outR out)) cx) s.nx (s.nx + 1) := by
    refine ⟨fun i h => .inl h, ?_, fun i h => hβN i (hD i h), fun i h => hηN i (hD i h), fun b h => hF.S b h, fun b h => hF.S' b h, hF.size, hF.os, hF.tape, hF.output, ?_, ?_, ?_⟩
    · rintro i (h | rfl)
      · exact .inl h
      · exact .inr ⟨Nat.le_refl _, Nat.lt_succ_self _⟩
    · intro b hlt hw
      exact hF.blk b hlt fun h => hw (hWb b hlt h)
    · rintro i (h | rfl) h'
      · exact absurd h h'
      · show w.heap.size ≤ upd cx.β s.nx w.heap.size s.nx
        rw [upd_same]; exact Nat.le_refl _
    · rintro i g (h | rfl) h' hg
      · exact absurd h h'
      · rw [hηn] at hg
        obtain ⟨ro, hro, hg⟩ := hηq g hg
        rcases (hrowB ro g hro hg).2 with h | h
        · exact .inl h
        · exact .inr (.inr h)
  have hsW : ∀ b, cx.S b → b < w.heap.size ∧ ¬ Eff.W (.clo bs old (outR out)) cx b := by
    intro b h
    refine ⟨hS b h, ?_⟩
    rintro (⟨p, hp, rfl⟩ | ⟨o, ho, hg⟩)
    · obtain ⟨j, T, v0, v, q1, q2, _⟩ := outB_key hp
      obtain ⟨i', cs, q4, q5, _⟩ := c2 j T v0 q2
      rw [q1] at q4
      cases q4
      exact (hm.bl _ _ _ q5).2.2.1 h
    · obtain ⟨j, T, i', r', q1, q2, q3, q4⟩ := c3 o ho
      exact (hm.owS o r' b q4 hg).1 h
  -- an old block that is not captured, an old row that is not the one captured
  have hbl' : ∀ i b, ((Eff.clo bs old (outR out)).apply s).bl i = some b → (∃ b', s.bl i = some b') := by
    intro i b h
    rcases over_some h with h | ⟨_, h⟩
    · obtain ⟨j, T, v0, v, q1, q2, _⟩ := outB_key (look_mem h)
      obtain ⟨i', cs, q4, q5, _⟩ := c2 j T v0 q2
      rw [q1] at q4
      cases q4
      exact ⟨_, q5⟩
    · exact ⟨b, h⟩
  have how' : ∀ i ro, ((Eff.clo bs old (outR out)).apply s).ow i = some ro → (i = s.nx ∧ outR out = some ro) ∨ (i ≠ s.nx ∧ old ≠ some i ∧ s.ow i = some ro) := by
    intro i ro h
    have h : upd (dropO old s.ow) s.nx (outR out) i = some ro := h
    by_cases hi : i = s.nx
    · subst hi; rw [upd_same] at h; exact .inl ⟨rfl, h⟩
    · rw [upd_ne _ _ hi] at h
      right
      refine ⟨hi, ?_⟩
      cases hold : old with
      | none => rw [hold] at h; exact ⟨by simp, h⟩
      | some o =>
        rw [hold] at h
        have h : upd s.ow o none i = some ro := h
        by_cases hio : i = o
        · subst hio; rw [upd_same] at h; cases h
        · rw [upd_ne _ _ hio] at h; exact ⟨fun e => hio (by cases e; rfl), h⟩
  have hlt : ∀ i b, s.bl i = some b → cx.β i < w.heap.size := fun i b h => by
    obtain ⟨_, _, _, ys, h4, _⟩ := hm.bl i b.1 b.2 h
    exact (Array.getElem?_eq_some_iff.1 h4).1
  have hβb : ∀ i b, s.bl i = some b → cxN.β i = cx.β i := fun i b h => hβN i (hD i (hm.bl i b.1 b.2 h).1)
  refine hp v w' cxN hFr ?_ ⟨?_, ?_, ?_, ?_, ?_⟩ hSf
  · exact resSV_ok (S := fun _ => False) (fun b h => h.elim) hres
  · intro i T cs h
    rcases over_some h with h | ⟨hno, h⟩
    · obtain ⟨j, v0, v, q1, q2, q3, rfl⟩ := outB_look h
      have hj : j < vs.length := (List.getElem?_eq_some_iff.1 q2).1
      obtain ⟨i', cs', q4, q5, _⟩ := c2 j T v0 q2
      rw [q1] at q4
      cases q4
      obtain ⟨m1, m2, m3, _⟩ := hm.bl i T cs' q5
      have hbl1 : (memS q (List.range vs.length) vs out).bl j = some (T, cellsV q v) := outB_at List.nodup_range (List.getElem?_range hj) q2 q3
      obtain ⟨p1, p2, p3, ys, p4, p5⟩ := hMf.bl j T _ hbl1
      rw [hβf j i hj q1] at p2 p3 p4
      rw [hβb i _ q5]
      refine ⟨.inl m1, m2, p3, ys, p4, ?_⟩
      cases v with
      | d ls =>
        have hd := litsOf_ok p5 (litsOf_map false ls)
        exact Dens.crels (cx := cxN) (fr := false) (hd.lt fun b hb => ⟨hb, fun h => by cases h⟩)
      | r ro =>
        obtain ⟨ro', hro'⟩ := outR_some q3
        have hη1 : ηq = cxf.η q := by show (match outR out with | some _ => cxf.η q | none => .slice none 0 0) = _; rw [hro']
        cases ys with
        | nil => exact p5.elim
        | cons y ys =>
          obtain ⟨t1, t2, t3⟩ := p5
          refine ⟨⟨.inr rfl, ?_⟩, t2, ?_⟩
          · rw [hηn, hη1]; exact t1.2
          · cases ys with
            | nil => trivial
            | cons _ _ => exact t3.elim
    · obtain ⟨m1, m2, m3, ys, m4, m5⟩ := hm.bl i T cs h
      rw [hβb i _ h]
      have hl := hlt i _ h
      refine ⟨.inl m1, m2, ?_, ys, ?_, hFr.crels hsW m5⟩
      · intro h'
        rcases hF.S' _ h' with h' | h'
        · exact m3 h'
        · have : w.heap.size ≤ cx.β i := h'.1
          omega
      · rw [hFr.blk _ hl ?_]
        · exact m4
        · rintro (⟨p, hp, he⟩ | ⟨o, ho, hg⟩)
          · obtain ⟨j, T', v0, v, q1, q2, q3⟩ := outB_key hp
            obtain ⟨i', cs', q4, q5, _⟩ := c2 j T' v0 q2
            rw [q1] at q4
            cases q4
            have := hm.inj _ _ ⟨_, h⟩ ⟨_, q5⟩ he
            rw [← this] at q1
            have := outB_at (q := s.nx) hn q1 q2 q3
            have hno : look bs i = none := hno
            rw [this] at hno
            cases hno
          · obtain ⟨j, T', i', r', q1, q2, q3, q4⟩ := c3 o ho
            exact (hm.owS o r' _ q4 hg).2 i ⟨_, h⟩ rfl
  · rintro i j ⟨b, hi⟩ ⟨b', hj⟩ he
    obtain ⟨c, hi⟩ := hbl' i b hi
    obtain ⟨c', hj⟩ := hbl' j b' hj
    rw [hβb i _ hi, hβb j _ hj] at he
    exact hm.inj i j ⟨_, hi⟩ ⟨_, hj⟩ he
  · intro i ro h
    rcases how' i ro h with ⟨rfl, h9⟩ | ⟨hi, hio, h9⟩
    · obtain ⟨p1, cells, p2, p3⟩ := hMf.ow q ro (hrow ro h9)
      have hη1 : ηq = cxf.η q := by show (match outR out with | some _ => cxf.η q | none => .slice none 0 0) = _; rw [h9]
      refine ⟨.inr rfl, cells, by rw [hηn, hη1]; exact p2, fun x hx j hj => ?_⟩
      exact p3 x hx j hj
    · obtain ⟨p1, cells, p2, p3⟩ := hm.ow i ro h9
      refine ⟨.inl p1, cells, ?_, fun x hx j hj => ?_⟩
      · rw [hηN i hi]
        refine own_same p2 fun g hg => ?_
        refine hFr.blk g (p2.lt g hg).2 ?_
        rintro (⟨p, hp, he⟩ | ⟨o, ho, hg'⟩)
        · obtain ⟨j, T', v0, v, q1, q2, q3⟩ := outB_key hp
          obtain ⟨i', cs', q4, q5, _⟩ := c2 j T' v0 q2
          rw [q1] at q4
          cases q4
          exact (hm.owS i ro g h9 hg).2 _ ⟨_, q5⟩ he.symm
        · obtain ⟨j, T', i', r', q1, q2, q3, q4⟩ := c3 o ho
          have := hm.owi i o ro r' g h9 q4 hg hg'
          exact hio (by rw [ho, this])
      · obtain ⟨z, hz, hd⟩ := p3 x hx j hj
        exact ⟨z, hz, hFr.den hsW hd⟩
  · intro i ro g h hg
    rcases how' i ro h with ⟨rfl, h9⟩ | ⟨hi, hio, h9⟩
    · rw [hηn] at hg
      obtain ⟨_, _, hg⟩ := hηq g hg
      obtain ⟨k1, k2⟩ := hrowB ro g h9 hg
      refine ⟨k1, fun j hj => ?_⟩
      obtain ⟨b, hj⟩ := hj
      obtain ⟨c, hj⟩ := hbl' j b hj
      rw [hβb j _ hj]
      rcases k2 with k2 | ⟨o, ho, hg'⟩
      · have := hlt j _ hj; omega
      · obtain ⟨j', T', i', r', q1, q2, q3, q4⟩ := c3 o ho
        exact (hm.owS o r' g q4 hg').2 j ⟨_, hj⟩
    · rw [hηN i hi] at hg
      obtain ⟨k1, k2⟩ := hm.owS i ro g h9 hg
      have hl := ((hm.ow i ro h9).2.choose_spec.1.lt g hg).2
      refine ⟨?_, fun j hj => ?_⟩
      · intro h'
        rcases hF.S' _ h' with h' | h'
        · exact k1 h'
        · have : w.heap.size ≤ g := h'.1
          omega
      · obtain ⟨b, hj⟩ := hj
        obtain ⟨c, hj⟩ := hbl' j b hj
        rw [hβb j _ hj]
        exact k2 j ⟨_, hj⟩
  · intro i j ro ro' g h h' hg hg'
    have cross : ∀ j ro', j ≠ s.nx → old ≠ some j → s.ow j = some ro' → (cx.η j).ownBlock = some g → ∀ ro, outR out = some ro → ηq.ownBlock = some g → False := by
      intro j ro' hj hjo h' hg' ro h hg
      obtain ⟨_, _, hg⟩ := hηq g hg
      have hl := ((hm.ow j ro' h').2.choose_spec.1.lt g hg').2
      rcases (hrowB ro g h hg).2 with k2 | ⟨o, ho, hg2⟩
      · omega
      · obtain ⟨_, _, _, r', _, _, _, q4⟩ := c3 o ho
        have := hm.owi j o ro' r' g h' q4 hg' hg2
        exact hjo (by rw [ho, this])
    rcases how' i ro h with ⟨rfl, h9⟩ | ⟨hi, hio, h9⟩ <;> rcases how' j ro' h' with ⟨rfl, h8⟩ | ⟨hj, hjo, h8⟩
    · rfl
    · rw [hηn] at hg
      rw [hηN j hj] at hg'
      exact (cross j ro' hj hjo h8 hg' ro h9 hg).elim
    · rw [hηn] at hg'
      rw [hηN i hi] at hg
      exact (cross i ro hi hio h9 hg ro' h8 hg').elim
    · rw [hηN i hi] at hg
      rw [hηN j hj] at hg'
      exact hm.owi i j ro ro' g h9 h8 hg hg'

theorem text_ok (hE : EnvOK P E) (hm : Mem base cx w s) (hS : ∀ b, cx.S b → b < w.heap.size) {T0 T : Nat} {x : Operand} {ob : Option Prop} {sv : SV} {e : Eff} (hy : svrel base cx w (opv s x) (a.eval x)) (he : evText E.tt s T0 (opv s x) = some (ob, sv, e)) (ho : o.op = .convert T0 T x) (hk : P.underlying T = some .string)
    (hob : ∀ p, ob = some p → p) (hp : Post base cx w s sv e fun y w' => next (a.put o.dst y) w') : o.wp P a w next Q := by
  unfold evText at he
  split at he
  · rename_i hb
    split at he
    · rename_i c hc
      rw [hc] at hy
      split at he
      · rename_i n f hsrc
        simp only [Option.some.injEq, Prod.mk.injEq] at he
        obtain ⟨rfl, rfl, rfl⟩ := he
        have hby := hob _ rfl
        obtain ⟨A, cap, news, k1, k2, k3, k4, k5⟩ := srcOf_ok hE hm hS hy hsrc
        obtain ⟨u0, u1, h0, h1⟩ : ∃ u0 u1, P.underlying T0 = some (.slice u0) ∧ P.underlying u0 = some (.int .u8) := by
          unfold isBytes at hb
          split at hb
          · rename_i t0 ht0
            have q0 := (hE.tt T0 t0 ht0).kd
            split at hb
            · rename_i e0 hkd
              rw [hkd] at q0
              split at hb
              · rename_i t1 ht1
                have q1 := (hE.tt e0 t1 ht1).kd
                split at hb
                · rename_i hkd1
                  rw [hkd1] at q1
                  exact ⟨e0, 0, q0, q1⟩
                · cases hb
              · cases hb
            · cases hb
          · cases hb
        have hrun : (convert T0 T (a.eval x)).run P w = .ok (.string (bytesOf n f)) w := by
          rw [k1, run_convert_bytes_string w T0 T u0 A n cap h0 h1 hk]
          rcases Nat.eq_zero_or_pos n with hn | hn
          · subst hn
            cases A with
            | none => simp [Conv.bytesToString, bytesOf]
            | some ad =>
              have hl : (loadCells ad 0).run P w = .ok (([] : List Int).map (Value.int .u8)).toArray w := by simpa using run_loadCells (P := P) (w := w) ad 0 (fun _ => undef) (by simp)
              rw [run_bytesToString w ad 0 cap [] hl]
              rfl
          · obtain ⟨ad, rfl, k6⟩ := k3 hn
            have hval : ∀ j, j < n → w.cell? (ad.add j) = some (.int .u8 ((match f j 0 with | .lit (.int .u8 m) => m | _ => 0))) := by
              intro j hj
              obtain ⟨z, hz, hd⟩ := k5 j hj 0 (by decide)
              rw [Nat.mul_one, Nat.add_zero] at hz
              rw [k6 j z hz]
              have := hby j hj
              unfold isByte at this
              split at this
              · rename_i m hm'
                rw [hm'] at hd
                rw [hd.1, hm']
              · exact this.elim
            have hl : (loadCells ad n).run P w = .ok (((List.range n).map fun j => (match f j 0 with | .lit (.int .u8 m) => m | _ => 0)).map (Value.int .u8)).toArray w := by
              rw [run_loadCells (P := P) (w := w) ad n _ hval, List.map_map]
              rfl
            rw [run_bytesToString w ad n cap _ hl]
            congr 2
            unfold bytesOf
            rw [List.foldl_map]
            congr 1
            funext r j
            unfold byteOf
            split <;> simp_all
        exact pure_ok hm hS hp (y := .string (bytesOf n f)) (by simp [execOp, ho, hrun]) (sv_v rfl)
      · cases he
    · cases he
  · cases he
theorem fillC_len {place : Nat → Option (Nat × Nat)} : ∀ {ps : List (Nat × List C)} {cs ds : List C}, fillC place cs ps = some ds → ds.length = cs.length
  | [], cs, ds, h => by simp only [fillC, Option.some.injEq] at h; rw [h]
  | (i, xs) :: ps, cs, ds, h => by
    unfold fillC at h
    split at h
    · split at h
      · rename_i hb
        split at h
        · rename_i hle
          have h1 := fillC_len h
          rw [h1]
          have hb := beq_eq hb
          have hle := ble_le hle
          simp only [lay, List.length_append, List.length_take, List.length_drop]
          omega
        · cases h
      · cases h
    · cases h
/-- a new map: a value with a name -/
theorem map_ok (hm : Mem base cx w s) (hS : ∀ b, cx.S b → b < w.heap.size) (hD : ∀ i, cx.D i → i ≠ s.nx) {T : Nat} (ho : o.op = .makeMap T none) (hp : Post base cx w s (.o (.h s.nx)) (.clo [] none none) fun y w' => next (a.put o.dst y) w') : o.wp P a w next Q := by
  let w' := w.alloc (.map #[] 0)
  let cx' : Cx := { D := fun i => cx.D i ∨ i = s.nx, β := upd cx.β s.nx w.heap.size, η := upd cx.η s.nx (.map (some w.heap.size)), S := cx.S }
  have hη : cx'.η s.nx = .map (some w.heap.size) := upd_same ..
  have hβ : cx'.β s.nx = w.heap.size := upd_same ..
  have hβ' : ∀ i, i ≠ s.nx → cx'.β i = cx.β i := fun i hi => upd_ne _ _ hi
  have hη' : ∀ i, i ≠ s.nx → cx'.η i = cx.η i := fun i hi => upd_ne _ _ hi
  have hsz : w'.heap.size = w.heap.size + 1 := by simp [w']
  have hF : Fr cx cx' w w' (Eff.W (.clo [] none none) cx) s.nx ((Eff.clo [] none none).apply s).nx := by
    refine ⟨fun i h => .inl h, ?_, fun i h => hβ' i (hD i h), fun i h => hη' i (hD i h), fun b h => h, fun b h => .inl h, by omega, rfl, rfl, rfl, fun b hb _ => Below.heap_alloc w _ b hb, ?_, ?_⟩
    · rintro i (h | rfl)
      · exact .inl h
      · exact .inr ⟨Nat.le_refl _, Nat.lt_succ_self _⟩
    · rintro i (h | rfl) h'
      · exact absurd h h'
      · rw [hβ]; exact Nat.le_refl _
    · rintro i g (h | rfl) h' hg
      · exact absurd h h'
      · rw [hη] at hg; simp [Value.ownBlock] at hg
  have hs : ∀ b, cx.S b → b < w.heap.size ∧ ¬ Eff.W (.clo [] none none) cx b := fun b h => ⟨hS b h, by rintro (⟨_, h, _⟩ | ⟨_, h, _⟩) <;> cases h⟩
  have how : ∀ i r, ((Eff.clo [] none none).apply s).ow i = some r → i ≠ s.nx ∧ s.ow i = some r := by
    intro i r h
    have h : upd s.ow s.nx none i = some r := h
    by_cases hi : i = s.nx
    · subst hi; rw [upd_same] at h; cases h
    · rw [upd_ne _ _ hi] at h; exact ⟨hi, h⟩
  have hbl : ∀ i b, ((Eff.clo [] none none).apply s).bl i = some b → s.bl i = some b := fun i b h => h
  have hne : ∀ i b, s.bl i = some b → i ≠ s.nx := fun i b h => hD i (hm.bl i b.1 b.2 h).1
  refine val_ok (y := .map (some w.heap.size)) (w' := w') (by simp [execOp, ho, Instr.makeMap, w']) (hp _ w' cx' hF ⟨⟨.inr rfl, hη.symm⟩, rfl⟩ ⟨?_, ?_, ?_, ?_, ?_⟩ (fun b h => by have := hS b h; omega))
  · intro i T' cs h
    have h := hbl i _ h
    obtain ⟨h1, h2, h3, ys, h4, h5⟩ := hm.bl i T' cs h
    have hi := hne i _ h
    exact ⟨.inl h1, by rw [hβ' i hi]; exact h2, by rw [hβ' i hi]; exact h3, ys, by rw [hβ' i hi, Below.heap_alloc w _ _ (Array.getElem?_eq_some_iff.1 h4).1]; exact h4, hF.crels hs h5⟩
  · rintro i j ⟨b, h1⟩ ⟨b', h2⟩ h3
    have h1 := hbl i _ h1
    have h2 := hbl j _ h2
    rw [hβ' i (hne i _ h1), hβ' j (hne j _ h2)] at h3
    exact hm.inj i j ⟨b, h1⟩ ⟨b', h2⟩ h3
  · intro i r h
    obtain ⟨hi, h⟩ := how i r h
    obtain ⟨h1, cells, h2, h3⟩ := hm.ow i r h
    refine ⟨.inl h1, cells, by rw [hη' i hi]; exact h2.alloc _, fun a ha j hj => ?_⟩
    obtain ⟨z, hz, hd⟩ := h3 a ha j hj
    exact ⟨z, hz, hF.den hs hd⟩
  · intro i r g h hg
    obtain ⟨hi, h⟩ := how i r h
    rw [hη' i hi] at hg
    obtain ⟨h4, h5⟩ := hm.owS i r g h hg
    refine ⟨h4, ?_⟩
    rintro j ⟨b, hj⟩
    have hj := hbl j _ hj
    rw [hβ' j (hne j _ hj)]; exact h5 j ⟨b, hj⟩
  · intro i j r r' g h1 h2 h3 h4
    obtain ⟨hi, h1⟩ := how i r h1
    obtain ⟨hj, h2⟩ := how j r' h2
    rw [hη' i hi] at h3
    rw [hη' j hj] at h4
    exact hm.owi i j r r' g h1 h2 h3 h4
theorem litsOf_den {cs : List C} {ys : List Value} {ls : List L} (hc : crels base cx w cs ys) (h : litsOf cs = some ls) : Dens w (cx.SB base (frCs cs)) ls ys := by
  cases hf : frCs cs with
  | true => exact litsOf_fr hc h hf
  | false => exact (litsOf_ok hc h).weak fun b hb => ⟨hb, fun h => by cases h⟩
/-- a literal, kept as a block -/
theorem buildSlice_ok (hE : EnvOK P E) (hb : base ≤ w.heap.size) (hm : Mem base cx w s) (hS : ∀ b, cx.S b → b < w.heap.size) (hD : ∀ i, cx.D i → i ≠ s.nx) {e n : Nat} {cs : List C}
    (hr : ∃ zs, crels base cx w cs zs ∧ (execOp a.eval o).run P w = .ok (.value (.slice (some ⟨w.heap.size, 0, none⟩) n n)) (w.alloc (.cells zs.toArray e)))
    (hp : Post base cx w s (.o (.s s.nx n)) (.new e cs) fun y w' => next (a.put o.dst y) w') : o.wp P a w next Q := by
  obtain ⟨zs, hz4, hrun⟩ := hr
  exact val_ok hrun (new_ok (x := .o (.s s.nx n)) (K := fun y w' => next (a.put o.dst y) w') hb hm hS hD hz4 (fun cx' h h' => ⟨⟨h, by rw [h']⟩, rfl⟩) hp)
/-- a literal, kept as a row of the call's own -/
theorem buildSliceR_ok (hE : EnvOK P E) (hb : base ≤ w.heap.size) (hm : Mem base cx w s) (hS : ∀ b, cx.S b → b < w.heap.size) (hD : ∀ i, cx.D i → i ≠ s.nx) {e n sz : Nat} {cs : List C} {ls : List L} (hl : litsOf cs = some ls) (hlen : cs.length = n * sz) (hn : n ≤ maxLen)
    (hr : ∃ zs, crels base cx w cs zs ∧ (execOp a.eval o).run P w = .ok (.value (.slice (some ⟨w.heap.size, 0, none⟩) n n)) (w.alloc (.cells zs.toArray e)))
    (hp : Post base cx w s (.o (.h s.nx)) (.own ⟨e, sz, n, fun a b => nth ls (a * sz + b), frCs cs⟩) fun y w' => next (a.put o.dst y) w') : o.wp P a w next Q := by
  obtain ⟨zs, hz4, hrun⟩ := hr
  have hzl : zs.length = n * sz := by rw [← hz4.length, hlen]
  refine val_ok hrun ?_
  refine own_new (r := ⟨e, sz, n, fun a b => nth ls (a * sz + b), frCs cs⟩) (vo := .slice none 0 0) (xs := zs) (K := fun y w' => next (a.put o.dst y) w') hb hm hS hD (.inl ⟨rfl, rfl⟩) rfl
    ⟨hzl, .inr ⟨w.heap.size, n, zs.toArray, rfl, hb, heap_alloc_new w _, Nat.le_refl _, hn, by simpa using hzl, by rw [List.take_of_length_le (by simp [hzl])]⟩⟩ (World.grownBy_alloc w _ _) (fun g hg => .inr (by simp [Value.ownBlock] at hg; exact hg.symm)) ?_ hp
  intro q hq j hj
  have hj : j < sz := hj
  have hq : q < n := hq
  have hlt : q * sz + j < zs.length := by
    have : (q + 1) * sz ≤ n * sz := Nat.mul_le_mul_right _ hq
    rw [Nat.add_mul] at this; omega
  refine ⟨zs[q * sz + j], List.getElem?_eq_getElem hlt, ((litsOf_den hz4 hl).nth _ _ (List.getElem?_eq_getElem hlt))⟩
/-- a literal, kept as data -/
theorem buildSliceD_ok (hE : EnvOK P E) (hb : base ≤ w.heap.size) (hm : Mem base cx w s) (hS : ∀ b, cx.S b → b < w.heap.size) {e n sz : Nat} {cs : List C} {ls : List L} (hl : litsOf cs = some ls) (hlen : cs.length = n * sz) (hn : n ≤ maxLen)
    (hr : ∃ zs, crels base cx w cs zs ∧ (execOp a.eval o).run P w = .ok (.value (.slice (some ⟨w.heap.size, 0, none⟩) n n)) (w.alloc (.cells zs.toArray e)))
    (hp : Post base cx w s (.o (.sl (frCs cs) sz n fun a b => nth ls (a * sz + b))) .no fun y w' => next (a.put o.dst y) w') : o.wp P a w next Q := by
  obtain ⟨zs, hz4, hrun⟩ := hr
  have hzl : zs.length = n * sz := by rw [← hz4.length, hlen]
  let w' := w.alloc (.cells zs.toArray e)
  let cx' : Cx := { cx with S := fun b => cx.S b ∨ b = w.heap.size }
  have hsz : w'.heap.size = w.heap.size + 1 := by simp [w']
  have hF : Fr cx cx' w w' (Eff.W .no cx) s.nx s.nx := ⟨fun _ h => h, fun _ h => .inl h, fun _ _ => rfl, fun _ _ => rfl, fun _ h => .inl h, fun b h => h.imp id fun h => by subst h; omega, by omega, rfl, rfl, rfl, fun b hb _ => Below.heap_alloc w _ b hb, fun _ h h' => absurd h h', fun _ _ h h' => absurd h h'⟩
  have hs : ∀ b, cx.S b → b < w.heap.size ∧ ¬ Eff.W .no cx b := fun b h => ⟨hS b h, id⟩
  refine val_ok hrun (hp _ w' cx' hF ⟨⟨some ⟨w.heap.size, 0, none⟩, n, rfl, Nat.le_refl _, hn, fun h0 => ⟨_, rfl, ⟨.inr rfl, fun _ => hb⟩, fun q hq j hj => ?_⟩⟩, rfl⟩ ⟨?_, hm.inj, ?_, ?_, hm.owi⟩ (fun b h => by
    rcases h with h | rfl
    · have := hS b h; omega
    · omega))
  · have hlt : q * sz + j < zs.length := by
      have : (q + 1) * sz ≤ n * sz := Nat.mul_le_mul_right _ hq
      rw [Nat.add_mul] at this; omega
    refine ⟨zs[q * sz + j], ?_, hF.den hs ((litsOf_den hz4 hl).nth _ _ (List.getElem?_eq_getElem hlt))⟩
    have hh : w'.heap[w.heap.size]? = some (.cells zs.toArray e (0, 0)) := heap_alloc_new w _
    unfold World.cell?
    rw [add_block]
    simp only [hh]
    unfold Addr.add
    split
    · rename_i h0; rw [h0] at hlt; simp [h0, List.getElem?_eq_getElem hlt]
    · simp [List.getElem?_eq_getElem hlt]
  · intro i T' cs h
    obtain ⟨h1, h2, h3, ys, h4, h5⟩ := hm.bl i T' cs h
    have hlt := (Array.getElem?_eq_some_iff.1 h4).1
    exact ⟨h1, h2, fun h => h.elim h3 fun h => by have h : cx.β i = w.heap.size := h; omega, ys, by rw [show cx'.β i = cx.β i from rfl, Below.heap_alloc w _ _ hlt]; exact h4, hF.crels hs h5⟩
  · intro i r h
    obtain ⟨h1, cells, h2, h3⟩ := hm.ow i r h
    refine ⟨h1, cells, h2.alloc _, fun a ha j hj => ?_⟩
    obtain ⟨z, hz, hd⟩ := h3 a ha j hj
    exact ⟨z, hz, hF.den hs hd⟩
  · intro i r g h hg
    obtain ⟨h4, h5⟩ := hm.owS i r g h hg
    obtain ⟨h1, cells, h2, _⟩ := hm.ow i r h
    have := (h2.lt g hg).2
    exact ⟨fun h => h.elim h4 fun h => by omega, h5⟩
theorem op_ok (hE : EnvOK P E) (hb : base ≤ w.heap.size) (hm : Mem base cx w s) (hS : ∀ b, cx.S b → b < w.heap.size) (hD : ∀ i, cx.D i → i ≠ s.nx) (ht : ∀ t, svrel base cx w (s.tm t) (a.tmps.getD t undef)) {ob : Option Prop} {x : SV} {e : Eff} (he : evalOp E s o = some (ob, x, e)) (hob : ∀ p, ob = some p → p)
    (hp : Post base cx w s x e fun y w' => next (a.put o.dst y) w') : o.wp P a w next Q := by
  have hv := opv_ok (s := s) (a := a) ht
  unfold evalOp at he
  split at he
  · rename_i y ho
    simp only [pur, Option.some.injEq, Prod.mk.injEq] at he; obtain ⟨rfl, rfl, rfl⟩ := he
    exact move_ok hE hm hS hv (.inl ho) hp
  · rename_i y ho
    simp only [pur, Option.some.injEq, Prod.mk.injEq] at he; obtain ⟨rfl, rfl, rfl⟩ := he
    exact move_ok hE hm hS hv (.inr ho) hp
  · rename_i c u v ho
    split at he
    · rename_i t hc
      have h1 := hv c
      rw [hc] at h1
      have h1 := rel_k h1
      split at he
      · simp only [pur, Option.some.injEq, Prod.mk.injEq] at he; obtain ⟨rfl, rfl, rfl⟩ := he
        exact pure_ok hm hS hp (y := a.eval u) (by simp [execOp, ho, h1, asBool]) (hv u)
      · simp only [pur, Option.some.injEq, Prod.mk.injEq] at he; obtain ⟨rfl, rfl, rfl⟩ := he
        exact pure_ok hm hS hp (y := a.eval v) (by simp [execOp, ho, h1, asBool]) (hv v)
    · cases he
  · rename_i T ho
    split at he
    · rename_i ti hti
      simp only [Option.some.injEq, Prod.mk.injEq] at he; obtain ⟨rfl, rfl, rfl⟩ := he
      exact alloc_ok hE hb hm hS hD hti ho hp
    · cases he
  · rename_i T y ho
    split at he
    · rename_i cs hcs
      simp only [Option.some.injEq, Prod.mk.injEq] at he; obtain ⟨rfl, rfl, rfl⟩ := he
      exact box_ok hb hm hS hD hv hcs ho hp
    · cases he
  · rename_i T ps ho
    split at he
    · cases he
    rename_i ti hti
    split at he
    · cases he
    rename_i qs hqs
    split at he
    · rename_i fs hkd
      split at he
      · rename_i pl hpl
        split at he
        · rename_i cs hcs
          simp only [pur, Option.some.injEq, Prod.mk.injEq] at he; obtain ⟨rfl, rfl, rfl⟩ := he
          exact build_ok hE hm hS hv hti hqs ho (.inl ⟨fs, pl, hkd, hpl, hcs⟩) hp
        · cases he
      · cases he
    · rename_i n e' hkd
      split at he
      · cases he
      rename_i ei hei
      split at he
      · rename_i cs hcs
        simp only [pur, Option.some.injEq, Prod.mk.injEq] at he; obtain ⟨rfl, rfl, rfl⟩ := he
        exact build_ok hE hm hS hv hti hqs ho (.inr ⟨n, e', ei, hkd, hei, hcs⟩) hp
      · cases he
    · cases he
  · rename_i T n ps ho
    split at he
    · cases he
    rename_i ti hti
    split at he
    · rename_i e' hkd
      split at he
      · cases he
      rename_i ei hei
      split at he
      · cases he
      rename_i qs hqs
      split at he
      · cases he
      rename_i hc
      simp only [Bool.and_eq_true] at hc
      split at he
      · rename_i cs hcs
        have hr := buildSlice_run (P := P) (base := base) (cx := cx) (w := w) hE hv hti hkd hei hqs ho (ble_le hc.1) (beq_eq hc.2) hcs
        split at he
        · simp only [Option.some.injEq, Prod.mk.injEq] at he; obtain ⟨rfl, rfl, rfl⟩ := he
          exact buildSlice_ok hE hb hm hS hD hr hp
        · split at he
          · cases he
          rename_i hz
          split at he
          · cases he
          rename_i ls hls
          have hz : 0 < ei.sz := Nat.lt_of_lt_of_le Nat.zero_lt_one (Nat.le_of_ble_eq_true hz)
          have hle : n * ei.sz ≤ 4096 := ble_le hc.1
          have hn : n ≤ maxLen := by
            have : n * 1 ≤ n * ei.sz := Nat.mul_le_mul_left _ hz
            simp only [maxLen]; omega
          have hlen : cs.length = n * ei.sz := by
            have h1 := fillC_len hcs
            rw [h1]; simp [beq_eq hc.2]
          split at he
          · simp only [Option.some.injEq, Prod.mk.injEq] at he; obtain ⟨rfl, rfl, rfl⟩ := he
            exact buildSliceD_ok hE hb hm hS hls hlen hn hr hp
          · simp only [Option.some.injEq, Prod.mk.injEq] at he; obtain ⟨rfl, rfl, rfl⟩ := he
            exact buildSliceR_ok hE hb hm hS hD hls hlen hn hr hp
      · cases he
    · cases he
  · rename_i T y ho
    exact load_ok hE hm hS hv he ho hob hp
  · rename_i T y z ho
    exact store_ok hE hm hS hv he ho hob hp
  · rename_i y ho
    have hy := hv y
    split at he <;> first | (cases he; done) | skip
    all_goals
      rename_i heq
      rw [heq] at hy
      simp only [pur, Option.some.injEq, Prod.mk.injEq] at he; obtain ⟨rfl, rfl, rfl⟩ := he
    · exact pure_ok hm hS hp (y := a.eval y) (by simp [execOp, ho, hy.1.2]) hy
    · obtain ⟨⟨ad, h1, h2⟩, _⟩ := hy
      exact pure_ok hm hS hp (y := a.eval y) (by simp [execOp, ho, h1]) (by have := hv y; rw [heq] at this; exact this)
    · obtain ⟨⟨h0, g, n, cap, h1, h2⟩, _⟩ := hy
      exact pure_ok hm hS hp (y := a.eval y) (by simp [execOp, ho, h2]) (by have := hv y; rw [heq] at this; exact this)
    · exact pure_ok hm hS hp (y := a.eval y) (by simp [execOp, ho, hy.1.2]) hy
  · rename_i op T y z ty ho
    have hy := hv y
    have hz := hv z
    split at he
    · rename_i c hc
      rw [hc] at hy
      split at he
      · rename_i d hd
        rw [hd] at hz
        split at he
        · rename_i hT
          split at he
          · rename_i ob' r hr
            simp only [Option.some.injEq, Prod.mk.injEq] at he; obtain ⟨rfl, rfl, rfl⟩ := he
            have hpt : (match E.tt T with | some ti => (match ti.kd with | .pt _ => true | _ => false) | none => false) = true → ∃ e, P.underlying T = some (.pointer e) := by
              intro h
              split at h
              · rename_i ti hti
                have hk := (hE.tt T ti hti).kd
                split at h
                · rename_i e hkd; rw [hkd] at hk; exact ⟨e, hk⟩
                · cases h
              · cases h
            have hbt : (match E.tt T with | some ti => (match ti.kd with | .bl => true | _ => false) | none => false) = true → P.underlying T = some .bool := by
              intro h
              split at h
              · rename_i ti hti
                have hk := (hE.tt T ti hti).kd
                split at h
                · rename_i hkd; rw [hkd] at hk; exact hk
                · cases h
              · cases h
            obtain ⟨zv, h1, h2, h3⟩ := bin_ok (P := P) hE hr hob (T := T) (px := y) (py := z) hy hz (by rintro i off rfl; exact hpt hT) (by rintro fr m g rfl; exact hpt hT) (by rintro (rfl | rfl) <;> exact hpt hT) (by rintro b (rfl | rfl) <;> exact hbt hT)
            refine pure_ok hm hS hp (y := zv) ?_ (sv_of h2 h3)
            have h1' : (do eqGuard op T y z (a.eval y) (a.eval z); binOp op T (a.eval y) (a.eval z) : Sem Value).run P w = .ok zv w := h1
            simp only [execOp, ho, Sem.run_bind] at h1' ⊢
            rw [h1']
            rfl
          · cases he
        · cases he
      · cases he
    · rename_i cs hc
      rw [hc] at hy
      split at he
      · rename_i ds hd
        rw [hd] at hz
        split at he
        · rename_i ti hti
          split at he
          · rename_i ob' r hr
            simp only [Option.some.injEq, Prod.mk.injEq] at he; obtain ⟨rfl, rfl, rfl⟩ := he
            obtain ⟨zv, h1, h2, h3⟩ := binAgg_ok hE hti hr (px := y) (py := z) hy hz
            refine pure_ok hm hS hp (y := zv) ?_ (sv_of h2 h3)
            have h1' : (do eqGuard op T y z (a.eval y) (a.eval z); binOp op T (a.eval y) (a.eval z) : Sem Value).run P w = .ok zv w := h1
            simp only [execOp, ho, Sem.run_bind] at h1' ⊢
            rw [h1']
            rfl
          · cases he
        · cases he
      · cases he
    · cases he
  · rename_i op T y ho
    have hy := hv y
    split at he <;> first | (cases he; done) | skip
    all_goals
      rename_i heq
      rw [heq] at hy
      split at he <;> first | (cases he; done) | skip
      simp only [pur, Option.some.injEq, Prod.mk.injEq] at he; obtain ⟨rfl, rfl, rfl⟩ := he
    · rename_i b _
      have h1 := rel_k hy
      refine pure_ok hm hS hp (y := .bool !b) (by simp [execOp, ho, h1, Op.unary]) ?_
      cases b <;> exact sv_k _
    · rename_i b _
      have h1 := (rel_v hy).1
      exact pure_ok hm hS hp (y := .bool !b) (by simp [execOp, ho, h1, Op.unary]) (sv_v rfl)
    · rename_i k n _
      have h1 := rel_k hy
      exact pure_ok hm hS hp (y := .int k (k.wrap (0 - n))) (by simp [execOp, ho, h1, Op.unary, Op.intArith]) (by rw [normI_eq]; exact sv_k _)
    · rename_i k n _
      have h1 := (rel_v hy).1
      exact pure_ok hm hS hp (y := .int k (k.wrap (0 - n))) (by simp [execOp, ho, h1, Op.unary, Op.intArith]) (sv_v rfl)
  · rename_i T0 T y ho
    have hy := hv y
    split at he
    · cases he
    rename_i t0 ht0
    obtain ⟨d, hu⟩ : ∃ d, P.underlying T0 = some d := by
      have hk := (hE.tt T0 t0 ht0).kd
      split at hk
      · obtain ⟨d, h, _⟩ := hk; exact ⟨d, h⟩
      · exact ⟨_, hk⟩
      · exact ⟨_, hk⟩
      · exact ⟨_, hk⟩
      · exact ⟨_, hk⟩
      · obtain ⟨d, h, _⟩ := hk; exact ⟨_, h⟩
      · exact ⟨_, hk⟩
      · exact ⟨_, hk⟩
    split at he
    · rename_i ti hti
      have hk := (hE.tt T ti hti).kd
      split at he
      · rename_i k hkd
        rw [hkd] at hk
        have hrun : ∀ kk n, (convert T0 T (.int kk n)).run P w = .ok (.int k (k.wrap n)) w := by
          intro kk n
          simp [convert, run_underlying hu, run_underlying hk, Conv.intToInt]
        split at he
        · rename_i kk n heq
          rw [heq] at hy
          simp only [pur, Option.some.injEq, Prod.mk.injEq] at he; obtain ⟨rfl, rfl, rfl⟩ := he
          have h1 := rel_k hy
          exact pure_ok hm hS hp (y := .int k (k.wrap n)) (by simp [execOp, ho, h1, hrun]) (by rw [normI_eq]; exact sv_k _)
        · rename_i kk n heq
          rw [heq] at hy
          simp only [pur, Option.some.injEq, Prod.mk.injEq] at he; obtain ⟨rfl, rfl, rfl⟩ := he
          have h1 := (rel_v hy).1
          exact pure_ok hm hS hp (y := .int k (k.wrap n)) (by simp [execOp, ho, h1, hrun]) (sv_v rfl)
        · cases he
      · rename_i hkd
        rw [hkd] at hk
        exact text_ok hE hm hS hy he ho hk hob hp
      · cases he
    · cases he
  · rename_i fn first caps ho
    split at he
    · rename_i g
      split at he
      · rename_i hfirst
        split at he
        · rename_i is his
          simp only [pur, Option.some.injEq, Prod.mk.injEq] at he; obtain ⟨rfl, rfl, rfl⟩ := he
          obtain ⟨h1, h2⟩ := makeFunc_ok hv his
          have hf0 : first = #[] := by
            have : first.toList = [] := hfirst
            simpa using this
          refine pure_ok hm hS hp (y := .func (.func g) #[] (is.map fun i => Value.pointer (some ⟨cx.β i, 0, none⟩)).toArray) ?_ ⟨⟨h1, rfl⟩, rfl⟩
          have h3 : caps.map a.eval = (is.map fun i => Value.pointer (some ⟨cx.β i, 0, none⟩)).toArray := by
            rw [← h2]; simp [← List.map_toArray]
          simp [execOp, ho, Instr.makeFunc, hf0, h3]
        · cases he
      · cases he
    · cases he
  · rename_i T l c ho
    split at he
    · cases he
    rename_i ti hti
    split at he
    · rename_i e' hkd
      split at he
      · cases he
      rename_i ei hei
      have hl := hv l
      have hc := hv c
      split at he
      · rename_i lc heq
        rw [heq] at hl
        split at he
        · rename_i k n hvl
          split at he
          · rename_i cc heq2
            rw [heq2] at hc
            split at he
            · rename_i k' m hvc
              simp only [Option.some.injEq, Prod.mk.injEq] at he; obtain ⟨rfl, rfl, rfl⟩ := he
              exact make_ok hE hb hm hS hD hti hkd hei (valOf_ok hl.1 hvl) (valOf_ok hc.1 hvc) (hob _ rfl) ho hp
            · cases he
          · cases he
        · cases he
      · cases he
    · cases he
  · rename_i T y lo hi mx ho
    split at he
    · exact slice_ok hE hm hS hv he ho hob hp
    · cases he
  · rename_i T r ho
    split at he
    · simp only [Option.some.injEq, Prod.mk.injEq] at he; obtain ⟨rfl, rfl, rfl⟩ := he
      exact map_ok hm hS hD ho hp
    · cases he
  · rename_i T y k ho
    exact fieldAddr_ok hE hm hS hv he ho hp
  · rename_i T y k ho
    split at he
    · rename_i off fi hf
      split at he
      · rename_i cs hcs
        split at he
        · rename_i z hz
          simp only [pur, Option.some.injEq, Prod.mk.injEq] at he; obtain ⟨rfl, rfl, rfl⟩ := he
          exact field_ok hE hm hS hv hf hcs hz ho hp
        · cases he
      · cases he
    · cases he
  · rename_i T y i ho
    exact indexAddr_ok hE hm hS hv he ho hob hp
  · rename_i T y i ho
    exact index_ok hE hm hS hv he ho hob hp
  · rename_i y i ho
    have hy := hv y
    split at he
    · rename_i vs heq
      rw [heq] at hy
      obtain ⟨ys, h1, h2⟩ := hy
      have key : ∀ {vs : List (Bool × List C)} {ys : List Value} {i : Nat} {b : Bool} {cs : List C}, trel base cx w vs ys → vs[i]? = some (b, cs) → ∃ y, ys[i]? = some y ∧ (match b with
          | true => ∃ zs, y = .agg zs.toArray ∧ crels base cx w cs zs
          | false => ∃ z, y = z ∧ crels base cx w cs [z]) := by
        intro vs
        induction vs with
        | nil => intro ys i b cs _ h; simp at h
        | cons v vs ih =>
          intro ys i b cs ht h
          match ys, ht with
          | y :: ys, ht =>
            cases i with
            | zero => simp at h; subst h; exact ⟨y, rfl, ht.1⟩
            | succ i => simp at h; obtain ⟨y', h3, h4⟩ := ih ht.2 h; exact ⟨y', by simpa using h3, h4⟩
      split at he
      · rename_i b cs hvi
        obtain ⟨yv, h3, h4⟩ := key h2 hvi
        have hrun : (execOp a.eval o).run P w = .ok (.value yv) w := by simp [execOp, ho, Instr.extract, h1, h3]
        split at he
        · simp only [pur, Option.some.injEq, Prod.mk.injEq] at he; obtain ⟨rfl, rfl, rfl⟩ := he
          exact pure_ok hm hS hp hrun h4
        · split at he
          · simp only [pur, Option.some.injEq, Prod.mk.injEq] at he; obtain ⟨rfl, rfl, rfl⟩ := he
            obtain ⟨z, rfl, h5⟩ := h4
            exact pure_ok hm hS hp hrun (sv_of h5.1 h5.2.1)
          · cases he
      · cases he
    · cases he
  · rename_i c ho
    obtain ⟨callee, args, ts⟩ := c
    simp only at he
    split at he
    · split at he
      · rename_i x0 heq
        split at he
        · rename_i T heq2
          unfold evLen at he
          split at he
          · cases he
          rename_i ti hti
          split at he
          · rename_i e' hkd
            split at he
            · rename_i c hc
              simp only [pur, Option.some.injEq, Prod.mk.injEq] at he; obtain ⟨rfl, rfl, rfl⟩ := he
              have ha : args = #[x0] := by rw [← Array.toArray_toList (xs := args), heq]
              have hts : ts = #[T] := by rw [← Array.toArray_toList (xs := ts), heq2]
              subst ha
              subst hts
              exact len_ok hE hm hS hv hti hkd hc ho hp
            · cases he
          · rename_i hkd
            split at he
            · rename_i c hc0
              split at he
              · rename_i u hc
                simp only [pur, Option.some.injEq, Prod.mk.injEq] at he; obtain ⟨rfl, rfl, rfl⟩ := he
                have ha : args = #[x0] := by rw [← Array.toArray_toList (xs := args), heq]
                have hts : ts = #[T] := by rw [← Array.toArray_toList (xs := ts), heq2]
                subst ha
                subst hts
                exact lenS_ok hE hm hS hv hti hkd hc0 hc ho hp
              · cases he
            · cases he
          · cases he
        · cases he
      · cases he
    · exact mm_ok (mx := false) (ts := ts) hm hS hv he (by rw [ho]; simp) hp
    · exact mm_ok (mx := true) (ts := ts) hm hS hv he (by rw [ho]; simp) hp
    · split at he
      · rename_i x0 y0 heq
        split at he
        · rename_i T T' heq2
          split at he
          · rename_i hTT
            have hTT := beq_eq hTT
            subst hTT
            have ha : args = #[x0, y0] := by rw [← Array.toArray_toList (xs := args), heq]
            have hts : ts = #[T, T] := by rw [← Array.toArray_toList (xs := ts), heq2]
            subst ha
            subst hts
            exact append_ok hE hb hm hS hD hv he ho hob hp
          · have ha : args = #[x0, y0] := by rw [← Array.toArray_toList (xs := args), heq]
            have hts : ts = #[T, T'] := by rw [← Array.toArray_toList (xs := ts), heq2]
            subst ha
            subst hts
            exact appendZ_ok hE hb hm hS hD hv he ho hob hp
        · cases he
      · cases he
    · rename_i f
      split at he
      · rename_i g cs hf
        split at he
        · rename_i F hF
          split at he
          · exact ap_ok hE hb hm hS hD hv hf hF he ho hp
          · cases he
        split at he
        · rename_i csp hcl
          exact clo_ok hE hb hm hS hD hv hf hcl he ho hob hp
        · exact call_ok hE hb hm hS hv hf he ho hob hp
      · cases he
    · cases he
  · cases he
end
end Go.Proofs.YtggappbiedkopaaGreat.SX
