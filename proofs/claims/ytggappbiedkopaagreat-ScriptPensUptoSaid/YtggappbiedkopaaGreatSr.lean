/- The symbolic executor, part r: arguments as they are read are data. -/
import Derived.Test.YtggappbiedkopaaGreatSo
import Derived.ProofKit
import Derived.OpenShut
import Derived.ShutString
import Derived.ChangeOld
import Derived.Below
import Derived.SizedLaws
namespace Go.Proofs.YtggappbiedkopaaGreat.SX
open Go Go.RowKit
set_option linter.unusedVariables false

/-- data of a type -/
def TyL (tt : Nat → Option TI) : Nat → Nat → List L → Prop
  | 0, _, _ => False
  | k + 1, T, ls => match tt T with
    | none => False
    | some ti => match ti.kd with
      | .int q => ∃ n, ls = [.lit (.int q n)] ∧ (Lit.int q n).wf = true
      | .bl => ∃ b, ls = [.lit (.bool b)]
      | .sl e => match tt e with
        | none => False
        | some ei => ∃ n f, ls = [.sl ei.sz n f] ∧ n * ei.byt ≤ 140737488351232 ∧ n ≤ 9223372036854775807 ∧ ∀ i, i < n → TyL tt k e ((List.range ei.sz).map (f i))
      | .st fs => ls.length = ti.sz ∧ ∀ p ∈ fs, match tt p.2 with
        | none => False
        | some fi => TyL tt k p.2 ((ls.drop p.1).take fi.sz)
      | _ => False
/-- the fields lie one behind the other -/
def contig (tt : Nat → Option TI) (off : Nat) (fs : List (Nat × Nat)) (sz : Nat) : Bool := match fs with
  | [] => Nat.beq off sz
  | (o, T) :: fs => match Nat.beq o off with
    | false => false
    | true => match tt T with
      | some fi => contig tt (off + fi.sz) fs sz
      | none => false
def covT (tt : Nat → Option TI) : Nat → Nat → Bool
  | 0, _ => false
  | k + 1, T => match tt T with
    | none => false
    | some ti => match ti.kd with
      | .int _ => Nat.beq ti.sz 1
      | .bl => Nat.beq ti.sz 1
      | .sl e => match tt e with
        | none => false
        | some ei => Nat.beq ti.sz 1 && Nat.blt 0 ei.sz && covT tt k e
      | .st fs => contig tt 0 fs ti.sz && fs.all fun p => covT tt k p.2
      | _ => false

section
variable {H : Type} {enc : TypeId × Value → H} {P : Program} {w : World} {tt : Nat → Option TI}

theorem TIok.cells {T : Nat} {ti : TI} (h : TIok P T ti) : P.cellsOf T = ti.sz := by
  obtain ⟨i, zv, h1, h2, _⟩ := h.info
  simp [Program.cellsOf, h1, h2]
theorem TIok.bytes {T : Nat} {ti : TI} (h : TIok P T ti) : P.bytesOf T = ti.byt := by
  obtain ⟨i, zv, h1, h2, h3, _⟩ := h.info
  simp [Program.bytesOf, h1, h3]

theorem Dens.app {S : Nat → Prop} : ∀ {ls ls' : List L} {ys ys' : List Value}, Dens w S ls ys → Dens w S ls' ys' → Dens w S (ls ++ ls') (ys ++ ys')
  | [], _, [], _, _, h => h
  | _ :: _, _, _ :: _, _, h, h' => ⟨h.1, Dens.app h.2 h'⟩
  | [], _, _ :: _, _, h, _ => h.elim
  | _ :: _, _, [], _, h, _ => h.elim
theorem Dens.len {S : Nat → Prop} {ls : List L} {ys : List Value} (h : Dens w S ls ys) : ls.length = ys.length := Dens.length h

theorem cell_lt {a : Addr} {v : Value} (h : w.cell? a = some v) : a.block < w.heap.size := by
  unfold World.cell? at h
  split at h
  · rename_i hb; exact (Array.getElem?_eq_some_iff.1 hb).1
  · cases h

theorem cells_get {base : Nat} {a : Addr} {n : Nat} {cs : List Value} (h : w.cells? base a n = some cs) : cs.length = n ∧ ∀ j, j < n → ∃ z, cs[j]? = some z ∧ w.cell? (a.add j) = some z := by
  unfold World.cells? at h
  split at h
  · refine ⟨by simpa using mapM_some_length h, fun j hj => ?_⟩
    have h1 := mapM_some_get h j j (by simp [hj])
    have hl : cs.length = n := by simpa using mapM_some_length h
    exact ⟨cs[j]'(by omega), List.getElem?_eq_getElem (by omega), by rw [h1]; exact List.getElem?_eq_getElem (by omega)⟩
  · cases h

theorem dens_range {S : Nat → Prop} {g : Nat → L} : ∀ {n : Nat} {ys : List Value}, Dens w S ((List.range n).map g) ys → ∀ j, j < n → ∃ z, ys[j]? = some z ∧ Den w S (g j) z := by
  intro n ys h j hj
  have hl := h.len
  simp only [List.length_map, List.length_range] at hl
  have hy : ys[j]? = some (ys[j]'(by omega)) := List.getElem?_eq_getElem (by omega)
  refine ⟨_, hy, ?_⟩
  have := h.nth j _ hy
  have key : ∀ (l : List L) (j : Nat) x, l[j]? = some x → nth l j = x := by
    intro l
    induction l with
    | nil => intro j x h; simp at h
    | cons a l ih =>
      intro j x h
      cases j with
      | zero => have h : a = x := by simpa using h
                exact h
      | succ j => exact ih j x (by simpa using h)
  rwa [key _ j (g j) (by simp [hj])] at this

theorem pieces {tt : Nat → Option TI} {cs : List Value} (S : Nat → Prop) : ∀ (fs : List (Nat × Nat)) (off sz : Nat) (Q : Nat → List L → Prop), contig tt off fs sz = true → sz = cs.length →
    (∀ p ∈ fs, ∃ fi, tt p.2 = some fi ∧ ∃ ls, Dens w S ls ((cs.drop p.1).take fi.sz) ∧ Q p.2 ls ∧ ls.length = fi.sz) →
    ∃ ls, Dens w S ls (cs.drop off) ∧ ∀ p ∈ fs, ∃ fi, tt p.2 = some fi ∧ off ≤ p.1 ∧ Q p.2 ((ls.drop (p.1 - off)).take fi.sz)
  | [], off, sz, Q, hc, hs, _ => by
    have : off = sz := beq_eq hc
    refine ⟨[], ?_, fun p hp => by cases hp⟩
    rw [this, hs, List.drop_length]; trivial
  | (o, T) :: fs, off, sz, Q, hc, hs, h => by
    unfold contig at hc
    split at hc
    · cases hc
    rename_i hb
    have ho : o = off := beq_eq hb
    split at hc
    · rename_i fi hfi
      obtain ⟨fi', hfi', ls, h1, h2, h3⟩ := h (o, T) (by simp)
      dsimp only at hfi' h1 h2
      rw [hfi] at hfi'
      cases hfi'
      obtain ⟨ls', h4, h5⟩ := pieces S fs (off + fi.sz) sz Q hc hs fun p hp => h p (List.mem_cons_of_mem _ hp)
      refine ⟨ls ++ ls', ?_, fun p hp => ?_⟩
      · have : cs.drop off = (cs.drop off).take fi.sz ++ cs.drop (off + fi.sz) := by
          rw [← List.drop_drop, List.take_append_drop]
        rw [this]
        subst ho
        exact h1.app h4
      · rcases List.mem_cons.1 hp with rfl | hp
        · refine ⟨fi, hfi, by omega, ?_⟩
          subst ho
          dsimp only
          rw [Nat.sub_self, List.drop_zero, ← h3, List.take_left]
          exact h2
        · obtain ⟨fi', q1, q2, q3⟩ := h5 p hp
          refine ⟨fi', q1, by omega, ?_⟩
          have : (ls ++ ls').drop (p.1 - off) = ls'.drop (p.1 - (off + fi.sz)) := by
            rw [List.drop_append, List.drop_of_length_le (by omega), List.nil_append]
            congr 1
            omega
          rw [this]
          exact q3
    · cases hc

/-- what is read as a datum is data of the type -/
theorem trod_data (hT : ∀ T ti, tt T = some ti → TIok P T ti) : ∀ (fuel k T : Nat) (cs : List Value) (x : DataW H × List MemPlace), DataW.trod enc P w 0 (fun _ => true) true fuel T cs = some x → covT tt k T = true → (∀ n ∈ x.1.weights P T, n ≤ reachBytes) →
    ∃ ls, Dens w (fun b => b < w.heap.size) ls cs ∧ TyL tt k T ls ∧ ∀ ti, tt T = some ti → ls.length = ti.sz := by
  intro fuel
  induction fuel with
  | zero => intro k T cs x h; simp [DataW.trod] at h
  | succ fuel ih =>
    intro k T cs x h hc hw
    cases k with
    | zero => cases hc
    | succ k =>
      unfold covT at hc
      unfold TyL
      cases ht : tt T with
      | none => rw [ht] at hc; cases hc
      | some ti =>
        rw [ht] at hc
        have hti := hT T ti ht
        have hkd := hti.kd
        have hsz := hti.cells
        dsimp only at hc ⊢
        cases hk : ti.kd with
        | sc => rw [hk] at hc; cases hc
        | str => rw [hk] at hc; cases hc
        | pt e => rw [hk] at hc; cases hc
        | ar n e => rw [hk] at hc; cases hc
        | bl =>
          rw [hk] at hkd hc
          dsimp only at hkd hc ⊢
          obtain ⟨b, rfl, rfl⟩ := DataW.trod_bool hkd h
          have h1 : ti.sz = 1 := beq_eq hc
          exact ⟨[.lit (.bool b)], ⟨⟨rfl, rfl⟩, trivial⟩, ⟨b, rfl⟩, fun ti' e => by cases e; exact h1.symm⟩
        | int q =>
          rw [hk] at hkd hc
          dsimp only at hkd hc ⊢
          obtain ⟨n, rfl, rfl, hwf⟩ := DataW.trod_int hkd h
          have h1 : ti.sz = 1 := beq_eq hc
          exact ⟨[.lit (.int q n)], ⟨⟨rfl, rfl⟩, trivial⟩, ⟨n, rfl, hwf⟩, fun ti' e => by cases e; exact h1.symm⟩
        | sl e =>
          rw [hk] at hc hkd
          dsimp only at hkd hc ⊢
          cases hte : tt e with
          | none => rw [hte] at hc; cases hc
          | some ei =>
            rw [hte] at hc
            dsimp only at hc ⊢
            simp only [Bool.and_eq_true] at hc
            obtain ⟨⟨h1, hpos⟩, hc⟩ := hc
            have h1 : ti.sz = 1 := beq_eq h1
            have hpos : 0 < ei.sz := blt_lt hpos
            have hei := hT e ei hte
            have hcell := hei.cells
            have hbyt := hei.bytes
            rcases DataW.trod_slice hkd h with ⟨rfl, rfl⟩ | ⟨a, len, cap, elems, rest, n, hn, rfl, rfl, hb, hlc, hcm, hl, hel, hre, _⟩
            · exact ⟨[.sl ei.sz 0 fun _ _ => .lit undef], ⟨⟨none, 0, rfl, Nat.le_refl _, by simp [maxLen], fun h => by omega⟩, trivial⟩, ⟨0, _, rfl, by omega, by omega, fun i hi => by omega⟩, fun ti' e => by cases e; exact h1.symm⟩
            · obtain rfl : fuel = n := by omega
              rw [hcell] at hel hre
              have hwt : (elems.length + rest.length) * ei.byt ≤ 140737488351232 := by
                have := hw ((elems.length + rest.length) * ei.byt) (by simp [DataW.weights, hkd, hbyt])
                exact this
              have hlen : len * ei.byt ≤ 140737488351232 := Nat.le_trans (Nat.mul_le_mul_right _ (by omega)) hwt
              have key : ∀ i, i < len → ∃ ls : List L, (∀ j, j < ei.sz → ∃ z, w.cell? (a.add (i * ei.sz + j)) = some z ∧ Den w (fun b => b < w.heap.size) (nth ls j) z) ∧ TyL tt k e ls ∧ ls.length = ei.sz := by
                intro i hi
                have h3 := hel i hi
                have hlt : i < elems.length := by omega
                rw [List.getElem?_eq_getElem hlt, Option.bind_eq_some_iff] at h3
                obtain ⟨cs', h4, h5⟩ := h3
                obtain ⟨ls, h6, h7, h8⟩ := ih k e cs' _ h5 hc fun m hm => hw m (by
                  have : elems[i].1 ∈ elems.map (·.1) := List.mem_map_of_mem (List.getElem_mem hlt)
                  simp only [DataW.weights, hkd, List.mem_cons, List.mem_append]
                  refine .inr (.inl ?_)
                  have wa : ∀ (l : List (DataW H)) (d : DataW H), d ∈ l → m ∈ d.weights P e → m ∈ DataW.weightsAll P e l := by
                    intro l
                    induction l with
                    | nil => intro d hd; cases hd
                    | cons d' l ihl =>
                      intro d hd hm
                      simp only [DataW.weightsAll, List.mem_append]
                      rcases List.mem_cons.1 hd with rfl | hd
                      · exact .inl hm
                      · exact .inr (ihl d hd hm)
                  exact wa _ _ this hm)
                obtain ⟨q1, q2⟩ := cells_get h4
                refine ⟨ls, fun j hj => ?_, h7, h8 ei hte⟩
                obtain ⟨z, hz, hcl⟩ := q2 j hj
                exact ⟨z, by rw [← add_add]; exact hcl, h6.nth j z hz⟩
              have hpick : ∃ g : Nat → List L, ∀ i, i < len → (∀ j, j < ei.sz → ∃ z, w.cell? (a.add (i * ei.sz + j)) = some z ∧ Den w (fun b => b < w.heap.size) (nth (g i) j) z) ∧ TyL tt k e (g i) ∧ (g i).length = ei.sz := by
                refine ⟨fun i => if h : i < len then (key i h).choose else [], fun i hi => ?_⟩
                simp only [dif_pos hi]
                exact (key i hi).choose_spec
              obtain ⟨g, hg⟩ := hpick
              refine ⟨[.sl ei.sz len fun i j => nth (g i) j], ⟨⟨some a, cap, rfl, hlc, hcm, fun h0 => ⟨a, rfl, ?_, fun i hi j hj => (hg i hi).1 j hj⟩⟩, trivial⟩, ⟨len, _, rfl, hlen, by simp [maxLen] at hcm; omega, fun i hi => ?_⟩, fun ti' e => by cases e; exact h1.symm⟩
              · obtain ⟨z, hz, _⟩ := (hg 0 h0).1 0 hpos
                have := cell_lt hz
                rwa [add_block] at this
              · obtain ⟨_, q2, q3⟩ := hg i hi
                have : (List.range ei.sz).map (nth (g i)) = g i := by
                  rw [← q3]
                  refine List.ext_getElem? fun j => ?_
                  by_cases hj : j < (g i).length
                  · obtain ⟨l, h1, h2⟩ := nth_lt hj
                    rw [h1, List.getElem?_map, List.getElem?_range hj, ← h2]; rfl
                  · simp [hj]
                show TyL tt k e ((List.range ei.sz).map (nth (g i)))
                rw [this]; exact q2
        | st fs =>
          rw [hk] at hc hkd
          dsimp only at hkd hc ⊢
          obtain ⟨fields, hu, hfs⟩ := hkd
          simp only [Bool.and_eq_true] at hc
          obtain ⟨hcon, hall⟩ := hc
          obtain ⟨xs, n, hn, rfl, hcl, hxl, hf⟩ := DataW.trod_struct hu h
          obtain rfl : fuel = n := by omega
          rw [hsz] at hcl
          have hall := List.all_eq_true.1 hall
          have hp : ∀ p ∈ fs, ∃ fi, tt p.2 = some fi ∧ ∃ ls, Dens w (fun b => b < w.heap.size) ls ((cs.drop p.1).take fi.sz) ∧ TyL tt k p.2 ls ∧ ls.length = fi.sz := by
            intro p hp
            rw [← hfs] at hp
            obtain ⟨f, hfm, rfl⟩ := List.mem_map.1 hp
            obtain ⟨i, hi⟩ := List.getElem?_of_mem hfm
            have hi' : fields[i]? = some f := by rw [← Array.getElem?_toList]; exact hi
            have h3 := hf i f hi'
            have hlt : i < xs.length := by rw [hxl]; exact (Array.getElem?_eq_some_iff.1 hi').1
            rw [List.getElem?_eq_getElem hlt] at h3
            have hcv := hall (f.offset, f.type) (by rw [← hfs]; exact List.mem_map.2 ⟨f, hfm, rfl⟩)
            dsimp only at hcv ⊢
            have hfi : ∃ fi, tt f.type = some fi := by
              cases k with
              | zero => cases hcv
              | succ k =>
                unfold covT at hcv
                cases h9 : tt f.type with
                | none => rw [h9] at hcv; cases hcv
                | some fi => exact ⟨fi, rfl⟩
            obtain ⟨fi, hfi⟩ := hfi
            rw [(hT _ fi hfi).cells] at h3
            obtain ⟨ls, h6, h7, h8⟩ := ih k f.type _ _ h3 hcv fun m hm => hw m (by
              simp only [DataW.weights, hu]
              refine DataW.weights_mem_each (j := i) (t := f.type) (d := xs[i].1) ?_ ?_ m hm
              · rw [List.getElem?_map, hi]; rfl
              · rw [List.getElem?_map, List.getElem?_eq_getElem hlt]; rfl)
            exact ⟨fi, hfi, ls, h6, h7, h8 fi hfi⟩
          obtain ⟨ls, h1, h2⟩ := pieces (w := w) (tt := tt) (cs := cs) (fun b => b < w.heap.size) fs 0 ti.sz (TyL tt k) hcon hcl.symm hp
          rw [List.drop_zero] at h1
          have hl : ls.length = ti.sz := by rw [h1.len, hcl]
          refine ⟨ls, h1, ⟨hl, fun p hp' => ?_⟩, fun ti' e => by cases e; exact hl⟩
          obtain ⟨fi, q1, _, q3⟩ := h2 p hp'
          rw [q1]
          exact q3

def TyArgs (tt : Nat → Option TI) (k : Nat) (ts : List Nat) (args : Res) : Prop := match ts, args with
  | [], [] => True
  | T :: ts, (b, ls) :: args => (match tt T with
    | some ti => b = ti.agg ∧ TyL tt k T ls
    | none => False) ∧ TyArgs tt k ts args
  | _, _ => False

theorem arg_data (hT : ∀ T ti, tt T = some ti → TIok P T ti) {k T : Nat} {v : Value} {d : DataW H} {p : List MemPlace} {base : Nat} (h : DataW.Trod enc P w 0 (fun _ => true) true T v d p) (hc : covT tt k T = true) (hw : ∀ n ∈ d.weights P T, n ≤ reachBytes) (hok : Value.okWide P w .any base T v) :
    ∃ b ls, argD w (fun b => b < w.heap.size) b ls v ∧ match tt T with
      | some ti => b = ti.agg ∧ TyL tt k T ls
      | none => False := by
  obtain ⟨fuel, h⟩ := h
  obtain ⟨ls, h1, h2, h3⟩ := trod_data hT fuel k T _ _ h hc hw
  cases k with
  | zero => cases hc
  | succ k =>
    cases ht : tt T with
    | none => unfold covT at hc; rw [ht] at hc; cases hc
    | some ti =>
      have hkd := (hT T ti ht).kd
      refine ⟨ti.agg, ls, ?_, rfl, h2⟩
      unfold covT at hc
      rw [ht] at hc
      dsimp only at hc
      unfold TI.agg
      cases hk : ti.kd with
      | sc => rw [hk] at hc; cases hc
      | str => rw [hk] at hc; cases hc
      | pt e => rw [hk] at hc; cases hc
      | ar n e => rw [hk] at hc; cases hc
      | bl =>
        rw [hk] at hkd
        obtain ⟨b, rfl⟩ := Go.WideShapes.okWide_bool hkd hok
        exact h1
      | int q =>
        rw [hk] at hkd
        obtain ⟨n, rfl⟩ := Go.WideShapes.okWide_int hkd hok
        exact h1
      | sl e =>
        rw [hk] at hkd
        obtain ⟨a, n, c, rfl⟩ := Go.WideShapes.okWide_slice hkd hok
        exact h1
      | st fs =>
        rw [hk] at hkd
        obtain ⟨fields, hu, _⟩ := hkd
        obtain ⟨cs, rfl, _⟩ := Go.WideShapes.okWide_struct hu hok
        exact ⟨cs.toList, by simp, h1⟩

theorem args_data (hT : ∀ T ti, tt T = some ti → TIok P T ti) {k base : Nat} : ∀ {ts : List Nat} {vs : List Value} {ds : List (DataW H)} {p : List MemPlace}, DataW.TrodAll enc P w 0 (fun _ => true) true ts vs ds p → (ts.all fun T => covT tt k T) = true → (∀ n ∈ DataW.weightsEach P ts ds, n ≤ reachBytes) → (∀ (j : Nat) t v, ts[j]? = some t → vs[j]? = some v → Value.okWide P w .any base t v) →
    ∃ args, ArgsD w (fun b => b < w.heap.size) args vs ∧ TyArgs tt k ts args
  | [], [], [], _, _, _, _, _ => ⟨[], trivial, trivial⟩
  | T :: ts, v :: vs, d :: ds, _, h, hc, hw, hok => by
    obtain ⟨p, q, h1, h2, _⟩ := h
    simp only [List.all_cons, Bool.and_eq_true] at hc
    obtain ⟨b, ls, h3, h4⟩ := arg_data hT h1 hc.1 (fun n hn => hw n (by simp only [DataW.weightsEach, List.mem_append]; exact .inl hn)) (hok 0 T v rfl rfl)
    obtain ⟨args, h5, h6⟩ := args_data hT h2 hc.2 (fun n hn => hw n (by simp only [DataW.weightsEach, List.mem_append]; exact .inr hn)) fun j t v h h' => hok (j + 1) t v h h'
    exact ⟨(b, ls) :: args, ⟨h3, h5⟩, h4, h6⟩
  | [], _ :: _, _, _, h, _, _, _ => by simp [DataW.TrodAll] at h
  | [], [], _ :: _, _, h, _, _, _ => by simp [DataW.TrodAll] at h
  | _ :: _, [], _, _, h, _, _, _ => by simp [DataW.TrodAll] at h
  | _ :: _, _ :: _, [], _, h, _, _, _ => by simp [DataW.TrodAll] at h

theorem trodAll_len {base : Nat} {spare : Nat → Bool} {held : Bool} : ∀ {ts : List Nat} {vs : List Value} {ds : List (DataW H)} {p : List MemPlace}, DataW.TrodAll enc P w base spare held ts vs ds p → ds.length = ts.length
  | [], [], [], _, _ => rfl
  | _ :: _, _ :: _, _ :: _, _, h => by
    obtain ⟨p, q, h1, h2, h3⟩ := h
    simp [trodAll_len h2]
  | [], _ :: _, _, _, h => by simp [DataW.TrodAll] at h
  | [], [], _ :: _, _, h => by simp [DataW.TrodAll] at h
  | _ :: _, [], _, _, h => by simp [DataW.TrodAll] at h
  | _ :: _, _ :: _, [], _, h => by simp [DataW.TrodAll] at h
theorem trodAll_back (hl : laidOutB P = true) {w' : World} (hb : Below w.heap.size w w') : ∀ {ts : List Nat} {vs : List Value} {ds : List (DataW H)} {p : List MemPlace}, (ts.all fun t => P.readableRec t && decide (t < P.types.size)) = true → DataW.TrodAll enc P w 0 (fun _ => true) true ts vs ds p → DataW.TrodAll enc P w' 0 (fun b => decide (b < w.heap.size)) true ts vs ds p
  | [], [], [], _, _, h => h
  | T :: ts, v :: vs, d :: ds, _, hr, h => by
    obtain ⟨p, q, h1, h2, h3⟩ := h
    simp only [List.all_cons, Bool.and_eq_true, decide_eq_true_eq] at hr
    refine ⟨p, q, Below.trod hl hr.1.1 hr.1.2 h1 hb ?_, trodAll_back hl hb (by simpa using hr.2) h2, h3⟩
    obtain ⟨m, hm⟩ := h1
    exact DataW.trod_lt m _ _ _ hm
  | [], _ :: _, _, _, _, h => by simp [DataW.TrodAll] at h
  | [], [], _ :: _, _, _, h => by simp [DataW.TrodAll] at h
  | _ :: _, [], _, _, _, h => by simp [DataW.TrodAll] at h
  | _ :: _, _ :: _, [], _, _, h => by simp [DataW.TrodAll] at h

/-- a law's call, from its contract -/
theorem law_calls (hT : ∀ T ti, tt T = some ti → TIok P T ti) (hl : laidOutB P = true) {g k base : Nat} {ts : List Nat} (hc : (ts.all fun T => covT tt k T) = true) (hr : (ts.all fun t => P.readableRec t && decide (t < P.types.size)) = true)
    (hat : ∀ args, TyArgs tt k ts args → FnAt P g args [(false, [.lit (.bool true)])]) {vs : Array Value} {ds : List (DataW H)} {p : List MemPlace} (h : DataW.TrodAll enc P w 0 (fun _ => true) true ts vs.toList ds p)
    (hw : (DataW.weightsEach P ts ds).all (· ≤ reachBytes) = true) (hok : ∀ (j : Nat) t v, ts[j]? = some t → vs.toList[j]? = some v → Value.okWide P w .any base t v) :
    Calls P g vs w fun e w' => e = .returned (.bool true) ∧ Below w.heap.size w w' ∧ DataW.TrodAll enc P w' 0 (fun b => decide (b < w.heap.size)) true ts vs.toList ds p := by
  obtain ⟨args, h1, h2⟩ := args_data hT h hc (fun n hn => by simpa using List.all_eq_true.1 hw n hn) hok
  have := (hat args h2).2 w vs.toList h1
  rw [Array.toArray_toList] at this
  refine this.mono ?_
  rintro e w' ⟨⟨v, rfl, hv⟩, hb⟩
  obtain ⟨hv, _⟩ := hv
  obtain ⟨rfl, _⟩ := hv
  exact ⟨rfl, hb, trodAll_back hl hb hr h⟩
end
end Go.Proofs.YtggappbiedkopaaGreat.SX
