/- The contract of corner.Colours. -/
import Derived.Test.YtpadocjddoenhaaPc
namespace Go.Proofs.Ytpadocjddoenhaa
open Go SX
set_option linter.unusedVariables false
set_option maxRecDepth 100000

/-! ### colours, in plain words -/
def cntLe (cs : List Nat) (k : Nat) : Nat := (cs.filter fun c => decide (c ≤ k)).length
def pc (m c : Nat) : Nat := if c = 0 then m - 1 else c - 1
/-- the piece in which the k-th edge lies -/
def pieceOf (cs : List Nat) (k : Nat) : Nat := pc cs.length (cntLe cs k)
def colourAt (n : Nat) (cs : List Nat) (k : Nat) : Int := match cs with
  | [] => 7
  | [c] => if n ≤ 2 * ((k + n - c) % n) then 6 else 5
  | cs => colourN (pieceOf cs k) cs.length
def colours (es : List Ed) : List Int := (List.range es.length).map (colourAt es.length (cornTo es es.length))
theorem colours_len (es : List Ed) : (colours es).length = es.length := by simp [colours]

theorem cornTo_sorted (es : List Ed) (i : Nat) : (cornTo es i).Pairwise (· < ·) := List.Pairwise.filter _ List.pairwise_lt_range
theorem cornTo_lt (es : List Ed) (i : Nat) : ∀ c ∈ cornTo es i, c < i := fun c hc => by
  have := (List.mem_filter.1 hc).1
  simpa using this

theorem cnt_at : ∀ {cs : List Nat} {a : Nat}, cs.Pairwise (· < ·) → a < cs.length → cntLe cs (cs.getD a default) = a + 1
  | c :: cs, 0, hs, _ => by
    have h := (List.pairwise_cons.1 hs).1
    have : cs.filter (fun x => decide (x ≤ c)) = [] := by
      rw [List.filter_eq_nil_iff]
      intro x hx
      have := h x hx
      simp; omega
    show ((c :: cs).filter fun x => decide (x ≤ c)).length = 1
    rw [List.filter_cons_of_pos (by simp), this]; rfl
  | c :: cs, a + 1, hs, ha => by
    obtain ⟨h1, h2⟩ := List.pairwise_cons.1 hs
    have ha : a < cs.length := by simpa using ha
    have ih := cnt_at (a := a) h2 ha
    have hm : cs.getD a default ∈ cs := by rw [List.getD_eq_getElem?_getD, List.getElem?_eq_getElem ha]; exact List.getElem_mem ha
    have := h1 _ hm
    show ((c :: cs).filter fun x => decide (x ≤ cs.getD a default)).length = _
    rw [List.filter_cons_of_pos (by exact decide_eq_true (Nat.le_of_lt this)), List.length_cons]
    show (cs.filter fun x => decide (x ≤ cs.getD a default)).length + 1 = _
    unfold cntLe at ih
    rw [ih]
theorem cnt_prev {cs : List Nat} {k : Nat} (h : k + 1 ∉ cs) : cntLe cs (k + 1) = cntLe cs k := by
  unfold cntLe
  congr 1
  refine List.filter_congr fun x hx => decide_eq_decide.2 ?_
  have : x ≠ k + 1 := fun e => h (e ▸ hx)
  omega
theorem cnt_zero {cs : List Nat} (h : 0 ∉ cs) : cntLe cs 0 = 0 := by
  unfold cntLe
  rw [List.length_eq_zero_iff, List.filter_eq_nil_iff]
  intro x hx
  have : x ≠ 0 := fun e => h (e ▸ hx)
  simp; omega
theorem cnt_all {cs : List Nat} {n : Nat} (h : ∀ c ∈ cs, c < n + 1) : cntLe cs n = cs.length := by
  unfold cntLe
  rw [List.filter_eq_self.2]
  intro x hx
  have := h x hx
  simp; omega
theorem piece_at {cs : List Nat} {a : Nat} (hs : cs.Pairwise (· < ·)) (ha : a < cs.length) : pieceOf cs (cs.getD a default) = a := by
  unfold pieceOf pc
  rw [cnt_at hs ha, if_neg (by omega)]; omega
/-- from one edge to the next the piece stays, if it is no corner -/
theorem piece_next {cs : List Nat} {n k : Nat} (hn : ∀ c ∈ cs, c < n) (hk : k < n) (h : k ∉ cs) (h0 : 0 < cs.length) : pieceOf cs k = pieceOf cs ((k + n - 1) % n) := by
  unfold pieceOf
  cases k with
  | zero =>
    rw [cnt_zero h, show (0 + n - 1) % n = n - 1 by rw [Nat.zero_add]; exact Nat.mod_eq_of_lt (by omega), cnt_all (n := n - 1) (fun c hc => by have := hn c hc; omega)]
    unfold pc
    rw [if_pos rfl, if_neg (by omega)]
  | succ k =>
    rw [cnt_prev h, show (k + 1 + n - 1) % n = k by rw [show k + 1 + n - 1 = k + n by omega, Nat.add_mod_right, Nat.mod_eq_of_lt (by omega)]]
theorem piece_lt {cs : List Nat} {k : Nat} (h0 : 0 < cs.length) : pieceOf cs k < cs.length := by
  have : cntLe cs k ≤ cs.length := List.length_filter_le _ _
  unfold pieceOf pc
  split <;> omega

/-- what a loop has filled: places pos 0 .. pos (i - 1) -/
def Filled (n : Nat) (pos : Nat → Nat) (f : Nat → Int) (i : Nat) (out : List Int) : Prop := out.length = n ∧ ∀ j, j < i → out.getD (pos j) default = f (pos j)
theorem Filled.zero (n : Nat) (pos : Nat → Nat) (f : Nat → Int) : Filled n pos f 0 (List.replicate n 0) := ⟨by simp, fun j hj => by omega⟩
theorem Filled.step {n i : Nat} {pos : Nat → Nat} {f : Nat → Int} {out : List Int} (h : Filled n pos f i out) (hp : pos i < n) : Filled n pos f (i + 1) (out.set (pos i) (f (pos i))) := by
  obtain ⟨h1, h2⟩ := h
  refine ⟨by simpa using h1, fun j hj => ?_⟩
  rw [getD_set _ _ _ (by omega)]
  by_cases he : pos j = pos i
  · rw [if_pos he, he]
  · rw [if_neg he]
    exact h2 j (by rcases Nat.lt_or_ge j i with h | h; exact h; exact absurd (by rw [show j = i by omega]) he)
theorem Filled.done {n : Nat} {pos : Nat → Nat} {f : Nat → Int} {out : List Int} (h : Filled n pos f n out) (hs : ∀ k, k < n → ∃ j, j < n ∧ pos j = k) : out = (List.range n).map f := by
  obtain ⟨h1, h2⟩ := h
  refine List.ext_getElem (by simp [h1]) fun k hk _ => ?_
  obtain ⟨j, hj, rfl⟩ := hs k (by omega)
  have := h2 j hj
  rw [List.getD_eq_getElem?_getD, List.getElem?_eq_getElem hk] at this
  simpa using this
/-- round about -/
theorem cyc_surj {n c : Nat} (hc : c < n) : ∀ k, k < n → ∃ j, j < n ∧ (c + j) % n = k := by
  intro k hk
  by_cases h : c ≤ k
  · exact ⟨k - c, by omega, by rw [show c + (k - c) = k by omega]; exact Nat.mod_eq_of_lt hk⟩
  · exact ⟨n - c + k, by omega, by rw [show c + (n - c + k) = k + n by omega, Nat.add_mod_right]; exact Nat.mod_eq_of_lt hk⟩
theorem cyc_back {n c j : Nat} (hc : c < n) (hj : j < n) : ((c + j) % n + n - c) % n = j := by
  by_cases h : c + j < n
  · rw [Nat.mod_eq_of_lt h, show c + j + n - c = j + n by omega, Nat.add_mod_right, Nat.mod_eq_of_lt hj]
  · have : (c + j) % n = c + j - n := by rw [Nat.mod_eq_sub_mod (by omega), Nat.mod_eq_of_lt (by omega)]
    rw [this, show c + j - n + n - c = j by omega, Nat.mod_eq_of_lt hj]
theorem cyc_prev {n c j : Nat} (hc : c < n) (hj : j + 1 < n) : ((c + (j + 1)) % n + n - 1) % n = (c + j) % n := by
  by_cases h : c + (j + 1) < n
  · rw [Nat.mod_eq_of_lt h, show c + (j + 1) + n - 1 = c + j + n by omega, Nat.add_mod_right]
  · have : (c + (j + 1)) % n = c + (j + 1) - n := by rw [Nat.mod_eq_sub_mod (by omega), Nat.mod_eq_of_lt (by omega)]
    rw [this, show c + (j + 1) - n + n - 1 = c + j by omega]
@[reducible] def rI (ks : List Int) : OR := ⟨3, 1, ks.length, rowOf ints ks, true⟩
theorem made_ints {n : Nat} {T : Nat} : subR ⟨T, 1, n, fun _ j => .lit ([Value.int .i64 0].getD j undef), true⟩ ⟨T, 1, (List.replicate n (0 : Int)).length, rowOf ints (List.replicate n 0), true⟩ := by
  refine ⟨rfl, rfl, by simp, rfl, fun a ha j hj => .of_eq ?_⟩
  have hj : j < 1 := hj
  have ha : a < n := ha
  obtain rfl : j = 0 := by omega
  show L.lit (.int .i64 0) = nth (ints ((List.replicate n (0 : Int)).getD a default)) 0
  rw [List.getD_eq_getElem?_getD, List.getElem?_replicate, if_pos ha]; rfl
/-- filled, place by place -/
def fillTo (n : Nat) (pos : Nat → Nat) (f : Nat → Int) (i : Nat) : List Int := match i with
  | 0 => List.replicate n 0
  | i + 1 => (fillTo n pos f i).set (pos i) (f (pos i))
theorem fillTo_len (n : Nat) (pos : Nat → Nat) (f : Nat → Int) (i : Nat) : (fillTo n pos f i).length = n := by
  induction i with
  | zero => simp [fillTo]
  | succ i ih => unfold fillTo; simpa using ih
theorem fillTo_ok {n : Nat} {pos : Nat → Nat} {f : Nat → Int} (hp : ∀ i, i < n → pos i < n) : ∀ i, i ≤ n → Filled n pos f i (fillTo n pos f i)
  | 0, _ => Filled.zero n pos f
  | i + 1, h => (fillTo_ok hp i (by omega)).step (hp i (by omega))
theorem fillTo_done {n : Nat} {pos : Nat → Nat} {f : Nat → Int} (hp : ∀ i, i < n → pos i < n) (hs : ∀ k, k < n → ∃ j, j < n ∧ pos j = k) : fillTo n pos f n = (List.range n).map f := (fillTo_ok hp n (Nat.le_refl _)).done hs
theorem nat_row (cs : List Nat) (a : Nat) : rowOf natL cs a 0 = I ((cs.getD a default : Nat) : Int) := rfl
def pcAt (cs : List Nat) (n j : Nat) : Nat := match j with
  | 0 => cs.length - 1
  | j + 1 => pieceOf cs ((cs.getD 0 default + j) % n)
theorem pcAt_lt {cs : List Nat} {n j : Nat} (h : 0 < cs.length) : pcAt cs n j < cs.length := by
  cases j with
  | zero => show cs.length - 1 < cs.length; omega
  | succ j => exact piece_lt h
theorem pc_stays {cs : List Nat} {n j : Nat} (h0 : 0 < cs.length) (hc : ∀ c ∈ cs, c < n) (hj : j < n) (hn : (cs.getD 0 default + j) % n ∉ cs) : pcAt cs n j = pieceOf cs ((cs.getD 0 default + j) % n) := by
  have hm : cs.getD 0 default ∈ cs := by rw [List.getD_eq_getElem?_getD, List.getElem?_eq_getElem h0]; exact List.getElem_mem h0
  have hcl := hc _ hm
  cases j with
  | zero => rw [Nat.add_zero, Nat.mod_eq_of_lt hcl] at hn; exact absurd hm hn
  | succ j =>
    unfold pcAt
    rw [piece_next (n := n) hc (Nat.mod_lt _ (by omega)) hn h0, cyc_prev hcl hj]
noncomputable def SC0 (es : List Ed) (out : List Int) (i : Nat) : SS := mkS
  [(4, .o (.h 0)), (22, .o (.v (.int .i64 es.length))), (23, .o (.v (.int .i64 i)))] [] [(0, rI out)] 1 Try.f29.ntmps
noncomputable def SC1 (es : List Ed) (cs : List Nat) (out : List Int) (i : Nat) : SS := mkS
  [(0, .o (.sl false 4 es.length (rowOf Ed.ls es))), (3, .o (.sl true 1 cs.length (rowOf natL cs))), (4, .o (.h 0)), (36, .o (.v (.int .i64 es.length))), (37, .o (.v (.int .i64 i)))] [] [(0, rI out)] 1 Try.f29.ntmps
noncomputable def SC2 (es : List Ed) (cs : List Nat) (out : List Int) (p i : Nat) : SS := mkS
  [(0, .o (.sl false 4 es.length (rowOf Ed.ls es))), (3, .o (.sl true 1 cs.length (rowOf natL cs))), (4, .o (.h 0)), (7, .o (.v (.int .i64 p))), (71, .o (.v (.int .i64 es.length))), (72, .o (.v (.int .i64 i)))] [] [(0, rI out)] 1 Try.f29.ntmps
noncomputable def SC3 (es : List Ed) (cs : List Nat) (out : List Int) (p i k a : Nat) : SS := mkS
  [(0, .o (.sl false 4 es.length (rowOf Ed.ls es))), (3, .o (.sl true 1 cs.length (rowOf natL cs))), (4, .o (.h 0)), (7, .o (.v (.int .i64 p))), (9, .o (.v (.int .i64 k))), (71, .o (.v (.int .i64 es.length))), (72, .o (.v (.int .i64 i))), (83, .o (.sl true 1 cs.length (rowOf natL cs))), (84, .o (.v (.int .i64 cs.length))), (85, .o (.v (.int .i64 a)))] [] [(0, rI out)] 1 Try.f29.ntmps
noncomputable def SC4 (es : List Ed) (cs : List Nat) (out : List Int) (p i k : Nat) : SS := mkS
  [(0, .o (.sl false 4 es.length (rowOf Ed.ls es))), (3, .o (.sl true 1 cs.length (rowOf natL cs))), (4, .o (.h 0)), (7, .o (.v (.int .i64 p))), (9, .o (.v (.int .i64 k))), (71, .o (.v (.int .i64 es.length))), (72, .o (.v (.int .i64 i)))] [] [(0, rI out)] 1 Try.f29.ntmps
theorem colours_at (es : List Ed) (h : es.length ≤ 1000000000000) : FnAt Try.prog 29 [aEds es] [aInts (colours es)] := by
  have hsort := cornTo_sorted es es.length
  have hclt := cornTo_lt es es.length
  have hcl := cornTo_len es es.length
  have hcol : colours es = (List.range es.length).map (colourAt es.length (cornTo es es.length)) := rfl
  have hca := corners_at es h
  generalize cornTo es es.length = cs at *
  refine fn_at (E := EE) (fn := Try.f29) (c := Try.f29.body.getD .skip) (rs := Try.f29.results.toList) (nt := Try.f29.ntmps) EE_ok follows (by kernel_rfl) (by kernel_rfl) rfl rfl rfl [1000015, 30] rfl ?_
  refine ⟨_, hca, ?_⟩
  refine ⟨⟨by omega, by omega, ?_, by omega⟩, ?_⟩
  · show ((8 : Nat) : Int) * (es.length : Int) ≤ 140737488355328; omega
  refine if_eq (fun h0 => ?_) (fun h0 => ?_)
  · obtain rfl : cs = [] := List.eq_nil_of_length_eq_zero (by omega)
    have hfl := fun i => fillTo_len es.length id (fun _ => 7) i
    refine loop_nat es.length (fun i => SC0 es (fillTo es.length id (fun _ => 7) i) i) ?_ (fun i hi => ?_)
    · refine ent_of (rl := [(0, 6)]) (nl := []) ⟨rfl, ?_, ?_, ⟨⟨Nat.le_of_ble_eq_true rfl, made_ints⟩, trivial⟩, rfl, rfl, Nat.zero_le _, trivial, ⟨⟨Nat.zero_le _, Nat.zero_le _⟩, trivial⟩⟩ <;> (repeat' (first | exact trivial | exact SameL.refl _ | exact ep_seal rfl rfl | assumption | exact congrArg (Value.int _) (by assumption) | exact rfl | exact Nat.le_of_ble_eq_true rfl | decide | apply And.intro))
    refine if_dec (fun hlt => ?_) (fun hge => ?_)
    · have hlt : i < es.length := by omega
      have hw := w64_succ hlt (by omega)
      refine ⟨⟨by omega, by have := hfl i; show (i : Int) < ((fillTo es.length id (fun _ => 7) i).length : Int); omega⟩, by show (i : Int).toNat < (fillTo es.length id (fun _ => 7) i).length; have := hfl i; omega, ?_⟩
      refine ⟨i + 1, ⟨Nat.lt_succ_self _, hlt⟩, ?_⟩
      refine ent_of (rl := []) (nl := []) ⟨rfl, ?_, ?_, ⟨⟨Nat.le_of_ble_eq_true rfl, subR_set (g := ints) (x := 7) rfl (by have := hfl i; show i < _; omega) rfl rfl rfl rfl rfl⟩, trivial⟩, rfl, rfl, Nat.zero_le _, trivial, trivial⟩ <;> (repeat' (first | exact trivial | exact SameL.refl _ | exact ep_seal rfl rfl | assumption | exact congrArg (Value.int _) (by assumption) | exact rfl | exact Nat.le_of_ble_eq_true rfl | decide | apply And.intro))
    · have hin : i = es.length := by omega
      subst hin
      refine ⟨⟨row_ret ?_, trivial⟩, trivial⟩
      rw [hcol, fillTo_done (pos := id) (fun i hi => hi) (fun k hk => ⟨k, hk, rfl⟩)]
      rfl
  have hp0 : 0 < cs.length := by omega
  have hm0 : cs.getD 0 default ∈ cs := by rw [List.getD_eq_getElem?_getD, List.getElem?_eq_getElem hp0]; exact List.getElem_mem hp0
  have hc0 := hclt _ hm0
  have hpos : ∀ i, i < es.length → (cs.getD 0 default + i) % es.length < es.length := fun i hi => Nat.mod_lt _ (by omega)
  have hix : ∀ i, i < es.length → (w64 (((cs.getD 0 default : Nat) : Int) + (i : Int))).tmod (es.length : Int) = (((cs.getD 0 default + i) % es.length : Nat) : Int) := by
    intro i hi
    rw [w64_in (by omega), show ((cs.getD 0 default : Nat) : Int) + (i : Int) = ((cs.getD 0 default + i : Nat) : Int) by omega]
    exact rem_nat (by omega)
  have hdone := fun f => fillTo_done (n := es.length) (pos := fun j => (cs.getD 0 default + j) % es.length) (f := f) hpos (cyc_surj hc0)
  refine if_eq (fun h1 => ?_) (fun h1 => ?_)
  · obtain ⟨c, rfl⟩ : ∃ c, cs = [c] := List.length_eq_one_iff.1 (by omega)
    have hd := hdone (colourAt es.length [c])
    have hfl := fun i => fillTo_len es.length (fun j => (c + j) % es.length) (colourAt es.length [c]) i
    refine loop_nat es.length (fun i => SC1 es [c] (fillTo es.length (fun j => (c + j) % es.length) (colourAt es.length [c]) i) i) ?_ (fun i hi => ?_)
    · refine ent_of (rl := [(0, 6)]) (nl := []) ⟨rfl, ?_, ?_, ⟨⟨Nat.le_of_ble_eq_true rfl, made_ints⟩, trivial⟩, rfl, rfl, Nat.zero_le _, trivial, ⟨⟨Nat.zero_le _, Nat.zero_le _⟩, trivial⟩⟩ <;> (repeat' (first | exact trivial | exact SameL.refl _ | exact ep_seal rfl rfl | assumption | exact congrArg (Value.int _) (by assumption) | exact rfl | exact Nat.le_of_ble_eq_true rfl | decide | apply And.intro))
    refine if_dec (fun hlt => ?_) (fun hge => ?_)
    · have hlt : i < es.length := by omega
      have hw := w64_succ hlt (by omega)
      have hx := hix i hlt
      have hy := hpos i hlt
      have hz := hfl i
      have hnn : (1 : Int) ≠ 0 := by decide
      have hx : (w64 ((c : Int) + (i : Int))).tmod (es.length : Int) = (((c + i) % es.length : Nat) : Int) := hx
      have hy : (c + i) % es.length < es.length := hy
      have hbk := cyc_back (n := es.length) (c := c) (j := i) hc0 hlt
      have hc0 : c < es.length := hc0
      have hst : fillTo es.length (fun j => (c + j) % es.length) (colourAt es.length [c]) (i + 1) = (fillTo es.length (fun j => (c + j) % es.length) (colourAt es.length [c]) i).set ((c + i) % es.length) (if es.length ≤ 2 * i then 6 else 5) := by
        show (fillTo _ _ _ i).set ((c + i) % es.length) (colourAt es.length [c] ((c + i) % es.length)) = _
        unfold colourAt; dsimp only; rw [hbk]
      generalize fillTo es.length (fun j => (c + j) % es.length) (colourAt es.length [c]) i = o at *
      have h2i : w64 (2 * (i : Int)) = 2 * (i : Int) := w64_in (by omega)
      refine ⟨⟨by decide, by show (0 : Int) < 1; decide⟩, by show (es.length : Int) ≠ 0; omega, ⟨by show 0 ≤ (w64 ((c : Int) + (i : Int))).tmod (es.length : Int); rw [hx]; omega, by show (w64 ((c : Int) + (i : Int))).tmod (es.length : Int) < (o.length : Int); rw [hx, hz]; omega⟩, ?_⟩
      refine ⟨by show ((w64 ((c : Int) + (i : Int))).tmod (es.length : Int)).toNat < o.length; rw [hx, hz]; omega, ?_⟩
      have hxn : ((w64 ((c : Int) + (i : Int))).tmod (es.length : Int)).toNat = (c + i) % es.length := by rw [hx, Int.toNat_natCast]
      refine ⟨_, ent_row (i := 0) (r' := rI (o.set ((c + i) % es.length) 5)) rfl (subR_set (g := ints) (x := 5) (k := ((w64 ((c : Int) + (i : Int))).tmod (es.length : Int)).toNat) rfl (by rw [hxn]; omega) rfl rfl rfl (by rw [hxn]) rfl), ?_⟩
      have hz2 : (o.set ((c + i) % es.length) 5).length = es.length := by simpa using hz
      refine if_dec (fun h2 => ?_) (fun h2 => ?_)
      · have h2 : w64 (2 * (i : Int)) ≥ (es.length : Int) := h2
        rw [h2i] at h2
        refine ⟨⟨by decide, by show (0 : Int) < 1; decide⟩, by show (es.length : Int) ≠ 0; omega, ⟨by show 0 ≤ (w64 ((c : Int) + (i : Int))).tmod (es.length : Int); rw [hx]; omega, by show (w64 ((c : Int) + (i : Int))).tmod (es.length : Int) < ((o.set ((c + i) % es.length) 5).length : Int); rw [hx, hz2]; omega⟩, ?_⟩
        refine ⟨by show ((w64 ((c : Int) + (i : Int))).tmod (es.length : Int)).toNat < (o.set ((c + i) % es.length) 5).length; rw [hx, hz2]; omega, ?_⟩
        refine ⟨i + 1, ⟨Nat.lt_succ_self _, hlt⟩, ?_⟩
        rw [hst, if_pos (by omega)]
        refine ent_of (rl := []) (nl := []) ⟨rfl, ?_, ?_, ⟨⟨Nat.le_of_ble_eq_true rfl, subR_set (g := ints) (x := 6) (k := ((w64 ((c : Int) + (i : Int))).tmod (es.length : Int)).toNat) rfl (by rw [hxn]; omega) rfl rfl rfl (by rw [hxn, List.set_set]) rfl⟩, trivial⟩, rfl, rfl, Nat.zero_le _, trivial, trivial⟩ <;> (repeat' (first | exact trivial | exact SameL.refl _ | exact ep_seal rfl rfl | assumption | exact congrArg (Value.int _) (by assumption) | exact rfl | exact Nat.le_of_ble_eq_true rfl | decide | apply And.intro))
      · have h2 : ¬ w64 (2 * (i : Int)) ≥ (es.length : Int) := h2
        rw [h2i] at h2
        refine ⟨i + 1, ⟨Nat.lt_succ_self _, hlt⟩, ?_⟩
        rw [hst, if_neg (by omega)]
        refine ent_of (rl := []) (nl := []) ⟨rfl, ?_, ?_, ⟨⟨Nat.le_of_ble_eq_true rfl, subR.refl _⟩, trivial⟩, rfl, rfl, Nat.zero_le _, trivial, trivial⟩ <;> (repeat' (first | exact trivial | exact SameL.refl _ | exact ep_seal rfl rfl | assumption | exact congrArg (Value.int _) (by assumption) | exact rfl | exact Nat.le_of_ble_eq_true rfl | decide | apply And.intro))
    · have hin : i = es.length := by omega
      subst hin
      exact ⟨⟨row_ret (by rw [hcol]; exact hd), trivial⟩, trivial⟩
  have hd := hdone (colourAt es.length cs)
  have hfl := fun i => fillTo_len es.length (fun j => (cs.getD 0 default + j) % es.length) (colourAt es.length cs) i
  have e1 : w64 ((cs.length : Int) - 1) = ((pcAt cs es.length 0 : Nat) : Int) := by rw [w64_in (by omega)]; show _ = ((cs.length - 1 : Nat) : Int); omega
  refine loop_nat es.length (fun i => SC2 es cs (fillTo es.length (fun j => (cs.getD 0 default + j) % es.length) (colourAt es.length cs) i) (pcAt cs es.length i) i) ?_ (fun i hi => ?_)
  · refine ent_of (rl := [(0, 6)]) (nl := []) ⟨rfl, ?_, ?_, ⟨⟨Nat.le_of_ble_eq_true rfl, made_ints⟩, trivial⟩, rfl, rfl, Nat.zero_le _, trivial, ⟨⟨Nat.zero_le _, Nat.zero_le _⟩, trivial⟩⟩ <;> (repeat' (first | exact trivial | exact SameL.refl _ | exact ep_seal rfl rfl | assumption | exact congrArg (Value.int _) (by assumption) | exact rfl | exact Nat.le_of_ble_eq_true rfl | decide | apply And.intro))
  refine if_dec (fun hlt => ?_) (fun hge => ?_)
  · have hlt : i < es.length := by omega
    have hw := w64_succ hlt (by omega)
    have hx := hix i hlt
    have hy := hpos i hlt
    have hz := hfl i
    refine ⟨⟨by decide, by show (0 : Int) < (cs.length : Int); omega⟩, by show (es.length : Int) ≠ 0; omega, ?_⟩
    refine ⟨Unit, fun _ => SC4 es cs (fillTo es.length (fun j => (cs.getD 0 default + j) % es.length) (colourAt es.length cs) i) (pieceOf cs ((cs.getD 0 default + i) % es.length)) i ((cs.getD 0 default + i) % es.length), ?_, fun _ => ?_⟩
    · refine loop_natP cs.length (fun a => ∀ b, b < a → cs.getD b default ≠ (cs.getD 0 default + i) % es.length) (fun a => SC3 es cs (fillTo es.length (fun j => (cs.getD 0 default + j) % es.length) (colourAt es.length cs) i) (pcAt cs es.length i) i ((cs.getD 0 default + i) % es.length) a) (fun b hb => by omega) ?_ (fun a ha hpa => ?_)
      · refine ent_of (rl := []) (nl := []) ⟨rfl, ?_, ?_, ⟨⟨Nat.le_of_ble_eq_true rfl, subR.refl _⟩, trivial⟩, rfl, rfl, Nat.zero_le _, trivial, trivial⟩ <;> (repeat' (first | exact trivial | exact SameL.refl _ | exact ep_seal rfl rfl | assumption | exact congrArg (Value.int _) (by assumption) | exact rfl | exact Nat.le_of_ble_eq_true rfl | decide | apply And.intro))
      refine if_dec (fun hla => ?_) (fun hga => ?_)
      · have hla : a < cs.length := by omega
        have hwa := w64_succ hla (by omega)
        refine ⟨⟨by omega, by show (a : Int) < (cs.length : Int); omega⟩, ?_⟩
        refine if_eq (fun he => ?_) (fun he => ?_)
        · have he : ((cs.getD a default : Nat) : Int) = (((cs.getD 0 default + i) % es.length : Nat) : Int) := he
          have he : cs.getD a default = (cs.getD 0 default + i) % es.length := by omega
          have hpc := piece_at hsort hla
          rw [he] at hpc
          refine ⟨(), ?_⟩
          rw [hpc]
          refine ent_of (rl := []) (nl := []) ⟨rfl, ?_, ?_, ⟨⟨Nat.le_of_ble_eq_true rfl, subR.refl _⟩, trivial⟩, rfl, rfl, Nat.zero_le _, trivial, trivial⟩ <;> (repeat' (first | exact trivial | exact SameL.refl _ | exact ep_seal rfl rfl | assumption | exact congrArg (Value.int _) (by assumption) | exact rfl | exact Nat.le_of_ble_eq_true rfl | decide | apply And.intro))
        · have he : ((cs.getD a default : Nat) : Int) ≠ (((cs.getD 0 default + i) % es.length : Nat) : Int) := he
          refine ⟨a + 1, ⟨Nat.lt_succ_self _, hla, fun b hb => ?_⟩, ?_⟩
          · by_cases h' : b < a
            · exact hpa b h'
            · obtain rfl : b = a := by omega
              omega
          · refine ent_of (rl := []) (nl := []) ⟨rfl, ?_, ?_, ⟨⟨Nat.le_of_ble_eq_true rfl, subR.refl _⟩, trivial⟩, rfl, rfl, Nat.zero_le _, trivial, trivial⟩ <;> (repeat' (first | exact trivial | exact SameL.refl _ | exact ep_seal rfl rfl | assumption | exact congrArg (Value.int _) (by assumption) | exact rfl | exact Nat.le_of_ble_eq_true rfl | decide | apply And.intro))
      · have hia : a = cs.length := by omega
        subst hia
        have hno : (cs.getD 0 default + i) % es.length ∉ cs := by
          intro hm
          obtain ⟨b, hb, hbe⟩ := List.getElem_of_mem hm
          refine hpa b hb ?_
          rw [List.getD_eq_getElem?_getD, List.getElem?_eq_getElem hb]
          exact hbe
        have hst := pc_stays hp0 hclt hlt hno
        refine ⟨(), ?_⟩
        rw [hst]
        refine ent_of (rl := []) (nl := []) ⟨rfl, ?_, ?_, ⟨⟨Nat.le_of_ble_eq_true rfl, subR.refl _⟩, trivial⟩, rfl, rfl, Nat.zero_le _, trivial, trivial⟩ <;> (repeat' (first | exact trivial | exact SameL.refl _ | exact ep_seal rfl rfl | assumption | exact congrArg (Value.int _) (by assumption) | exact rfl | exact Nat.le_of_ble_eq_true rfl | decide | apply And.intro))
    refine ⟨_, colour_at (pieceOf cs ((cs.getD 0 default + i) % es.length)) cs.length (piece_lt hp0) (by omega), ?_⟩
    have hcv : colourAt es.length cs ((cs.getD 0 default + i) % es.length) = colourN (pieceOf cs ((cs.getD 0 default + i) % es.length)) cs.length := by
      unfold colourAt
      split
      · simp at hp0
      · simp at h1
      · rfl
    refine ⟨⟨by omega, by show (((cs.getD 0 default + i) % es.length : Nat) : Int) < ((fillTo _ _ _ i).length : Int); omega⟩, by show ((((cs.getD 0 default + i) % es.length : Nat) : Int)).toNat < (fillTo _ _ _ i).length; omega, ?_⟩
    refine ⟨i + 1, ⟨Nat.lt_succ_self _, hlt⟩, ?_⟩
    refine ent_of (rl := []) (nl := []) ⟨rfl, ?_, ?_, ⟨⟨Nat.le_of_ble_eq_true rfl, subR_set (g := ints) (x := colourN (pieceOf cs ((cs.getD 0 default + i) % es.length)) cs.length) (k := ((((cs.getD 0 default + i) % es.length : Nat) : Int)).toNat) rfl (by omega) rfl rfl rfl (by show (fillTo _ _ _ i).set _ (colourAt _ _ _) = _; rw [hcv, Int.toNat_natCast]) rfl⟩, trivial⟩, rfl, rfl, Nat.zero_le _, trivial, trivial⟩ <;> (repeat' (first | exact trivial | exact SameL.refl _ | exact ep_seal rfl rfl | assumption | exact congrArg (Value.int _) (by assumption) | exact rfl | exact Nat.le_of_ble_eq_true rfl | decide | apply And.intro))
  · have hin : i = es.length := by omega
    subst hin
    exact ⟨⟨row_ret (by rw [hcol]; exact hd), trivial⟩, trivial⟩
end Go.Proofs.Ytpadocjddoenhaa
