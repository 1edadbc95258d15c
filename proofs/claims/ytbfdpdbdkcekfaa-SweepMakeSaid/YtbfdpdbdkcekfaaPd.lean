/- The contract of corner.Colours. -/
import Derived.Test.YtbfdpdbdkcekfaaPc
namespace Go.Proofs.Ytbfdpdbdkcekfaa
open Go SX
set_option linter.unusedVariables false
set_option maxRecDepth 100000

/-! ### colours, in plain words -/
def cntLe (cs : List Nat) (k : Nat) : Nat := (cs.filter fun c => decide (c ≤ k)).length
def pc (m c : Nat) : Nat := if c = 0 then m - 1 else c - 1
/-- the piece in which the k-th edge lies -/
def pieceOf (cs : List Nat) (k : Nat) : Nat := pc cs.length (cntLe cs k)
def colourAt (n : Nat) (cs : List Nat) (k : Nat) : Int := match cs with
  | [] => 7
  | [c] => if n ≤ 2 * ((k + n - c) % n) then 6 else 5
  | cs => colourN (pieceOf cs k) cs.length
def colours (es : List Ed) : List Int := (List.range es.length).map (colourAt es.length (cornTo es es.length))
theorem colours_len (es : List Ed) : (colours es).length = es.length := by simp [colours]

theorem cornTo_sorted (es : List Ed) (i : Nat) : (cornTo es i).Pairwise (· < ·) := List.Pairwise.filter _ List.pairwise_lt_range
theorem cornTo_lt (es : List Ed) (i : Nat) : ∀ c ∈ cornTo es i, c < i := fun c hc => by
  have := (List.mem_filter.1 hc).1
  simpa using this

theorem cnt_at : ∀ {cs : List Nat} {a : Nat}, cs.Pairwise (· < ·) → a < cs.length → cntLe cs (cs.getD a default) = a + 1
  | c :: cs, 0, hs, _ => by
    have h := (List.pairwise_cons.1 hs).1
    have : cs.filter (fun x => decide (x ≤ c)) = [] := by
      rw [List.filter_eq_nil_iff]
      intro x hx
      have := h x hx
      simp; omega
    show ((c :: cs).filter fun x => decide (x ≤ c)).length = 1
    rw [List.filter_cons_of_pos (by simp), this]; rfl
  | c :: cs, a + 1, hs, ha => by
    obtain ⟨h1, h2⟩ := List.pairwise_cons.1 hs
    have ha : a < cs.length := by simpa using ha
    have ih := cnt_at (a := a) h2 ha
    have hm : cs.getD a default ∈ cs := by rw [List.getD_eq_getElem?_getD, List.getElem?_eq_getElem ha]; exact List.getElem_mem ha
    have := h1 _ hm
    show ((c :: cs).filter fun x => decide (x ≤ cs.getD a default)).length = _
    rw [List.filter_cons_of_pos (by exact decide_eq_true (Nat.le_of_lt this)), List.length_cons]
    show (cs.filter fun x => decide (x ≤ cs.getD a default)).length + 1 = _
    unfold cntLe at ih
    rw [ih]
theorem cnt_prev {cs : List Nat} {k : Nat} (h : k + 1 ∉ cs) : cntLe cs (k + 1) = cntLe cs k := by
  unfold cntLe
  congr 1
  refine List.filter_congr fun x hx => decide_eq_decide.2 ?_
  have : x ≠ k + 1 := fun e => h (e ▸ hx)
  omega
theorem cnt_zero {cs : List Nat} (h : 0 ∉ cs) : cntLe cs 0 = 0 := by
  unfold cntLe
  rw [List.length_eq_zero_iff, List.filter_eq_nil_iff]
  intro x hx
  have : x ≠ 0 := fun e => h (e ▸ hx)
  simp; omega
theorem cnt_all {cs : List Nat} {n : Nat} (h : ∀ c ∈ cs, c < n + 1) : cntLe cs n = cs.length := by
  unfold cntLe
  rw [List.filter_eq_self.2]
  intro x hx
  have := h x hx
  simp; omega
theorem piece_at {cs : List Nat} {a : Nat} (hs : cs.Pairwise (· < ·)) (ha : a < cs.length) : pieceOf cs (cs.getD a default) = a := by
  unfold pieceOf pc
  rw [cnt_at hs ha, if_neg (by omega)]; omega
/-- from one edge to the next the piece stays, if it is no corner -/
theorem piece_next {cs : List Nat} {n k : Nat} (hn : ∀ c ∈ cs, c < n) (hk : k < n) (h : k ∉ cs) (h0 : 0 < cs.length) : pieceOf cs k = pieceOf cs ((k + n - 1) % n) := by
  unfold pieceOf
  cases k with
  | zero =>
    rw [cnt_zero h, show (0 + n - 1) % n = n - 1 by rw [Nat.zero_add]; exact Nat.mod_eq_of_lt (by omega), cnt_all (n := n - 1) (fun c hc => by have := hn c hc; omega)]
    unfold pc
    rw [if_pos rfl, if_neg (by omega)]
  | succ k =>
    rw [cnt_prev h, show (k + 1 + n - 1) % n = k by rw [show k + 1 + n - 1 = k + n by omega, Nat.add_mod_right, Nat.mod_eq_of_lt (by omega)]]
theorem piece_lt {cs : List Nat} {k : Nat} (h0 : 0 < cs.length) : pieceOf cs k < cs.length := by
  have : cntLe cs k ≤ cs.length := List.length_filter_le _ _
  unfold pieceOf pc
  split <;> omega

/-- what a loop has filled: places pos 0 .. pos (i - 1) -/
def Filled (n : Nat) (pos : Nat → Nat) (f : Nat → Int) (i : Nat) (out : List Int) : Prop := out.length = n ∧ ∀ j, j < i → out.getD (pos j) default = f (pos j)
theorem Filled.zero (n : Nat) (pos : Nat → Nat) (f : Nat → Int) : Filled n pos f 0 (List.replicate n 0) := ⟨by simp, fun j hj => by omega⟩
theorem Filled.step {n i : Nat} {pos : Nat → Nat} {f : Nat → Int} {out : List Int} (h : Filled n pos f i out) (hp : pos i < n) : Filled n pos f (i + 1) (out.set (pos i) (f (pos i))) := by
  obtain ⟨h1, h2⟩ := h
  refine ⟨by simpa using h1, fun j hj => ?_⟩
  rw [getD_set _ _ _ (by omega)]
  by_cases he : pos j = pos i
  · rw [if_pos he, he]
  · rw [if_neg he]
    exact h2 j (by rcases Nat.lt_or_ge j i with h | h; exact h; exact absurd (by rw [show j = i by omega]) he)
theorem Filled.done {n : Nat} {pos : Nat → Nat} {f : Nat → Int} {out : List Int} (h : Filled n pos f n out) (hs : ∀ k, k < n → ∃ j, j < n ∧ pos j = k) : out = (List.range n).map f := by
  obtain ⟨h1, h2⟩ := h
  refine List.ext_getElem (by simp [h1]) fun k hk _ => ?_
  obtain ⟨j, hj, rfl⟩ := hs k (by omega)
  have := h2 j hj
  rw [List.getD_eq_getElem?_getD, List.getElem?_eq_getElem hk] at this
  simpa using this
/-- round about -/
theorem cyc_surj {n c : Nat} (hc : c < n) : ∀ k, k < n → ∃ j, j < n ∧ (c + j) % n = k := by
  intro k hk
  by_cases h : c ≤ k
  · exact ⟨k - c, by omega, by rw [show c + (k - c) = k by omega]; exact Nat.mod_eq_of_lt hk⟩
  · exact ⟨n - c + k, by omega, by rw [show c + (n - c + k) = k + n by omega, Nat.add_mod_right]; exact Nat.mod_eq_of_lt hk⟩
theorem cyc_back {n c j : Nat} (hc : c < n) (hj : j < n) : ((c + j) % n + n - c) % n = j := by
  by_cases h : c + j < n
  · rw [Nat.mod_eq_of_lt h, show c + j + n - c = j + n by omega, Nat.add_mod_right, Nat.mod_eq_of_lt hj]
  · have : (c + j) % n = c + j - n := by rw [Nat.mod_eq_sub_mod (by omega), Nat.mod_eq_of_lt (by omega)]
    rw [this, show c + j - n + n - c = j by omega, Nat.mod_eq_of_lt hj]
theorem cyc_prev {n c j : Nat} (hc : c < n) (hj : j + 1 < n) : ((c + (j + 1)) % n + n - 1) % n = (c + j) % n := by
  by_cases h : c + (j + 1) < n
  · rw [Nat.mod_eq_of_lt h, show c + (j + 1) + n - 1 = c + j + n by omega, Nat.add_mod_right]
  · have : (c + (j + 1)) % n = c + (j + 1) - n := by rw [Nat.mod_eq_sub_mod (by omega), Nat.mod_eq_of_lt (by omega)]
    rw [this, show c + (j + 1) - n + n - 1 = c + j by omega]
@[reducible] def rI (ks : List Int) : OR := ⟨3, 1, ks.length, rowOf ints ks, true⟩
theorem made_ints {n : Nat} {T : Nat} : subR ⟨T, 1, n, fun _ j => .lit ([Value.int .i64 0].getD j undef), true⟩ ⟨T, 1, (List.replicate n (0 : Int)).length, rowOf ints (List.replicate n 0), true⟩ := by
  refine ⟨rfl, rfl, by simp, rfl, fun a ha j hj => .of_eq ?_⟩
  have hj : j < 1 := hj
  have ha : a < n := ha
  obtain rfl : j = 0 := by omega
  show L.lit (.int .i64 0) = nth (ints ((List.replicate n (0 : Int)).getD a default)) 0
  rw [List.getD_eq_getElem?_getD, List.getElem?_replicate, if_pos ha]; rfl
/-- filled, place by place -/
def fillTo (n : Nat) (pos : Nat → Nat) (f : Nat → Int) (i : Nat) : List Int := match i with
  | 0 => List.replicate n 0
  | i + 1 => (fillTo n pos f i).set (pos i) (f (pos i))
theorem fillTo_len (n : Nat) (pos : Nat → Nat) (f : Nat → Int) (i : Nat) : (fillTo n pos f i).length = n := by
  induction i with
  | zero => simp [fillTo]
  | succ i ih => unfold fillTo; simpa using ih
theorem fillTo_ok {n : Nat} {pos : Nat → Nat} {f : Nat → Int} (hp : ∀ i, i < n → pos i < n) : ∀ i, i ≤ n → Filled n pos f i (fillTo n pos f i)
  | 0, _ => Filled.zero n pos f
  | i + 1, h => (fillTo_ok hp i (by omega)).step (hp i (by omega))
theorem fillTo_done {n : Nat} {pos : Nat → Nat} {f : Nat → Int} (hp : ∀ i, i < n → pos i < n) (hs : ∀ k, k < n → ∃ j, j < n ∧ pos j = k) : fillTo n pos f n = (List.range n).map f := (fillTo_ok hp n (Nat.le_refl _)).done hs
theorem nat_row (cs : List Nat) (a : Nat) : rowOf natL cs a 0 = I ((cs.getD a default : Nat) : Int) := rfl
def pcAt (cs : List Nat) (n j : Nat) : Nat := match j with
  | 0 => cs.length - 1
  | j + 1 => pieceOf cs ((cs.getD 0 default + j) % n)
theorem pcAt_lt {cs : List Nat} {n j : Nat} (h : 0 < cs.length) : pcAt cs n j < cs.length := by
  cases j with
  | zero => show cs.length - 1 < cs.length; omega
  | succ j => exact piece_lt h
theorem pc_stays {cs : List Nat} {n j : Nat} (h0 : 0 < cs.length) (hc : ∀ c ∈ cs, c < n) (hj : j < n) (hn : (cs.getD 0 default + j) % n ∉ cs) : pcAt cs n j = pieceOf cs ((cs.getD 0 default + j) % n) := by
  have hm : cs.getD 0 default ∈ cs := by rw [List.getD_eq_getElem?_getD, List.getElem?_eq_getElem h0]; exact List.getElem_mem h0
  have hcl := hc _ hm
  cases j with
  | zero => rw [Nat.add_zero, Nat.mod_eq_of_lt hcl] at hn; exact absurd hm hn
  | succ j =>
    unfold pcAt
    rw [piece_next (n := n) hc (Nat.mod_lt _ (by omega)) hn h0, cyc_prev hcl hj]
end Go.Proofs.Ytbfdpdbdkcekfaa
