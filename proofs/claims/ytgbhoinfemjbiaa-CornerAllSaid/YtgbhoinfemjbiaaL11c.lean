/- The contracts of law11.CornerShare, CornerPieces. -/
import Derived.Test.YtgbhoinfemjbiaaL11b
namespace Go.Proofs.Ytgbhoinfemjbiaa
open Go SX
set_option linter.unusedVariables false
set_option maxRecDepth 100000

/-! ### the colours' law -/
def col3 (c : Int) : Prop := c = 3 ∨ c = 5 ∨ c = 6
theorem colourN_in (k m : Nat) : col3 (colourN k m) := by
  unfold colourN col3
  repeat' split
  all_goals simp
theorem share_le {a b : Int} (ha : col3 a) (hb : col3 b) (h : a ≠ b) : sharedW a b ≤ 1 := by
  unfold col3 at ha hb
  rcases ha with rfl | rfl | rfl <;> rcases hb with rfl | rfl | rfl <;> first | exact absurd rfl h | decide
theorem colourN_ne {a m : Nat} (hm : 2 ≤ m) (ha : a < m) : colourN a m ≠ colourN (if a = 0 then m - 1 else a - 1) m := by
  unfold colourN
  by_cases h0 : a = 0
  · subst h0
    rw [if_pos rfl, if_neg (by omega), if_pos rfl]
    repeat' split
    all_goals first | decide | omega
  · rw [if_neg h0]
    have : ¬ (a - 1 + 1 = m ∧ m % 3 = 1) := by omega
    rw [if_neg this]
    repeat' split
    all_goals first | decide | omega
theorem colourAt_one {n c k : Nat} : colourAt n [c] k = if n ≤ 2 * ((k + n - c) % n) then 6 else 5 := rfl
theorem colourAt_many {n k : Nat} {cs : List Nat} (h : 2 ≤ cs.length) : colourAt n cs k = colourN (pieceOf cs k) cs.length := by
  unfold colourAt
  split
  · simp at h
  · simp at h
  · rfl
theorem cnt_at0 {cs : List Nat} {k : Nat} (hs : cs.Pairwise (· < ·)) (hk : k ∈ cs) : ∃ a, a < cs.length ∧ cs.getD a default = k := by
  obtain ⟨a, ha, he⟩ := List.getElem_of_mem hk
  exact ⟨a, ha, by rw [List.getD_eq_getElem?_getD, List.getElem?_eq_getElem ha]; exact he⟩
/-- ahead of a corner lies the piece ahead -/
theorem piece_prev {cs : List Nat} {n a : Nat} (hs : cs.Pairwise (· < ·)) (hn : ∀ c ∈ cs, c < n) (ha : a < cs.length) : pieceOf cs ((cs.getD a default + n - 1) % n) = if a = 0 then cs.length - 1 else a - 1 := by
  have hm := getD_mem (l := cs) ha
  have hk := hn _ hm
  have hcnt := cnt_at hs ha
  generalize hkk : cs.getD a default = k at *
  have key : ∀ j, j + 1 = k → cntLe cs j = a := by
    intro j hj
    have : cntLe cs k = cntLe cs j + 1 := by
      unfold cntLe
      subst hj
      have hnd : cs.Nodup := hs.imp fun h => Nat.ne_of_lt h
      have h1 : (cs.filter fun c => decide (c ≤ j + 1)).length = (cs.filter fun c => decide (c ≤ j)).length + (cs.filter fun c => decide (c = j + 1)).length := by
        clear hcnt hkk hm hk hn hs hnd ha
        induction cs with
        | nil => rfl
        | cons x xs ih =>
          simp only [List.filter_cons]
          by_cases q1 : x ≤ j
          · rw [if_pos (by simp; omega), if_pos (by simp; omega), if_neg (by simp; omega)]; simp; omega
          · by_cases q2 : x = j + 1
            · rw [if_pos (by simp; omega), if_neg (by simp; omega), if_pos (by simp; omega)]; simp; omega
            · rw [if_neg (by simp; omega), if_neg (by simp; omega), if_neg (by simp; omega)]; exact ih
      have h2 : (cs.filter fun c => decide (c = j + 1)).length = 1 := by
        clear hcnt hkk hk hn hs ha h1
        induction cs with
        | nil => simp at hm
        | cons x xs ih =>
          rw [List.nodup_cons] at hnd
          simp only [List.filter_cons]
          by_cases q : x = j + 1
          · rw [if_pos (by simpa using q), List.length_cons]
            have : xs.filter (fun c => decide (c = j + 1)) = [] := by
              rw [List.filter_eq_nil_iff]
              intro y hy
              simp only [decide_eq_true_eq]
              intro e
              rw [q, ← e] at hnd
              exact hnd.1 hy
            rw [this]; rfl
          · rw [if_neg (by simpa using q)]
            rcases List.mem_cons.1 hm with h | h
            · exact absurd h.symm q
            · exact ih h hnd.2
      omega
    omega
  unfold pieceOf
  cases k with
  | zero =>
    have h0 : a = 0 := by
      cases a with
      | zero => rfl
      | succ a =>
        have h1 := List.pairwise_iff_getElem.1 hs 0 (a + 1) (by omega) ha (by omega)
        rw [List.getD_eq_getElem?_getD, List.getElem?_eq_getElem ha] at hkk
        simp at hkk
        omega
    subst h0
    rw [show (0 + n - 1) % n = n - 1 by rw [Nat.zero_add]; exact Nat.mod_eq_of_lt (by omega), cnt_all (n := n - 1) (fun c hc => by have := hn c hc; omega)]
    unfold pc
    rw [if_neg (by omega), if_pos rfl]
  | succ k =>
    rw [show (k + 1 + n - 1) % n = k by rw [show k + 1 + n - 1 = k + n by omega, Nat.add_mod_right, Nat.mod_eq_of_lt (by omega)], key k rfl]
    rfl
theorem share_ok {cs : List Nat} {n k : Nat} (hs : cs.Pairwise (· < ·)) (hn : ∀ c ∈ cs, c < n) (hk : k ∈ cs) (h2 : 1 < n) : sharedW (colourAt n cs k) (colourAt n cs ((k + n - 1) % n)) ≤ 1 := by
  obtain ⟨a, ha, rfl⟩ := cnt_at0 hs hk
  have hkn := hn _ hk
  by_cases h1 : cs.length = 1
  · obtain ⟨c, rfl⟩ := List.length_eq_one_iff.1 h1
    obtain rfl : a = 0 := by simpa using ha
    have hkn : c < n := hkn
    show sharedW (colourAt n [c] c) (colourAt n [c] ((c + n - 1) % n)) ≤ 1
    rw [colourAt_one, colourAt_one]
    have e1 : (c + n - c) % n = 0 := by rw [show c + n - c = n by omega, Nat.mod_self]
    have e2 : ((c + n - 1) % n + n - c) % n = n - 1 := by
      cases c with
      | zero => rw [show (0 + n - 1) % n = n - 1 by rw [Nat.zero_add]; exact Nat.mod_eq_of_lt (by omega), show n - 1 + n - 0 = n - 1 + n by omega, Nat.add_mod_right, Nat.mod_eq_of_lt (by omega)]
      | succ c =>
        have hkn : c + 1 < n := hkn
        rw [show c + 1 + n - 1 = c + n by omega, Nat.add_mod_right, Nat.mod_eq_of_lt (show c < n by omega), show c + n - (c + 1) = n - 1 by omega, Nat.mod_eq_of_lt (by omega)]
    rw [e1, e2, if_neg (by omega), if_pos (by omega)]
    decide
  · have hm : 2 ≤ cs.length := by omega
    rw [colourAt_many hm, colourAt_many hm, piece_prev hs hn ha, piece_at hs ha]
    exact share_le (colourN_in _ _) (colourN_in _ _) (colourN_ne hm ha)
theorem colourAt_seven {n k : Nat} {cs : List Nat} : (colourAt n cs k = 7 ↔ cs.length = 0) ∧ (colourAt n cs k = 7 ∨ col3 (colourAt n cs k)) := by
  match cs with
  | [] => exact ⟨⟨fun _ => rfl, fun _ => rfl⟩, .inl rfl⟩
  | [c] =>
    rw [colourAt_one]
    unfold col3
    split <;> simp
  | c :: d :: cs =>
    rw [colourAt_many (by simp)]
    have h := colourN_in (pieceOf (c :: d :: cs) k) (c :: d :: cs).length
    refine ⟨⟨fun e => ?_, fun e => by simp at e⟩, .inr h⟩
    rw [e] at h
    unfold col3 at h
    omega
theorem colours_get {es : List Ed} {k : Nat} (h : k < es.length) : (colours es).getD k default = colourAt es.length (cornTo es es.length) k := by
  unfold colours
  rw [List.getD_eq_getElem?_getD, List.getElem?_map, List.getElem?_range h]
  rfl
theorem mem_cornTo {es : List Ed} {n k : Nat} : k ∈ cornTo es n ↔ k < n ∧ cornP es k = true := by
  unfold cornTo
  rw [List.mem_filter, List.mem_range]
theorem pieces_ok {es : List Ed} {i : Nat} (hi : i < es.length) (h1 : (cornTo es es.length).length ≠ 1) (hnc : isW (es.getD i default) (es.getD ((i + 1) % es.length) default) = false) : (colours es).getD i default = (colours es).getD ((i + 1) % es.length) default := by
  have hj : (i + 1) % es.length < es.length := Nat.mod_lt _ (by omega)
  have hpr : ((i + 1) % es.length + es.length - 1) % es.length = i := by
    by_cases h : i + 1 < es.length
    · rw [Nat.mod_eq_of_lt h, show i + 1 + es.length - 1 = i + es.length by omega, Nat.add_mod_right, Nat.mod_eq_of_lt hi]
    · rw [show i + 1 = es.length by omega, Nat.mod_self, Nat.zero_add, Nat.mod_eq_of_lt (by omega)]; omega
  have hno : (i + 1) % es.length ∉ cornTo es es.length := by
    rw [mem_cornTo]
    rintro ⟨_, h⟩
    unfold cornP at h
    rw [hpr, hnc] at h
    cases h
  rw [colours_get hi, colours_get hj]
  by_cases h0 : (cornTo es es.length).length = 0
  · rw [(colourAt_seven (n := es.length) (k := i)).1.2 h0, (colourAt_seven (n := es.length) (k := (i + 1) % es.length)).1.2 h0]
  · rw [colourAt_many (by omega), colourAt_many (by omega), piece_next (n := es.length) (cornTo_lt es es.length) hj hno (by omega), hpr]

/-! ### law11.CornerPieces -/
noncomputable def SCP (l : List (List Ed)) (k : Int) (i : Nat) : SS := mkS [(1, .o (.v (.int .u8 k))), (13, .o (.sl true 1 l.length (rowOf edsL l))), (14, .o (.v (.int .i64 l.length))), (15, .o (.v (.int .i64 i)))] [] [] 0 Try.f13.ntmps
theorem cornerPieces_at (cs : List (List Vx)) (k : Int) (hk : 0 ≤ k ∧ k ≤ 255) : FnAt Try.prog 13 [aSl dsL 1 cs, aU8 k] [aB true] := by
  have hct := contours_at cs
  have hin := fun c => cont_in (cs := cs) (c := c)
  have hok := fun c => contours_ok (cs := cs) c
  have hl8 := contours_len cs
  generalize contours cs = l at *
  refine fn_at (E := EE) (fn := Try.f13) (c := Try.f13.body.getD .skip) (rs := Try.f13.results.toList) (nt := Try.f13.ntmps) EE_ok follows (by kernel_rfl) (by kernel_rfl) rfl rfl rfl [] rfl ?_
  refine ⟨_, awake11_at, ?_⟩
  refine ⟨(fun h => nomatch h), fun _ => ?_⟩
  refine ⟨_, hct, ?_⟩
  refine loop_nat l.length (SCP l k) ?_ (fun i hi => ?_)
  · refine ent_of (rl := []) (nl := []) ⟨rfl, ?_, ?_, trivial, rfl, rfl, Nat.zero_le _, trivial, trivial⟩ <;> (repeat' (first | exact trivial | exact SameL.refl _ | exact ep_seal rfl rfl | assumption | exact congrArg (Value.int _) (by assumption) | exact rfl | exact Nat.le_of_ble_eq_true rfl | decide | apply And.intro))
  refine if_dec (fun hlt => ?_) (fun hge => ?_)
  · have hlt : i < l.length := by omega
    have hw := w64_succ hlt (by omega)
    have hm := getD_mem hlt
    have h52 := (hok _ hm).2
    have hcl := colours_len (l.getD i default)
    refine ⟨⟨by omega, by omega⟩, ?_⟩
    refine ⟨_, colours_at (l.getD i default) (by omega), ?_⟩
    refine ⟨_, corners_at (l.getD i default) (by omega), ?_⟩
    refine if_eq_f (fun h1 => ?_) (fun h1 => ?_)
    · have h1 : (((cornTo (l.getD i default) (l.getD i default).length).length : Nat) : Int) ≠ 1 := h1
      refine if_eq_f (fun h2 => ?_) (fun h2 => ?_)
      · have h2 : (((l.getD i default).length : Nat) : Int) ≠ 0 := h2
        refine if_ne (fun h3 => absurd (congrArg (fun n : Nat => (n : Int)) hcl) h3) (fun h3 => ?_)
        obtain ⟨m, hm, hml⟩ : ∃ m : Nat, (w64 k).tmod ((l.getD i default).length : Int) = (m : Int) ∧ m < (l.getD i default).length := by
          have q1 := Int.tmod_nonneg ((l.getD i default).length : Int) (a := w64 k) (by rw [w64_in (by omega)]; exact hk.1)
          have q2 := Int.tmod_lt_of_pos (w64 k) (b := ((l.getD i default).length : Int)) (by omega)
          exact ⟨((w64 k).tmod ((l.getD i default).length : Int)).toNat, by omega, by omega⟩
        have hm1 : w64 ((w64 k).tmod ((l.getD i default).length : Int) + 1) = ((m + 1 : Nat) : Int) := by rw [hm, w64_in (by omega)]; rfl
        have hm2 : (w64 ((w64 k).tmod ((l.getD i default).length : Int) + 1)).tmod ((l.getD i default).length : Int) = (((m + 1) % (l.getD i default).length : Nat) : Int) := by rw [hm1]; exact rem_nat (by omega)
        have hm3 : (m + 1) % (l.getD i default).length < (l.getD i default).length := Nat.mod_lt _ (by omega)
        have hpo := pieces_ok (es := l.getD i default) hml (by omega)
        refine ⟨h2, h2, ?_⟩
        refine ⟨by show 0 ≤ (w64 k).tmod ((l.getD i default).length : Int) ∧ (w64 k).tmod ((l.getD i default).length : Int) < _; rw [hm]; omega, by show 0 ≤ (w64 ((w64 k).tmod ((l.getD i default).length : Int) + 1)).tmod ((l.getD i default).length : Int) ∧ (w64 ((w64 k).tmod ((l.getD i default).length : Int) + 1)).tmod ((l.getD i default).length : Int) < _; rw [hm2]; omega, ?_⟩
        have g1 : ((w64 k).tmod ((l.getD i default).length : Int)).toNat = m := by rw [hm, Int.toNat_natCast]
        have g2 : ((w64 ((w64 k).tmod ((l.getD i default).length : Int) + 1)).tmod ((l.getD i default).length : Int)).toNat = (m + 1) % (l.getD i default).length := by rw [hm2, Int.toNat_natCast]
        refine ⟨_, is_at ((l.getD i default).getD ((w64 k).tmod ((l.getD i default).length : Int)).toNat default) ((l.getD i default).getD ((w64 ((w64 k).tmod ((l.getD i default).length : Int) + 1)).tmod ((l.getD i default).length : Int)).toNat default), ?_⟩
        refine if_nb (fun hw4 => ?_) (fun hw4 => ?_)
        · rw [g1, g2] at hw4
          have hpo := hpo hw4
          refine ⟨by show 0 ≤ (w64 k).tmod ((l.getD i default).length : Int) ∧ (w64 k).tmod ((l.getD i default).length : Int) < ((colours (l.getD i default)).length : Int); rw [hm, hcl]; omega, by show 0 ≤ (w64 ((w64 k).tmod ((l.getD i default).length : Int) + 1)).tmod ((l.getD i default).length : Int) ∧ (w64 ((w64 k).tmod ((l.getD i default).length : Int) + 1)).tmod ((l.getD i default).length : Int) < ((colours (l.getD i default)).length : Int); rw [hm2, hcl]; omega, ?_⟩
          have hpo' : (colours (l.getD i default)).getD ((w64 k).tmod ((l.getD i default).length : Int)).toNat default = (colours (l.getD i default)).getD ((w64 ((w64 k).tmod ((l.getD i default).length : Int) + 1)).tmod ((l.getD i default).length : Int)).toNat default := by rw [g1, g2]; exact hpo
          refine if_ne (fun h5 => absurd hpo' h5) (fun _ => ?_)
          refine ⟨i + 1, ⟨Nat.lt_succ_self _, hlt⟩, ?_⟩
          refine ent_of (rl := []) (nl := []) ⟨rfl, ?_, ?_, trivial, rfl, rfl, Nat.zero_le _, trivial, trivial⟩ <;> (repeat' (first | exact trivial | exact SameL.refl _ | exact ep_seal rfl rfl | assumption | exact congrArg (Value.int _) (by assumption) | exact rfl | exact Nat.le_of_ble_eq_true rfl | decide | apply And.intro))
        · refine ⟨i + 1, ⟨Nat.lt_succ_self _, hlt⟩, ?_⟩
          refine ent_of (rl := []) (nl := []) ⟨rfl, ?_, ?_, trivial, rfl, rfl, Nat.zero_le _, trivial, trivial⟩ <;> (repeat' (first | exact trivial | exact SameL.refl _ | exact ep_seal rfl rfl | assumption | exact congrArg (Value.int _) (by assumption) | exact rfl | exact Nat.le_of_ble_eq_true rfl | decide | apply And.intro))
      · refine ⟨i + 1, ⟨Nat.lt_succ_self _, hlt⟩, ?_⟩
        refine ent_of (rl := []) (nl := []) ⟨rfl, ?_, ?_, trivial, rfl, rfl, Nat.zero_le _, trivial, trivial⟩ <;> (repeat' (first | exact trivial | exact SameL.refl _ | exact ep_seal rfl rfl | assumption | exact congrArg (Value.int _) (by assumption) | exact rfl | exact Nat.le_of_ble_eq_true rfl | decide | apply And.intro))
    · refine ⟨i + 1, ⟨Nat.lt_succ_self _, hlt⟩, ?_⟩
      refine ent_of (rl := []) (nl := []) ⟨rfl, ?_, ?_, trivial, rfl, rfl, Nat.zero_le _, trivial, trivial⟩ <;> (repeat' (first | exact trivial | exact SameL.refl _ | exact ep_seal rfl rfl | assumption | exact congrArg (Value.int _) (by assumption) | exact rfl | exact Nat.le_of_ble_eq_true rfl | decide | apply And.intro))
  · exact ⟨⟨kB rfl, trivial⟩, trivial⟩
theorem CornerPieces_row : ∀ args, TyArgs tt 8 [46, 5] args → FnAt Try.prog 13 args [(false, [.lit (.bool true)])] := by
  intro args h
  match args, h with
  | [(b, l), (b2, l2)], ⟨⟨e, h1⟩, ⟨e2, h2⟩, _⟩ =>
    have e : b = false := e
    have e2 : b2 = false := e2
    subst e
    subst e2
    obtain ⟨cs, hcs⟩ := ty_dots (k := 4) h1
    obtain ⟨k, rfl, hk⟩ := ty_u8 (k := 7) h2
    exact (cornerPieces_at cs k hk).args ⟨rfl, hcs, rfl, sameLs_refl _, trivial⟩

/-! ### law11.CornerShare -/
noncomputable def SSh (l : List (List Ed)) (i : Nat) : SS := mkS [(14, .o (.sl true 1 l.length (rowOf edsL l))), (15, .o (.v (.int .i64 l.length))), (16, .o (.v (.int .i64 i)))] [] [] 0 Try.f12.ntmps
noncomputable def SSh2 (l : List (List Ed)) (i : Nat) (es : List Ed) (cs : List Nat) (q : Nat) : SS := mkS [(4, .o (.sl true 4 es.length (rowOf Ed.ls es))), (5, .o (.sl true 1 (colours es).length (rowOf ints (colours es)))), (6, .o (.sl true 1 cs.length (rowOf natL cs))), (14, .o (.sl true 1 l.length (rowOf edsL l))), (15, .o (.v (.int .i64 l.length))), (16, .o (.v (.int .i64 i))),
  (29, .o (.sl true 1 cs.length (rowOf natL cs))), (30, .o (.v (.int .i64 cs.length))), (31, .o (.v (.int .i64 q)))] [] [] 0 Try.f12.ntmps
noncomputable def SSh3 (l : List (List Ed)) (i : Nat) (es : List Ed) (cs : List Nat) (q : Nat) : SS := mkS [(6, .o (.sl true 1 cs.length (rowOf natL cs))), (14, .o (.sl true 1 l.length (rowOf edsL l))), (15, .o (.v (.int .i64 l.length))), (16, .o (.v (.int .i64 i))),
  (58, .o (.sl true 1 (colours es).length (rowOf ints (colours es)))), (59, .o (.v (.int .i64 (colours es).length))), (60, .o (.v (.int .i64 q)))] [] [] 0 Try.f12.ntmps
set_option maxHeartbeats 1000000 in
theorem cornerShare_at (cs : List (List Vx)) : FnAt Try.prog 12 [aSl dsL 1 cs] [aB true] := by
  have hct := contours_at cs
  have hok := fun c => contours_ok (cs := cs) c
  have hl8 := contours_len cs
  generalize contours cs = l at *
  refine fn_at (E := EE) (fn := Try.f12) (c := Try.f12.body.getD .skip) (rs := Try.f12.results.toList) (nt := Try.f12.ntmps) EE_ok follows (by kernel_rfl) (by kernel_rfl) rfl rfl rfl [] rfl ?_
  refine ⟨_, awake11_at, ?_⟩
  refine ⟨(fun h => nomatch h), fun _ => ?_⟩
  refine ⟨_, hct, ?_⟩
  refine loop_nat l.length (SSh l) ?_ (fun i hi => ?_)
  · refine ent_of (rl := []) (nl := []) ⟨rfl, ?_, ?_, trivial, rfl, rfl, Nat.zero_le _, trivial, trivial⟩ <;> (repeat' (first | exact trivial | exact SameL.refl _ | exact ep_seal rfl rfl | assumption | exact congrArg (Value.int _) (by assumption) | exact rfl | exact Nat.le_of_ble_eq_true rfl | decide | apply And.intro))
  refine if_dec (fun hlt => ?_) (fun hge => ?_)
  · have hlt : i < l.length := by omega
    have hw := w64_succ hlt (by omega)
    have hm := getD_mem hlt
    have h52 := (hok _ hm).2
    have hcl := colours_len (l.getD i default)
    have hsort := cornTo_sorted (l.getD i default) (l.getD i default).length
    have hclt := cornTo_lt (l.getD i default) (l.getD i default).length
    have hcln := cornTo_len (l.getD i default) (l.getD i default).length
    refine ⟨⟨by omega, by omega⟩, ?_⟩
    refine ⟨_, colours_at (l.getD i default) (by omega), ?_⟩
    refine if_ne (fun h3 => absurd (congrArg (fun n : Nat => (n : Int)) hcl) h3) (fun h3 => ?_)
    refine ⟨_, corners_at (l.getD i default) (by omega), ?_⟩
    refine loop_nat (cornTo (l.getD i default) (l.getD i default).length).length (fun q => SSh2 l i (l.getD i default) (cornTo (l.getD i default) (l.getD i default).length) q) ?_ (fun q hq => ?_)
    · refine ent_of (rl := []) (nl := []) ⟨rfl, ?_, ?_, trivial, rfl, rfl, Nat.zero_le _, trivial, trivial⟩ <;> (repeat' (first | exact trivial | exact SameL.refl _ | exact ep_seal rfl rfl | assumption | exact congrArg (Value.int _) (by assumption) | exact rfl | exact Nat.le_of_ble_eq_true rfl | decide | apply And.intro))
    refine if_dec (fun hlq => ?_) (fun hgq => ?_)
    · have hlq : q < (cornTo (l.getD i default) (l.getD i default).length).length := by omega
      have hwq := w64_succ hlq (by omega)
      have hmq := getD_mem hlq
      have hkn := hclt _ hmq
      have hso := share_ok hsort hclt hmq
      have hg1 := colours_get hkn
      refine ⟨⟨by omega, by omega⟩, ?_⟩
      refine if_dec (fun h1 => ?_) (fun h1 => ?_)
      · have h1 : (((l.getD i default).length : Nat) : Int) > 1 := h1
        have hso := hso (by omega)
        have hix : (w64 (w64 ((((cornTo (l.getD i default) (l.getD i default).length).getD q default : Nat) : Int) + ((l.getD i default).length : Int)) - 1)).tmod ((l.getD i default).length : Int) = ((((cornTo (l.getD i default) (l.getD i default).length).getD q default + (l.getD i default).length - 1) % (l.getD i default).length : Nat) : Int) := by
          rw [w64_in (n := (((cornTo (l.getD i default) (l.getD i default).length).getD q default : Nat) : Int) + ((l.getD i default).length : Int)) (by omega), w64_in (by omega), show (((cornTo (l.getD i default) (l.getD i default).length).getD q default : Nat) : Int) + ((l.getD i default).length : Int) - 1 = (((cornTo (l.getD i default) (l.getD i default).length).getD q default + (l.getD i default).length - 1 : Nat) : Int) by omega]
          exact rem_nat (by omega)
        have hmd : ((cornTo (l.getD i default) (l.getD i default).length).getD q default + (l.getD i default).length - 1) % (l.getD i default).length < (l.getD i default).length := Nat.mod_lt _ (by omega)
        have hg2 := colours_get hmd
        rw [← hg1, ← hg2] at hso
        refine ⟨⟨by omega, by show (((cornTo (l.getD i default) (l.getD i default).length).getD q default : Nat) : Int) < ((colours (l.getD i default)).length : Int); rw [hcl]; omega⟩, by show ((l.getD i default).length : Int) ≠ 0; omega, ⟨by show 0 ≤ (w64 (w64 ((((cornTo (l.getD i default) (l.getD i default).length).getD q default : Nat) : Int) + ((l.getD i default).length : Int)) - 1)).tmod ((l.getD i default).length : Int); rw [hix]; omega, by show (w64 (w64 ((((cornTo (l.getD i default) (l.getD i default).length).getD q default : Nat) : Int) + ((l.getD i default).length : Int)) - 1)).tmod ((l.getD i default).length : Int) < ((colours (l.getD i default)).length : Int); rw [hix, hcl]; omega⟩, ?_⟩
        refine ⟨_, shared_at ((colours (l.getD i default)).getD ((cornTo (l.getD i default) (l.getD i default).length).getD q default) default) ((colours (l.getD i default)).getD ((w64 (w64 ((((cornTo (l.getD i default) (l.getD i default).length).getD q default : Nat) : Int) + ((l.getD i default).length : Int)) - 1)).tmod ((l.getD i default).length : Int)).toNat default), ?_⟩
        have hso : ¬ sharedW ((colours (l.getD i default)).getD ((cornTo (l.getD i default) (l.getD i default).length).getD q default) default) ((colours (l.getD i default)).getD ((w64 (w64 ((((cornTo (l.getD i default) (l.getD i default).length).getD q default : Nat) : Int) + ((l.getD i default).length : Int)) - 1)).tmod ((l.getD i default).length : Int)).toNat default) > 1 := by
          rw [hix, Int.toNat_natCast]; omega
        refine if_dec (fun h => absurd h hso) (fun _ => ?_)
        refine ⟨q + 1, ⟨Nat.lt_succ_self _, hlq⟩, ?_⟩
        refine ent_of (rl := []) (nl := []) ⟨rfl, ?_, ?_, trivial, rfl, rfl, Nat.zero_le _, trivial, trivial⟩ <;> (repeat' (first | exact trivial | exact SameL.refl _ | exact ep_seal rfl rfl | assumption | exact congrArg (Value.int _) (by assumption) | exact rfl | exact Nat.le_of_ble_eq_true rfl | decide | apply And.intro))
      · refine ⟨q + 1, ⟨Nat.lt_succ_self _, hlq⟩, ?_⟩
        refine ent_of (rl := []) (nl := []) ⟨rfl, ?_, ?_, trivial, rfl, rfl, Nat.zero_le _, trivial, trivial⟩ <;> (repeat' (first | exact trivial | exact SameL.refl _ | exact ep_seal rfl rfl | assumption | exact congrArg (Value.int _) (by assumption) | exact rfl | exact Nat.le_of_ble_eq_true rfl | decide | apply And.intro))
    · refine loop_nat (colours (l.getD i default)).length (fun q => SSh3 l i (l.getD i default) (cornTo (l.getD i default) (l.getD i default).length) q) ?_ (fun q hq => ?_)
      · refine ent_of (rl := []) (nl := []) ⟨rfl, ?_, ?_, trivial, rfl, rfl, Nat.zero_le _, trivial, trivial⟩ <;> (repeat' (first | exact trivial | exact SameL.refl _ | exact ep_seal rfl rfl | assumption | exact congrArg (Value.int _) (by assumption) | exact rfl | exact Nat.le_of_ble_eq_true rfl | decide | apply And.intro))
      refine if_dec (fun hlq => ?_) (fun hgq => ?_)
      · have hlq : q < (colours (l.getD i default)).length := by omega
        have hwq := w64_succ hlq (by omega)
        have hg1 := colours_get (es := l.getD i default) (k := q) (by omega)
        obtain ⟨h7, h8⟩ := colourAt_seven (n := (l.getD i default).length) (k := q) (cs := cornTo (l.getD i default) (l.getD i default).length)
        rw [← hg1] at h7 h8
        refine ⟨⟨by omega, by omega⟩, ?_⟩
        have h7' : ((colours (l.getD i default)).getD (q : Int).toNat default == (7 : Int)) = ((((cornTo (l.getD i default) (l.getD i default).length).length : Nat) : Int) == 0) := by
          rw [Int.toNat_natCast, Bool.eq_iff_iff]
          simp only [beq_iff_eq]
          rw [h7]; omega
        refine ⟨fun _ => ?_, fun h => absurd h (by show ¬ (!((colours (l.getD i default)).getD (q : Int).toNat default == (7 : Int)) == ((((cornTo (l.getD i default) (l.getD i default).length).length : Nat) : Int) == 0)) = true; rw [h7']; simp)⟩
        refine if_ne (fun q7 => ?_) (fun q7 => ?_)
        · have q7 : (colours (l.getD i default)).getD q default ≠ 7 := q7
          have h8 := h8.resolve_left q7
          unfold col3 at h8
          refine if_ne (fun q3 => ?_) (fun q3 => ?_)
          · have q3 : (colours (l.getD i default)).getD q default ≠ 3 := q3
            refine if_ne (fun q5 => ?_) (fun q5 => ?_)
            · have q5 : (colours (l.getD i default)).getD q default ≠ 5 := q5
              have q6 : (colours (l.getD i default)).getD q default = 6 := by omega
              refine if_ne (fun h => absurd q6 h) (fun _ => ?_)
              refine ⟨q + 1, ⟨Nat.lt_succ_self _, hlq⟩, ?_⟩
              refine ent_of (rl := []) (nl := []) ⟨rfl, ?_, ?_, trivial, rfl, rfl, Nat.zero_le _, trivial, trivial⟩ <;> (repeat' (first | exact trivial | exact SameL.refl _ | exact ep_seal rfl rfl | assumption | exact congrArg (Value.int _) (by assumption) | exact rfl | exact Nat.le_of_ble_eq_true rfl | decide | apply And.intro))
            · refine ⟨q + 1, ⟨Nat.lt_succ_self _, hlq⟩, ?_⟩
              refine ent_of (rl := []) (nl := []) ⟨rfl, ?_, ?_, trivial, rfl, rfl, Nat.zero_le _, trivial, trivial⟩ <;> (repeat' (first | exact trivial | exact SameL.refl _ | exact ep_seal rfl rfl | assumption | exact congrArg (Value.int _) (by assumption) | exact rfl | exact Nat.le_of_ble_eq_true rfl | decide | apply And.intro))
          · refine ⟨q + 1, ⟨Nat.lt_succ_self _, hlq⟩, ?_⟩
            refine ent_of (rl := []) (nl := []) ⟨rfl, ?_, ?_, trivial, rfl, rfl, Nat.zero_le _, trivial, trivial⟩ <;> (repeat' (first | exact trivial | exact SameL.refl _ | exact ep_seal rfl rfl | assumption | exact congrArg (Value.int _) (by assumption) | exact rfl | exact Nat.le_of_ble_eq_true rfl | decide | apply And.intro))
        · refine ⟨q + 1, ⟨Nat.lt_succ_self _, hlq⟩, ?_⟩
          refine ent_of (rl := []) (nl := []) ⟨rfl, ?_, ?_, trivial, rfl, rfl, Nat.zero_le _, trivial, trivial⟩ <;> (repeat' (first | exact trivial | exact SameL.refl _ | exact ep_seal rfl rfl | assumption | exact congrArg (Value.int _) (by assumption) | exact rfl | exact Nat.le_of_ble_eq_true rfl | decide | apply And.intro))
      · refine ⟨i + 1, ⟨Nat.lt_succ_self _, hlt⟩, ?_⟩
        refine ent_of (rl := []) (nl := []) ⟨rfl, ?_, ?_, trivial, rfl, rfl, Nat.zero_le _, trivial, trivial⟩ <;> (repeat' (first | exact trivial | exact SameL.refl _ | exact ep_seal rfl rfl | assumption | exact congrArg (Value.int _) (by assumption) | exact rfl | exact Nat.le_of_ble_eq_true rfl | decide | apply And.intro))
  · exact ⟨⟨kB rfl, trivial⟩, trivial⟩
theorem CornerShare_row : ∀ args, TyArgs tt 8 [46] args → FnAt Try.prog 12 args [(false, [.lit (.bool true)])] := by
  intro args h
  match args, h with
  | [(b, l)], ⟨⟨e, h1⟩, _⟩ =>
    have e : b = false := e
    subst e
    obtain ⟨cs, hcs⟩ := ty_dots (k := 4) h1
    exact (cornerShare_at cs).args ⟨rfl, hcs, trivial⟩
end Go.Proofs.Ytgbhoinfemjbiaa
