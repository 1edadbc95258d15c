/- Law 22: the contract of Encode. -/
import Derived.Test.YtggappbiedkopaaGreatK2b
namespace Go.Proofs.YtggappbiedkopaaGreat
open Go SX
set_option linter.unusedVariables false
set_option maxRecDepth 100000
set_option maxHeartbeats 1000000

/-- what Encode gathers of points -/
structure En where
  fs : List Int
  st : List Int
  x : Int
  y : Int
def enStep (e : En) (v : Gv) : En := ⟨e.fs ++ [flagF v.on (w64 (v.x - e.x)) (w64 (v.y - e.y))], (e.st ++ stepF (w64 (v.x - e.x))) ++ stepF (w64 (v.y - e.y)), v.x, v.y⟩
def enAll (l : List Gv) : En := l.foldl enStep ⟨[], [], 0, 0⟩
theorem stepF_len (n : Int) : 1 ≤ (stepF n).length ∧ (stepF n).length ≤ 2 := by unfold stepF; split <;> simp
theorem enAll_len (l : List Gv) : (enAll l).fs.length = l.length ∧ 2 * l.length ≤ (enAll l).st.length ∧ (enAll l).st.length ≤ 4 * l.length := by
  have key : ∀ (l : List Gv) (e : En), (l.foldl enStep e).fs.length = e.fs.length + l.length ∧ e.st.length + 2 * l.length ≤ (l.foldl enStep e).st.length ∧ (l.foldl enStep e).st.length ≤ e.st.length + 4 * l.length := by
    intro l
    induction l with
    | nil => intro e; simp
    | cons v l ih =>
      intro e
      obtain ⟨h1, h2, h3⟩ := ih (enStep e v)
      have h4 := stepF_len (w64 (v.x - e.x))
      have h5 := stepF_len (w64 (v.y - e.y))
      simp only [List.foldl_cons, List.length_cons]
      simp only [enStep, List.length_append, List.length_cons, List.length_nil] at h1 h2 h3 ⊢
      omega
  have := key l ⟨[], [], 0, 0⟩
  unfold enAll
  simpa using this
theorem enAll_snoc (l : List Gv) (v : Gv) : enAll (l ++ [v]) = enStep (enAll l) v := by unfold enAll; rw [List.foldl_append]; rfl
/-- the points of the first i contours, and k of the next one -/
def ptsTo (o : List (List Gv)) (i k : Nat) : List Gv := (o.take i).flatten ++ (o.getD i []).take k
theorem pts_next (o : List (List Gv)) {i : Nat} (h : i < o.length) : ptsTo o i (o.getD i []).length = ptsTo o (i + 1) 0 := by
  unfold ptsTo
  rw [List.take_length, List.take_zero, List.append_nil, List.take_add_one, List.flatten_append, List.getD_eq_getElem?_getD, List.getElem?_eq_getElem h]
  simp
theorem pts_succ (o : List (List Gv)) {i k : Nat} (h : k < (o.getD i []).length) : ptsTo o i (k + 1) = ptsTo o i k ++ [(o.getD i []).getD k default] := by
  unfold ptsTo
  rw [List.take_add_one, List.getElem?_eq_getElem h, List.append_assoc]
  rw [List.getD_eq_getElem?_getD (l := o.getD i []) (i := k), List.getElem?_eq_getElem h]
  rfl
theorem pts_len (o : List (List Gv)) (i k : Nat) (h : i < o.length) : (ptsTo o i k).length ≤ total o := by
  have h1 := total_take h
  have h2 := total_le o (i + 1)
  have h3 : ((o.take i).flatten).length = total (o.take i) := by unfold total; rw [List.length_flatten]
  unfold ptsTo
  rw [List.length_append, h3, List.length_take]
  have : o.getD i [] = o.getD i default := rfl
  rw [this]
  omega
theorem pts_all (o : List (List Gv)) : ptsTo o o.length 0 = o.flatten := by unfold ptsTo; simp
def sizesTo (o : List (List Gv)) (i : Nat) : List Int := IntKind.u8.wrap o.length :: (o.take i).map fun c => IntKind.u8.wrap c.length
theorem sizes_succ (o : List (List Gv)) {i : Nat} (h : i < o.length) : sizesTo o (i + 1) = sizesTo o i ++ [IntKind.u8.wrap (o.getD i []).length] := by
  unfold sizesTo
  rw [List.take_add_one, List.map_append, List.getD_eq_getElem?_getD, List.getElem?_eq_getElem h]
  rfl
theorem sizes_len (o : List (List Gv)) {i : Nat} (h : i ≤ o.length) : (sizesTo o i).length = 1 + i := by unfold sizesTo; simp; omega

/-- runs -/
def runLen (fs : List Int) (k : Nat) : Nat → Nat → Nat
  | 0, n => n
  | f + 1, n => if k + n < fs.length ∧ fs.getD (k + n) default = fs.getD k default then runLen fs k f (n + 1) else n
def runN' (fs : List Int) (k : Nat) : Nat := runLen fs k fs.length 1
def rleE (fs : List Int) (k : Nat) : List Int := if runN' fs k > 2 then [orU (fs.getD k default) 8, IntKind.u8.wrap (w64 ((runN' fs k : Nat) - 1))] else [fs.getD k default]
def rleN (fs : List Int) (k : Nat) : Nat := if runN' fs k > 2 then runN' fs k else 1
def rleAll (fs : List Int) : Nat → Nat → List Int → List Int
  | 0, _, out => out
  | f + 1, k, out => if k < fs.length then rleAll fs f (k + rleN fs k) (out ++ rleE fs k) else out
def encF (o : List (List Gv)) : List Int := rleAll (enAll o.flatten).fs (enAll o.flatten).fs.length 0 (sizesTo o o.length) ++ (enAll o.flatten).st
theorem runLen_stop {fs : List Int} {k n g : Nat} (h : ¬ (k + n < fs.length ∧ fs.getD (k + n) default = fs.getD k default)) : runLen fs k g n = n := by
  cases g with
  | zero => rfl
  | succ g => unfold runLen; rw [if_neg h]
theorem runLen_le {fs : List Int} {k : Nat} (hk : k < fs.length) : ∀ (f n : Nat), k + n ≤ fs.length → n ≤ runLen fs k f n ∧ k + runLen fs k f n ≤ fs.length
  | 0, n, h => ⟨Nat.le_refl _, h⟩
  | f + 1, n, h => by
    unfold runLen
    split
    · rename_i q
      obtain ⟨h1, h2⟩ := runLen_le hk f (n + 1) (by omega)
      omega
    · omega
theorem runN_in {fs : List Int} {k : Nat} (hk : k < fs.length) : 1 ≤ runN' fs k ∧ k + runN' fs k ≤ fs.length := runLen_le hk _ 1 (by omega)
theorem rleN_in {fs : List Int} {k : Nat} (hk : k < fs.length) : 1 ≤ rleN fs k ∧ k + rleN fs k ≤ fs.length ∧ (rleE fs k).length ≤ rleN fs k := by
  have := runN_in hk
  unfold rleN rleE
  split <;> simp <;> omega

@[reducible] def EKe : Env := EKf [(25, true)]
theorem EKe_ok : EnvOK Tryz.prog EKe := EKf_ok _
@[reducible] def rw8 (l : List Int) : OR := ⟨5, 1, l.length, rowOf uL l, true⟩
theorem subR_lit {x : Int} {es : List Int} {T : Nat} {h : Nat → Nat → L} {fr fr' : Bool} (h0 : SameL (h 0 0) (U x)) (he : es = [x]) (hfr : boolLe fr' fr = true) : subR ⟨T, 1, 1, h, fr⟩ ⟨T, 1, es.length, rowOf uL es, fr'⟩ := by
  subst he
  refine ⟨rfl, rfl, rfl, hfr, fun a ha j hj => ?_⟩
  have ha : a = 0 := Nat.lt_one_iff.1 ha
  have hj : j = 0 := Nat.lt_one_iff.1 hj
  subst ha; subst hj
  exact h0
theorem app_ret {es fs : List Int} {fr : Bool} : (1 : Nat) = 1 ∧ es.length + fs.length = (es ++ fs).length ∧ ∀ a, a < (es ++ fs).length → ∀ j, j < 1 → (fr || isLit (rowOf uL (es ++ fs) a j)) = true ∧ SameL (appf (rowOf uL es) es.length (rowOf uL fs) a j) (rowOf uL (es ++ fs) a j) := by
  obtain ⟨_, _, _, _, h⟩ := subR_app (g := uL) (T := 0) (sz := 1) (es := es) (fs := fs) (fr := true) (fr' := true) rfl rfl rfl rfl rfl rfl
  refine ⟨rfl, by simp, fun a ha j hj => ⟨?_, h a (by simpa using ha) j hj⟩⟩
  have hj : j = 0 := Nat.lt_one_iff.1 hj
  subst hj
  cases fr <;> rfl
noncomputable def SEa (o : List (List Gv)) (i : Nat) : SS := mkS
  [(5, .o (.h 0)), (6, .o (.h 1)), (7, .o (.h 2)), (8, .o (.v (.int .i64 (enAll (ptsTo o i 0)).x))), (9, .o (.v (.int .i64 (enAll (ptsTo o i 0)).y))), (27, .o (.sl false 1 o.length (rowOf cL o))), (28, .o (.v (.int .i64 o.length))), (29, .o (.v (.int .i64 i)))]
  [] [(0, rw8 (sizesTo o i)), (1, rw8 (enAll (ptsTo o i 0)).fs), (2, rw8 (enAll (ptsTo o i 0)).st)] 3 Tryz.f18.ntmps
noncomputable def SEb (o : List (List Gv)) (c : List Gv) (i k : Nat) : SS := mkS
  [(5, .o (.h 0)), (6, .o (.h 1)), (7, .o (.h 2)), (8, .o (.v (.int .i64 (enAll (ptsTo o i k)).x))), (9, .o (.v (.int .i64 (enAll (ptsTo o i k)).y))), (27, .o (.sl false 1 o.length (rowOf cL o))), (28, .o (.v (.int .i64 o.length))), (29, .o (.v (.int .i64 i))),
    (39, .o (.sl false 3 c.length (rowOf vL c))), (40, .o (.v (.int .i64 c.length))), (41, .o (.v (.int .i64 k)))]
  [] [(0, rw8 (sizesTo o (i + 1))), (1, rw8 (enAll (ptsTo o i k)).fs), (2, rw8 (enAll (ptsTo o i k)).st)] 3 Tryz.f18.ntmps
noncomputable def SEc (E : En) (k : Nat) (out : List Int) : SS := mkS
  [(5, .o (.h 0)), (6, .o (.h 1)), (7, .o (.h 2)), (14, .o (.v (.int .i64 k)))] [] [(0, rw8 out), (1, rw8 E.fs), (2, rw8 E.st)] 3 Tryz.f18.ntmps
noncomputable def SEd (E : En) (k : Nat) (out : List Int) (n : Nat) : SS := mkS
  [(5, .o (.h 0)), (6, .o (.h 1)), (7, .o (.h 2)), (14, .o (.v (.int .i64 k))), (15, .o (.v (.int .i64 n)))] [] [(0, rw8 out), (1, rw8 E.fs), (2, rw8 E.st)] 3 Tryz.f18.ntmps
theorem encode_at (o : List (List Gv)) (ho : okO o) : FnAt Tryz.prog 18 [aO o] [(false, [bSl (encF o)]), aI 0] := by
  have h8 := ho.n
  have h64 := ho.t
  refine fn_at (E := EKe) (fn := Tryz.f18) (c := Tryz.f18.body.getD .skip) (rs := Tryz.f18.results.toList) (nt := Tryz.f18.ntmps) EKe_ok follows (by kernel_rfl) (by kernel_rfl) rfl rfl rfl [] rfl ?_
  refine ⟨_, checkO_at o ho, ?_⟩
  refine if_ne (fun h => ?_) (fun h => ?_)
  · exact absurd rfl h
  refine loop_nat o.length (SEa o) ?_ (fun i hi => ?_)
  · refine ent_of (rl := [(0, 12)]) (nl := [1, 2]) ⟨rfl, ?_, ?_, ⟨⟨Nat.le_of_ble_eq_true rfl, subR_lit (x := IntKind.u8.wrap o.length) (SameL.refl _) rfl rfl⟩, ⟨Nat.le_of_ble_eq_true rfl, rfl⟩, ⟨Nat.le_of_ble_eq_true rfl, rfl⟩, trivial⟩, rfl, rfl, (by first | exact Nat.zero_le _ | exact Nat.le_of_ble_eq_true rfl), ⟨(by first | exact Nat.zero_le _ | exact Nat.le_of_ble_eq_true rfl), (by first | exact Nat.zero_le _ | exact Nat.le_of_ble_eq_true rfl), trivial⟩, ⟨⟨(by first | exact Nat.zero_le _ | exact Nat.le_of_ble_eq_true rfl), (by first | exact Nat.zero_le _ | exact Nat.le_of_ble_eq_true rfl)⟩, trivial⟩⟩ <;> (repeat' (first | exact trivial | exact SameL.refl _ | exact ep_seal rfl rfl | assumption | exact congrArg (Value.int _) (by assumption) | exact rfl | exact Nat.le_of_ble_eq_true rfl | decide | apply And.intro | apply all1 | apply all2 | apply all3 | apply all4 | apply all5))
  refine if_dec (fun hlt => ?_) (fun hge => ?_)
  · have hlt : i < o.length := by omega
    have hw := w64_succ hlt (by omega)
    have hsl := sizes_len o (i := i) (by omega)
    have hcl : (o.getD i default).length ≤ 64 := by
      have h1 := total_take hlt
      have h2 := total_le o (i + 1)
      omega
    refine ⟨⟨by omega, by omega⟩, ?_⟩
    refine ⟨appB (n := (sizesTo o i).length) (by omega) (by decide), ?_⟩
    refine loop_nat (o.getD i default).length (SEb o (o.getD i default) i) ?_ (fun k hk => ?_)
    · refine ent_of (rl := [(0, 12)]) (nl := []) ⟨rfl, ?_, ?_, ⟨⟨Nat.le_of_ble_eq_true rfl, subR_snoc rfl rfl (fun j hj => elem1 rfl) (sizes_succ o hlt) rfl⟩, ⟨Nat.le_of_ble_eq_true rfl, subR.refl _⟩, ⟨Nat.le_of_ble_eq_true rfl, subR.refl _⟩, trivial⟩, rfl, rfl, (by first | exact Nat.zero_le _ | exact Nat.le_of_ble_eq_true rfl), trivial, ⟨⟨(by first | exact Nat.zero_le _ | exact Nat.le_of_ble_eq_true rfl), (by first | exact Nat.zero_le _ | exact Nat.le_of_ble_eq_true rfl)⟩, trivial⟩⟩ <;> (repeat' (first | exact trivial | exact SameL.refl _ | exact ep_seal rfl rfl | assumption | exact congrArg (Value.int _) (by assumption) | exact rfl | exact Nat.le_of_ble_eq_true rfl | decide | apply And.intro | apply all1 | apply all2 | apply all3 | apply all4 | apply all5))
    refine if_dec (fun hlt2 => ?_) (fun hge2 => ?_)
    · have hlt2 : k < (o.getD i default).length := by omega
      have hw2 := w64_succ hlt2 (by omega)
      have hpl := pts_len o i k hlt
      obtain ⟨e1, e2, e3⟩ := enAll_len (ptsTo o i k)
      refine ⟨⟨by omega, by omega⟩, ?_⟩
      refine ⟨_, flag_at _ _ _, ?_⟩
      refine ⟨appB (n := (enAll (ptsTo o i k)).fs.length) (by omega) (by decide), ?_⟩
      have q1 := stepF_len (w64 (((o.getD i default).getD k default).x - (enAll (ptsTo o i k)).x))
      refine ⟨_, step_ap (enAll (ptsTo o i k)).st _ (by omega), ?_⟩
      refine ⟨_, step_ap ((enAll (ptsTo o i k)).st ++ stepF (w64 (((o.getD i default).getD k default).x - (enAll (ptsTo o i k)).x))) _ (by rw [List.length_append]; omega), ?_⟩
      have hs : enAll (ptsTo o i (k + 1)) = enStep (enAll (ptsTo o i k)) ((o.getD i default).getD k default) := by rw [pts_succ o (show k < (o.getD i []).length from hlt2), enAll_snoc]; rfl
      refine ⟨k + 1, ⟨Nat.lt_succ_self _, hlt2⟩, ?_⟩
      unfold SEb
      rw [hs]
      refine ent_of (rl := [(1, 20), (2, 32)]) (nl := []) ⟨rfl, ?_, ?_, ⟨⟨Nat.le_of_ble_eq_true rfl, subR.refl _⟩, ⟨Nat.le_of_ble_eq_true rfl, subR_snoc rfl rfl (fun j hj => elem1 rfl) rfl rfl⟩, ⟨Nat.le_of_ble_eq_true rfl, subR.refl _⟩, trivial⟩, rfl, rfl, (by first | exact Nat.zero_le _ | exact Nat.le_of_ble_eq_true rfl), trivial, ⟨⟨(by first | exact Nat.zero_le _ | exact Nat.le_of_ble_eq_true rfl), (by first | exact Nat.zero_le _ | exact Nat.le_of_ble_eq_true rfl)⟩, ⟨(by first | exact Nat.zero_le _ | exact Nat.le_of_ble_eq_true rfl), (by first | exact Nat.zero_le _ | exact Nat.le_of_ble_eq_true rfl)⟩, trivial⟩⟩ <;> (repeat' (first | exact trivial | exact SameL.refl _ | exact ep_seal rfl rfl | assumption | exact congrArg (Value.int _) (by assumption) | exact rfl | exact Nat.le_of_ble_eq_true rfl | decide | apply And.intro | apply all1 | apply all2 | apply all3 | apply all4 | apply all5))
    · refine ⟨i + 1, ⟨Nat.lt_succ_self _, hlt⟩, ?_⟩
      have hkk : k = (o.getD i []).length := by have : k ≤ (o.getD i default).length := hk; show k = (o.getD i default).length; omega
      have hp := pts_next o hlt
      rw [← hkk] at hp
      unfold SEa
      rw [← hp]
      refine ent_of (rl := []) (nl := []) ⟨rfl, ?_, ?_, ⟨⟨Nat.le_of_ble_eq_true rfl, subR.refl _⟩, ⟨Nat.le_of_ble_eq_true rfl, subR.refl _⟩, ⟨Nat.le_of_ble_eq_true rfl, subR.refl _⟩, trivial⟩, rfl, rfl, (by first | exact Nat.zero_le _ | exact Nat.le_of_ble_eq_true rfl), trivial, trivial⟩ <;> (repeat' (first | exact trivial | exact SameL.refl _ | exact ep_seal rfl rfl | assumption | exact congrArg (Value.int _) (by assumption) | exact rfl | exact Nat.le_of_ble_eq_true rfl | decide | apply And.intro | apply all1 | apply all2 | apply all3 | apply all4 | apply all5))
  · have hio : i = o.length := by omega
    subst hio
    have hpa := pts_all o
    obtain ⟨e1, e2, e3⟩ := enAll_len (ptsTo o o.length 0)
    have hpl : (ptsTo o o.length 0).length ≤ total o := by rw [hpa]; unfold total; rw [List.length_flatten]; exact Nat.le_refl _
    have hsl := sizes_len o (i := o.length) (Nat.le_refl _)
    have hfin : encF o = rleAll (enAll (ptsTo o o.length 0)).fs (enAll (ptsTo o o.length 0)).fs.length 0 (sizesTo o o.length) ++ (enAll (ptsTo o o.length 0)).st := by rw [hpa]; rfl
    generalize hE : enAll (ptsTo o o.length 0) = E at *
    generalize hF : rleAll E.fs E.fs.length 0 (sizesTo o o.length) = fin at *
    refine loop_inv (fun q : Nat × List Int × Nat => q.1 ≤ E.fs.length ∧ 1 + o.length ≤ q.2.1.length ∧ q.2.1.length ≤ 9 + q.1 ∧ E.fs.length ≤ q.1 + q.2.2 ∧ rleAll E.fs q.2.2 q.1 q.2.1 = fin) (fun q => E.fs.length - q.1) (fun q => SEc E q.1 q.2.1) (0, sizesTo o o.length, E.fs.length) ⟨Nat.zero_le _, ?_, ?_, ?_, hF⟩ ?_ (fun q hq => ?_)
    · show 1 + o.length ≤ (sizesTo o o.length).length; omega
    · show (sizesTo o o.length).length ≤ 9 + 0; omega
    · show E.fs.length ≤ 0 + E.fs.length; omega
    · unfold SEa
      rw [hE]
      refine ent_of (rl := []) (nl := []) ⟨rfl, ?_, ?_, ⟨⟨Nat.le_of_ble_eq_true rfl, subR.refl _⟩, ⟨Nat.le_of_ble_eq_true rfl, subR.refl _⟩, ⟨Nat.le_of_ble_eq_true rfl, subR.refl _⟩, trivial⟩, rfl, rfl, (by first | exact Nat.zero_le _ | exact Nat.le_of_ble_eq_true rfl), trivial, trivial⟩ <;> (repeat' (first | exact trivial | exact SameL.refl _ | exact ep_seal rfl rfl | assumption | exact congrArg (Value.int _) (by assumption) | exact rfl | exact Nat.le_of_ble_eq_true rfl | decide | apply And.intro | apply all1 | apply all2 | apply all3 | apply all4 | apply all5))
    obtain ⟨k, out, f⟩ := q
    obtain ⟨q1, q2, q3, q4, q5⟩ := hq
    dsimp only at q1 q2 q3 q4 q5
    refine if_dec (fun hlt => ?_) (fun hge => ?_)
    · have hkl : k < E.fs.length := by have h : (k : Int) < (E.fs.length : Int) := hlt; omega
      refine loop_inv (fun p : Nat × Nat => 1 ≤ p.1 ∧ k + p.1 ≤ E.fs.length ∧ E.fs.length ≤ k + p.1 + p.2 ∧ runLen E.fs k p.2 p.1 = runN' E.fs k) (fun p => E.fs.length - p.1) (fun p => SEd E k out p.1) (1, E.fs.length) ⟨Nat.le_refl _, ?_, ?_, rfl⟩ ?_ (fun p hp => ?_)
      · show k + 1 ≤ E.fs.length; omega
      · show E.fs.length ≤ k + 1 + E.fs.length; omega
      · refine ent_of (rl := []) (nl := []) ⟨rfl, ?_, ?_, ⟨⟨Nat.le_of_ble_eq_true rfl, subR.refl _⟩, ⟨Nat.le_of_ble_eq_true rfl, subR.refl _⟩, ⟨Nat.le_of_ble_eq_true rfl, subR.refl _⟩, trivial⟩, rfl, rfl, (by first | exact Nat.zero_le _ | exact Nat.le_of_ble_eq_true rfl), trivial, trivial⟩ <;> (repeat' (first | exact trivial | exact SameL.refl _ | exact ep_seal rfl rfl | assumption | exact congrArg (Value.int _) (by assumption) | exact rfl | exact Nat.le_of_ble_eq_true rfl | decide | apply And.intro | apply all1 | apply all2 | apply all3 | apply all4 | apply all5))
      obtain ⟨n, g⟩ := p
      obtain ⟨p1, p2, p3, p4⟩ := hp
      dsimp only at p1 p2 p3 p4
      have hwn : w64 ((k : Int) + (n : Int)) = ((k + n : Nat) : Int) := by rw [w64_in (by omega)]; rfl
      have hwn1 : w64 ((n : Int) + 1) = ((n + 1 : Nat) : Int) := by rw [w64_in (by omega)]; rfl
      have hend : ∀ m : Nat, m = runN' E.fs k → m > 2 → True := fun _ _ _ => trivial
      refine if_dec (fun h1 => ?_) (fun h1 => ?_)
      · have h1' : k + n < E.fs.length := by have h : w64 ((k : Int) + (n : Int)) < (E.fs.length : Int) := h1; omega
        refine ⟨⟨by show 0 ≤ w64 ((k : Int) + (n : Int)); omega, by show w64 ((k : Int) + (n : Int)) < (E.fs.length : Int); omega⟩, ?_⟩
        refine ⟨by show (w64 ((k : Int) + (n : Int))).toNat < E.fs.length; omega, ?_⟩
        refine ⟨⟨by show 0 ≤ (k : Int); omega, by show (k : Int) < (E.fs.length : Int); omega⟩, ?_⟩
        refine ⟨hkl, ?_⟩
        refine if_eq (fun h2 => ?_) (fun h2 => ?_)
        · have h2 : E.fs.getD (w64 ((k : Int) + (n : Int))).toNat default = E.fs.getD k default := h2
          rw [hwn] at h2
          have h2' : E.fs.getD (k + n) default = E.fs.getD k default := h2
          refine ⟨(n + 1, g - 1), ⟨?_, ?_, ?_, ?_, ?_⟩, ?_⟩
          · show E.fs.length - (n + 1) < E.fs.length - n; omega
          · show 1 ≤ n + 1; omega
          · show k + (n + 1) ≤ E.fs.length; omega
          · show E.fs.length ≤ k + (n + 1) + (g - 1); omega
          · show runLen E.fs k (g - 1) (n + 1) = _
            cases g with
            | zero => omega
            | succ g => unfold runLen at p4; rw [if_pos ⟨h1', h2'⟩] at p4; exact p4
          · refine ent_of (rl := []) (nl := []) ⟨rfl, ?_, ?_, ⟨⟨Nat.le_of_ble_eq_true rfl, subR.refl _⟩, ⟨Nat.le_of_ble_eq_true rfl, subR.refl _⟩, ⟨Nat.le_of_ble_eq_true rfl, subR.refl _⟩, trivial⟩, rfl, rfl, (by first | exact Nat.zero_le _ | exact Nat.le_of_ble_eq_true rfl), trivial, trivial⟩ <;> (repeat' (first | exact trivial | exact SameL.refl _ | exact ep_seal rfl rfl | assumption | exact congrArg (Value.int _) (by assumption) | exact rfl | exact Nat.le_of_ble_eq_true rfl | decide | apply And.intro | apply all1 | apply all2 | apply all3 | apply all4 | apply all5))
        · have h2 : ¬ E.fs.getD (w64 ((k : Int) + (n : Int))).toNat default = E.fs.getD k default := h2
          rw [hwn] at h2
          have hN : n = runN' E.fs k := by rw [← p4]; exact (runLen_stop fun h => h2 h.2).symm
          obtain ⟨r1, r2, r3⟩ := rleN_in hkl
          have hst : rleAll E.fs (f - 1) (k + rleN E.fs k) (out ++ rleE E.fs k) = fin := by
            cases f with
            | zero => omega
            | succ f => unfold rleAll at q5; rw [if_pos hkl] at q5; exact q5
          refine if_dec (fun h3 => ?_) (fun h3 => ?_)
          · have h3 : n > 2 := by have h : (n : Int) > 2 := h3; omega
            have hrn : rleN E.fs k = n := by unfold rleN; rw [← hN, if_pos h3]
            have hre : rleE E.fs k = [orU (E.fs.getD k default) 8, IntKind.u8.wrap (w64 ((n : Nat) - 1))] := by unfold rleE; rw [← hN, if_pos h3]
            refine ⟨⟨by show 0 ≤ (k : Int); omega, by show (k : Int) < (E.fs.length : Int); omega⟩, ?_⟩
            refine ⟨hkl, ?_⟩
            refine ⟨appM (n := out.length) (m := 2) (by omega) (by decide), ?_⟩
            rw [hrn, hre] at hst
            rw [hre] at r3
            refine ⟨(k + n, out ++ [orU (E.fs.getD k default) 8, IntKind.u8.wrap (w64 ((n : Nat) - 1))], f - 1), ⟨?_, ?_, ?_, ?_, ?_, hst⟩, ?_⟩
            · show E.fs.length - (k + n) < E.fs.length - k; omega
            · show k + n ≤ E.fs.length; omega
            · show 1 + o.length ≤ (out ++ [_, _]).length; simp; omega
            · show (out ++ [_, _]).length ≤ 9 + (k + n); simp; omega
            · show E.fs.length ≤ (k + n) + (f - 1); omega
            · refine ent_of (rl := [(0, 34)]) (nl := []) ⟨rfl, ?_, ?_, ⟨⟨Nat.le_of_ble_eq_true rfl, subR_two rfl rfl (SameL.refl _) (SameL.refl _) rfl rfl⟩, ⟨Nat.le_of_ble_eq_true rfl, subR.refl _⟩, ⟨Nat.le_of_ble_eq_true rfl, subR.refl _⟩, trivial⟩, rfl, rfl, (by first | exact Nat.zero_le _ | exact Nat.le_of_ble_eq_true rfl), trivial, ⟨⟨(by first | exact Nat.zero_le _ | exact Nat.le_of_ble_eq_true rfl), (by first | exact Nat.zero_le _ | exact Nat.le_of_ble_eq_true rfl)⟩, trivial⟩⟩ <;> (repeat' (first | exact trivial | exact SameL.refl _ | exact ep_seal rfl rfl | assumption | exact congrArg (Value.int _) (by assumption) | exact rfl | exact Nat.le_of_ble_eq_true rfl | decide | apply And.intro | apply all1 | apply all2 | apply all3 | apply all4 | apply all5))
          · have h3 : ¬ n > 2 := by have h : ¬ (n : Int) > 2 := h3; omega
            have hrn : rleN E.fs k = 1 := by unfold rleN; rw [← hN, if_neg h3]
            have hre : rleE E.fs k = [E.fs.getD k default] := by unfold rleE; rw [← hN, if_neg h3]
            have hw1 : w64 ((k : Int) + 1) = ((k + 1 : Nat) : Int) := by rw [w64_in (by omega)]; rfl
            refine ⟨⟨by show 0 ≤ (k : Int); omega, by show (k : Int) < (E.fs.length : Int); omega⟩, ?_⟩
            refine ⟨hkl, ?_⟩
            refine ⟨appB (n := out.length) (by omega) (by decide), ?_⟩
            rw [hrn, hre] at hst
            refine ⟨(k + 1, out ++ [E.fs.getD k default], f - 1), ⟨?_, ?_, ?_, ?_, ?_, hst⟩, ?_⟩
            · show E.fs.length - (k + 1) < E.fs.length - k; omega
            · show k + 1 ≤ E.fs.length; omega
            · show 1 + o.length ≤ (out ++ [_]).length; simp; omega
            · show (out ++ [_]).length ≤ 9 + (k + 1); simp; omega
            · show E.fs.length ≤ (k + 1) + (f - 1); omega
            · refine ent_of (rl := [(0, 31)]) (nl := []) ⟨rfl, ?_, ?_, ⟨⟨Nat.le_of_ble_eq_true rfl, subR_snoc rfl rfl (fun j hj => elem1 rfl) rfl rfl⟩, ⟨Nat.le_of_ble_eq_true rfl, subR.refl _⟩, ⟨Nat.le_of_ble_eq_true rfl, subR.refl _⟩, trivial⟩, rfl, rfl, (by first | exact Nat.zero_le _ | exact Nat.le_of_ble_eq_true rfl), trivial, ⟨⟨(by first | exact Nat.zero_le _ | exact Nat.le_of_ble_eq_true rfl), (by first | exact Nat.zero_le _ | exact Nat.le_of_ble_eq_true rfl)⟩, trivial⟩⟩ <;> (repeat' (first | exact trivial | exact SameL.refl _ | exact ep_seal rfl rfl | assumption | exact congrArg (Value.int _) (by assumption) | exact rfl | exact Nat.le_of_ble_eq_true rfl | decide | apply And.intro | apply all1 | apply all2 | apply all3 | apply all4 | apply all5))
      · have h1 : ¬ k + n < E.fs.length := by have h : ¬ w64 ((k : Int) + (n : Int)) < (E.fs.length : Int) := h1; omega
        have hN : n = runN' E.fs k := by rw [← p4]; exact (runLen_stop fun h => h1 h.1).symm
        obtain ⟨r1, r2, r3⟩ := rleN_in hkl
        have hst : rleAll E.fs (f - 1) (k + rleN E.fs k) (out ++ rleE E.fs k) = fin := by
          cases f with
          | zero => omega
          | succ f => unfold rleAll at q5; rw [if_pos hkl] at q5; exact q5
        refine if_dec (fun h3 => ?_) (fun h3 => ?_)
        · have h3 : n > 2 := by have h : (n : Int) > 2 := h3; omega
          have hrn : rleN E.fs k = n := by unfold rleN; rw [← hN, if_pos h3]
          have hre : rleE E.fs k = [orU (E.fs.getD k default) 8, IntKind.u8.wrap (w64 ((n : Nat) - 1))] := by unfold rleE; rw [← hN, if_pos h3]
          refine ⟨⟨by show 0 ≤ (k : Int); omega, by show (k : Int) < (E.fs.length : Int); omega⟩, ?_⟩
          refine ⟨hkl, ?_⟩
          refine ⟨appM (n := out.length) (m := 2) (by omega) (by decide), ?_⟩
          rw [hrn, hre] at hst
          rw [hre] at r3
          refine ⟨(k + n, out ++ [orU (E.fs.getD k default) 8, IntKind.u8.wrap (w64 ((n : Nat) - 1))], f - 1), ⟨?_, ?_, ?_, ?_, ?_, hst⟩, ?_⟩
          · show E.fs.length - (k + n) < E.fs.length - k; omega
          · show k + n ≤ E.fs.length; omega
          · show 1 + o.length ≤ (out ++ [_, _]).length; simp; omega
          · show (out ++ [_, _]).length ≤ 9 + (k + n); simp; omega
          · show E.fs.length ≤ (k + n) + (f - 1); omega
          · refine ent_of (rl := [(0, 34)]) (nl := []) ⟨rfl, ?_, ?_, ⟨⟨Nat.le_of_ble_eq_true rfl, subR_two rfl rfl (SameL.refl _) (SameL.refl _) rfl rfl⟩, ⟨Nat.le_of_ble_eq_true rfl, subR.refl _⟩, ⟨Nat.le_of_ble_eq_true rfl, subR.refl _⟩, trivial⟩, rfl, rfl, (by first | exact Nat.zero_le _ | exact Nat.le_of_ble_eq_true rfl), trivial, ⟨⟨(by first | exact Nat.zero_le _ | exact Nat.le_of_ble_eq_true rfl), (by first | exact Nat.zero_le _ | exact Nat.le_of_ble_eq_true rfl)⟩, trivial⟩⟩ <;> (repeat' (first | exact trivial | exact SameL.refl _ | exact ep_seal rfl rfl | assumption | exact congrArg (Value.int _) (by assumption) | exact rfl | exact Nat.le_of_ble_eq_true rfl | decide | apply And.intro | apply all1 | apply all2 | apply all3 | apply all4 | apply all5))
        · have h3 : ¬ n > 2 := by have h : ¬ (n : Int) > 2 := h3; omega
          have hrn : rleN E.fs k = 1 := by unfold rleN; rw [← hN, if_neg h3]
          have hre : rleE E.fs k = [E.fs.getD k default] := by unfold rleE; rw [← hN, if_neg h3]
          have hw1 : w64 ((k : Int) + 1) = ((k + 1 : Nat) : Int) := by rw [w64_in (by omega)]; rfl
          refine ⟨⟨by show 0 ≤ (k : Int); omega, by show (k : Int) < (E.fs.length : Int); omega⟩, ?_⟩
          refine ⟨hkl, ?_⟩
          refine ⟨appB (n := out.length) (by omega) (by decide), ?_⟩
          rw [hrn, hre] at hst
          refine ⟨(k + 1, out ++ [E.fs.getD k default], f - 1), ⟨?_, ?_, ?_, ?_, ?_, hst⟩, ?_⟩
          · show E.fs.length - (k + 1) < E.fs.length - k; omega
          · show k + 1 ≤ E.fs.length; omega
          · show 1 + o.length ≤ (out ++ [_]).length; simp; omega
          · show (out ++ [_]).length ≤ 9 + (k + 1); simp; omega
          · show E.fs.length ≤ (k + 1) + (f - 1); omega
          · refine ent_of (rl := [(0, 31)]) (nl := []) ⟨rfl, ?_, ?_, ⟨⟨Nat.le_of_ble_eq_true rfl, subR_snoc rfl rfl (fun j hj => elem1 rfl) rfl rfl⟩, ⟨Nat.le_of_ble_eq_true rfl, subR.refl _⟩, ⟨Nat.le_of_ble_eq_true rfl, subR.refl _⟩, trivial⟩, rfl, rfl, (by first | exact Nat.zero_le _ | exact Nat.le_of_ble_eq_true rfl), trivial, ⟨⟨(by first | exact Nat.zero_le _ | exact Nat.le_of_ble_eq_true rfl), (by first | exact Nat.zero_le _ | exact Nat.le_of_ble_eq_true rfl)⟩, trivial⟩⟩ <;> (repeat' (first | exact trivial | exact SameL.refl _ | exact ep_seal rfl rfl | assumption | exact congrArg (Value.int _) (by assumption) | exact rfl | exact Nat.le_of_ble_eq_true rfl | decide | apply And.intro | apply all1 | apply all2 | apply all3 | apply all4 | apply all5))
    · have hgk : ¬ k < E.fs.length := by have h : ¬ (k : Int) < (E.fs.length : Int) := hge; omega
      have hof : out = fin := by
        rw [← q5]
        cases f with
        | zero => rfl
        | succ f => unfold rleAll; rw [if_neg hgk]
      refine ⟨appM (n := out.length) (m := E.st.length) (by omega) (by decide), ?_⟩
      refine ⟨⟨?_, trivial⟩, ⟨⟨rfl, rfl⟩, trivial⟩, trivial⟩
      rw [hfin, ← hof]
      exact app_ret
end Go.Proofs.YtggappbiedkopaaGreat
