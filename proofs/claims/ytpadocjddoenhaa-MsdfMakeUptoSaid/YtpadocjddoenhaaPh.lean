/- The contracts of path.All, law04.Outline, flat.All, law06.Glyph. -/
import Derived.Test.YtpadocjddoenhaaPe
import Derived.Test.YtpadocjddoenhaaPy
namespace Go.Proofs.Ytpadocjddoenhaa
open Go SX
set_option linter.unusedVariables false
set_option maxRecDepth 100000

/-! ### path.All -/
@[reducible] def vsL (c : List Vx) : List L := [.sl 3 c.length (rowOf Vx.ls c)]
@[reducible] def sgsL (c : List Sg) : List L := [.sl 7 c.length (rowOf Sg.ls c)]
@[reducible] def edsL (c : List Ed) : List L := [.sl 4 c.length (rowOf Ed.ls c)]
@[reducible] def aOut (cs : List (List Vx)) : Bool × List L := (true, [.sl 1 cs.length (rowOf vsL cs)])
def pathAll (cs : List (List Vx)) : List (List Sg) := cs.map segs
@[reducible] def rSs (ss : List (List Sg)) : OR := ⟨79, 1, ss.length, rowOf sgsL ss, true⟩
theorem map_take_succ {α β : Type} [Inhabited α] (f : α → β) (cs : List α) {i : Nat} (h : i < cs.length) : (cs.take (i + 1)).map f = (cs.take i).map f ++ [f (cs.getD i default)] := by
  rw [List.take_add_one, List.map_append, List.getD_eq_getElem?_getD, List.getElem?_eq_getElem h]
  rfl
noncomputable def SPa (cs : List (List Vx)) (i : Nat) : SS := mkS
  [(3, .o (.h 0)), (7, .o (.sl false 1 cs.length (rowOf vsL cs))), (8, .o (.v (.int .i64 cs.length))), (9, .o (.v (.int .i64 i)))] [] [(0, rSs ((cs.take i).map segs))] 1 Try.f30.ntmps
theorem pathAll_at (cs : List (List Vx)) (hl : cs.length ≤ 1000) (h : ∀ c ∈ cs, c.length ≤ 1000) : FnAt Try.prog 30 [aOut cs] [aSl sgsL 1 (pathAll cs)] := by
  refine fn_at (E := EE) (fn := Try.f30) (c := Try.f30.body.getD .skip) (rs := Try.f30.results.toList) (nt := Try.f30.ntmps) EE_ok follows (by kernel_rfl) (by kernel_rfl) rfl rfl rfl [] rfl ?_
  refine loop_nat cs.length (SPa cs) ?_ (fun i hi => ?_)
  · refine ent_of (rl := []) (nl := [0]) ⟨rfl, ?_, ?_, ⟨⟨Nat.le_of_ble_eq_true rfl, rfl⟩, trivial⟩, rfl, rfl, Nat.zero_le _, ⟨Nat.zero_le _, trivial⟩, trivial⟩ <;> (repeat' (first | exact trivial | exact SameL.refl _ | exact ep_seal rfl rfl | assumption | exact congrArg (Value.int _) (by assumption) | exact rfl | exact Nat.le_of_ble_eq_true rfl | decide | apply And.intro))
  refine if_dec (fun hlt => ?_) (fun hge => ?_)
  · have hlt : i < cs.length := by omega
    have hw := w64_succ hlt (by omega)
    refine ⟨⟨by omega, by omega⟩, ?_⟩
    refine ⟨_, segs_at (cs.getD i default) (h _ (by rw [List.getD_eq_getElem?_getD, List.getElem?_eq_getElem hlt]; exact List.getElem_mem hlt)), ?_⟩
    refine ⟨appC (n := ((cs.take i).map segs).length) (by simp; omega) (by decide), ?_⟩
    refine ⟨i + 1, ⟨Nat.lt_succ_self _, hlt⟩, ?_⟩
    refine ent_of (rl := [(0, 9)]) (nl := []) ⟨rfl, ?_, ?_, ⟨⟨Nat.le_of_ble_eq_true rfl, subR_snoc (x := segs (cs.getD i default)) rfl rfl (fun j _ => elem1 rfl) (map_take_succ segs cs hlt) rfl⟩, trivial⟩, rfl, rfl, Nat.zero_le _, trivial, ⟨⟨Nat.zero_le _, Nat.zero_le _⟩, trivial⟩⟩ <;> (repeat' (first | exact trivial | exact SameL.refl _ | exact ep_seal rfl rfl | assumption | exact congrArg (Value.int _) (by assumption) | exact rfl | exact Nat.le_of_ble_eq_true rfl | decide | apply And.intro))
  · have hin : i = cs.length := by omega
    subst hin
    exact ⟨⟨row_ret (by rw [List.take_length]; rfl), trivial⟩, trivial⟩

/-! ### law04.Outline -/
def dotV (d : Vx) : Vx := ⟨(w64 d.x).tmod 256, (w64 d.y).tmod 256, d.on⟩
def olN (left : Nat) (c : List Vx) : Nat := min (min c.length 12) left
def olCut (left : Nat) (c : List Vx) : List Vx := (c.take (olN left c)).map dotV
structure Ol where
  left : Nat
  out : List (List Vx)
def olStep (s : Ol) (c : List Vx) : Ol := ⟨s.left - olN s.left c, if 0 < olN s.left c then s.out ++ [olCut s.left c] else s.out⟩
def olTo (cs : List (List Vx)) (i : Nat) : Ol := ((cs.take 8).take i).foldl olStep ⟨64, []⟩
def outline (cs : List (List Vx)) : List (List Vx) := (olTo cs (cs.take 8).length).out
theorem olCut_len (left : Nat) (c : List Vx) : (olCut left c).length = olN left c := by
  unfold olCut olN; simp; omega
theorem olTo_succ {cs : List (List Vx)} {i : Nat} (h : i < (cs.take 8).length) : olTo cs (i + 1) = olStep (olTo cs i) ((cs.take 8).getD i default) := foldl_take olStep _ _ i h
theorem olTo_in (cs : List (List Vx)) (i : Nat) : (olTo cs i).left ≤ 64 ∧ (olTo cs i).out.length ≤ 8 ∧ (∀ c ∈ (olTo cs i).out, 0 < c.length ∧ c.length ≤ 12 ∧ ∀ v ∈ c, -255 ≤ v.x ∧ v.x ≤ 255 ∧ -255 ≤ v.y ∧ v.y ≤ 255) := by
  have key : ∀ (l : List (List Vx)) (s : Ol), s.left ≤ 64 ∧ s.out.length + l.length ≤ 8 ∧ (∀ c ∈ s.out, 0 < c.length ∧ c.length ≤ 12 ∧ ∀ v ∈ c, -255 ≤ v.x ∧ v.x ≤ 255 ∧ -255 ≤ v.y ∧ v.y ≤ 255) →
      (l.foldl olStep s).left ≤ 64 ∧ (l.foldl olStep s).out.length ≤ 8 ∧ (∀ c ∈ (l.foldl olStep s).out, 0 < c.length ∧ c.length ≤ 12 ∧ ∀ v ∈ c, -255 ≤ v.x ∧ v.x ≤ 255 ∧ -255 ≤ v.y ∧ v.y ≤ 255) := by
    intro l
    induction l with
    | nil => intro s ⟨h2, h3, h4⟩; exact ⟨h2, by simpa using h3, h4⟩
    | cons c l ih =>
      intro s ⟨h2, h3, h4⟩
      simp only [List.length_cons] at h3
      refine ih (olStep s c) ⟨by unfold olStep; dsimp only; omega, ?_, ?_⟩
      · unfold olStep; dsimp only; split
        · simp; omega
        · omega
      · unfold olStep; dsimp only; split
        · rename_i hp
          intro d hd
          rcases List.mem_append.1 hd with hd | hd
          · exact h4 d hd
          · obtain rfl : d = olCut s.left c := by simpa using hd
            refine ⟨by rw [olCut_len]; exact hp, by rw [olCut_len]; unfold olN; omega, fun v hv => ?_⟩
            obtain ⟨u, _, rfl⟩ := List.mem_map.1 hv
            have q1 := tmod_in (w64 u.x) (m := 256) (by decide)
            have q2 := tmod_in (w64 u.y) (m := 256) (by decide)
            unfold dotV; dsimp only; omega
        · exact h4
  exact key _ ⟨64, []⟩ ⟨Nat.le_refl _, by simp; omega, by simp⟩
@[reducible] def rVs (ss : List (List Vx)) : OR := ⟨97, 1, ss.length, rowOf vsL ss, true⟩
@[reducible] def rVx (ss : List Vx) : OR := ⟨103, 3, ss.length, rowOf Vx.ls ss, true⟩
noncomputable def SOl (cs : List (List Vx)) (i : Nat) : SS := mkS
  [(2, .o (.p 0 0)), (3, .o (.p 1 0)), (4, .o (.v (.int .i64 (olTo cs i).left))), (14, .o (.sl false 1 (cs.take 8).length (rowOf dsL (cs.take 8)))), (15, .o (.v (.int .i64 (cs.take 8).length))), (16, .o (.v (.int .i64 i)))]
  [(0, 77, [.any]), (1, 77, [.h 2])] [(2, rVs (olTo cs i).out)] 3 Try.f31.ntmps
noncomputable def SOl2 (cs : List (List Vx)) (i : Nat) (c : List Vx) (j : Nat) : SS := mkS
  [(2, .o (.p 0 0)), (3, .o (.p 1 0)), (4, .o (.v (.int .i64 (olTo cs i).left))), (7, .o (.h 3)), (14, .o (.sl false 1 (cs.take 8).length (rowOf dsL (cs.take 8)))), (15, .o (.v (.int .i64 (cs.take 8).length))), (16, .o (.v (.int .i64 i))), (25, .o (.sl false 3 c.length (rowOf Vx.ds c))), (26, .o (.v (.int .i64 c.length))), (27, .o (.v (.int .i64 j)))]
  [(0, 77, [.any]), (1, 77, [.h 2])] [(2, rVs (olTo cs i).out), (3, rVx ((c.take j).map dotV))] 4 Try.f31.ntmps
theorem min3_in (n k : Nat) : 0 ≤ min2I (min2I (n : Int) 12) (k : Int) ∧ min2I (min2I (n : Int) 12) (k : Int) ≤ (n : Int) := by
  unfold min2I
  repeat' split
  all_goals omega
theorem ol_facts (left : Nat) (c : List Vx) : (min2I (min2I (c.length : Int) 12) (left : Int)).toNat = min (olN left c) c.length ∧
    SameL (.sl 3 ((min2I (min2I (c.length : Int) 12) (left : Int)).toNat - Int.toNat 0) fun a b => rowOf Vx.ds c (Int.toNat 0 + a) b) (.sl 3 (c.take (olN left c)).length (rowOf Vx.ds (c.take (olN left c)))) ∧
    (((min2I (min2I (c.length : Int) 12) (left : Int)).toNat - Int.toNat 0 : Nat) : Int) = (((c.take (olN left c)).length : Nat) : Int) ∧ olN left c ≤ 12 ∧ olN left c ≤ left ∧ (c.take (olN left c)).length = olN left c := by
  have hm3 : (min2I (min2I (c.length : Int) 12) (left : Int)).toNat = min (olN left c) c.length := by
    unfold olN min2I
    repeat' split
    all_goals omega
  refine ⟨hm3, sl_take hm3, by rw [hm3, List.length_take]; rfl, by unfold olN; omega, by unfold olN; omega, by unfold olN; simp; omega⟩
set_option maxHeartbeats 2000000 in
theorem outline_at (cs : List (List Vx)) : FnAt Try.prog 31 [aSl dsL 1 cs] [aOut (outline cs)] := by
  refine fn_at (E := EE) (fn := Try.f31) (c := Try.f31.body.getD .skip) (rs := Try.f31.results.toList) (nt := Try.f31.ntmps) EE_ok follows (by kernel_rfl) (by kernel_rfl) rfl rfl rfl [1000013] rfl ?_
  have hm8 : (min2I (cs.length : Int) 8).toNat = min 8 cs.length := min2_nat cs.length 8
  refine ⟨⟨by decide, by show 0 ≤ min2I _ _; unfold min2I; split <;> omega, by show min2I _ _ ≤ _; unfold min2I; split <;> omega⟩, ?_⟩
  have h8 : SameL (.sl 1 ((min2I (cs.length : Int) 8).toNat - Int.toNat 0) fun a b => rowOf dsL cs (Int.toNat 0 + a) b) (.sl 1 (cs.take 8).length (rowOf dsL (cs.take 8))) := sl_take hm8
  have h8n : (((min2I (cs.length : Int) 8).toNat - Int.toNat 0 : Nat) : Int) = (((cs.take 8).length : Nat) : Int) := by rw [hm8, List.length_take]; rfl
  refine loop_nat (cs.take 8).length (SOl cs) ?_ (fun i hi => ?_)
  · refine ent_of (rl := []) (nl := [2]) ⟨rfl, ?_, ?_, ⟨⟨Nat.le_of_ble_eq_true rfl, rfl⟩, trivial⟩, rfl, rfl, Nat.zero_le _, ⟨Nat.zero_le _, trivial⟩, trivial⟩ <;> (repeat' (first | exact trivial | exact SameL.refl _ | exact ep_seal rfl rfl | assumption | exact congrArg (Value.int _) (by assumption) | exact rfl | exact Nat.le_of_ble_eq_true rfl | decide | apply And.intro))
  obtain ⟨b1, b2, b3⟩ := olTo_in cs i
  refine if_dec (fun hlt => ?_) (fun hge => ?_)
  · have hlt : i < (cs.take 8).length := by omega
    have hl8 : (cs.take 8).length ≤ 8 := by simp; omega
    have hw := w64_succ hlt (by omega)
    have hst := olTo_succ hlt
    refine ⟨⟨by omega, by omega⟩, ?_⟩
    obtain ⟨hm3, h3, h3n, hon, hon', hol⟩ := ol_facts (olTo cs i).left ((cs.take 8).getD i default)
    have hmb : 0 ≤ min2I (min2I (((cs.take 8).getD i default).length : Int) 12) ((olTo cs i).left : Int) ∧ min2I (min2I (((cs.take 8).getD i default).length : Int) 12) ((olTo cs i).left : Int) ≤ (((cs.take 8).getD i default).length : Int) := min3_in _ _
    refine ⟨⟨by decide, hmb.1, hmb.2⟩, ?_⟩
    refine loop_nat (olN (olTo cs i).left ((cs.take 8).getD i default)) (fun j => SOl2 cs i (((cs.take 8).getD i default).take (olN (olTo cs i).left ((cs.take 8).getD i default))) j) ?_ (fun j hj => ?_)
    · refine ent_of (rl := []) (nl := [3]) ⟨rfl, ?_, ?_, ⟨⟨Nat.le_of_ble_eq_true rfl, subR.refl _⟩, ⟨Nat.le_of_ble_eq_true rfl, rfl⟩, trivial⟩, rfl, rfl, Nat.zero_le _, ⟨Nat.zero_le _, trivial⟩, trivial⟩ <;> (repeat' (first | exact trivial | exact SameL.refl _ | exact ep_seal rfl rfl | assumption | exact congrArg (Value.int _) (by assumption) | exact rfl | exact Nat.le_of_ble_eq_true rfl | decide | apply And.intro))
    refine if_dec (fun hlt' => ?_) (fun hge' => ?_)
    · have hlt' : j < (((cs.take 8).getD i default).take (olN (olTo cs i).left ((cs.take 8).getD i default))).length := by omega
      have hw' := w64_succ hlt' (by omega)
      refine ⟨⟨by omega, by omega⟩, ?_⟩
      refine ⟨appC (n := (((((cs.take 8).getD i default).take (olN (olTo cs i).left ((cs.take 8).getD i default))).take j).map dotV).length) (by simp; omega) (by decide), ?_⟩
      refine ⟨j + 1, ⟨Nat.lt_succ_self _, by omega⟩, ?_⟩
      refine ent_of (rl := [(3, 22)]) (nl := []) ⟨rfl, ?_, ?_, ⟨⟨Nat.le_of_ble_eq_true rfl, subR.refl _⟩, ⟨Nat.le_of_ble_eq_true rfl, subR_snoc (x := dotV ((((cs.take 8).getD i default).take (olN (olTo cs i).left ((cs.take 8).getD i default))).getD j default)) rfl rfl (fun j _ => elem1 rfl) (map_take_succ dotV _ hlt') rfl⟩, trivial⟩, rfl, rfl, Nat.zero_le _, trivial, ⟨⟨Nat.zero_le _, Nat.zero_le _⟩, trivial⟩⟩ <;> (repeat' (first | exact trivial | exact SameL.refl _ | exact ep_seal rfl rfl | assumption | exact congrArg (Value.int _) (by assumption) | exact rfl | exact Nat.le_of_ble_eq_true rfl | decide | apply And.intro))
    · have hin : j = olN (olTo cs i).left ((cs.take 8).getD i default) := by omega
      subst hin
      refine ⟨_, ent_seal (i := 3) rfl, ?_⟩
      have hcl : ((((cs.take 8).getD i default).take (olN (olTo cs i).left ((cs.take 8).getD i default))).take (olN (olTo cs i).left ((cs.take 8).getD i default))).map dotV = olCut (olTo cs i).left ((cs.take 8).getD i default) := by
        unfold olCut; rw [List.take_take, Nat.min_self]
      have hcn := olCut_len (olTo cs i).left ((cs.take 8).getD i default)
      have hleft : w64 (((olTo cs i).left : Int) - (((((((cs.take 8).getD i default).take (olN (olTo cs i).left ((cs.take 8).getD i default))).take (olN (olTo cs i).left ((cs.take 8).getD i default))).map dotV).length : Nat) : Int)) = ((olTo cs (i + 1)).left : Int) := by
        rw [hcl, hcn, w64_in (by omega), hst]
        unfold olStep; dsimp only; omega
      refine if_dec (fun hp => ?_) (fun hp => ?_)
      · have hp : (((((((cs.take 8).getD i default).take (olN (olTo cs i).left ((cs.take 8).getD i default))).take (olN (olTo cs i).left ((cs.take 8).getD i default))).map dotV).length : Nat) : Int) > 0 := hp
        rw [hcl, hcn] at hp
        refine ⟨appC (n := (olTo cs i).out.length) (by omega) (by decide), ?_⟩
        refine ⟨i + 1, ⟨Nat.lt_succ_self _, hlt⟩, ?_⟩
        refine ent_of (rl := [(2, 17)]) (nl := []) ⟨rfl, ?_, ?_, ⟨⟨Nat.le_of_ble_eq_true rfl, subR_snoc (x := olCut (olTo cs i).left ((cs.take 8).getD i default)) rfl rfl (fun j _ => elem1 (by rw [← hcl])) (by rw [hst]; unfold olStep; rw [if_pos (by omega)]) rfl⟩, trivial⟩, rfl, rfl, Nat.zero_le _, trivial, ⟨⟨Nat.zero_le _, Nat.zero_le _⟩, trivial⟩⟩ <;> (repeat' (first | exact trivial | exact SameL.refl _ | exact ep_seal rfl rfl | assumption | exact congrArg (Value.int _) (by assumption) | exact rfl | exact Nat.le_of_ble_eq_true rfl | decide | apply And.intro))
      · have hp : ¬ (((((((cs.take 8).getD i default).take (olN (olTo cs i).left ((cs.take 8).getD i default))).take (olN (olTo cs i).left ((cs.take 8).getD i default))).map dotV).length : Nat) : Int) > 0 := hp
        rw [hcl, hcn] at hp
        refine ⟨i + 1, ⟨Nat.lt_succ_self _, hlt⟩, ?_⟩
        refine ent_of (rl := []) (nl := []) ⟨rfl, ?_, ?_, ⟨⟨Nat.le_of_ble_eq_true rfl, subR_eq (by rw [hst]; unfold olStep; rw [if_neg (by omega)]) rfl⟩, trivial⟩, rfl, rfl, Nat.zero_le _, trivial, trivial⟩ <;> (repeat' (first | exact trivial | exact SameL.refl _ | exact ep_seal rfl rfl | assumption | exact congrArg (Value.int _) (by assumption) | exact rfl | exact Nat.le_of_ble_eq_true rfl | decide | apply And.intro))
  · have hin : i = (cs.take 8).length := by omega
    subst hin
    exact ⟨⟨row_ret rfl, trivial⟩, trivial⟩

/-! ### flat.All -/
def flatAll (l : List (List Sg)) : List Ed := l.flatMap edges
theorem flatMap_take_succ {α β : Type} [Inhabited α] (f : α → List β) (cs : List α) {i : Nat} (h : i < cs.length) : (cs.take (i + 1)).flatMap f = (cs.take i).flatMap f ++ f (cs.getD i default) := by
  rw [List.take_add_one, List.flatMap_append, List.getD_eq_getElem?_getD, List.getElem?_eq_getElem h]
  simp
theorem flatAll_len {l : List (List Sg)} {m : Nat} (h : ∀ c ∈ l, c.length ≤ m) : (flatAll l).length ≤ l.length * (4 * m) := by
  induction l with
  | nil => simp [flatAll]
  | cons c l ih =>
    have h1 := ih fun x hx => h x (by simp [hx])
    have h2 := edges_len c
    have h3 := h c (by simp)
    unfold flatAll at h1 ⊢
    rw [List.flatMap_cons, List.length_append, List.length_cons, Nat.add_mul]
    omega

/-! ### law06.Glyph -/
def fewC (cs : List (List Vx)) : List (List Vx) := (cs.take 3).map fun c : List Vx => c.take 6
def outlines (cs : List (List Vx)) : List (List Sg) := pathAll (outline (fewC cs))
def contours (cs : List (List Vx)) : List (List Ed) := (outlines cs).map edges
def glyph (cs : List (List Vx)) : List Ed := flatAll (outlines cs)
theorem segs_cons (v : Vx) (c : List Vx) : segs (v :: c) = (sgTo (v :: c) (sgMany (v :: c))).out ++ [match (sgTo (v :: c) (sgMany (v :: c))).pull with
  | none => ⟨(sgTo (v :: c) (sgMany (v :: c))).here, (sgTo (v :: c) (sgMany (v :: c))).here, sgHere (v :: c), false⟩
  | some q => ⟨(sgTo (v :: c) (sgMany (v :: c))).here, atV q, sgHere (v :: c), true⟩] := rfl
theorem segs_len (c : List Vx) : (segs c).length ≤ c.length + 1 := by
  cases c with
  | nil => exact Nat.zero_le _
  | cons v c =>
    have h1 := sgTo_len (v :: c) (sgMany (v :: c))
    have h2 : sgMany (v :: c) ≤ (v :: c).length := by unfold sgMany; split <;> omega
    rw [segs_cons, List.length_append]
    show _ + 1 ≤ _
    omega
theorem outline_in (cs : List (List Vx)) : (outline cs).length ≤ 8 ∧ ∀ c ∈ outline cs, 0 < c.length ∧ c.length ≤ 12 ∧ ∀ v ∈ c, -255 ≤ v.x ∧ v.x ≤ 255 ∧ -255 ≤ v.y ∧ v.y ≤ 255 := (olTo_in cs _).2
theorem outlines_in (cs : List (List Vx)) : (outlines cs).length ≤ 8 ∧ ∀ c ∈ outlines cs, c.length ≤ 13 := by
  obtain ⟨h1, h2⟩ := outline_in (fewC cs)
  refine ⟨by unfold outlines pathAll; simpa using h1, fun c hc => ?_⟩
  obtain ⟨d, hd, rfl⟩ := List.mem_map.1 hc
  have := segs_len d
  have := (h2 d hd).2.1
  omega
@[reducible] def rDs (ss : List (List Vx)) : OR := ⟨72, 1, ss.length, rowOf dsL ss, false⟩
end Go.Proofs.Ytpadocjddoenhaa
