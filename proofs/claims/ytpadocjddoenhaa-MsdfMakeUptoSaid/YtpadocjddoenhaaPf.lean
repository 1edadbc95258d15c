/- The contracts of flat: small, On, Edges. -/
import Derived.Test.YtpadocjddoenhaaPa
namespace Go.Proofs.Ytpadocjddoenhaa
open Go SX
set_option linter.unusedVariables false
set_option maxRecDepth 100000

def small (p : Pt) : Pt := ⟨w64 (16 * p.x), w64 (16 * p.y)⟩
theorem small_at (p : Pt) : FnAt Try.prog 53 [aPt p] [aPt (small p)] := by
  refine fn_at (E := EE) (fn := Try.f53) (c := Try.f53.body.getD .skip) (rs := Try.f53.results.toList) (nt := Try.f53.ntmps) EE_ok follows (by kernel_rfl) (by kernel_rfl) rfl rfl rfl [] rfl ?_
  exact ⟨⟨rfl, rfl, trivial⟩, trivial⟩

def ofI (a b c x y z : Int) : Int := w64 ((w64 (w64 (w64 (w64 (a * x) + w64 (b * y)) + w64 (c * z)) * 16)).tdiv 16)
theorem of_at (a b c x y z : Int) : FnAt Try.prog 69 [aI x, aI y, aI z, (false, [.pt 1 (nth [I a])]), (false, [.pt 1 (nth [I b])]), (false, [.pt 1 (nth [I c])])] [aI (ofI a b c x y z)] := by
  refine fn_at (E := EE) (fn := Try.f69) (c := Try.f69.body.getD .skip) (rs := Try.f69.results.toList) (nt := Try.f69.ntmps) EE_ok follows (by kernel_rfl) (by kernel_rfl) rfl rfl rfl [] rfl ?_
  exact ⟨⟨rfl, trivial⟩, trivial⟩

/-- flat.On -/
def onX (k x y z : Int) : Int := ofI (w64 (w64 (4 - k) * w64 (4 - k))) (w64 (w64 (2 * k) * w64 (4 - k))) (w64 (k * k)) x y z
def onP (s : Sg) (k : Int) : Pt := ⟨onX k s.a.x s.b.x s.c.x, onX k s.a.y s.b.y s.c.y⟩
theorem on_at (s : Sg) (k : Int) : FnAt Try.prog 54 [aSg s, aI k] [aPt (onP s k)] := by
  refine fn_at (E := EE) (fn := Try.f54) (c := Try.f54.body.getD .skip) (rs := Try.f54.results.toList) (nt := Try.f54.ntmps) EE_ok follows (by kernel_rfl) (by kernel_rfl) rfl rfl rfl [] rfl ?_
  refine ⟨_, of_at _ _ _ _ _ _, ?_⟩
  refine ⟨_, of_at _ _ _ _ _ _, ?_⟩
  exact ⟨⟨rfl, rfl, trivial⟩, trivial⟩

/-! ### flat.Edges -/
def putE (es : List Ed) (a b : Pt) : List Ed := if a = b then es else es ++ [⟨a, b⟩]
theorem putE_len (es : List Ed) (a b : Pt) : (putE es a b).length ≤ es.length + 1 := by unfold putE; split <;> simp
@[reducible] def rE (es : List Ed) : OR := ⟨70, 4, es.length, rowOf Ed.ls es, true⟩
theorem put_at (es : List Ed) (a b : Pt) (h : es.length ≤ 4000000000000) : ClAt Try.prog 52 [aPt a, aPt b] [.r (rE es)] [] [.r (rE (putE es a b))] := by
  refine cl_at (E := EE) (fn := Try.f52) (c := Try.f52.body.getD .skip) (rs := Try.f52.results.toList) (nt := Try.f52.ntmps) EE_ok follows (by kernel_rfl) (by kernel_rfl) rfl rfl rfl [] ?_
  intro ts hts
  match ts, hts with
  | [(T, v)], hts =>
  simp only [List.map_cons, List.map_nil, List.cons.injEq, and_true] at hts
  subst hts
  refine ⟨Nat.le_of_ble_eq_true rfl, ?_⟩
  refine if_npt (fun hab => ?_) (fun hab => ?_)
  · refine ⟨⟨?_, ?_⟩, trivial, 12, ⟨rfl, ?_⟩, trivial⟩
    · show (es.length + 1) * 32 ≤ 140737488355328; omega
    · show es.length + 1 ≤ maxLen; unfold maxLen; omega
    · exact ⟨rfl, subR_snoc (x := ⟨a, b⟩) rfl rfl (fun j _ => elem1 rfl) (by unfold putE; rw [if_neg hab]) rfl⟩
  · exact ⟨trivial, 1, ⟨rfl, rfl, by unfold putE; rw [if_pos hab]; exact subR.refl _⟩, trivial⟩
/-- the edges of a segment, behind others -/
def segE (es : List Ed) (s : Sg) : List Ed := match s.cv with
  | false => putE es (small s.a) (small s.c)
  | true => putE (putE (putE (putE es (small s.a) (onP s 1)) (onP s 1) (onP s 2)) (onP s 2) (onP s 3)) (onP s 3) (onP s 4)
theorem segE_len (es : List Ed) (s : Sg) : (segE es s).length ≤ es.length + 4 := by
  unfold segE
  split
  · have := putE_len es (small s.a) (small s.c); omega
  · have h1 := putE_len es (small s.a) (onP s 1)
    have h2 := putE_len (putE es (small s.a) (onP s 1)) (onP s 1) (onP s 2)
    have h3 := putE_len (putE (putE es (small s.a) (onP s 1)) (onP s 1) (onP s 2)) (onP s 2) (onP s 3)
    have h4 := putE_len (putE (putE (putE es (small s.a) (onP s 1)) (onP s 1) (onP s 2)) (onP s 2) (onP s 3)) (onP s 3) (onP s 4)
    omega
/-- flat.Edges -/
def edges (ss : List Sg) : List Ed := ss.foldl segE []
theorem edges_len (ss : List Sg) : (edges ss).length ≤ 4 * ss.length := by
  have key : ∀ (ss : List Sg) (es : List Ed), (ss.foldl segE es).length ≤ es.length + 4 * ss.length := by
    intro ss
    induction ss with
    | nil => intro es; exact Nat.le_refl _
    | cons s ss ih =>
      intro es
      have h1 := ih (segE es s)
      have h2 := segE_len es s
      simp only [List.foldl_cons, List.length_cons]; omega
  have := key ss []
  unfold edges; simpa using this
theorem foldl_take {α β : Type} [Inhabited β] (f : α → β → α) (z : α) (l : List β) (k : Nat) (h : k < l.length) : (l.take (k + 1)).foldl f z = f ((l.take k).foldl f z) (l.getD k default) := by
  rw [List.take_add_one, List.foldl_append, List.getD_eq_getElem?_getD, List.getElem?_eq_getElem h]
  rfl
noncomputable def SEdges (ss : List Sg) (i : Nat) : SS := mkS
  [(3, .o (.p 0 0)), (4, .o (.f 52 [0])), (11, .o (.sl false 7 ss.length (rowOf Sg.ls ss))), (12, .o (.v (.int .i64 ss.length))), (13, .o (.v (.int .i64 i)))]
  [(0, 38, [.h 1])] [(1, rE (edges (ss.take i)))] 2 Try.f32.ntmps
theorem edges_at (ss : List Sg) (h : ss.length ≤ 900000000000) : FnAt Try.prog 32 [aSgs ss] [aEds (edges ss)] := by
  refine fn_at (E := EE) (fn := Try.f32) (c := Try.f32.body.getD .skip) (rs := Try.f32.results.toList) (nt := Try.f32.ntmps) EE_ok follows (by kernel_rfl) (by kernel_rfl) rfl rfl rfl [] rfl ?_
  refine loop_nat ss.length (SEdges ss) ?_ (fun i hi => ?_)
  · refine ent_of (rl := [(0, 1)]) (nl := [1]) ⟨rfl, ?_, ?_, ⟨⟨Nat.le_of_ble_eq_true rfl, rfl⟩, trivial⟩, rfl, rfl, Nat.zero_le _, ⟨Nat.zero_le _, trivial⟩, ⟨⟨Nat.zero_le _, Nat.zero_le _⟩, trivial⟩⟩ <;> (repeat' (first | exact trivial | exact SameL.refl _ | exact ep_seal rfl rfl | assumption | exact congrArg (Value.int _) (by assumption) | exact rfl | exact Nat.le_of_ble_eq_true rfl | decide | apply And.intro))
  have hlen := edges_len (ss.take i)
  rw [List.length_take, Nat.min_eq_left hi] at hlen
  refine if_dec (fun hlt => ?_) (fun hge => ?_)
  · have hlt : i < ss.length := by omega
    have hw := w64_succ hlt (by omega)
    have hf := foldl_take segE [] ss i hlt
    refine ⟨⟨by omega, by omega⟩, ?_⟩
    refine if_nb (fun hcv => ?_) (fun hcv => ?_)
    · have hcv : (ss.getD i default).cv = false := hcv
      refine ⟨_, small_at (ss.getD i default).a, ?_⟩
      refine ⟨_, small_at (ss.getD i default).c, ?_⟩
      refine ⟨_, _, put_at _ _ _ (by omega), rfl, ?_⟩
      refine ⟨i + 1, ⟨Nat.lt_succ_self _, hlt⟩, ?_⟩
      refine ent_of (rl := [(1, 17)]) (nl := []) ⟨rfl, ?_, ?_, ⟨⟨Nat.le_of_ble_eq_true rfl, subR_eq (by unfold edges; rw [hf]; unfold segE; rw [hcv]) rfl⟩, trivial⟩, rfl, rfl, Nat.zero_le _, trivial, ⟨⟨Nat.zero_le _, Nat.zero_le _⟩, trivial⟩⟩ <;> (repeat' (first | exact trivial | exact SameL.refl _ | exact ep_seal rfl rfl | assumption | exact congrArg (Value.int _) (by assumption) | exact rfl | exact Nat.le_of_ble_eq_true rfl | decide | apply And.intro))
    · have hcv : (ss.getD i default).cv = true := hcv
      have l1 := putE_len (edges (ss.take i)) (small (ss.getD i default).a) (onP (ss.getD i default) 1)
      have l2 := putE_len (putE (edges (ss.take i)) (small (ss.getD i default).a) (onP (ss.getD i default) 1)) (onP (ss.getD i default) 1) (onP (ss.getD i default) 2)
      have l3 := putE_len (putE (putE (edges (ss.take i)) (small (ss.getD i default).a) (onP (ss.getD i default) 1)) (onP (ss.getD i default) 1) (onP (ss.getD i default) 2)) (onP (ss.getD i default) 2) (onP (ss.getD i default) 3)
      refine ⟨_, small_at (ss.getD i default).a, ?_⟩
      refine Or.inl ⟨5, ?_⟩
      refine ⟨_, on_at (ss.getD i default) 1, ?_⟩
      refine ⟨_, _, put_at _ _ _ (by omega), rfl, ?_⟩
      refine ⟨_, on_at (ss.getD i default) 2, ?_⟩
      refine ⟨_, _, put_at _ _ _ (by omega), rfl, ?_⟩
      refine ⟨_, on_at (ss.getD i default) 3, ?_⟩
      refine ⟨_, _, put_at _ _ _ (by omega), rfl, ?_⟩
      refine ⟨_, on_at (ss.getD i default) 4, ?_⟩
      refine ⟨_, _, put_at _ _ _ (by omega), rfl, ?_⟩
      refine ⟨i + 1, ⟨Nat.lt_succ_self _, hlt⟩, ?_⟩
      refine ent_of (rl := [(1, 74)]) (nl := []) ⟨rfl, ?_, ?_, ⟨⟨Nat.le_of_ble_eq_true rfl, subR_eq (by unfold edges; rw [hf]; unfold segE; rw [hcv]) rfl⟩, trivial⟩, rfl, rfl, Nat.zero_le _, trivial, ⟨⟨Nat.zero_le _, Nat.zero_le _⟩, trivial⟩⟩ <;> (repeat' (first | exact trivial | exact SameL.refl _ | exact ep_seal rfl rfl | assumption | exact congrArg (Value.int _) (by assumption) | exact rfl | exact Nat.le_of_ble_eq_true rfl | decide | apply And.intro))
  · have hin : i = ss.length := by omega
    subst hin
    exact ⟨⟨row_ret (by rw [List.take_length]), trivial⟩, trivial⟩
end Go.Proofs.Ytpadocjddoenhaa
