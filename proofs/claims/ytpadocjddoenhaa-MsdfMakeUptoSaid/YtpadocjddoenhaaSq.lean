/- The contract of grid.Each's texels, for whatever round: each texel is handed out, row by row. -/
import Derived.RangeFuncNested
import Derived.RangeFuncBound
import Derived.RangeFuncCalls
import Derived.RangeFuncLeaves
import Derived.Shelf.Abstract
import Derived.WalkKit
import Derived.OwnWalkIn
import Derived.TacticsInMore
import Derived.LoopNIn
import Derived.LoopIn
import Derived.Test.YtpadocjddoenhaaR0a
import Derived.Test.YtpadocjddoenhaaPu
import Derived.Test.YtpadocjddoenhaaHv
namespace Go.Proofs.Ytpadocjddoenhaa
open Go Go.RowKit Go.Shelf SX
set_option linter.unusedVariables false
attribute [local go_sem] Oper.semAt_some

/-- a texel of a grid so wide and high -/
abbrev Tx (W H : Nat) := { p : Nat × Nat // p.1 < W ∧ p.2 < H }
def Tx.enc {W H : Nat} (x : Tx W H) : List Value := [.int .i64 (x.1.1 : Int), .int .i64 (x.1.2 : Int)]
def txs (W k : Nat) : List (Nat × Nat) := (List.range k).flatMap fun k => (List.range W).map fun i => (i, k)
theorem txs_succ (W k : Nat) : txs W (k + 1) = txs W k ++ (List.range W).map fun i => (i, k) := by
  unfold txs; rw [List.range_succ, List.flatMap_append]; simp
theorem txs_len (W k : Nat) : (txs W k).length = k * W := by
  induction k with
  | zero => simp [txs]
  | succ k ih => rw [txs_succ, List.length_append, ih, Nat.add_mul]; simp
def gdIn' (g : Gd) : Prop := (1 ≤ g.w ∧ g.w ≤ 24) ∧ (1 ≤ g.h ∧ g.h ≤ 24)
theorem tx_one {W H : Nat} (x : Tx W H) : ∀ v ∈ Tx.enc x, one v = true := fun v hv => by
  simp only [Tx.enc, List.mem_cons, List.not_mem_nil, or_false] at hv
  rcases hv with rfl | rfl <;> rfl
theorem gd_1000 {g : Gd} (h : gdIn' g) : 0 ≤ g.w ∧ g.w ≤ 1000 ∧ 0 ≤ g.h ∧ g.h ≤ 1000 := by unfold gdIn' at h; omega
def gvOf (g : Gd) : List Value := [.int .i64 g.x, .int .i64 g.y, .int .i64 g.pitch, .int .i64 g.w, .int .i64 g.h, .int .i64 g.spread]
set_option maxRecDepth 100000 in
set_option maxHeartbeats 4000000 in
theorem each1_in (l b W H : Nat) (g : Gd) (hw : g.w = (W : Int)) (hh : g.h = (H : Int)) (hW : W ≤ 1000) (hH : H ≤ 1000) (J Jx : List (Tx W H) → World → Prop)
    (hY : ∀ pre x w, J pre w → pre.length < H * W → YieldAt Fence.wide 0 Try.prog l (Tx.enc x).toArray w fun e w' =>
      (e = .returned (.bool true) ∧ J (pre ++ [x]) w' ∧ w'.heap[b]? = w.heap[b]?) ∨ (e = .returned (.bool false) ∧ Jx (pre ++ [x]) w'))
    (w0 : World) (hb : w0.heap[b]? = some (.cells (gvOf g).toArray 46 (0, 0))) (h0 : J [] w0) :
    CallsIn Fence.wide 0 Try.prog 34 #[.func (.yield l) #[] #[], .pointer (some ⟨b, 0, none⟩)] w0 fun e w' => (∃ v, e = .returned v) ∧
      ((∃ ys : List (Tx W H), ys.map (·.1) = txs W H ∧ J ys w') ∨ (∃ pre, Jx pre w')) := by
  have hcell : ∀ w' : World, w'.heap[b]? = w0.heap[b]? → w'.cell? ⟨b, 3, none⟩ = some (.int .i64 (W : Int)) ∧ w'.cell? ⟨b, 4, none⟩ = some (.int .i64 (H : Int)) := fun w' h => by
    rw [hb] at h
    simp [World.cell?, h, gvOf, hw, hh]
  refine callsIn_of_wp Try.func34 rfl trivial ?_ rfl
  simp only [Try.ntmps34, List.size_toArray, List.length_cons, List.length_nil, Nat.reduceAdd, Nat.reduceSub, Array.replicate_succ, Array.replicate_zero, List.push_toArray, List.append_toArray, List.nil_append, List.cons_append]
  refine wpIn_wide.2 (wp_scope_straight ((wpIn_wide (n := 0)).1 (wpIn_mono (Q := bodyPost Try.prog Try.f34 fun e w' => (∃ v, e = .returned v) ∧ ((∃ ys : List (Tx W H), ys.map (·.1) = txs W H ∧ J ys w') ∨ (∃ pre, Jx pre w'))) ?_ (fun e a w h => by cases e <;> exact h))))
  refine wpIn_seq (wpIn_label ?_)
  change Code.wpIn _ _ _ _ _ _ _
  gi_wp2
  gi_loopw [3] (fun kv wr => ∃ k : Nat, k ≤ H ∧ kv = .int .i64 k ∧ (∃ pre : List (Tx W H), pre.map (·.1) = txs W k ∧ J pre wr) ∧ wr.heap[b]? = w0.heap[b]?)
    (fun kv _ => H - (intOf kv).toNat)
  case atStart => exact ⟨0, Nat.zero_le _, rfl, ⟨[], rfl, h0⟩, rfl⟩
  case round =>
    obtain ⟨k, hk, rfl, ⟨pre, hpre, hJ⟩, hbk⟩ := hrel
    obtain ⟨hcw, hch⟩ := hcell wr hbk
    by_cases hlt : k < H
    · gi_wp2
      gi_loopw [4] (fun iv wq => ∃ i : Nat, i ≤ W ∧ iv = .int .i64 i ∧ (∃ pre : List (Tx W H), pre.map (·.1) = txs W k ++ (List.range i).map (fun i => (i, k)) ∧ J pre wq) ∧ wq.heap[b]? = w0.heap[b]?)
        (fun iv _ => W - (intOf iv).toNat)
      case atStart => exact ⟨0, Nat.zero_le _, rfl, ⟨pre, by simpa using hpre, hJ⟩, hbk⟩
      case round =>
        obtain ⟨i, hi, rfl, ⟨pre', hpre', hJ'⟩, hbk'⟩ := hrel
        obtain ⟨hcw', hch'⟩ := hcell _ hbk'
        by_cases hlt' : i < W
        · have hlen : pre'.length < H * W := by
            have h1 := congrArg List.length hpre'
            rw [List.length_append, txs_len] at h1
            simp at h1
            have h2 : (k + 1) * W ≤ H * W := Nat.mul_le_mul_right _ hlt
            rw [Nat.add_mul] at h2
            omega
          obtain ⟨fn, tmps, assign, body, hy, hR⟩ := hY pre' ⟨(i, k), hlt', hlt⟩ _ hJ' hlen
          dsimp only [Tx.enc] at hy
          gi_wp2
          refine ⟨rfl, hR.mono ?_⟩
          rintro e W3 (⟨rfl, hJ3, hk3⟩ | ⟨rfl, hJx3⟩)
          · gi_wp2
            go_roundw
            case rel => exact ⟨i + 1, by omega, by simp, ⟨pre' ++ [⟨(i, k), hlt', hlt⟩], by rw [List.map_append, hpre', List.range_succ, List.map_append, List.append_assoc]; rfl, hJ3⟩, hk3.trans hbk'⟩
            case measure => simp [intOf]; omega
          · gi_wp2
            go_end0
            exact ⟨⟨_, rfl⟩, .inr ⟨_, hJx3⟩⟩
        · obtain rfl : i = W := by omega
          gi_wp2
          go_roundw
          case rel => exact ⟨k + 1, by omega, by simp, ⟨pre', by rw [txs_succ]; exact hpre', hJ'⟩, hbk'⟩
          case measure => simp [intOf]; omega
    · obtain rfl : k = H := by omega
      gi_wp2
      go_end0
      exact ⟨⟨_, rfl⟩, .inl ⟨pre, hpre, hJ⟩⟩
theorem each1_sq {g : Gd} (hg : 0 ≤ g.w ∧ g.w ≤ 1000 ∧ 0 ≤ g.h ∧ g.h ≤ 1000) : SqAt Try.prog 34 46 (gvOf g) (Tx g.w.toNat g.h.toNat) Tx.enc (fun xs => xs.map (·.1) = txs g.w.toNat g.h.toNat) (g.h.toNat * g.w.toNat) := by
  refine ⟨enters_of' Try.func34 (by kernel_rfl) rfl, fun b w hb => ⟨fun _ => True, fun l J Jx W hW hJ hJx hY h0 => ?_⟩⟩
  have hb' : W.heap[b]? = some (.cells (gvOf g).toArray 46 (0, 0)) := by rw [hW.block b (Array.getElem?_eq_some_iff.1 hb).1]; exact hb
  refine CallsIn.mono (each1_in l b g.w.toNat g.h.toNat g (by omega) (by omega) (by omega) (by omega) J Jx hY W hb' h0) ?_
  rintro e W' ⟨h1, h2 | ⟨pre, h2⟩⟩
  · exact ⟨h1, .inl h2⟩
  · exact ⟨h1, .inr ⟨pre, trivial, h2⟩⟩
/-- grid.Each hands back a function that captured the grid -/
theorem each_at (g : Gd) : HvAt Try.prog 18 [.a [.v (.int .i64 g.x), .v (.int .i64 g.y), .v (.int .i64 g.pitch), .v (.int .i64 g.w), .v (.int .i64 g.h), .v (.int .i64 g.spread)]] ⟨[], [], 0⟩ (.o (.f 34 [0])) ⟨[(0, 46, (gvOf g).map .v)], [], 1⟩ := by
  refine hv_at (E := EH) (fn := Try.f18) (c := Try.f18.body.getD .skip) (rs := Try.f18.results.toList) (nt := Try.f18.ntmps) EH_ok follows (by kernel_rfl) (by kernel_rfl) rfl rfl rfl [] rfl ?_
  refine ent_of (rl := []) (nl := []) ⟨rfl, ?_, ?_, trivial, rfl, rfl, (by first | exact Nat.zero_le _ | exact Nat.le_of_ble_eq_true rfl), trivial, trivial⟩ <;> (repeat' (first | exact trivial | exact SameL.refl _ | exact ep_seal rfl rfl | assumption | exact congrArg (Value.int _) (by assumption) | exact rfl | exact Nat.le_of_ble_eq_true rfl | decide | apply And.intro | apply all1 | apply all2 | apply all3 | apply all4 | apply all5))
end Go.Proofs.Ytpadocjddoenhaa
