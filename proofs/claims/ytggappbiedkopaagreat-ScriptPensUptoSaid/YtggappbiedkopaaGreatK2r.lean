/- Law 22: slices.Repeat of one nought. -/
import Derived.Test.YtggappbiedkopaaGreatProg
import Derived.WalkKit
import Derived.WalkSpells
import Derived.WalkLawsBesides
import Derived.Laws.CopyOwn
import Derived.KernelRfl
namespace Go.Proofs.YtggappbiedkopaaGreat
open Go Go.RowKit
def zrs : Array Value := Array.replicate 400 (.int .u8 0)
theorem make_run (w : World) : (Instr.makeSlice 22 (.int .i64 400) (.int .i64 400)).run Tryz.prog w = .ok (.slice (some ⟨w.heap.size, 0, none⟩) 400 400) (w.alloc (.cells zrs 5)) := by kernel_rfl
theorem zr_list (o k : Nat) (h : o + k ≤ 400) : (zrs.toList.take o ++ List.replicate k (Value.int .u8 0) ++ zrs.toList.drop (o + k)).toArray = zrs := by
  have e : zrs.toList = List.replicate 400 (Value.int .u8 0) := Array.toList_replicate
  have e' : (List.replicate 400 (Value.int .u8 0)).toArray = zrs := List.toArray_replicate _ _
  rw [e, List.take_replicate, List.drop_replicate, List.replicate_append_replicate, List.replicate_append_replicate, show min o 400 + k + (400 - (o + k)) = 400 by omega, e']
theorem copy_zr (W : World) (g o dLen dCap n sCap m : Nat) (a : Addr) (hg : W.heap[g]? = some (.cells zrs 5 (0, 0))) (hm : Nat.min n dLen = m) (ho : o + m ≤ 400) (hs : ∀ j, j < m → W.cell? (a.add j) = some (.int .u8 0)) (ty : TypeId) :
    (Builtin.copy_ #[22, 22] ty #[.slice (some ⟨g, o, none⟩) dLen dCap, .slice (some a) n sCap]).run Tryz.prog W = .ok (goInt m) W := by
  have hz : zrs.size = 400 := Array.size_replicate
  have h := run_copy_row (P := Tryz.prog) W 22 22 ty 5 g o dLen dCap a n sCap zrs 5 (List.replicate m (.int .u8 0)) (by kernel_rfl) (by kernel_rfl) hg (by rw [List.length_replicate, hm]) (fun j v hv => by
    rw [List.getElem?_replicate] at hv
    split at hv
    · rename_i hj; cases hv; exact hs j hj
    · cases hv) (by rw [List.length_replicate, hz]; exact ho) (fun v hv => by rw [List.eq_of_mem_replicate hv]; rfl)
  rw [List.length_replicate] at h
  rw [h, zr_list _ _ ho, setRow_self W g zrs 5 (0, 0) hg]
set_option maxRecDepth 100000 in
set_option maxHeartbeats 1000000 in
theorem mul64_run (w : World) : Calls Tryz.prog 70 #[.int .u64 1, .int .u64 400] w fun e w' => e = .returned (.tuple #[.int .u64 0, .int .u64 400]) ∧ w' = w := by
  go_enter Tryz.func70, Tryz.ntmps70
  go_wp2
  go_ret2
  exact ⟨rfl, rfl⟩
theorem cell_zr (w : World) (j : Nat) (h : j < 400) : (w.alloc (.cells zrs 5)).cell? ((⟨w.heap.size, 0, none⟩ : Addr).add j) = some (.int .u8 0) := by
  have hz : zrs.size = 400 := Array.size_replicate
  have e : zrs[j]? = some (.int .u8 0) := by unfold zrs; rw [Array.getElem?_replicate, if_pos h]
  have : (⟨w.heap.size, 0, none⟩ : Addr).add j = ⟨w.heap.size, j, none⟩ := by unfold Addr.add; split <;> simp_all
  have hh : (w.alloc (.cells zrs 5)).heap[w.heap.size]? = some (.cells zrs 5 (0, 0)) := heap_alloc_new w _
  rw [this]
  unfold World.cell?
  simp only [hh]
  exact e
/-- the world with the noughts made, whatever was drawn -/
def zrW (w W : World) : Prop := W.heap = (w.alloc (.cells zrs 5)).heap ∧ W.tape = w.tape ∧ W.os = w.os ∧ W.output = w.output
theorem zrW_refl (w : World) : zrW w (w.alloc (.cells zrs 5)) := ⟨rfl, rfl, rfl, rfl⟩
theorem zrW_drew {w W : World} (h : zrW w W) : zrW w W.drew := h
theorem zrW_heap {w W : World} (h : zrW w W) : W.heap[w.heap.size]? = some (.cells zrs 5 (0, 0)) := by rw [h.1]; exact heap_alloc_new w _
theorem zrW_cell {w W : World} (h : zrW w W) {j : Nat} (hj : j < 400) : W.cell? ((⟨w.heap.size, 0, none⟩ : Addr).add j) = some (.int .u8 0) := by
  have := cell_zr w j hj
  unfold World.cell? at this ⊢
  rw [h.1]; exact this
set_option maxRecDepth 100000 in
set_option maxHeartbeats 1000000 in
theorem repeat_run (ad : Addr) (c : Nat) (w : World) (hx : (w.alloc (.cells zrs 5)).cell? (ad.add 0) = some (.int .u8 0)) : Calls Tryz.prog 29 #[.slice (some ad) 1 c, .int .i64 400] w fun e w' => e = .returned (.slice (some ⟨w.heap.size, 0, none⟩) 400 400) ∧ zrW w w' := by
  have hmk := make_run w
  have hg : (w.alloc (.cells zrs 5)).heap[w.heap.size]? = some (.cells zrs 5 (0, 0)) := heap_alloc_new w _
  have hc1 := copy_zr (w.alloc (.cells zrs 5)) w.heap.size 0 400 400 1 c 1 ad hg rfl (by omega) (fun j hj => by rw [Nat.lt_one_iff.1 hj]; exact hx)
  go_enter Tryz.func29, Tryz.ntmps29
  go_wp2
  go_loopw [8] (fun i W => ∃ n : Nat, 1 ≤ n ∧ n ≤ 400 ∧ i = Value.int .i64 n ∧ zrW w W) (fun i _ => 400 - (intOf i).toNat)
  case atStart => exact ⟨1, by omega, by omega, rfl, zrW_refl w⟩
  case round =>
    obtain ⟨n, h1, h2, rfl, hW⟩ := hrel
    by_cases h3 : n < 400
    · obtain ⟨m, hm, hm1, hm2⟩ : ∃ m, Nat.min n (400 - n) = m ∧ 1 ≤ m ∧ n + m ≤ 400 ∧ m ≤ n := by
        refine ⟨min n (400 - n), rfl, by omega, by omega, by omega⟩
      have hW2 := zrW_drew hW
      have hc2 := copy_zr _ w.heap.size n (400 - n) (400 - n) n 400 m ⟨w.heap.size, 0, none⟩ (zrW_heap hW2) hm (by omega) (fun j hj => zrW_cell hW2 (by omega))
      clear hx hmk hg hc1
      go_wp2
      go_region
      go_wp2
      go_roundw
      case rel => exact ⟨n + m, by omega, by omega, by go_num, zrW_drew hW⟩
      case measure => simp [intOf]; omega
    · go_wp2
      go_ret
      exact ⟨rfl, hW⟩
end Go.Proofs.YtggappbiedkopaaGreat
