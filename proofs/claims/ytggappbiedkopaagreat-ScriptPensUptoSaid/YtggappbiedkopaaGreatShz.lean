/- The symbolic executor, part hz: a row that grows by zeros. -/
import Derived.Test.YtggappbiedkopaaGreatSh
namespace Go.Proofs.YtggappbiedkopaaGreat.SX
open Go Go.RowKit
set_option linter.unusedVariables false
set_option linter.unusedSimpArgs false
set_option maxRecDepth 100000

section
variable {P : Program} {base : Nat} {w : World}
theorem zeroCells_len (z : Array Value) (n : Nat) : (Builtin.zeroCells z n).toList.length = n * z.size := by
  rw [Array.length_toList]; simp [Builtin.zeroCells]
/-- 'append(v, make([]T, m)...)' onto a row of one's own -/
theorem appendz_run (hb : base ≤ w.heap.size) {t tx e : Nat} {kx : IntKind} {ti : TI} {ty : TypeId} (ht : P.underlying t = some (.slice e)) (htx : P.underlying tx = some (.int kx)) (hti : TIok P e ti) (hsz : ti.sz ≠ 0) {v : Value} {n : Nat} {xs : List Value} (hown : w.ownsRow base e ti.sz v n xs)
    {q : IntKind} {m : Nat} (h63 : n + m ≤ maxLen) (hbytes : (n + m) * ti.byt ≤ 140737488355328) :
    ∃ v' w', (Builtin.append_ #[t, tx] ty #[v, .int q (m : Int)]).run P w = .ok v' w' ∧ w'.ownsRow base e ti.sz v' (n + m) (xs ++ (Builtin.zeroCells ti.z.toArray m).toList) ∧ w.grownBy w' v.ownBlock ∧ (∀ g, v'.ownBlock = some g → v.ownBlock = some g ∨ g = w.heap.size) := by
  obtain ⟨i, zv, hi, hisz, hiby, hiz, hzc, hzl, hz1⟩ := hti.info
  have hzs : ti.z.length = ti.sz := hzl
  have hzc' : zv.cells = ti.z.toArray := by rw [← hzc]
  have hsmall : n + m ≤ 9223372036854775807 := by simp only [maxLen] at h63; omega
  have hwrap : IntKind.i64.wrap (m : Int) = (m : Int) := IntWalk.i64_in _ (by omega)
  have hmb : m * i.bytes ≤ 140737488355328 := by rw [hiby]; exact Nat.le_trans (Nat.mul_le_mul_right _ (by omega)) hbytes
  have h48 : ¬ (281474976710656 < (m : Int) * (i.bytes : Int)) := by
    have : ((m * i.bytes : Nat) : Int) ≤ 140737488355328 := Int.ofNat_le.2 hmb
    rw [Int.natCast_mul] at this; omega
  have hneg : ¬ ((m : Int) < 0) := by omega
  let news := (Builtin.zeroCells ti.z.toArray m).toList
  have hnl : news.length = m * ti.sz := by
    show (Builtin.zeroCells ti.z.toArray m).toList.length = _
    rw [zeroCells_len]; simp [hzs]
  have hn1 : ∀ u ∈ news, u.oneCell' = true := by
    intro u hu
    have hu : u ∈ (Builtin.zeroCells ti.z.toArray m).toList := hu
    simp only [Builtin.zeroCells, Array.toList_map, Array.toList_range, List.mem_map, List.mem_range] at hu
    obtain ⟨j, hj, rfl⟩ := hu
    have hlt : j % ti.z.toArray.size < ti.z.toArray.size := Nat.mod_lt _ (by simp only [List.size_toArray]; omega)
    rw [getElem!_pos ti.z.toArray (j % ti.z.toArray.size) hlt, ← one_iff]
    exact allOne_mem hz1 _ (by simp)
  have hzz : (if m * ti.sz = 0 then (#[] : Array Value) else Builtin.zeroCells ti.z.toArray m) = Builtin.zeroCells ti.z.toArray m := by
    split
    · rename_i h0
      have : m = 0 := by rcases Nat.mul_eq_zero.1 h0 with h | h; exact h; exact absurd h hsz
      subst this; simp [Builtin.zeroCells]
    · rfl
  have hlen : (xs ++ news).length = (n + m) * ti.sz := by rw [List.length_append, hown.1, hnl, Nat.add_mul]
  have h48g : ∀ old, ¬ (281474976710656 < Builtin.nextslicecap (n + m) old * i.bytes) ∨ n + m ≤ old := fun old => by
    by_cases ho : n + m ≤ old
    · exact .inr ho
    · refine .inl ?_
      have := growslice_fits (need := n + m) (old := old) (bytes := i.bytes) (by omega) (by rw [hiby]; exact hbytes)
      omega
  have grown : ∀ (old : Nat), old < n + m → ∀ (row : Option Nat),
      (w.drew.alloc (.cells (xs.toArray ++ news.toArray ++ Builtin.zeroCells zv.cells (grownCap w (n + m) old e - (n + m))) e)).ownsRow base e ti.sz
        (.slice (some ⟨w.heap.size, 0, none⟩) (n + m) (grownCap w (n + m) old e)) (n + m) (xs ++ news) ∧
      w.grownBy (w.drew.alloc (.cells (xs.toArray ++ news.toArray ++ Builtin.zeroCells zv.cells (grownCap w (n + m) old e - (n + m))) e)) row := by
    intro old ho row
    have hge := grownCap_ge w (n + m) old e
    have hcm : grownCap w (n + m) old e ≤ maxLen := grownCap_le_maxLen w (n + m) old e h63
    refine ⟨⟨hlen, .inr ⟨w.heap.size, _, _, rfl, hb, heap_alloc_new w.drew _, hge, hcm, ?_, ?_⟩⟩, ⟨rfl, rfl, rfl, by simp, fun k hk _ => Go.heap_alloc_old w.drew _ hk⟩⟩
    · have hz2 : zv.cells.size = ti.sz := by rw [hzc']; simp [hzs]
      simp only [Array.size_append, List.size_toArray, size_zeroCells, hz2, hown.1, hnl, ← Nat.add_mul]
      congr 1
      omega
    · simp only [Array.toList_append, List.append_assoc]
      rw [← List.append_assoc, ← hlen]
      exact List.take_left
  have hgrow : ∀ (b : Option Addr) (old : Nat), old < n + m → (∀ u : World, u.heap = w.heap → (Builtin.firstCells i.size n (.slice b n old)).run P u = .ok xs.toArray u) →
      (Builtin.append_ #[t, tx] ty #[.slice b n old, .int q (m : Int)]).run P w = .ok (.slice (some ⟨w.heap.size, 0, none⟩) (n + m) (grownCap w (n + m) old e))
        (w.drew.alloc (.cells (xs.toArray ++ news.toArray ++ Builtin.zeroCells zv.cells (grownCap w (n + m) old e - (n + m))) e)) := by
    intro b old ho hold
    have hn' : ¬ (n + m ≤ old) := by omega
    have h63' : ¬ (9223372036854775807 < ((n : Int) + (m : Int))) := by omega
    have h48' := (h48g old).resolve_right hn'
    have ho' := hold w.drew rfl
    rw [hisz] at ho'
    simp [Builtin.append_, run_underlying ht, run_underlying htx, sizeOf, typeInfo, zeroValue, hi, hiz, asInt, asIntOf, hwrap, hneg, h48, hn', h63', h48', Question.forced, newRow, grownCap, hisz, hzc', ho']
    split
    · rename_i h0
      have hm0 : m = 0 := by rcases Nat.mul_eq_zero.1 h0 with h | h; exact h; exact absurd h hsz
      have hn0 : news = [] := List.eq_nil_of_length_eq_zero (by rw [hnl, hm0, Nat.zero_mul])
      rw [hn0, List.append_nil]
    · congr 3
      apply Array.ext'
      simp [news, List.append_assoc]
  have hroomz : ∀ u : World, (if m * ti.sz = 0 then (Result.ok (#[] : Array Value) u) else Result.ok (Builtin.zeroCells ti.z.toArray m) u) = Result.ok (Builtin.zeroCells ti.z.toArray m) u := fun u => by
    split
    · rename_i h0
      rw [if_pos h0] at hzz
      rw [← hzz]
    · rfl
  rcases hown.2 with ⟨rfl, rfl⟩ | ⟨g, cap, cur, rfl, hbg, hg, hnc, hcm, hcs, htake⟩
  · have hx : xs = [] := List.eq_nil_of_length_eq_zero (by simpa using hown.1)
    subst hx
    by_cases hm : m = 0
    · subst hm
      have hn0 : news = [] := List.eq_nil_of_length_eq_zero (by rw [hnl, Nat.zero_mul])
      refine ⟨.slice none 0 0, w, ?_, ?_, ⟨rfl, rfl, rfl, Nat.le_refl _, fun _ _ _ => rfl⟩, fun g hg => .inl hg⟩
      · simp [Builtin.append_, run_underlying ht, run_underlying htx, sizeOf, typeInfo, zeroValue, hi, hiz, asInt, asIntOf, show IntKind.i64.wrap 0 = 0 from rfl]
      · show w.ownsRow base e ti.sz _ (0 + 0) ([] ++ news)
        rw [hn0]
        exact World.ownsRow_nil w base e ti.sz
    · have hr := hgrow none 0 (by omega) (fun u hu => by simp [Builtin.firstCells])
      obtain ⟨g1, g2⟩ := grown 0 (by omega) (Value.ownBlock (.slice none 0 0))
      exact ⟨_, _, hr, g1, g2, fun g hg => .inr (by simp [Value.ownBlock] at hg; exact hg.symm)⟩
  · by_cases hroom : n + m ≤ cap
    · have hfit : n * ti.sz + news.length ≤ cur.size := by rw [hnl, hcs, ← Nat.add_mul]; exact Nat.mul_le_mul_right _ hroom
      have hst := run_storeCells_at P g (n * ti.sz) e news 0 cur w hg (by simpa using hfit) hn1
      simp only [Nat.add_zero] at hst
      refine ⟨.slice (some ⟨g, 0, none⟩) (n + m) cap, w.setRow g (cur.toList.take (n * ti.sz) ++ news ++ cur.toList.drop (n * ti.sz + news.length)).toArray, ?_, ⟨hlen, .inr ⟨g, cap, _, rfl, hbg, setRow_heap w g cur _ e _ hg, hroom, hcm, ?_, ?_⟩⟩, ⟨rfl, rfl, rfl, by simp, fun k _ hk => setRow_other w g k _ (fun e => hk (by simp [Value.ownBlock, e]))⟩, fun g' hg' => .inl hg'⟩
      · simp [Builtin.append_, run_underlying ht, run_underlying htx, sizeOf, typeInfo, zeroValue, hi, hiz, asInt, asIntOf, hwrap, hneg, h48, hroom, hisz, hzc', Addr.add_lit]
        rw [List.append_assoc] at hst
        split
        · rename_i h0
          have hm0 : m = 0 := by rcases Nat.mul_eq_zero.1 h0 with h | h; exact h; exact absurd h hsz
          have hn0 : news = [] := List.eq_nil_of_length_eq_zero (by rw [hnl, hm0, Nat.zero_mul])
          rw [hn0] at hst ⊢
          rw [hst]; rfl
        · rw [show (Builtin.zeroCells ti.z.toArray m).toList = news from rfl, hst]; rfl
      · simp only [List.size_toArray, List.length_append, List.length_take, List.length_drop, Array.length_toList]
        omega
      · rw [htake, ← hlen]
        exact List.take_left
    · have holds : ∀ j u, xs[j]? = some u → w.cell? ((⟨g, 0, none⟩ : Addr).add j) = some u := hown.cells (g := g) rfl
      have hr := hgrow (some ⟨g, 0, none⟩) cap (by omega) (fun u hu => by
        rw [hisz]
        exact run_firstCells_some (P := P) u ti.sz n ⟨g, 0, none⟩ n cap xs hown.1 (fun j x hx => by rw [World.cell?_of_block (w := w) (by rw [hu])]; exact holds j x hx))
      obtain ⟨g1, g2⟩ := grown cap (by omega) (Value.ownBlock (.slice (some ⟨g, 0, none⟩) n cap))
      exact ⟨_, _, hr, g1, g2, fun g' hg' => .inr (by simp [Value.ownBlock] at hg'; exact hg'.symm)⟩
end
end Go.Proofs.YtggappbiedkopaaGreat.SX
