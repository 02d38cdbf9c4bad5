import Derived.Test.YtdphcblbkdgbhaaP2
namespace Go.Proofs.Ytdphcblbkdgbhaa.BS
open Go.RowKit
/-- 256 bools. -/
def bc (m : Nat → Bool) : Array Value := ((List.range 256).map fun j => Value.bool (m j)).toArray
theorem bc_at (m : Nat → Bool) (j : Nat) (h : j < 256) : (bc m)[j]? = some (.bool (m j)) := by
  simp [bc, h]
theorem bc_set (m : Nat → Bool) (x : Nat) : (bc m).setIfInBounds x (.bool true) = bc (fun i => m i || i == x) := by
  unfold bc
  apply Array.ext'
  simp only [Array.toList_setIfInBounds]
  apply List.ext_getElem
  · simp
  · intro i h1 h2
    simp only [List.getElem_set, List.getElem_map, List.getElem_range]
    by_cases h : x = i
    · subst h; simp
    · have : ¬ i = x := fun e => h e.symm
      simp [h, this]
set_option maxHeartbeats 800000 in
theorem refList_any (l : List Nat) (hl : ∀ x ∈ l, x ≤ 255) (hn : l.length ≤ 140737488355328) (a : Option Addr) (c : Nat) (w : World) (H : RowN .u8 w a l) :
    Calls Try.prog 40 #[.slice a l.length c] w fun e w' => e = .returned (.agg (sc (setF (inL l)))) ∧ Below w.heap.size w w' := by
  have hmk : ∀ w : World, (Instr.makeSlice 94 (.int .i64 256) (.int .i64 256)).run Try.prog w = .ok (.slice (some ⟨w.heap.size, 0, none⟩) 256 256) (w.alloc (.cells (bc fun _ => false) 4)) := fun _ => by kernel_rfl
  go_enter Try.func40, Try.ntmps40
  go_wp2
  clear hmk
  go_loopw [4] (fun j wr => ∃ k : Nat, k ≤ l.length ∧ j = .int .i64 k ∧ wr.heap[w.heap.size]? = some (.cells (sc zF) 30 (0, 0)) ∧ wr.heap[w.heap.size + 1]? = some (.cells (bc (inL (l.take k))) 4 (0, 0)) ∧ Below w.heap.size w wr) (fun j _ => l.length - (intOf j).toNat)
  case atStart =>
    refine ⟨0, by omega, rfl, heap_alloc2_old w _ _, (heap_alloc2_new w _ _).trans ?_, ((Below.refl _ _).alloc (Nat.le_refl _) _).alloc (by simp) _⟩
    rw [show inL (l.take 0) = fun _ => false from by funext i; simp [inL]]
  case round =>
    obtain ⟨k, hk, rfl, h0, h1, hb⟩ := hrel
    have H1 := Lib.hid h1
    have H0 := Lib.hid h0
    have hz : w.heap.size + 1 < wr.heap.size := (Array.getElem?_eq_some_iff.1 h1).1
    clear h1 h0
    by_cases hlt : k < l.length
    · obtain ⟨b, off, rfl, hc⟩ := H k hlt
      have hc' := (hb.cell (p := ⟨b, off + k, none⟩) (block_lt_of_cell hc)).trans hc
      have hx := hl _ (List.getElem_mem hlt)
      clear hc H
      generalize hy : l[k] = x at *
      have HY := Lib.hid hy
      clear hy
      have hcell := (cell_of_row _ _ x _ 4 (0, 0) H1.out).trans (bc_at _ x (by omega))
      have hfr := frozen_of_row _ _ x _ 4 H1.out
      go_wp2
      go_roundw
      case rel =>
        refine ⟨k + 1, by omega, by go_num, ?_, ?_, ?_⟩
        · exact (heap_setCell_other _ _ _ _ (by simp)).trans H0.out
        · refine (heap_setCell_same _ _ _ _ _ _ H1.out).trans ?_
          rw [bc_set, inL_snoc l k hlt, HY.out]
        · exact hb.setCell (by simp) _
      case measure => simp [intOf]; omega
    · obtain rfl : k = l.length := by omega
      rw [List.take_length] at H1
      go_wp2_with (fail)
      refine (refOf_any (inL l) _ 256 wr (fun j hj => ⟨_, _, rfl, ?_⟩)).mono ?_
      · rw [Nat.zero_add]; exact (cell_of_row _ _ j _ 4 (0, 0) H1.out).trans (bc_at _ j hj)
      · rintro e w1 ⟨rfl, hb1⟩
        have R := Lib.hid ((hb1.block _ (by omega)).trans H0.out)
        obtain ⟨⟨b0, b1, b2, b3⟩, ⟨d0, d1, d2, d3⟩⟩ := row4 R.out
        simp only [sc]
        go_wp2
        refine bodyPost_ret (v := .agg (sc (setF (inL l)))) (results_cell_row rfl _ _ w.heap.size 30 (sc (setF (inL l))) (0, 0) (.array 4 28) rfl (store4 R.out _ _ _ _) Try.underlying30 rfl (by kernel_rfl)) rfl ?_
        exact ⟨rfl, ((((hb.trans (hb1.mono hb.size)).setCell (by simp) _).setCell (by simp) _).setCell (by simp) _).setCell (by simp) _⟩
end Go.Proofs.Ytdphcblbkdgbhaa.BS
