import Derived.Test.YtgjoioilpnclpaaA4
import Derived.StillTailTactics
namespace Go.Proofs.Ytgjoioilpnclpaa
open Go.RowKit
def between (lo k i : Nat) : Bool := decide (lo ≤ i) && decide (i < k)
theorem between_snoc (lo k : Nat) (h : lo ≤ k) : (fun i => between lo k i || i == k) = between lo (k + 1) := by
  funext i
  rw [Bool.eq_iff_iff]; simp only [between, Bool.or_eq_true, Bool.and_eq_true, decide_eq_true_eq, beq_iff_eq]; omega
set_option maxHeartbeats 800000 in
theorem range_any (lo hi : Nat) (h1 : lo ≤ 255) (h2 : hi ≤ 255) (w : World) :
    Calls Try.prog 18 #[.int .u8 lo, .int .u8 hi] w fun e w' => e = .returned (.agg (sc (setF (between lo (hi + 1))))) ∧ Below w.heap.size w w' := by
  go_enter Try.func18, Try.ntmps18
  go_wp2
  go_loopw [6] (fun j wr => ∃ k : Nat, lo ≤ k ∧ (k ≤ hi + 1 ∨ k = lo) ∧ j = .int .i64 k ∧ wr.heap[w.heap.size]? = some (.cells (sc zF) 24 (0, 0)) ∧ wr.heap[w.heap.size + 1]? = some (.cells (sc (setF (between lo k))) 24 (0, 0)) ∧ Below w.heap.size w wr) (fun j _ => 256 - (intOf j).toNat)
  case atStart =>
    refine ⟨lo, by omega, .inr rfl, rfl, heap_alloc2_old w _ _, (heap_alloc2_new w _ _).trans ?_, ((Below.refl _ _).alloc (Nat.le_refl _) _).alloc (by simp) _⟩
    rw [← sc_zero, show sc zF = sc (setF (between lo lo)) from sc_ext zF_wf (setF_wf _) fun i _ => by rw [setF_mem]; simp [mem, zF, between]]
  case round =>
    obtain ⟨k, hk1, hk2, rfl, h0, h1, hb⟩ := hrel
    have H1 := Lib.hid h1
    have H0 := Lib.hid h0
    have hz : w.heap.size + 1 < wr.heap.size := (Array.getElem?_eq_some_iff.1 h1).1
    clear h1 h0
    by_cases hlt : k ≤ hi
    · have hcell := (cell_of_row _ _ (k / 64) _ 24 (0, 0) H1.out).trans (sc_at _ (k / 64) (by omega))
      have hfr := frozen_of_row _ _ (k / 64) _ 24 H1.out
      go_wp2
      have e1 : IntKind.i64.wrap ((k : Int) / 64) = (k : Int) / 64 := IntWalk.i64_in _ (by omega)
      have e2 : (0 : Int) ≤ (k : Int) / 64 := by omega
      have e3 : (k : Int) / 64 < 4 := by omega
      have e4 : ((k : Int) / 64).toNat = k / 64 := by omega
      have e5 : (k : Int).tmod 64 = (k : Int) % 64 := Int.tmod_eq_emod_of_nonneg (by omega)
      have e6 : IntKind.i64.wrap ((k : Int) % 64) = (k : Int) % 64 := IntWalk.i64_in _ (by omega)
      have e7 : (0 : Int) ≤ (k : Int) % 64 := by omega
      have e8 : ((k : Int) % 64).toNat = k % 64 := by omega
      refine wp_region_still_tail 9 (by kernel_rfl) (by kernel_rfl) ?_
      simp only [List.take_succ_cons, List.take_zero, List.drop_succ_cons, List.drop_zero]
      repeat still_step
      refine wpStill_nil ?_
      clear e1 e2 e3 e4 e5 e6 e7 e8
      go_wp2
      go_roundw
      case rel =>
        refine ⟨k + 1, by omega, .inl (by omega), by go_num, ?_, ?_, ?_⟩
        · exact (heap_setCell_other _ _ _ _ (by simp)).trans H0.out
        · refine (heap_setCell_same _ _ _ _ _ _ H1.out).trans ?_
          rw [set_step _ _ (by omega), between_snoc lo k (by omega)]
        · exact (hb.setCell (by simp) _).drew
      case measure => simp [intOf]; omega
    · have r1 := row4 H1.out
      have r0 := row4 H0.out
      obtain ⟨⟨a0, a1, a2, a3⟩, -⟩ := r1
      obtain ⟨⟨b0, b1, b2, b3⟩, ⟨d0, d1, d2, d3⟩⟩ := r0
      have hE : sc (setF (between lo k)) = sc (setF (between lo (hi + 1))) := sc_ext (setF_wf _) (setF_wf _) fun i _ => by
        rw [setF_mem, setF_mem, Bool.eq_iff_iff]; simp only [between, Bool.and_eq_true, decide_eq_true_eq]; omega
      have HE := Lib.hid hE
      clear hE
      go_wp2
      refine bodyPost_ret (v := .agg (sc (setF (between lo (hi + 1))))) (results_cell_row rfl _ _ w.heap.size 24 (sc (setF (between lo (hi + 1)))) (0, 0) (.array 4 22) rfl ((store4 H0.out _ _ _ _).trans (by rw [← HE.out]; rfl)) Try.underlying24 rfl (by kernel_rfl)) rfl ?_
      exact ⟨rfl, (((hb.setCell (by simp) _).setCell (by simp) _).setCell (by simp) _).setCell (by simp) _⟩
end Go.Proofs.Ytgjoioilpnclpaa
