import Derived.Test.YtdphcblbkdgbhaaP1
namespace Go.Proofs.Ytdphcblbkdgbhaa.BS
open Go.RowKit
/-- a slice value that reads as n bools. -/
def RowB (w : World) (a : Option Addr) (n : Nat) (m : Nat → Bool) : Prop :=
  ∀ j, j < n → ∃ b off, a = some ⟨b, off, none⟩ ∧ w.cell? ⟨b, off + j, none⟩ = some (.bool (m j))
theorem RowB.below {w w' : World} {a : Option Addr} {n : Nat} {m : Nat → Bool} (h : RowB w a n m) (hb : Below w.heap.size w w') : RowB w' a n m := fun j hj => by
  obtain ⟨b, off, e, hc⟩ := h j hj
  exact ⟨b, off, e, (hb.cell (p := ⟨b, off + j, none⟩) (block_lt_of_cell hc)).trans hc⟩
/-- the words when word i is read down to its bit k. -/
def st (m : Nat → Bool) (i k j : Nat) : Nat := if j < i then setF m j else if j = i then setF m i / 2 ^ k else 0
theorem half (m : Nat → Bool) (i k : Nat) : setF m i / 2 ^ k = 2 * (setF m i / 2 ^ (k + 1)) + if (setF m i).testBit k then 1 else 0 := by
  rw [Nat.pow_succ, ← Nat.div_div_eq_div_mul, Nat.testBit_eq_decide_div_mod_eq]
  by_cases h : setF m i / 2 ^ k % 2 = 1 <;> simp [h] <;> omega
theorem st_bit (m : Nat → Bool) (i k : Nat) (hk : k < 64) : (setF m i).testBit k = m (64 * i + k) := by
  rw [setF, word_bit]; simp [hk]
theorem st_lt (m : Nat → Bool) (i k : Nat) : 2 * (setF m i / 2 ^ (k + 1)) + 1 < 18446744073709551616 + 1 := by
  have := half m i k
  have h2 : setF m i < 2 ^ 64 := word_lt _ _
  have h3 : setF m i / 2 ^ k ≤ setF m i := Nat.div_le_self _ _
  split at this <;> omega
theorem st_at (m : Nat → Bool) (i k : Nat) : st m i k i = setF m i / 2 ^ k := by simp [st]
theorem st_next (m : Nat → Bool) (i : Nat) : sc (st m i 0) = sc (st m (i + 1) 64) := by
  have hz : ∀ j, setF m j / 2 ^ 64 = 0 := fun j => Nat.div_eq_of_lt (word_lt _ _)
  have : st m i 0 = st m (i + 1) 64 := by
    funext j
    simp only [st, hz, Nat.pow_zero, Nat.div_one]
    by_cases h1 : j < i
    · simp [h1, Nat.lt_succ_of_lt h1]
    · by_cases h2 : j = i
      · subst h2; simp
      · have : ¬ j < i + 1 := by omega
        simp [h1, h2, this]
  rw [this]
theorem st_start (m : Nat → Bool) : sc (st m 0 64) = sc zF := by
  have hz : ∀ j, setF m j / 2 ^ 64 = 0 := fun j => Nat.div_eq_of_lt (word_lt _ _)
  simp [sc, st, hz, zF]
theorem st_end (m : Nat → Bool) (k : Nat) : sc (st m 4 k) = sc (setF m) := by
  simp [sc, st]
theorem mul2 (y : Nat) (h : 2 * y < 18446744073709551616) : IntKind.u64.wrap ((y : Int) * 2) = ((2 * y : Nat) : Int) := by
  rw [IntKind.wrap_u64]; omega
theorem add1 (y : Nat) (h : y + 1 < 18446744073709551616) : IntKind.u64.wrap ((y : Int) + 1) = ((y + 1 : Nat) : Int) := by
  rw [IntKind.wrap_u64]; omega
theorem st_set (m : Nat → Bool) (i k : Nat) (hi : i < 4) (y : Int) (hy : y = ((setF m i / 2 ^ k : Nat) : Int)) : (sc (st m i (k + 1))).setIfInBounds i (.int .u64 y) = sc (st m i k) := by
  rw [hy]
  refine setF_set _ _ i hi _ (st_at m i k) fun j _ hne => ?_
  simp [st, hne]
theorem inner_rel (m : Nat → Bool) (i k B : Nat) (hk : k < 64) (wr : World) (h : wr.heap[B]? = some (.cells (sc (st m i k)) 30 (0, 0))) :
    (∃ k_1 : Nat, k_1 < 64 ∧ Value.int IntKind.i64 ((k : Int) - 1) = Value.int IntKind.i64 (k_1 : Int) ∧ wr.heap[B]? = some (.cells (sc (st m i (k_1 + 1))) 30 (0, 0))) ∨
    (Value.int IntKind.i64 ((k : Int) - 1) = Value.int IntKind.i64 (-1) ∧ wr.heap[B]? = some (.cells (sc (st m i 0)) 30 (0, 0))) := by
  cases k with
  | zero => exact .inr ⟨rfl, h⟩
  | succ k => exact .inl ⟨k, by omega, by rw [show (((k + 1 : Nat) : Int) - 1) = (k : Int) from by omega], h⟩
set_option maxHeartbeats 1000000 in
theorem refOf_any (m : Nat → Bool) (a : Option Addr) (c : Nat) (w : World) (H : RowB w a 256 m) :
    Calls Try.prog 49 #[.slice a 256 c] w fun e w' => e = .returned (.agg (sc (setF m))) ∧ Below w.heap.size w w' := by
  obtain ⟨b, off, rfl, -⟩ := H 0 (by omega)
  have HR : Hid (∀ j, j < 256 → w.cell? ⟨b, off + j, none⟩ = some (.bool (m j))) := fun j hj => by
    obtain ⟨b', off', e, hc⟩ := H j hj
    injection e with e; injection e with e1 e2
    rw [e1, e2]; exact hc
  clear H
  go_enter Try.func49, Try.ntmps49
  go_wp2
  go_loopw [4] (fun j wr => ∃ i : Nat, i ≤ 4 ∧ j = .int .i64 i ∧ wr.heap[w.heap.size]? = some (.cells (sc zF) 30 (0, 0)) ∧ wr.heap[w.heap.size + 1]? = some (.cells (sc (st m i 64)) 30 (0, 0)) ∧ Below w.heap.size w wr) (fun j _ => 4 - (intOf j).toNat)
  case atStart =>
    refine ⟨0, by omega, rfl, heap_alloc2_old w _ _, (heap_alloc2_new w _ _).trans ?_, ((Below.refl _ _).alloc (Nat.le_refl _) _).alloc (by simp) _⟩
    rw [← sc_zero, st_start]
  case round =>
    obtain ⟨i, hi, rfl, h0, h1, hb⟩ := hrel
    have H1 := Lib.hid h1
    have H0 := Lib.hid h0
    clear h1 h0
    obtain ⟨wo, rfl⟩ : ∃ wo : World, wo = wr := ⟨_, rfl⟩
    by_cases hlt : i < 4
    · go_wp2
      go_loopw [5] (fun z wr => ((∃ k : Nat, k < 64 ∧ z = .int .i64 k ∧ wr.heap[w.heap.size + 1]? = some (.cells (sc (st m i (k + 1))) 30 (0, 0))) ∨ (z = .int .i64 (-1) ∧ wr.heap[w.heap.size + 1]? = some (.cells (sc (st m i 0)) 30 (0, 0)))) ∧ wr.heap[w.heap.size]? = some (.cells (sc zF) 30 (0, 0)) ∧ Below w.heap.size w wr) (fun j _ => (intOf j + 1).toNat)
      case atStart => exact ⟨.inl ⟨63, by omega, rfl, H1.out⟩, H0.out, hb⟩
      case round =>
        obtain ⟨hk, h0, hb'⟩ := hrel
        have H0' := Lib.hid h0
        clear h0 H0 H1 hb
        rcases hk with ⟨k, hk, rfl, h1⟩ | ⟨rfl, h1⟩
        · have H1 := Lib.hid h1
          clear h1
          have hcb := (hb'.cell (p := ⟨b, off + (64 * i + k), none⟩) (block_lt_of_cell (HR.out (64 * i + k) (by omega)))).trans (HR.out (64 * i + k) (by omega))
          have hne : b ≠ w.heap.size + 1 := fun e => by
            have := block_lt_of_cell (HR.out 0 (by omega)); simp only at this; omega
          have hcell := (cell_of_row _ _ i _ 30 (0, 0) H1.out).trans (sc_at _ i hlt)
          have hfr := frozen_of_row _ _ i _ 30 H1.out
          rw [st_at] at hcell
          have hlt2 := st_lt m i k
          generalize hy : setF m i / 2 ^ (k + 1) = y at *
          have HY := Lib.hid hy
          have hm2 := mul2 y (by omega)
          clear hy
          by_cases hm : m (64 * i + k) = true
          · have hv : ((2 * (y : Int) + 1)) = ((setF m i / 2 ^ k : Nat) : Int) := by
              rw [half, st_bit m i k hk, if_pos hm, HY.out]; omega
            have HV := Lib.hid hv
            have ha1 := add1 (2 * y) (by omega)
            clear hv
            go_wp2
            refine ⟨⟨inner_rel m i k _ hk _ ?_, ?_, ?_⟩, by simp [intOf]⟩
            · rw [← st_set m i k hlt _ HV.out, ← Array.setIfInBounds_setIfInBounds]
              exact heap_setCell_same _ _ _ _ _ _ (heap_setCell_same _ _ _ _ _ _ H1.out)
            · exact (heap_setCell_other _ _ _ _ (by simp)).trans ((heap_setCell_other _ _ _ _ (by simp)).trans H0'.out)
            · exact (hb'.setCell (by simp) _).setCell (by simp) _
          · have hv : ((2 * (y : Int))) = ((setF m i / 2 ^ k : Nat) : Int) := by
              rw [half, st_bit m i k hk, if_neg hm, HY.out]; omega
            have HV := Lib.hid hv
            clear hv
            go_wp2
            refine ⟨⟨inner_rel m i k _ hk _ ?_, ?_, ?_⟩, by simp [intOf]⟩
            · rw [← st_set m i k hlt _ HV.out]
              exact heap_setCell_same _ _ _ _ _ _ H1.out
            · exact (heap_setCell_other _ _ _ _ (by simp)).trans H0'.out
            · exact hb'.setCell (by simp) _
        · go_wp2
          go_roundw
          case rel => exact ⟨i + 1, by omega, by go_num, H0'.out, by rw [← st_next]; exact h1, hb'⟩
          case measure => simp [intOf]; omega
    · obtain rfl : i = 4 := by omega
      have r1 := row4 H1.out
      have r0 := row4 H0.out
      obtain ⟨⟨a0, a1, a2, a3⟩, -⟩ := r1
      obtain ⟨⟨b0, b1, b2, b3⟩, ⟨d0, d1, d2, d3⟩⟩ := r0
      go_wp2
      refine bodyPost_ret (v := .agg (sc (setF m))) (results_cell_row rfl _ _ w.heap.size 30 (sc (setF m)) (0, 0) (.array 4 28) rfl ((store4 H0.out _ _ _ _).trans (by rw [← st_end m 64]; rfl)) Try.underlying30 rfl (by kernel_rfl)) rfl ?_
      exact ⟨rfl, (((hb.setCell (by simp) _).setCell (by simp) _).setCell (by simp) _).setCell (by simp) _⟩
end Go.Proofs.Ytdphcblbkdgbhaa.BS
