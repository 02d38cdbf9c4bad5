import Derived.Test.YtgjoioilpnclpaaC1
import Derived.Deep.RegionHeld
import Derived.BigQuiet
namespace Go.Proofs.Ytgjoioilpnclpaa
open Go.RowKit
/-- what a drawn region may lean on in every world it meets: the set's box, and that nothing old was written. -/
abbrev SetAt (W : World) (b : Nat) (f : Nat → Nat) (w : World) : Prop :=
  w.cell? ⟨b, 0, none⟩ = some (.int .u64 (f 0)) ∧ w.cell? ⟨b, 1, none⟩ = some (.int .u64 (f 1)) ∧ w.cell? ⟨b, 2, none⟩ = some (.int .u64 (f 2)) ∧ w.cell? ⟨b, 3, none⟩ = some (.int .u64 (f 3)) ∧ Hid (w.heap[b]? = some (.cells (sc f) 24 (0, 0))) ∧ Hid (Below W.heap.size W w)
theorem setAt_mk {W : World} {b : Nat} {f : Nat → Nat} {w : World} (h : w.heap[b]? = some (.cells (sc f) 24 (0, 0))) (hb : Below W.heap.size W w) : SetAt W b f w :=
  ⟨(row4 h).1.1, (row4 h).1.2.1, (row4 h).1.2.2.1, (row4 h).1.2.2.2, h, hb⟩
theorem setAt_step {W : World} {b : Nat} {f : Nat → Nat} {w w' : World} (h : SetAt W b f w) (hb : Below w.heap.size w w') : SetAt W b f w' :=
  setAt_mk ((hb.block _ (Array.getElem?_eq_some_iff.1 h.2.2.2.2.1.out).1).trans h.2.2.2.2.1.out) (h.2.2.2.2.2.out.trans (hb.mono h.2.2.2.2.2.out.size))
theorem pairsV_at (l : List (Nat × Nat)) (k : Nat) (x y : Nat) (h : l[k]? = some (x, y)) : (pairsV l)[k * 2]? = some (.int .u8 (x : Nat)) ∧ (pairsV l)[k * 2 + 1]? = some (.int .u8 (y : Nat)) := by
  induction l generalizing k with
  | nil => cases h
  | cons p l ih =>
    cases k with
    | zero => obtain rfl : p = (x, y) := by simpa using h
              exact ⟨rfl, rfl⟩
    | succ k =>
      have := ih k (by simpa using h)
      rw [show (k + 1) * 2 = k * 2 + 1 + 1 by omega]
      exact this
set_option maxRecDepth 20000 in
set_option maxHeartbeats 4000000 in
theorem matches_any {w : World} (f : Nat → Nat) (k : Nat) (hf : Wf f) (hk : k ≤ 255) :
    Calls Try.prog 3 #[.agg (sc f), .int .u8 k] w fun e w' => e = .returned (.bool true) ∧ Below w.heap.size w w' := by
  have hs := sc_size f
  have F0 := Lib.hid (heap_alloc_new w (.cells (sc f) 24))
  have HB0 : Hid (Below w.heap.size w (w.alloc (.cells (sc f) 24))) := (Below.refl _ _).alloc (Nat.le_refl _) _
  go_enter Try.func3, Try.ntmps3
  go_wp2_with (fail)
  generalize hW : w.alloc (.cells (sc f) 24) = W at *
  clear hW
  have h0 : SetAt W w.heap.size f W.drew := setAt_mk F0.out (Below.refl _ _).drew
  generalize hp : mem f k = p at *
  generalize hn : (memsTo f 256).length = n at *
  generalize hl : strN (memsTo f 256) = s at *
  go_region_held (fun w' => w'.cell? ⟨w.heap.size, 0, none⟩ = some (.int .u64 (f 0)) ∧ w'.cell? ⟨w.heap.size, 1, none⟩ = some (.int .u64 (f 1)) ∧ w'.cell? ⟨w.heap.size, 2, none⟩ = some (.int .u64 (f 2)) ∧ w'.cell? ⟨w.heap.size, 3, none⟩ = some (.int .u64 (f 3)) ∧ Hid (w'.heap[w.heap.size]? = some (.cells (sc f) 24 (0, 0))) ∧ Hid (Below W.heap.size W w')) (first | assumption | exact setAt_step (by assumption) hb) (first
    | (go_at_call 8; refine (awake_any _).mono ?_; rintro e w1 ⟨rfl, hb⟩)
    | (go_at_call 9; refine (has_any f k hf hk _).mono ?_; rintro e w1 ⟨rfl, hb⟩)
    | (go_at_call 10; refine (refHas_any f k hf hk _).mono ?_; rintro e w1 ⟨rfl, hb⟩)
    | (go_at_call 13; have hct := count_any f hf; rw [hn] at hct; refine (hct _).mono ?_; rintro e w1 ⟨rfl, hb⟩; clear hct)
    | (go_at_call 11; refine (bytes_any f hf _).mono ?_; rintro e w1 ⟨v, rfl, hownA, hb⟩; rw [hn] at hownA; obtain ⟨xA, cA, rfl⟩ := own_slice hownA; have hcvA := conv_own hownA; rw [hl] at hcvA; have hownA := Lib.hid hownA)
    | (go_at_call 12; refine (refBytes_any f hf _).mono ?_; rintro e w1 ⟨v, rfl, hownB, hb⟩; rw [hn] at hownB; obtain ⟨xB, cB, rfl⟩ := own_slice hownB; have hcvB := conv_own hownB; rw [hl] at hcvB; try (have hcvA2 := conv_own (own_below hownA.out hb); rw [hl] at hcvA2); clear hownB))
  all_goals (rename_i hh; have H3 := Lib.hid hh.2.2.2.2.1.out; have B3 := Lib.hid (HB0.out.trans (hh.2.2.2.2.2.out.mono HB0.out.size)))
  all_goals (clear hh hcvA hcvB hownA hownB hp hn hl h0 F0 HB0; try clear hcvA2)
  all_goals
    obtain ⟨⟨a0, a1, a2, a3⟩, -⟩ := row4 H3.out
    go_wp2_with (fail)
    clear a0 a1 a2 a3
    refine (runs_any f hf _).mono ?_
    rintro e w2 ⟨v, rfl, hoA, hb⟩
    have H4 := Lib.hid ((hb.block _ (Array.getElem?_eq_some_iff.1 H3.out).1).trans H3.out)
    have B4 := Lib.hid (B3.out.trans (hb.mono B3.out.size))
    obtain ⟨⟨a0, a1, a2, a3⟩, -⟩ := row4 H4.out
    have OA := Lib.hid hoA
    clear H3 B3 hb hoA
    go_wp2_with (fail)
    clear a0 a1 a2 a3
    refine (refRuns_any f hf _).mono ?_
    rintro e w3 ⟨u, rfl, hoB, hb⟩
    have B5 := Lib.hid (B4.out.trans (hb.mono B4.out.size))
    have OA2 := Lib.hid (own_below OA.out hb)
    have OB := Lib.hid hoB
    obtain ⟨xA, cA, rfl⟩ := own_slice hoB
    obtain ⟨xB, cB, rfl⟩ := own_slice OA2.out
    have hr := runsTo_len f 256
    clear hb hoB B4 H4 OA
    generalize runsTo f 256 = l at *
    have hn : l.length = l.length := rfl
    generalize hm : l.length = m at *
    have HM := Lib.hid hm
    clear hm hn
    go_wp2_with (fail)
    go_loopw [7] (fun v wr => ∃ j : Nat, j ≤ m ∧ v = .int .i64 j ∧ Below w3.heap.size w3 wr) (fun v _ => m - (intOf v).toNat)
    case atStart => exact ⟨0, by omega, rfl, Below.refl _ _⟩
    case round =>
      obtain ⟨j, hj, rfl, hb⟩ := hrel
      by_cases hlt : j < m
      · obtain ⟨gA, cpA, eA, -, -, lA, cellsA, -⟩ := own_row (own_below OB.out hb) (by omega)
        obtain ⟨gB, cpB, eB, -, -, lB, cellsB, -⟩ := own_row (own_below OA2.out hb) (by omega)
        cases eA
        cases eB
        obtain ⟨⟨x, y⟩, hxy⟩ : ∃ q, l[j]? = some q := ⟨_, List.getElem?_eq_getElem (by rw [HM.out]; exact hlt)⟩
        have p0 := cellsA _ _ (pairsV_at l j x y hxy).1
        have p1 := cellsA _ _ (pairsV_at l j x y hxy).2
        have q0 := cellsB _ _ (pairsV_at l j x y hxy).1
        have q1 := cellsB _ _ (pairsV_at l j x y hxy).2
        have hge2 := guard32
        have e1 : ∀ W, _ = Result.ok _ W := eqPair x y x y
        simp only [beq_self_eq_true, Bool.and_self] at e1
        have hdc : decide ((j : Int) < m) = true := by simp; omega
        clear cellsA cellsB hxy
        go_wp2
        have i1 : (0 : Int) ≤ (j : Int) := by omega
        have i2 : (j : Int) < (m : Int) := by omega
        have i3 : (j : Int).toNat = j := rfl
        go_quiet (fail)
        clear hdc
        go_wp2
        go_roundw
        case rel => exact ⟨j + 1, by omega, by go_num, below_drewN hb _⟩
        case measure => simp [intOf]; omega
      · obtain rfl : j = m := by omega
        go_wp2
        go_ret
        exact ⟨rfl, B5.out.trans (hb.mono B5.out.size)⟩
end Go.Proofs.Ytgjoioilpnclpaa
