import Derived.Test.YtgjoioilpnclpaaA1
import Derived.Laws.Rows
import Derived.Deep.QuietTactic
import Derived.BigQuiet
namespace Go.Proofs.Ytgjoioilpnclpaa
open Go.RowKit
theorem below_drewN {B : Nat} {a w : World} (h : Below B a w) (n : Nat) : Below B a (w.drewN n) := ⟨h.os, h.tape, h.output, h.size, h.block⟩
def orF (f g : Nat → Nat) (i : Nat) : Nat := f i ||| g i
def andF (f g : Nat → Nat) (i : Nat) : Nat := f i &&& g i
def notF (f : Nat → Nat) (i : Nat) : Nat := 18446744073709551615 ^^^ f i
set_option maxHeartbeats 400000 in
theorem union1_any (f g : Nat → Nat) (hf : Wf f) (hg : Wf g) (i : Nat) (hi : i < 4) (p q : Nat) (w : World) (hp : w.heap[p]? = some (.cells (sc f) 24 (0, 0))) (hq : w.heap[q]? = some (.cells (sc g) 24 (0, 0))) :
    Calls Try.prog 28 #[.int .i64 i, .pointer (some ⟨p, 0, none⟩), .pointer (some ⟨q, 0, none⟩)] w fun e w' => e = .returned (.int .u64 (orF f g i)) ∧ Below w.heap.size w w' := by
  have c1 : w.cell? ⟨p, i, none⟩ = some (.int .u64 (f i)) := (cell_of_row w p i _ 24 (0, 0) hp).trans (sc_at f i hi)
  have c2 : w.cell? ⟨q, i, none⟩ = some (.int .u64 (g i)) := (cell_of_row w q i _ 24 (0, 0) hq).trans (sc_at g i hi)
  have hb := Lib.hid (u64_or_nat (f i) (g i) (hf i hi) (hg i hi))
  clear hp hq
  go_enter Try.func28, Try.ntmps28
  go_wp2
  go_quiet (fail)
  go_wp2
  go_ret
  exact ⟨congrArg (fun b => Ending.returned (Value.int .u64 b)) hb.out, below_drewN (Below.refl _ _) _⟩
set_option maxHeartbeats 400000 in
theorem meet1_any (f g : Nat → Nat) (hf : Wf f) (hg : Wf g) (i : Nat) (hi : i < 4) (p q : Nat) (w : World) (hp : w.heap[p]? = some (.cells (sc f) 24 (0, 0))) (hq : w.heap[q]? = some (.cells (sc g) 24 (0, 0))) :
    Calls Try.prog 30 #[.int .i64 i, .pointer (some ⟨p, 0, none⟩), .pointer (some ⟨q, 0, none⟩)] w fun e w' => e = .returned (.int .u64 (andF f g i)) ∧ Below w.heap.size w w' := by
  have c1 : w.cell? ⟨p, i, none⟩ = some (.int .u64 (f i)) := (cell_of_row w p i _ 24 (0, 0) hp).trans (sc_at f i hi)
  have c2 : w.cell? ⟨q, i, none⟩ = some (.int .u64 (g i)) := (cell_of_row w q i _ 24 (0, 0) hq).trans (sc_at g i hi)
  have hb := Lib.hid (u64_and_nat (f i) (g i) (hf i hi) (hg i hi))
  clear hp hq
  go_enter Try.func30, Try.ntmps30
  go_wp2
  go_quiet (fail)
  go_wp2
  go_ret
  exact ⟨congrArg (fun b => Ending.returned (Value.int .u64 b)) hb.out, below_drewN (Below.refl _ _) _⟩
set_option maxHeartbeats 400000 in
theorem not1_any (f : Nat → Nat) (hf : Wf f) (i : Nat) (hi : i < 4) (p : Nat) (w : World) (hp : w.heap[p]? = some (.cells (sc f) 24 (0, 0))) :
    Calls Try.prog 29 #[.int .i64 i, .pointer (some ⟨p, 0, none⟩)] w fun e w' => e = .returned (.int .u64 (notF f i)) ∧ Below w.heap.size w w' := by
  have c1 : w.cell? ⟨p, i, none⟩ = some (.int .u64 (f i)) := (cell_of_row w p i _ 24 (0, 0) hp).trans (sc_at f i hi)
  have hb := Lib.hid (u64_xor_nat 18446744073709551615 (f i) (by omega) (hf i hi))
  clear hp
  go_enter Try.func29, Try.ntmps29
  go_wp2
  go_ret
  exact ⟨congrArg (fun b => Ending.returned (Value.int .u64 b)) hb.out, Below.refl _ _⟩
/-- the first k words of f, then zeros. -/
def part (f : Nat → Nat) (k j : Nat) : Nat := if j < k then f j else 0
theorem part_set (f : Nat → Nat) (k : Nat) (hk : k < 4) : (sc (part f k)).setIfInBounds k (.int .u64 (f k)) = sc (part f (k + 1)) := by
  match k, hk with
  | 0, _ => rfl
  | 1, _ => rfl
  | 2, _ => rfl
  | 3, _ => rfl
theorem part_zero (f : Nat → Nat) : #[Value.int .u64 0, .int .u64 0, .int .u64 0, .int .u64 0] = sc (part f 0) := rfl
theorem part_four (f : Nat → Nat) : sc (part f 4) = sc f := rfl
theorem row4 {w : World} {g : Nat} {f : Nat → Nat} (h : w.heap[g]? = some (.cells (sc f) 24 (0, 0))) :
    (w.cell? ⟨g, 0, none⟩ = some (.int .u64 (f 0)) ∧ w.cell? ⟨g, 1, none⟩ = some (.int .u64 (f 1)) ∧ w.cell? ⟨g, 2, none⟩ = some (.int .u64 (f 2)) ∧ w.cell? ⟨g, 3, none⟩ = some (.int .u64 (f 3))) ∧
    (w.frozen? ⟨g, 0, none⟩ = false ∧ w.frozen? ⟨g, 1, none⟩ = false ∧ w.frozen? ⟨g, 2, none⟩ = false ∧ w.frozen? ⟨g, 3, none⟩ = false) :=
  ⟨⟨cell_of_row w g 0 _ 24 (0, 0) h, cell_of_row w g 1 _ 24 (0, 0) h, cell_of_row w g 2 _ 24 (0, 0) h, cell_of_row w g 3 _ 24 (0, 0) h⟩,
   ⟨frozen_of_row w g 0 _ 24 h, frozen_of_row w g 1 _ 24 h, frozen_of_row w g 2 _ 24 h, frozen_of_row w g 3 _ 24 h⟩⟩
theorem store4 {w : World} {g : Nat} {f : Nat → Nat} (h : w.heap[g]? = some (.cells (sc f) 24 (0, 0))) (x y z u : Value) :
    ((((w.setCell ⟨g, 0, none⟩ x).setCell ⟨g, 1, none⟩ y).setCell ⟨g, 2, none⟩ z).setCell ⟨g, 3, none⟩ u).heap[g]? = some (.cells #[x, y, z, u] 24 (0, 0)) :=
  heap_setCell_same _ _ _ _ _ _ (heap_setCell_same _ _ _ _ _ _ (heap_setCell_same _ _ _ _ _ _ (heap_setCell_same _ _ _ _ _ _ h)))
set_option maxHeartbeats 800000 in
theorem each28 (h : Nat → Nat) (p q : Nat) (w : World) (H : ∀ i : Nat, i < 4 → ∀ W, Below w.heap.size w W → Calls Try.prog 28 #[.int .i64 (i : Int), .pointer (some ⟨p, 0, none⟩), .pointer (some ⟨q, 0, none⟩)] W fun e W' => e = .returned (.int .u64 (h i)) ∧ Below W.heap.size W W') :
    Calls Try.prog 27 #[.func (.func 28) #[] #[.pointer (some ⟨p, 0, none⟩), .pointer (some ⟨q, 0, none⟩)]] w fun e w' => e = .returned (.agg (sc h)) ∧ Below w.heap.size w w' := by
  have HH := Lib.hid H
  clear H
  go_enter Try.func27, Try.ntmps27
  go_wp2
  go_loopw [5] (fun j wr => ∃ k : Nat, k ≤ 4 ∧ j = .int .i64 k ∧ wr.heap[w.heap.size]? = some (.cells (sc (part h 0)) 24 (0, 0)) ∧ wr.heap[w.heap.size + 1]? = some (.cells (sc (part h k)) 24 (0, 0)) ∧ Below w.heap.size w wr) (fun j _ => 4 - (intOf j).toNat)
  case atStart =>
    exact ⟨0, by omega, rfl, heap_alloc2_old w _ _, heap_alloc2_new w _ _, ((Below.refl _ _).alloc (Nat.le_refl _) _).alloc (by simp) _⟩
  case round =>
    obtain ⟨k, hk, rfl, h0, h1, hb⟩ := hrel
    have H1 := Lib.hid h1
    have H0 := Lib.hid h0
    have hz : w.heap.size + 1 < wr.heap.size := (Array.getElem?_eq_some_iff.1 h1).1
    clear h1 h0
    by_cases hlt : k < 4
    · go_wp2_with (go_at_call 28; refine (HH.out k hlt _ hb).mono ?_; rintro e w1 ⟨rfl, hb1⟩; have hc : w1.cell? ⟨w.heap.size + 1, k, none⟩ = some (.int .u64 (part h k k)) := (hb1.cell (p := ⟨w.heap.size + 1, k, none⟩) hz).trans ((cell_of_row _ _ k _ 24 (0, 0) H1.out).trans (sc_at (part h k) k hlt)); have hf : w1.frozen? ⟨w.heap.size + 1, k, none⟩ = false := (hb1.frozen (p := ⟨w.heap.size + 1, k, none⟩) hz).trans (frozen_of_row _ _ k _ 24 H1.out))
      go_roundw
      case rel =>
        refine ⟨k + 1, by omega, by go_num, ?_, ?_, ?_⟩
        · rw [heap_setCell_other _ _ _ _ (by simp)]; exact (hb1.block _ (by omega)).trans H0.out
        · rw [← part_set h k hlt]; exact heap_setCell_same _ _ _ _ _ _ ((hb1.block _ hz).trans H1.out)
        · exact (hb.trans (hb1.mono hb.size)).setCell (by simp) _
      case measure => simp [intOf]; omega
    · obtain rfl : k = 4 := by omega
      have r1 := row4 H1.out
      have r0 := row4 H0.out
      obtain ⟨⟨a0, a1, a2, a3⟩, -⟩ := r1
      obtain ⟨⟨b0, b1, b2, b3⟩, ⟨d0, d1, d2, d3⟩⟩ := r0
      go_wp2
      refine bodyPost_ret (v := .agg (sc h)) (results_cell_row rfl _ _ w.heap.size 24 (sc h) (0, 0) (.array 4 22) rfl (store4 H0.out _ _ _ _) Try.underlying24 rfl (by kernel_rfl)) rfl ?_
      exact ⟨rfl, (((hb.setCell (by simp) _).setCell (by simp) _).setCell (by simp) _).setCell (by simp) _⟩
set_option maxHeartbeats 800000 in
theorem each29 (h : Nat → Nat) (p : Nat) (w : World) (H : ∀ i : Nat, i < 4 → ∀ W, Below w.heap.size w W → Calls Try.prog 29 #[.int .i64 (i : Int), .pointer (some ⟨p, 0, none⟩)] W fun e W' => e = .returned (.int .u64 (h i)) ∧ Below W.heap.size W W') :
    Calls Try.prog 27 #[.func (.func 29) #[] #[.pointer (some ⟨p, 0, none⟩)]] w fun e w' => e = .returned (.agg (sc h)) ∧ Below w.heap.size w w' := by
  have HH := Lib.hid H
  clear H
  go_enter Try.func27, Try.ntmps27
  go_wp2
  go_loopw [5] (fun j wr => ∃ k : Nat, k ≤ 4 ∧ j = .int .i64 k ∧ wr.heap[w.heap.size]? = some (.cells (sc (part h 0)) 24 (0, 0)) ∧ wr.heap[w.heap.size + 1]? = some (.cells (sc (part h k)) 24 (0, 0)) ∧ Below w.heap.size w wr) (fun j _ => 4 - (intOf j).toNat)
  case atStart =>
    exact ⟨0, by omega, rfl, heap_alloc2_old w _ _, heap_alloc2_new w _ _, ((Below.refl _ _).alloc (Nat.le_refl _) _).alloc (by simp) _⟩
  case round =>
    obtain ⟨k, hk, rfl, h0, h1, hb⟩ := hrel
    have H1 := Lib.hid h1
    have H0 := Lib.hid h0
    have hz : w.heap.size + 1 < wr.heap.size := (Array.getElem?_eq_some_iff.1 h1).1
    clear h1 h0
    by_cases hlt : k < 4
    · go_wp2_with (go_at_call 29; refine (HH.out k hlt _ hb).mono ?_; rintro e w1 ⟨rfl, hb1⟩; have hc : w1.cell? ⟨w.heap.size + 1, k, none⟩ = some (.int .u64 (part h k k)) := (hb1.cell (p := ⟨w.heap.size + 1, k, none⟩) hz).trans ((cell_of_row _ _ k _ 24 (0, 0) H1.out).trans (sc_at (part h k) k hlt)); have hf : w1.frozen? ⟨w.heap.size + 1, k, none⟩ = false := (hb1.frozen (p := ⟨w.heap.size + 1, k, none⟩) hz).trans (frozen_of_row _ _ k _ 24 H1.out))
      go_roundw
      case rel =>
        refine ⟨k + 1, by omega, by go_num, ?_, ?_, ?_⟩
        · rw [heap_setCell_other _ _ _ _ (by simp)]; exact (hb1.block _ (by omega)).trans H0.out
        · rw [← part_set h k hlt]; exact heap_setCell_same _ _ _ _ _ _ ((hb1.block _ hz).trans H1.out)
        · exact (hb.trans (hb1.mono hb.size)).setCell (by simp) _
      case measure => simp [intOf]; omega
    · obtain rfl : k = 4 := by omega
      have r1 := row4 H1.out
      have r0 := row4 H0.out
      obtain ⟨⟨a0, a1, a2, a3⟩, -⟩ := r1
      obtain ⟨⟨b0, b1, b2, b3⟩, ⟨d0, d1, d2, d3⟩⟩ := r0
      go_wp2
      refine bodyPost_ret (v := .agg (sc h)) (results_cell_row rfl _ _ w.heap.size 24 (sc h) (0, 0) (.array 4 22) rfl (store4 H0.out _ _ _ _) Try.underlying24 rfl (by kernel_rfl)) rfl ?_
      exact ⟨rfl, (((hb.setCell (by simp) _).setCell (by simp) _).setCell (by simp) _).setCell (by simp) _⟩
set_option maxHeartbeats 800000 in
theorem each30 (h : Nat → Nat) (p q : Nat) (w : World) (H : ∀ i : Nat, i < 4 → ∀ W, Below w.heap.size w W → Calls Try.prog 30 #[.int .i64 (i : Int), .pointer (some ⟨p, 0, none⟩), .pointer (some ⟨q, 0, none⟩)] W fun e W' => e = .returned (.int .u64 (h i)) ∧ Below W.heap.size W W') :
    Calls Try.prog 27 #[.func (.func 30) #[] #[.pointer (some ⟨p, 0, none⟩), .pointer (some ⟨q, 0, none⟩)]] w fun e w' => e = .returned (.agg (sc h)) ∧ Below w.heap.size w w' := by
  have HH := Lib.hid H
  clear H
  go_enter Try.func27, Try.ntmps27
  go_wp2
  go_loopw [5] (fun j wr => ∃ k : Nat, k ≤ 4 ∧ j = .int .i64 k ∧ wr.heap[w.heap.size]? = some (.cells (sc (part h 0)) 24 (0, 0)) ∧ wr.heap[w.heap.size + 1]? = some (.cells (sc (part h k)) 24 (0, 0)) ∧ Below w.heap.size w wr) (fun j _ => 4 - (intOf j).toNat)
  case atStart =>
    exact ⟨0, by omega, rfl, heap_alloc2_old w _ _, heap_alloc2_new w _ _, ((Below.refl _ _).alloc (Nat.le_refl _) _).alloc (by simp) _⟩
  case round =>
    obtain ⟨k, hk, rfl, h0, h1, hb⟩ := hrel
    have H1 := Lib.hid h1
    have H0 := Lib.hid h0
    have hz : w.heap.size + 1 < wr.heap.size := (Array.getElem?_eq_some_iff.1 h1).1
    clear h1 h0
    by_cases hlt : k < 4
    · go_wp2_with (go_at_call 30; refine (HH.out k hlt _ hb).mono ?_; rintro e w1 ⟨rfl, hb1⟩; have hc : w1.cell? ⟨w.heap.size + 1, k, none⟩ = some (.int .u64 (part h k k)) := (hb1.cell (p := ⟨w.heap.size + 1, k, none⟩) hz).trans ((cell_of_row _ _ k _ 24 (0, 0) H1.out).trans (sc_at (part h k) k hlt)); have hf : w1.frozen? ⟨w.heap.size + 1, k, none⟩ = false := (hb1.frozen (p := ⟨w.heap.size + 1, k, none⟩) hz).trans (frozen_of_row _ _ k _ 24 H1.out))
      go_roundw
      case rel =>
        refine ⟨k + 1, by omega, by go_num, ?_, ?_, ?_⟩
        · rw [heap_setCell_other _ _ _ _ (by simp)]; exact (hb1.block _ (by omega)).trans H0.out
        · rw [← part_set h k hlt]; exact heap_setCell_same _ _ _ _ _ _ ((hb1.block _ hz).trans H1.out)
        · exact (hb.trans (hb1.mono hb.size)).setCell (by simp) _
      case measure => simp [intOf]; omega
    · obtain rfl : k = 4 := by omega
      have r1 := row4 H1.out
      have r0 := row4 H0.out
      obtain ⟨⟨a0, a1, a2, a3⟩, -⟩ := r1
      obtain ⟨⟨b0, b1, b2, b3⟩, ⟨d0, d1, d2, d3⟩⟩ := r0
      go_wp2
      refine bodyPost_ret (v := .agg (sc h)) (results_cell_row rfl _ _ w.heap.size 24 (sc h) (0, 0) (.array 4 22) rfl (store4 H0.out _ _ _ _) Try.underlying24 rfl (by kernel_rfl)) rfl ?_
      exact ⟨rfl, (((hb.setCell (by simp) _).setCell (by simp) _).setCell (by simp) _).setCell (by simp) _⟩
theorem orF_wf {f g : Nat → Nat} (hf : Wf f) (hg : Wf g) : Wf (orF f g) := fun j hj => Nat.or_lt_two_pow (n := 64) (hf j hj) (hg j hj)
theorem andF_wf {f g : Nat → Nat} (hf : Wf f) : Wf (andF f g) := fun j hj => Nat.lt_of_le_of_lt Nat.and_le_left (hf j hj)
theorem notF_wf {f : Nat → Nat} (hf : Wf f) : Wf (notF f) := fun j hj => Nat.xor_lt_two_pow (n := 64) (by omega) (hf j hj)
theorem heap_alloc_lt (w : World) (o : Obj) (i : Nat) (c : Obj) (h : w.heap[i]? = some c) : (w.alloc o).heap[i]? = some c := by
  rw [Below.heap_alloc w o i (Array.getElem?_eq_some_iff.1 h).1]; exact h
theorem heap_new (w : World) (o : Obj) (i : Nat) (h : i = w.heap.size) : (w.alloc o).heap[i]? = some o := by subst h; exact heap_alloc_new w o
def zF (_ : Nat) : Nat := 0
theorem sc_zero : sc zF = #[Value.int IntKind.u64 0, Value.int IntKind.u64 0, Value.int IntKind.u64 0, Value.int IntKind.u64 0] := rfl
set_option maxHeartbeats 800000 in
theorem union_any (f g : Nat → Nat) (hf : Wf f) (hg : Wf g) (w : World) :
    Calls Try.prog 21 #[.agg (sc f), .agg (sc g)] w fun e w' => e = .returned (.agg (sc (orF f g))) ∧ Below w.heap.size w w' := by
  have hs := sc_size f
  have hs' := sc_size g
  have H1 := Lib.hid (heap_alloc_lt _ (.cells (sc zF) 24) _ _ (heap_alloc2_old w (.cells (sc f) 24) (.cells (sc g) 24)))
  have H2 := Lib.hid (heap_alloc_lt _ (.cells (sc zF) 24) _ _ (heap_alloc2_new w (.cells (sc f) 24) (.cells (sc g) 24)))
  have H3 := Lib.hid (heap_new ((w.alloc (.cells (sc f) 24)).alloc (.cells (sc g) 24)) (.cells (sc zF) 24) (w.heap.size + 1 + 1) (by simp))
  have HB : Hid (Below w.heap.size w (((w.alloc (.cells (sc f) 24)).alloc (.cells (sc g) 24)).alloc (.cells (sc zF) 24))) := (((Below.refl _ _).alloc (Nat.le_refl _) _).alloc (by simp) _).alloc (by simp; omega) _
  go_enter Try.func21, Try.ntmps21
  go_wp2_with (fail)
  rw [← sc_zero]
  generalize hW : ((w.alloc (.cells (sc f) 24)).alloc (.cells (sc g) 24)).alloc (.cells (sc zF) 24) = W at *
  have hz3 : w.heap.size + 1 + 1 < W.heap.size := (Array.getElem?_eq_some_iff.1 H3.out).1
  refine (each28 (orF f g) _ _ W (fun i hi W' hW' => union1_any f g hf hg i hi _ _ W' ((hW'.block _ (by omega)).trans H1.out) ((hW'.block _ (by omega)).trans H2.out))).mono ?_
  rintro e w1 ⟨rfl, hb⟩
  clear hW
  have R := Lib.hid ((hb.block _ hz3).trans H3.out)
  obtain ⟨⟨b0, b1, b2, b3⟩, ⟨d0, d1, d2, d3⟩⟩ := row4 R.out
  simp only [sc]
  go_wp2
  refine bodyPost_ret (v := .agg (sc (orF f g))) (results_cell_row rfl _ _ (w.heap.size + 1 + 1) 24 (sc (orF f g)) (0, 0) (.array 4 22) rfl (store4 R.out _ _ _ _) Try.underlying24 rfl (by kernel_rfl)) rfl ?_
  exact ⟨rfl, ((((HB.out.trans (hb.mono HB.out.size)).setCell (by simp; omega) _).setCell (by simp; omega) _).setCell (by simp; omega) _).setCell (by simp; omega) _⟩
set_option maxHeartbeats 800000 in
theorem meet_any (f g : Nat → Nat) (hf : Wf f) (hg : Wf g) (w : World) :
    Calls Try.prog 23 #[.agg (sc f), .agg (sc g)] w fun e w' => e = .returned (.agg (sc (andF f g))) ∧ Below w.heap.size w w' := by
  have hs := sc_size f
  have hs' := sc_size g
  have H1 := Lib.hid (heap_alloc_lt _ (.cells (sc zF) 24) _ _ (heap_alloc2_old w (.cells (sc f) 24) (.cells (sc g) 24)))
  have H2 := Lib.hid (heap_alloc_lt _ (.cells (sc zF) 24) _ _ (heap_alloc2_new w (.cells (sc f) 24) (.cells (sc g) 24)))
  have H3 := Lib.hid (heap_new ((w.alloc (.cells (sc f) 24)).alloc (.cells (sc g) 24)) (.cells (sc zF) 24) (w.heap.size + 1 + 1) (by simp))
  have HB : Hid (Below w.heap.size w (((w.alloc (.cells (sc f) 24)).alloc (.cells (sc g) 24)).alloc (.cells (sc zF) 24))) := (((Below.refl _ _).alloc (Nat.le_refl _) _).alloc (by simp) _).alloc (by simp; omega) _
  go_enter Try.func23, Try.ntmps23
  go_wp2_with (fail)
  rw [← sc_zero]
  generalize hW : ((w.alloc (.cells (sc f) 24)).alloc (.cells (sc g) 24)).alloc (.cells (sc zF) 24) = W at *
  have hz3 : w.heap.size + 1 + 1 < W.heap.size := (Array.getElem?_eq_some_iff.1 H3.out).1
  refine (each30 (andF f g) _ _ W (fun i hi W' hW' => meet1_any f g hf hg i hi _ _ W' ((hW'.block _ (by omega)).trans H1.out) ((hW'.block _ (by omega)).trans H2.out))).mono ?_
  rintro e w1 ⟨rfl, hb⟩
  clear hW
  have R := Lib.hid ((hb.block _ hz3).trans H3.out)
  obtain ⟨⟨b0, b1, b2, b3⟩, ⟨d0, d1, d2, d3⟩⟩ := row4 R.out
  simp only [sc]
  go_wp2
  refine bodyPost_ret (v := .agg (sc (andF f g))) (results_cell_row rfl _ _ (w.heap.size + 1 + 1) 24 (sc (andF f g)) (0, 0) (.array 4 22) rfl (store4 R.out _ _ _ _) Try.underlying24 rfl (by kernel_rfl)) rfl ?_
  exact ⟨rfl, ((((HB.out.trans (hb.mono HB.out.size)).setCell (by simp; omega) _).setCell (by simp; omega) _).setCell (by simp; omega) _).setCell (by simp; omega) _⟩
set_option maxHeartbeats 800000 in
theorem not_any (f : Nat → Nat) (hf : Wf f) (w : World) :
    Calls Try.prog 22 #[.agg (sc f)] w fun e w' => e = .returned (.agg (sc (notF f))) ∧ Below w.heap.size w w' := by
  have hs := sc_size f
  have H1 := Lib.hid (heap_alloc2_old w (.cells (sc f) 24) (.cells (sc zF) 24))
  have H3 := Lib.hid (heap_alloc2_new w (.cells (sc f) 24) (.cells (sc zF) 24))
  have HB : Hid (Below w.heap.size w ((w.alloc (.cells (sc f) 24)).alloc (.cells (sc zF) 24))) := ((Below.refl _ _).alloc (Nat.le_refl _) _).alloc (by simp) _
  go_enter Try.func22, Try.ntmps22
  go_wp2_with (fail)
  rw [← sc_zero]
  generalize hW : (w.alloc (.cells (sc f) 24)).alloc (.cells (sc zF) 24) = W at *
  have hz3 : w.heap.size + 1 < W.heap.size := (Array.getElem?_eq_some_iff.1 H3.out).1
  refine (each29 (notF f) _ W (fun i hi W' hW' => not1_any f hf i hi _ W' ((hW'.block _ (by omega)).trans H1.out))).mono ?_
  rintro e w1 ⟨rfl, hb⟩
  clear hW
  have R := Lib.hid ((hb.block _ hz3).trans H3.out)
  obtain ⟨⟨b0, b1, b2, b3⟩, ⟨d0, d1, d2, d3⟩⟩ := row4 R.out
  simp only [sc]
  go_wp2
  refine bodyPost_ret (v := .agg (sc (notF f))) (results_cell_row rfl _ _ (w.heap.size + 1) 24 (sc (notF f)) (0, 0) (.array 4 22) rfl (store4 R.out _ _ _ _) Try.underlying24 rfl (by kernel_rfl)) rfl ?_
  exact ⟨rfl, ((((HB.out.trans (hb.mono HB.out.size)).setCell (by simp) _).setCell (by simp) _).setCell (by simp) _).setCell (by simp) _⟩
theorem zF_wf : Wf zF := fun _ _ => by simp [zF]
def fullF (_ : Nat) : Nat := 18446744073709551615
theorem notF_zero : sc (notF zF) = sc fullF := by simp [sc, notF, zF, fullF]
set_option maxHeartbeats 800000 in
theorem full_any (w : World) :
    Calls Try.prog 20 #[] w fun e w' => e = .returned (.agg (sc fullF)) ∧ Below w.heap.size w w' := by
  have H3 := Lib.hid (heap_alloc_new w (.cells (sc zF) 24))
  have HB : Hid (Below w.heap.size w (w.alloc (.cells (sc zF) 24))) := (Below.refl _ _).alloc (Nat.le_refl _) _
  go_enter Try.func20, Try.ntmps20
  go_wp2_with (fail)
  rw [← sc_zero]
  generalize hW : w.alloc (.cells (sc zF) 24) = W at *
  have hz3 : w.heap.size < W.heap.size := (Array.getElem?_eq_some_iff.1 H3.out).1
  refine (not_any zF zF_wf W).mono ?_
  rintro e w1 ⟨rfl, hb⟩
  clear hW
  have R := Lib.hid ((hb.block _ hz3).trans H3.out)
  obtain ⟨⟨b0, b1, b2, b3⟩, ⟨d0, d1, d2, d3⟩⟩ := row4 R.out
  rw [notF_zero]
  simp only [sc]
  go_wp2
  refine bodyPost_ret (v := .agg (sc fullF)) (results_cell_row rfl _ _ w.heap.size 24 (sc fullF) (0, 0) (.array 4 22) rfl (store4 R.out _ _ _ _) Try.underlying24 rfl (by kernel_rfl)) rfl ?_
  exact ⟨rfl, ((((HB.out.trans (hb.mono HB.out.size)).setCell (by simp) _).setCell (by simp) _).setCell (by simp) _).setCell (by simp) _⟩
end Go.Proofs.Ytgjoioilpnclpaa
