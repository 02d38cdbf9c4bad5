import Derived.Test.YtdphcblbkdgbhaaN3
namespace Go.Proofs.Ytdphcblbkdgbhaa.BS
open Go.RowKit
/-- the cells of a set: its four words. -/
def sc (f : Nat → Nat) : Array Value := #[.int .u64 (f 0), .int .u64 (f 1), .int .u64 (f 2), .int .u64 (f 3)]
theorem sc_at (f : Nat → Nat) (j : Nat) (h : j < 4) : (sc f)[j]? = some (.int .u64 (f j)) := by
  match j, h with
  | 0, _ => rfl
  | 1, _ => rfl
  | 2, _ => rfl
  | 3, _ => rfl
theorem sc_size (f : Nat → Nat) : (sc f).size = 4 := rfl
/-- is a byte a member? -/
def mem (f : Nat → Nat) (i : Nat) : Bool := (f (i / 64)).testBit (i % 64)
def Wf (f : Nat → Nat) : Prop := ∀ j, j < 4 → f j < 18446744073709551616
theorem wrap_nat (x : Nat) (hx : x < 18446744073709551616) : IntKind.u64.wrap (x : Int) = (x : Int) := by
  rw [IntKind.wrap_u64]; omega
theorem row4 {w : World} {g : Nat} {f : Nat → Nat} (h : w.heap[g]? = some (.cells (sc f) 30 (0, 0))) :
    (w.cell? ⟨g, 0, none⟩ = some (.int .u64 (f 0)) ∧ w.cell? ⟨g, 1, none⟩ = some (.int .u64 (f 1)) ∧ w.cell? ⟨g, 2, none⟩ = some (.int .u64 (f 2)) ∧ w.cell? ⟨g, 3, none⟩ = some (.int .u64 (f 3))) ∧
    (w.frozen? ⟨g, 0, none⟩ = false ∧ w.frozen? ⟨g, 1, none⟩ = false ∧ w.frozen? ⟨g, 2, none⟩ = false ∧ w.frozen? ⟨g, 3, none⟩ = false) :=
  ⟨⟨cell_of_row w g 0 _ 30 (0, 0) h, cell_of_row w g 1 _ 30 (0, 0) h, cell_of_row w g 2 _ 30 (0, 0) h, cell_of_row w g 3 _ 30 (0, 0) h⟩,
   ⟨frozen_of_row w g 0 _ 30 h, frozen_of_row w g 1 _ 30 h, frozen_of_row w g 2 _ 30 h, frozen_of_row w g 3 _ 30 h⟩⟩
theorem store4 {w : World} {g : Nat} {f : Nat → Nat} (h : w.heap[g]? = some (.cells (sc f) 30 (0, 0))) (x y z u : Value) :
    ((((w.setCell ⟨g, 0, none⟩ x).setCell ⟨g, 1, none⟩ y).setCell ⟨g, 2, none⟩ z).setCell ⟨g, 3, none⟩ u).heap[g]? = some (.cells #[x, y, z, u] 30 (0, 0)) :=
  heap_setCell_same _ _ _ _ _ _ (heap_setCell_same _ _ _ _ _ _ (heap_setCell_same _ _ _ _ _ _ (heap_setCell_same _ _ _ _ _ _ h)))
def zF (_ : Nat) : Nat := 0
theorem sc_zero : sc zF = #[Value.int IntKind.u64 0, Value.int IntKind.u64 0, Value.int IntKind.u64 0, Value.int IntKind.u64 0] := rfl
theorem zF_wf : Wf zF := fun _ _ => by simp [zF]
/-- the number whose bit k is p k, for k < n. -/
def word (p : Nat → Bool) : Nat → Nat
  | 0 => 0
  | n + 1 => word p n + if p n then 2 ^ n else 0
theorem word_lt (p : Nat → Bool) : ∀ n, word p n < 2 ^ n
  | 0 => by simp [word]
  | n + 1 => by have := word_lt p n; simp only [word, Nat.pow_succ]; split <;> omega
theorem word_bit (p : Nat → Bool) : ∀ n k, (word p n).testBit k = (decide (k < n) && p k)
  | 0, k => by simp [word]
  | n + 1, k => by
    have ih := word_bit p n k
    have hlt := word_lt p n
    simp only [word]
    by_cases hp : p n = true
    · rw [if_pos hp, Nat.add_comm]
      by_cases hk : k = n
      · subst hk
        rw [Nat.testBit_two_pow_add_eq, Nat.testBit_lt_two_pow hlt]; simp [hp]
      · rcases Nat.lt_or_ge k n with h | h
        · rw [Nat.testBit_two_pow_add_gt h, ih]; simp [h, Nat.lt_succ_of_lt h]
        · have h' : n < k := by omega
          rw [Nat.testBit_lt_two_pow (Nat.lt_of_lt_of_le (show 2 ^ n + word p n < 2 ^ (n + 1) by rw [Nat.pow_succ]; omega) (Nat.pow_le_pow_right (by omega) h'))]
          simp; omega
    · rw [if_neg hp, Nat.add_zero, ih]
      by_cases hk : k = n
      · subst hk; simp [hp]
      · have : (k < n + 1) ↔ k < n := by omega
        simp [this]
theorem eq_of_bits {x y : Nat} (hx : x < 2 ^ 64) (hy : y < 2 ^ 64) (h : ∀ k, k < 64 → x.testBit k = y.testBit k) : x = y := by
  apply Nat.eq_of_testBit_eq
  intro k
  rcases Nat.lt_or_ge k 64 with hk | hk
  · exact h k hk
  · rw [Nat.testBit_lt_two_pow (Nat.lt_of_lt_of_le hx (Nat.pow_le_pow_right (by omega) hk)), Nat.testBit_lt_two_pow (Nat.lt_of_lt_of_le hy (Nat.pow_le_pow_right (by omega) hk))]
/-- the words of the set with the members p. -/
def setF (p : Nat → Bool) (j : Nat) : Nat := word (fun k => p (64 * j + k)) 64
theorem setF_wf (p : Nat → Bool) : Wf (setF p) := fun _ _ => word_lt _ 64
theorem setF_mem (p : Nat → Bool) (i : Nat) : mem (setF p) i = p i := by
  unfold mem setF
  rw [word_bit]
  have : 64 * (i / 64) + i % 64 = i := Nat.div_add_mod i 64
  simp [this, Nat.mod_lt]
theorem sc_ext {f g : Nat → Nat} (hf : Wf f) (hg : Wf g) (h : ∀ i, i < 256 → mem f i = mem g i) : sc f = sc g := by
  have key : ∀ j, j < 4 → f j = g j := fun j hj => by
    refine eq_of_bits (hf j hj) (hg j hj) fun k hk => ?_
    have := h (64 * j + k) (by omega)
    unfold mem at this
    rw [show (64 * j + k) / 64 = j by omega, show (64 * j + k) % 64 = k by omega] at this
    exact this
  simp only [sc, key 0 (by omega), key 1 (by omega), key 2 (by omega), key 3 (by omega)]
theorem setF_self {f : Nat → Nat} (hf : Wf f) : sc (setF (mem f)) = sc f := sc_ext (setF_wf _) hf fun i _ => setF_mem _ i
/-- a slice value that reads as some numbers of a kind. -/
def RowN (k : IntKind) (w : World) (a : Option Addr) (l : List Nat) : Prop :=
  ∀ j (h : j < l.length), ∃ b off, a = some ⟨b, off, none⟩ ∧ w.cell? ⟨b, off + j, none⟩ = some (.int k (l[j] : Nat))
theorem RowN.below {k : IntKind} {w w' : World} {a : Option Addr} {l : List Nat} (h : RowN k w a l) (hb : Below w.heap.size w w') : RowN k w' a l := fun j hj => by
  obtain ⟨b, off, e, hc⟩ := h j hj
  exact ⟨b, off, e, (hb.cell (p := ⟨b, off + j, none⟩) (block_lt_of_cell hc)).trans hc⟩
def inL (l : List Nat) (i : Nat) : Bool := decide (i ∈ l)
theorem setF_set (f : Nat → Nat) (g : Nat → Nat) (q : Nat) (hq : q < 4) (x : Nat) (hx : g q = x) (ho : ∀ j, j < 4 → j ≠ q → g j = f j) : (sc f).setIfInBounds q (.int .u64 (x : Int)) = sc g := by
  subst hx
  match q, hq with
  | 0, _ => simp [sc, ho 1, ho 2, ho 3]
  | 1, _ => simp [sc, ho 0, ho 2, ho 3]
  | 2, _ => simp [sc, ho 0, ho 1, ho 3]
  | 3, _ => simp [sc, ho 0, ho 1, ho 2]
theorem or_pow (y k : Nat) (hy : y < 18446744073709551616) (hk : k < 64) : bits .or .u64 (y : Int) (IntKind.u64.wrap (2 ^ k)) = ((y ||| 2 ^ k : Nat) : Int) := by
  have h2 : 2 ^ k < 18446744073709551616 := Nat.pow_lt_pow_right (a := 2) (by omega) hk
  rw [show ((2 : Int) ^ k) = ((2 ^ k : Nat) : Int) from by rw [Int.natCast_pow]; rfl, wrap_nat _ h2]
  exact u64_or_nat _ _ hy h2
theorem set_step (p : Nat → Bool) (x : Nat) (hx : x ≤ 255) : (sc (setF p)).setIfInBounds (x / 64) (.int .u64 (bits .or .u64 (setF p (x / 64)) (IntKind.u64.wrap (2 ^ (x % 64))))) = sc (setF fun i => p i || i == x) := by
  rw [or_pow _ _ (setF_wf p _ (by omega)) (Nat.mod_lt _ (by omega))]
  refine setF_set _ _ _ (by omega) _ ?_ ?_
  · refine eq_of_bits (setF_wf _ _ (by omega)) (Nat.or_lt_two_pow (setF_wf p _ (by omega)) (Nat.pow_lt_pow_right (a := 2) (by omega) (Nat.mod_lt _ (by omega)))) fun k hk => ?_
    rw [Nat.testBit_or, setF, setF, word_bit, word_bit, Nat.testBit_two_pow]
    simp only [hk, decide_true, Bool.true_and]
    congr 1
    rw [Bool.eq_iff_iff]; simp; omega
  · intro j hj hne
    refine eq_of_bits (setF_wf _ _ hj) (setF_wf _ _ hj) fun k hk => ?_
    rw [setF, setF, word_bit, word_bit]
    simp only [hk, decide_true, Bool.true_and]
    have : ¬ (64 * j + k = x) := by omega
    simp [this]
theorem inL_snoc (l : List Nat) (k : Nat) (h : k < l.length) : inL (l.take (k + 1)) = fun i => inL (l.take k) i || i == l[k] := by
  funext i
  unfold inL
  rw [List.take_succ_eq_append_getElem h, Bool.eq_iff_iff]
  simp only [List.mem_append, List.mem_singleton, decide_eq_true_eq, Bool.or_eq_true, beq_iff_eq]
set_option maxHeartbeats 800000 in
theorem of_any (l : List Nat) (hl : ∀ x ∈ l, x ≤ 255) (hn : l.length ≤ 140737488355328) (a : Option Addr) (c : Nat) (w : World) (H : RowN .u8 w a l) :
    Calls Try.prog 39 #[.slice a l.length c] w fun e w' => e = .returned (.agg (sc (setF (inL l)))) ∧ Below w.heap.size w w' := by
  go_enter Try.func39, Try.ntmps39
  go_wp2
  go_loopw [8] (fun j wr => ∃ k : Nat, k ≤ l.length ∧ j = .int .i64 k ∧ wr.heap[w.heap.size]? = some (.cells (sc zF) 30 (0, 0)) ∧ wr.heap[w.heap.size + 1]? = some (.cells (sc (setF (inL (l.take k)))) 30 (0, 0)) ∧ Below w.heap.size w wr) (fun j _ => l.length - (intOf j).toNat)
  case atStart =>
    refine ⟨0, by omega, rfl, heap_alloc2_old w _ _, (heap_alloc2_new w _ _).trans ?_, ((Below.refl _ _).alloc (Nat.le_refl _) _).alloc (by simp) _⟩
    rw [← sc_zero, show sc zF = sc (setF (inL (l.take 0))) from sc_ext zF_wf (setF_wf _) fun i _ => by rw [setF_mem]; simp [mem, zF, inL]]
  case round =>
    obtain ⟨k, hk, rfl, h0, h1, hb⟩ := hrel
    have H1 := Lib.hid h1
    have H0 := Lib.hid h0
    have hz : w.heap.size + 1 < wr.heap.size := (Array.getElem?_eq_some_iff.1 h1).1
    clear h1 h0
    by_cases hlt : k < l.length
    · obtain ⟨b, off, rfl, hc⟩ := H k hlt
      have hc' := (hb.cell (p := ⟨b, off + k, none⟩) (block_lt_of_cell hc)).trans hc
      have hx := hl _ (List.getElem_mem hlt)
      clear hc H
      generalize hy : l[k] = x at *
      have HY := Lib.hid hy
      clear hy
      have hcell := (cell_of_row _ _ (x / 64) _ 30 (0, 0) H1.out).trans (sc_at _ (x / 64) (by omega))
      have hfr := frozen_of_row _ _ (x / 64) _ 30 H1.out
      go_wp2
      go_roundw
      case rel =>
        refine ⟨k + 1, by omega, by go_num, ?_, ?_, ?_⟩
        · rw [heap_setCell_other _ _ _ _ (by simp)]; exact H0.out
        · refine (heap_setCell_same _ _ _ _ _ _ H1.out).trans ?_
          rw [set_step _ _ hx, inL_snoc l k hlt, HY.out]
        · exact hb.setCell (by simp) _
      case measure => simp [intOf]; omega
    · obtain rfl : k = l.length := by omega
      rw [List.take_length] at H1
      have r1 := row4 H1.out
      have r0 := row4 H0.out
      obtain ⟨⟨a0, a1, a2, a3⟩, -⟩ := r1
      obtain ⟨⟨b0, b1, b2, b3⟩, ⟨d0, d1, d2, d3⟩⟩ := r0
      go_wp2
      refine bodyPost_ret (v := .agg (sc (setF (inL l)))) (results_cell_row rfl _ _ w.heap.size 30 (sc (setF (inL l))) (0, 0) (.array 4 28) rfl (store4 H0.out _ _ _ _) Try.underlying30 rfl (by kernel_rfl)) rfl ?_
      exact ⟨rfl, (((hb.setCell (by simp) _).setCell (by simp) _).setCell (by simp) _).setCell (by simp) _⟩
end Go.Proofs.Ytdphcblbkdgbhaa.BS
