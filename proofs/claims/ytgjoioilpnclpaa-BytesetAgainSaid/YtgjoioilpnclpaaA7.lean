import Derived.Test.YtgjoioilpnclpaaA6
import Derived.Maps.AppendAt
namespace Go.Proofs.Ytgjoioilpnclpaa
open Go.RowKit
theorem own_base' {w : World} {base : Nat} {e : TypeId} {size n : Nat} {v : Value} {xs : List Value} (h : w.ownsRow base e size v n xs) (k : Nat) (hk : v.ownBlock = some k) : base ≤ k := by
  rcases h.2 with ⟨rfl, _⟩ | ⟨g, cap, cur, rfl, hb, _⟩
  · simp [Value.ownBlock] at hk
  · have : g = k := by simpa [Value.ownBlock] using hk
    omega
theorem own_nil (W : World) (base : Nat) (e : TypeId) (size : Nat) : W.ownsRow base e size (.slice none 0 0) 0 [] := ⟨by simp, .inl ⟨rfl, rfl⟩⟩
theorem own_row {w : World} {base : Nat} {e : TypeId} {size n : Nat} {v : Value} {xs : List Value} (h : w.ownsRow base e size v n xs) (hn : 0 < n) :
    ∃ g cap, v = .slice (some ⟨g, 0, none⟩) n cap ∧ base ≤ g ∧ g < w.heap.size ∧ n ≤ cap ∧ (∀ j u, xs[j]? = some u → w.cell? ⟨g, j, none⟩ = some u) ∧ ∀ j, w.frozen? ⟨g, j, none⟩ = false := by
  rcases h.2 with ⟨_, h0⟩ | ⟨g, cap, cur, rfl, hb, hh, hc, _, _, ht⟩
  · omega
  · refine ⟨g, cap, rfl, hb, (Array.getElem?_eq_some_iff.1 hh).1, hc, fun j u hu => ?_, fun j => frozen_of_row w g j _ e hh⟩
    rw [cell_of_row w g j _ e (0, 0) hh]
    rw [← ht, List.getElem?_take] at hu
    split at hu
    · simpa using hu
    · cases hu
theorem news_lit (W : World) (ys : Array Value) (e : TypeId) (j : Nat) (u : Value) (h : ys.toList[j]? = some u) : (W.alloc (.cells ys e)).cell? ((⟨W.heap.size, 0, none⟩ : Addr).add j) = some u := by
  rw [show (⟨W.heap.size, 0, none⟩ : Addr).add j = ⟨W.heap.size, j, none⟩ from by unfold Addr.add; split <;> simp_all]
  rw [cell_of_row _ _ j _ e (0, 0) (heap_alloc_new W _)]
  simpa using h
/-- append(v, y): y a literal of one element, laid just before. -/
theorem app1 {P : Program} {ops : Array Oper} {rest : List Oper} {o : Oper} {a : Act} {Q : Exit → Act → World → Prop} {w0 W : World} (base : Nat) (hgd : o.guard = none) (s x : Operand) (t e : TypeId) (z : Value) (size bytes : Nat)
    (ho : o.op = .call { callee := .builtin .append, args := #[s, x], argTypes := #[t, t] })
    (ht : P.underlying t = some (.slice e)) (hinfo : (P.info? e).map (fun i => (i.zero, i.size, i.bytes)) = some (some z, size, bytes)) (hz : z.cells.size = size) (hb0 : 0 < bytes) (hs0 : 0 < size)
    (v : Value) (n : Nat) (xs : List Value) (HO : W.ownsRow base e size v n xs) (HB : Below base w0 W) (ys : Array Value) (hs : a.eval s = v) (hx : a.eval x = .slice (some ⟨W.heap.size, 0, none⟩) 1 1) (hy : ys.size = size) (h1 : ∀ u ∈ ys.toList, u.oneCell' = true)
    (hbase : base ≤ W.heap.size) (hl : (n + 1) * bytes ≤ 140737488355328)
    (h : ∀ v1 w1, w1.ownsRow base e size v1 (n + 1) (xs ++ ys.toList) → Below base w0 w1 → wpList P ops Q rest (a.put o.dst v1) w1) :
    wpList P ops Q (o :: rest) a (W.alloc (.cells ys e)) := by
  obtain ⟨i0, hi, hzz⟩ := Option.map_eq_some_iff.1 hinfo
  simp only [Prod.mk.injEq] at hzz
  obtain ⟨hz0, hz1, hz2⟩ := hzz
  have hlen : n + 1 ≤ 140737488355328 := Nat.le_trans (Nat.le_mul_of_pos_right _ hb0) hl
  refine wpList_append_own (W.alloc (.cells ys e)) hgd s x t ho base e i0 z size bytes ht hi hz0 hz1 hz2 hz hs0 v n xs hs (HO.alloc _) ⟨W.heap.size, 0, none⟩ 1 1 ys.toList hx (by simp [hy])
    (news_lit W ys e) h1 (by simp only [maxLen]; omega) hl (by simp; omega) ?_
  intro v1 w1 hown hg _
  exact h v1 w1 hown ((HB.alloc hbase _).grown hg (by simp; omega) (own_base' HO))
theorem Try.info4 : (Try.prog.info? 4).map (fun i => (i.zero, i.size, i.bytes)) = some (some (.bool false), 1, 1) := by kernel_rfl
theorem Try.info5 : (Try.prog.info? 5).map (fun i => (i.zero, i.size, i.bytes)) = some (some (.int .u8 0), 1, 1) := by kernel_rfl
theorem Try.info32 : (Try.prog.info? 32).map (fun i => (i.zero, i.size, i.bytes)) = some (some (.agg #[.int .u8 0, .int .u8 0]), 2, 2) := by kernel_rfl
/-- 256 bools. -/
def bc (m : Nat → Bool) : Array Value := ((List.range 256).map fun j => Value.bool (m j)).toArray
theorem bc_at (m : Nat → Bool) (j : Nat) (h : j < 256) : (bc m)[j]? = some (.bool (m j)) := by
  simp [bc, h]
theorem bc_set (m : Nat → Bool) (x : Nat) : (bc m).setIfInBounds x (.bool true) = bc (fun i => m i || i == x) := by
  unfold bc
  apply Array.ext'
  simp only [Array.toList_setIfInBounds]
  apply List.ext_getElem
  · simp
  · intro i h1 h2
    simp only [List.getElem_set, List.getElem_map, List.getElem_range]
    by_cases h : x = i
    · subst h; simp
    · have : ¬ i = x := fun e => h e.symm
      simp [h, this]
set_option maxHeartbeats 800000 in
theorem refList_any (l : List Nat) (hl : ∀ x ∈ l, x ≤ 255) (hn : l.length ≤ 140737488355328) (a : Option Addr) (c : Nat) (w : World) (H : RowN .u8 w a l) :
    Calls Try.prog 17 #[.slice a l.length c] w fun e w' => e = .returned (.agg (sc (setF (inL l)))) ∧ Below w.heap.size w w' := by
  have hmk : ∀ w : World, (Instr.makeSlice 48 (.int .i64 256) (.int .i64 256)).run Try.prog w = .ok (.slice (some ⟨w.heap.size, 0, none⟩) 256 256) (w.alloc (.cells (bc fun _ => false) 4)) := fun _ => by kernel_rfl
  go_enter Try.func17, Try.ntmps17
  go_wp2
  clear hmk
  go_loopw [4] (fun j wr => ∃ k : Nat, k ≤ l.length ∧ j = .int .i64 k ∧ wr.heap[w.heap.size]? = some (.cells (sc zF) 24 (0, 0)) ∧ wr.heap[w.heap.size + 1]? = some (.cells (bc (inL (l.take k))) 4 (0, 0)) ∧ Below w.heap.size w wr) (fun j _ => l.length - (intOf j).toNat)
  case atStart =>
    refine ⟨0, by omega, rfl, heap_alloc2_old w _ _, (heap_alloc2_new w _ _).trans ?_, ((Below.refl _ _).alloc (Nat.le_refl _) _).alloc (by simp) _⟩
    rw [show inL (l.take 0) = fun _ => false from by funext i; simp [inL]]
  case round =>
    obtain ⟨k, hk, rfl, h0, h1, hb⟩ := hrel
    have H1 := Lib.hid h1
    have H0 := Lib.hid h0
    have hz : w.heap.size + 1 < wr.heap.size := (Array.getElem?_eq_some_iff.1 h1).1
    clear h1 h0
    by_cases hlt : k < l.length
    · obtain ⟨b, off, rfl, hc⟩ := H k hlt
      have hc' := (hb.cell (p := ⟨b, off + k, none⟩) (block_lt_of_cell hc)).trans hc
      have hx := hl _ (List.getElem_mem hlt)
      clear hc H
      generalize hy : l[k] = x at *
      have HY := Lib.hid hy
      clear hy
      have hcell := (cell_of_row _ _ x _ 4 (0, 0) H1.out).trans (bc_at _ x (by omega))
      have hfr := frozen_of_row _ _ x _ 4 H1.out
      go_wp2
      go_roundw
      case rel =>
        refine ⟨k + 1, by omega, by go_num, ?_, ?_, ?_⟩
        · exact (heap_setCell_other _ _ _ _ (by simp)).trans H0.out
        · refine (heap_setCell_same _ _ _ _ _ _ H1.out).trans ?_
          rw [bc_set, inL_snoc l k hlt, HY.out]
        · exact hb.setCell (by simp) _
      case measure => simp [intOf]; omega
    · obtain rfl : k = l.length := by omega
      rw [List.take_length] at H1
      go_wp2_with (fail)
      refine (refOf_any (inL l) _ 256 wr (fun j hj => ⟨_, _, rfl, ?_⟩)).mono ?_
      · rw [Nat.zero_add]; exact (cell_of_row _ _ j _ 4 (0, 0) H1.out).trans (bc_at _ j hj)
      · rintro e w1 ⟨rfl, hb1⟩
        have R := Lib.hid ((hb1.block _ (by omega)).trans H0.out)
        obtain ⟨⟨b0, b1, b2, b3⟩, ⟨d0, d1, d2, d3⟩⟩ := row4 R.out
        simp only [sc]
        go_wp2
        refine bodyPost_ret (v := .agg (sc (setF (inL l)))) (results_cell_row rfl _ _ w.heap.size 24 (sc (setF (inL l))) (0, 0) (.array 4 22) rfl (store4 R.out _ _ _ _) Try.underlying24 rfl (by kernel_rfl)) rfl ?_
        exact ⟨rfl, ((((hb.trans (hb1.mono hb.size)).setCell (by simp) _).setCell (by simp) _).setCell (by simp) _).setCell (by simp) _⟩
def bs (p : Nat → Bool) (k : Nat) : List Value := (List.range k).map fun i => .bool (p i)
theorem bs_succ (p : Nat → Bool) (k : Nat) : bs p k ++ [.bool (p k)] = bs p (k + 1) := by
  unfold bs; rw [List.range_succ, List.map_append]; rfl
theorem bs_at (p : Nat → Bool) (k j : Nat) (h : j < k) : (bs p k)[j]? = some (.bool (p j)) := by
  simp [bs, h]
theorem between_val {lo hi k : Nat} {b : Bool} (h : between lo (hi + 1) k = b) (v : List Value) (p : Nat → Bool) (hp : p = between lo (hi + 1)) (hv : v = bs p k) : v ++ #[Value.bool b].toList = bs p (k + 1) := by
  subst hv; subst hp; subst h; exact bs_succ _ _
set_option maxRecDepth 20000 in
set_option maxHeartbeats 800000 in
theorem refRange_any (lo hi : Nat) (_h1 : lo ≤ 255) (_h2 : hi ≤ 255) (w : World) :
    Calls Try.prog 19 #[.int .i64 lo, .int .i64 hi] w fun e w' => e = .returned (.agg (sc (setF (between lo (hi + 1))))) ∧ Below w.heap.size w w' := by
  go_enter Try.func19, Try.ntmps19
  go_wp2
  have H00 := Lib.hid (heap_alloc_new w (.cells (sc zF) 24))
  have HB0 : Hid (Below w.heap.size w (w.alloc (.cells (sc zF) 24))) := (Below.refl _ _).alloc (Nat.le_refl _) _
  rw [← sc_zero]
  generalize hW : w.alloc (.cells (sc zF) 24) = W0 at *
  have hz0 : w.heap.size < W0.heap.size := (Array.getElem?_eq_some_iff.1 H00.out).1
  clear hW
  go_loopw [5, 6] (fun v j wr => ∃ k : Nat, k ≤ 256 ∧ j = .int .i64 k ∧ wr.ownsRow W0.heap.size 4 1 v k (bs (between lo (hi + 1)) k) ∧ Below W0.heap.size W0 wr) (fun _ j _ => 256 - (intOf j).toNat)
  case atStart => exact ⟨0, by omega, rfl, own_nil _ _ _ _, Below.refl _ _⟩
  case round =>
    obtain ⟨k, hk, rfl, hown, hb⟩ := hrel
    have HO := Lib.hid hown
    have hz := hb.size
    clear hown
    by_cases hlt : k < 256
    · by_cases hA : lo ≤ k
      · by_cases hB : k ≤ hi
        all_goals
          go_wp2_with (at_builtin; refine app1 W0.heap.size rfl _ _ 48 4 (.bool false) 1 1 rfl Try.underlying48 Try.info4 rfl (by omega) (by omega) _ k _ HO.out hb _ rfl rfl rfl (by simp [Value.oneCell']) (by omega) (by omega) ?_; intro v1 w1 hown1 hb1)
          rw [between_val (by simp [between]; omega) _ _ rfl rfl] at hown1
          go_roundw
          case rel => exact ⟨k + 1, by omega, by go_num, hown1, hb1⟩
          case measure => simp [intOf]; omega
      · go_wp2_with (at_builtin; refine app1 W0.heap.size rfl _ _ 48 4 (.bool false) 1 1 rfl Try.underlying48 Try.info4 rfl (by omega) (by omega) _ k _ HO.out hb _ rfl rfl rfl (by simp [Value.oneCell']) (by omega) (by omega) ?_; intro v1 w1 hown1 hb1)
        rw [between_val (by simp [between]; omega) _ _ rfl rfl] at hown1
        go_roundw
        case rel => exact ⟨k + 1, by omega, by go_num, hown1, hb1⟩
        case measure => simp [intOf]; omega
    · obtain rfl : k = 256 := by omega
      obtain ⟨g, cap, rfl, -, -, -, hg, -⟩ := own_row HO.out (by omega)
      go_wp2_with (fail)
      refine (refOf_any (between lo (hi + 1)) _ cap wr (fun j hj => ⟨g, 0, rfl, ?_⟩)).mono ?_
      · rw [Nat.zero_add]; exact hg j _ (bs_at _ 256 j hj)
      · rintro e w1 ⟨rfl, hb1⟩
        have R := Lib.hid ((hb1.block _ (by omega)).trans ((hb.block _ hz0).trans H00.out))
        obtain ⟨⟨b0, b1, b2, b3⟩, ⟨d0, d1, d2, d3⟩⟩ := row4 R.out
        simp only [sc]
        go_wp2
        refine bodyPost_ret (v := .agg (sc (setF (between lo (hi + 1))))) (results_cell_row rfl _ _ w.heap.size 24 (sc (setF (between lo (hi + 1)))) (0, 0) (.array 4 22) rfl (store4 R.out _ _ _ _) Try.underlying24 rfl (by kernel_rfl)) rfl ?_
        exact ⟨rfl, (((((HB0.out.trans (hb.mono (by omega))).trans (hb1.mono (by omega))).setCell (by simp) _).setCell (by simp) _).setCell (by simp) _).setCell (by simp) _⟩
end Go.Proofs.Ytgjoioilpnclpaa
