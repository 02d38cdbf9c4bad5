import Derived.Test.YtdphcblbkdgbhaaP3
namespace Go.Proofs.Ytdphcblbkdgbhaa
open Go.RowKit
open BS (RowN setF inL sc)
def words (f : Nat → Nat) : W4 := ⟨f 0, f 1, f 2, f 3⟩
def clsIt (c : Nat) : It := ⟨1, 0, 0, words (setF (inL [c]))⟩
theorem RowN.get {w wr : World} {a : Option Addr} {l : List Nat} (N : RowN .u8 w a l) (hb : Hid (Below w.heap.size w wr)) (j : Nat) (hj : j < l.length) :
    ∃ b off, a = some ⟨b, off, none⟩ ∧ b < wr.heap.size ∧ wr.cell? ⟨b, off + j, none⟩ = some (.int .u8 (l[j] : Nat)) := by
  obtain ⟨b, off, rfl, h0⟩ := N j hj
  have h0' := cell_keep hb.out h0
  exact ⟨b, off, rfl, block_lt_of_cell h0', h0'⟩
set_option maxRecDepth 20000 in
set_option maxHeartbeats 6400000 in
theorem lit1_any (c : Nat) (hc : c ≤ 255) (w : World) :
    Calls Try.prog 38 #[.int .u8 c] w fun e w' => e = .returned (.agg (clsIt c).cells.toArray) ∧ Below w.heap.size w w' := by
  have HB0 : Hid (Below w.heap.size w ((w.alloc (.cells #[.int .i64 0, .int .i64 0, .int .i64 0, .int .u64 0, .int .u64 0, .int .u64 0, .int .u64 0] 64)).alloc (.cells #[.int .u8 c] 5))) := ((Below.refl _ _).alloc (Nat.le_refl _) _).alloc (by simp) _
  have hx0 : Hid (((w.alloc (.cells #[.int .i64 0, .int .i64 0, .int .i64 0, .int .u64 0, .int .u64 0, .int .u64 0, .int .u64 0] 64)).alloc (.cells #[.int .u8 c] 5)).heap[w.heap.size]? = some (.cells #[.int .i64 0, .int .i64 0, .int .i64 0, .int .u64 0, .int .u64 0, .int .u64 0, .int .u64 0] 64 (0, 0))) := (Below.heap_alloc _ _ _ (by simp)).trans (heap_alloc_new w _)
  have hx1 := heap_alloc2_new w (.cells #[.int .i64 0, .int .i64 0, .int .i64 0, .int .u64 0, .int .u64 0, .int .u64 0, .int .u64 0] 64) (.cells #[.int .u8 c] 5)
  have HROW : Hid (RowN .u8 ((w.alloc (.cells #[.int .i64 0, .int .i64 0, .int .i64 0, .int .u64 0, .int .u64 0, .int .u64 0, .int .u64 0] 64)).alloc (.cells #[.int .u8 c] 5)) (some ⟨w.heap.size + 1, 0, none⟩) [c]) := Lib.hid (fun j hj => ⟨w.heap.size + 1, 0, rfl, by
    obtain rfl : j = 0 := by simp at hj; omega
    exact (cell_of_row _ (w.heap.size + 1) 0 _ _ _ hx1).trans rfl⟩)
  clear hx1
  go_enter Try.func38, Try.ntmps38
  go_wp2_with (fail)
  generalize (w.alloc (.cells #[.int .i64 0, .int .i64 0, .int .i64 0, .int .u64 0, .int .u64 0, .int .u64 0, .int .u64 0] 64)).alloc (.cells #[.int .u8 c] 5) = W at *
  have hWz : w.heap.size < W.heap.size := (Array.getElem?_eq_some_iff.1 hx0.out).1
  refine (BS.of_any [c] (fun x hx => by simp at hx; omega) (by simp) _ 1 W HROW.out).mono ?_
  rintro e w2 ⟨rfl, hb⟩
  have hx2 := (hb.block _ hWz).trans hx0.out
  have f0 := frozen_of_row w2 w.heap.size 0 _ _ hx2
  have f1 := frozen_of_row w2 w.heap.size 1 _ _ hx2
  have f2 := frozen_of_row w2 w.heap.size 2 _ _ hx2
  have f3 := frozen_of_row w2 w.heap.size 3 _ _ hx2
  have f4 := frozen_of_row w2 w.heap.size 4 _ _ hx2
  have f5 := frozen_of_row w2 w.heap.size 5 _ _ hx2
  have f6 := frozen_of_row w2 w.heap.size 6 _ _ hx2
  have c0 := cell_of_row w2 w.heap.size 0 _ _ _ hx2
  have c1 := cell_of_row w2 w.heap.size 1 _ _ _ hx2
  have c2 := cell_of_row w2 w.heap.size 2 _ _ _ hx2
  have c3 := cell_of_row w2 w.heap.size 3 _ _ _ hx2
  have c4 := cell_of_row w2 w.heap.size 4 _ _ _ hx2
  have c5 := cell_of_row w2 w.heap.size 5 _ _ _ hx2
  have c6 := cell_of_row w2 w.heap.size 6 _ _ _ hx2
  simp only [List.getElem?_toArray, List.getElem?_cons_zero, List.getElem?_cons_succ] at c0 c1 c2 c3 c4 c5 c6
  have HX2 := Lib.hid hx2
  have HB2 := Lib.hid (HB0.out.trans (hb.mono HB0.out.size))
  simp only [sc]
  clear hx2 hb
  go_wp2
  refine bodyPost_ret (v := .agg #[.int .i64 1, .int .i64 0, .int .i64 0, .int .u64 (setF (inL [c]) 0), .int .u64 (setF (inL [c]) 1), .int .u64 (setF (inL [c]) 2), .int .u64 (setF (inL [c]) 3)]) (results_cell_row rfl _ _ w.heap.size 64 #[.int .i64 1, .int .i64 0, .int .i64 0, .int .u64 (setF (inL [c]) 0), .int .u64 (setF (inL [c]) 1), .int .u64 (setF (inL [c]) 2), .int .u64 (setF (inL [c]) 3)] (0, 0) _ rfl (heap_setCell_same _ _ _ _ _ _ (heap_setCell_same _ _ _ _ _ _ (heap_setCell_same _ _ _ _ _ _ (heap_setCell_same _ _ _ _ _ _ (heap_setCell_same _ _ _ _ _ _ (heap_setCell_same _ _ _ _ _ _ (heap_setCell_same _ _ _ _ _ _ HX2.out))))))) Try.underlying64 rfl (by kernel_rfl)) rfl ?_
  exact ⟨rfl, ((((((HB2.out.setCell (by simp) _).setCell (by simp) _).setCell (by simp) _).setCell (by simp) _).setCell (by simp) _).setCell (by simp) _).setCell (by simp) _⟩
set_option maxRecDepth 20000 in
set_option maxHeartbeats 6400000 in
theorem mappedB_any (l : List Nat) (hl : ∀ x ∈ l, x ≤ 255) (hn : l.length ≤ 100000) (a : Option Addr) (c : Nat) (w : World) (H : RowN .u8 w a l) :
    Calls Try.prog 37 #[.slice a l.length c, .func (.func 38) #[] #[]] w (RetIts 64 (l.map clsIt) w) := by
  have HH := Lib.hid H
  have HL := Lib.hid hl
  obtain ⟨i0, hi0, hz0, hz1, hz2⟩ := info_parts infoBIt
  clear H hl
  have hi0 := Lib.hid hi0
  have hz0 := Lib.hid hz0
  have hz1 := Lib.hid hz1
  have hz2 := Lib.hid hz2
  go_enter Try.func37, Try.ntmps37
  go_wp2_with (at_make; refine wpList_make_own w rfl _ _ 60 rfl w.heap.size 64 i0 _ 7 Try.underlying60 hi0.out hz0.out hz1.out .i64 .i64 _ l.length (by rfl) (by rfl) (by rfl) (by rw [hz2.out]; omega) (by simp only [maxLen]; omega) (Nat.le_refl _) ?_; intro w1 hown hg1; have HOW := Lib.hid hown; have HG1 := Lib.hid hg1; clear hown hg1)
  have HB1 : Hid (Below w.heap.size w w1) := Lib.hid ((Below.refl _ _).grown HG1.out (Nat.le_refl _) (fun k h => by cases h))
  have HO1 : Hid (w1.ownsRow w.heap.size 64 7 (.slice (some ⟨w.heap.size, 0, none⟩) 0 l.length) 0 (rowIt ((l.map clsIt).take 0))) := HOW
  clear HOW HG1
  go_loopw [5, 13] (fun v j wr => ∃ (k : Nat) (xa : Option Addr) (xc : Nat), k ≤ l.length ∧ j = .int .i64 k ∧ v = .slice xa k xc ∧ Hid (wr.ownsRow w.heap.size 64 7 (.slice xa k xc) k (rowIt ((l.map clsIt).take k))) ∧ Hid (Below w.heap.size w wr)) (fun _ j _ => l.length - (intOf j).toNat)
  case atStart => exact ⟨0, some ⟨w.heap.size, 0, none⟩, l.length, Nat.zero_le _, rfl, rfl, HO1, HB1⟩
  case round =>
    obtain ⟨k, xa, xc, hk, rfl, rfl, HO, HB⟩ := hrel
    clear HO1 HB1
    by_cases hlt : k < l.length
    · obtain ⟨b, off, rfl, hbz, r0⟩ := RowN.get HH.out HB k hlt
      have hx := HL.out _ (List.getElem_mem hlt)
      have HSN : Hid (rowIt ((l.map clsIt).take k) ++ (clsIt l[k]).cells = rowIt ((l.map clsIt).take (k + 1))) := Lib.hid (by
        rw [take_snoc' (by simpa using hlt), rowIt_snoc]; simp)
      generalize l[k] = x at *
      go_wp2_with (fail)
      refine (lit1_any x hx wr).mono ?_
      rintro e w2 ⟨rfl, hb⟩
      have HO2 := Lib.hid (own_below HO.out hb)
      have HB2 := Lib.hid (HB.out.trans (hb.mono HB.out.size))
      have hwz2 : w.heap.size ≤ w2.heap.size := HB2.out.size
      simp only [It.cells, clsIt, words] at HSN ⊢
      clear hb HO
      go_wp2_with (at_builtin; refine app1 (P := Try.prog) (w0 := w) w.heap.size rfl _ _ 60 64 (.agg #[.int .i64 0, .int .i64 0, .int .i64 0, .int .u64 0, .int .u64 0, .int .u64 0, .int .u64 0]) 7 56 rfl Try.underlying60 infoBIt rfl (by omega) (by omega) _ k _ HO2.out HB2.out _ rfl (by rfl) rfl (by simp [Value.oneCell']) (by omega) (by omega) ?_; intro vn w4 hown hbn hgn hatn; obtain ⟨xN', cN', rfl, hnn2⟩ := own_slice hown; have hown := Lib.hid hown; have hbn := Lib.hid hbn; clear hatn hgn)
      have HO4 : Hid (w4.ownsRow w.heap.size 64 7 (.slice xN' (k + 1) cN') (k + 1) (rowIt ((l.map clsIt).take (k + 1)))) := Lib.hid (by
        rw [← HSN.out]; exact hown.out)
      go_roundw
      case rel => exact ⟨k + 1, xN', cN', by omega, by go_num, rfl, HO4, hbn⟩
      case measure => simp [intOf]; omega
    · obtain rfl : k = l.length := by omega
      have HO4 : Hid (wr.ownsRow w.heap.size 64 7 (.slice xa l.length xc) l.length (rowIt (l.map clsIt))) := Lib.hid (by have h := HO.out; rwa [List.take_of_length_le (by simp)] at h)
      clear HO
      go_wp2
      go_ret
      obtain ⟨a2, c2, e2, hnil⟩ := own_slice HO4.out
      refine ⟨xa, xc, by simp, fun h => by injection e2 with e3 _ e4; rw [e4]; exact hnil (e3.symm.trans h), ?_, HB.out⟩
      rw [List.length_map]; exact HO4.out
end Go.Proofs.Ytdphcblbkdgbhaa
