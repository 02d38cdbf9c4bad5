import Derived.Test.YtdphcblbkdgbhaaP4
namespace Go.Proofs.Ytdphcblbkdgbhaa
open Go.RowKit
open BS (RowN setF inL sc)
def zW : W4 := ⟨0, 0, 0, 0⟩
/-- build.Literal. -/
def litL (l : List Nat) : List It := if l.length = 0 then [⟨0, 0, 0, zW⟩] else if l.length = 1 then l.map clsIt else ⟨3, l.length, 0, zW⟩ :: l.map clsIt
set_option maxRecDepth 20000 in
set_option maxHeartbeats 6400000 in
theorem blit_any (l : List Nat) (hl : ∀ x ∈ l, x ≤ 255) (hn : l.length ≤ 90000) (a : Option Addr) (c : Nat) (w : World) (H : RowN .u8 w a l) :
    Calls Try.prog 26 #[.slice a l.length c] w (RetIts 64 (litL l) w) := by
  have CM := Lib.hid (mappedB_any l hl (by omega) a c w H)
  clear H hl
  go_enter Try.func26, Try.ntmps26
  go_wp2_with (fail)
  refine CM.out.mono ?_
  rintro e w1 ⟨xa, xc, rfl, hnil, ho, hb⟩
  rw [List.length_map] at ho ⊢
  have HO := Lib.hid ho
  have HB := Lib.hid hb
  have hwz : w.heap.size ≤ w1.heap.size := hb.size
  clear ho hb CM
  by_cases h0 : l.length = 0
  · have HL : Hid (litL l = [⟨0, 0, 0, zW⟩]) := Lib.hid (by simp [litL, h0])
    have HOW : Hid ((w1.alloc (.cells #[.int .i64 0, .int .i64 0, .int .i64 0, .int .u64 0, .int .u64 0, .int .u64 0, .int .u64 0] 64)).ownsRow w.heap.size 64 7 (.slice (some ⟨w1.heap.size, 0, none⟩) 1 1) 1 (rowIt [⟨0, 0, 0, zW⟩])) := Lib.hid (own_lit (W := w1) (base := w.heap.size) (size := 7) 64 _ rfl hwz)
    have HBW := Lib.hid (HB.out.alloc (o := .cells #[.int .i64 0, .int .i64 0, .int .i64 0, .int .u64 0, .int .u64 0, .int .u64 0, .int .u64 0] 64) hwz)
    go_wp2
    go_ret
    rw [HL.out]
    exact ⟨some ⟨w1.heap.size, 0, none⟩, 1, by simp, fun h => (by cases h), HOW.out, HBW.out⟩
  by_cases h1 : l.length = 1
  · have HL : Hid (litL l = l.map clsIt) := Lib.hid (by simp [litL, h1])
    have h1' := Lib.hid h1
    have d1 : ((l.length : Int) == 1) = true := by rw [h1]; rfl
    have d0 : ((l.length : Int) == 0) = false := by rw [h1]; rfl
    clear h1 h0
    go_wp2
    go_ret
    rw [HL.out]
    exact ⟨xa, xc, by simp, hnil, by rw [List.length_map]; exact HO.out, HB.out⟩
  · have HL : Hid (litL l = ⟨3, l.length, 0, zW⟩ :: l.map clsIt) := Lib.hid (by simp [litL, h0, h1])
    have HOW : Hid ((w1.alloc (.cells #[.int .i64 3, .int .i64 l.length, .int .i64 0, .int .u64 0, .int .u64 0, .int .u64 0, .int .u64 0] 64)).ownsRow w.heap.size 64 7 (.slice (some ⟨w1.heap.size, 0, none⟩) 1 1) 1 (rowIt [⟨3, l.length, 0, zW⟩])) := Lib.hid (own_lit (W := w1) (base := w.heap.size) (size := 7) 64 _ rfl hwz)
    have HBW := Lib.hid (HB.out.alloc (o := .cells #[.int .i64 3, .int .i64 l.length, .int .i64 0, .int .u64 0, .int .u64 0, .int .u64 0, .int .u64 0] 64) hwz)
    have HC := Lib.hid (own_cells (own_alloc HO.out (.cells #[.int .i64 3, .int .i64 l.length, .int .i64 0, .int .u64 0, .int .u64 0, .int .u64 0, .int .u64 0] 64)))
    have HLEN : Hid ((rowIt (l.map clsIt)).length = l.length * 7) := Lib.hid (by rw [rowIt_len, List.length_map])
    have hwz3 : w.heap.size ≤ (w1.alloc (.cells #[.int .i64 3, .int .i64 l.length, .int .i64 0, .int .u64 0, .int .u64 0, .int .u64 0, .int .u64 0] 64)).heap.size := by simp; omega
    go_wp2_with (at_builtin; refine appN (P := Try.prog) (w0 := w) w.heap.size rfl _ _ 60 64 (.agg #[.int .i64 0, .int .i64 0, .int .i64 0, .int .u64 0, .int .u64 0, .int .u64 0, .int .u64 0]) 7 56 rfl Try.underlying60 infoBIt rfl (by omega) (by omega) _ 1 _ HOW.out HBW.out xa l.length xc _ rfl (by rfl) HLEN.out HC.out hnil (rowIt_one _) hwz3 (by omega) ?_; intro vn w4 hown hbn hgn hatn; obtain ⟨xN', cN', rfl, hnn2⟩ := own_slice hown; have hown := Lib.hid hown; have hbn := Lib.hid hbn; clear hatn hgn)
    go_ret
    rw [HL.out]
    have e1 : 1 + l.length = ((⟨3, l.length, 0, zW⟩ : It) :: l.map clsIt).length := by simp; omega
    refine ⟨xN', cN', ?_, hnn2, ?_, hbn.out⟩
    · rw [← e1]; simp
    · rw [← e1]
      have h := hown.out
      rw [rowIt_app] at h
      exact h
end Go.Proofs.Ytdphcblbkdgbhaa
