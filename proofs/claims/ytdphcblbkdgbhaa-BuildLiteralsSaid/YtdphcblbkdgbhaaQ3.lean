import Derived.Test.YtdphcblbkdgbhaaQ2
namespace Go.Proofs.Ytdphcblbkdgbhaa
open Go.RowKit
open BS (RowN setF inL sc)
def headR (l : List Nat) : List It := if 1 < l.length then [⟨3, l.length, 0, zW⟩] else []
theorem litR_eq (l : List Nat) (h : ¬ l.length = 0) : headR l ++ l.map clsIt = litL l := by
  unfold headR litL
  rw [if_neg h]
  by_cases h1 : l.length = 1
  · rw [if_neg (by omega), if_pos h1]; rfl
  · rw [if_pos (by omega), if_neg h1]; rfl
set_option maxRecDepth 20000 in
set_option maxHeartbeats 6400000 in
theorem rlit_any (l : List Nat) (hl : ∀ x ∈ l, x ≤ 255) (hn : l.length ≤ 90000) (a : Option Addr) (c : Nat) (hc : l.length ≤ c) (w : World) (H : RowN .u8 w a l) :
    Calls Try.prog 27 #[.slice a l.length c] w (RetIts 32 (litL l) w) := by
  have HH := Lib.hid H
  have HL := Lib.hid hl
  clear H hl
  by_cases h0 : l.length = 0
  · have HX : Hid (litL l = [⟨0, 0, 0, zW⟩]) := Lib.hid (by simp [litL, h0])
    have HOW : Hid ((w.alloc (.cells #[.int .i64 0, .int .i64 0, .int .i64 0, .int .u64 0, .int .u64 0, .int .u64 0, .int .u64 0] 32)).ownsRow w.heap.size 32 7 (.slice (some ⟨w.heap.size, 0, none⟩) 1 1) 1 (rowIt [⟨0, 0, 0, zW⟩])) := Lib.hid (own_lit (W := w) (base := w.heap.size) (size := 7) 32 _ rfl (Nat.le_refl _))
    have HBW : Hid (Below w.heap.size w (w.alloc (.cells #[.int .i64 0, .int .i64 0, .int .i64 0, .int .u64 0, .int .u64 0, .int .u64 0, .int .u64 0] 32))) := (Below.refl _ _).alloc (Nat.le_refl _) _
    go_enter Try.func27, Try.ntmps27
    go_wp2
    go_ret
    rw [HX.out]
    exact ⟨some ⟨w.heap.size, 0, none⟩, 1, by simp, fun h => (by cases h), HOW.out, HBW.out⟩
  have HX := Lib.hid (litR_eq l h0)
  -- behind the head
  have HEAD : ∃ (n : Nat), n ≤ 1 ∧ Hid (n = (headR l).length) := ⟨_, by unfold headR; split <;> simp, rfl⟩
  go_enter Try.func27, Try.ntmps27
  have HO0 : Hid (w.ownsRow w.heap.size 32 7 (.slice none 0 0) 0 (rowIt [])) := own_nil _ _ _ _
  have HB0 : Hid (Below w.heap.size w w) := Below.refl _ _
  rcases (show l.length ≤ 1 ∨ 1 < l.length by omega) with h1 | h1
  case' inl =>
    have hh : Hid (headR l = []) := Lib.hid (by unfold headR; rw [if_neg (by omega)])
    have HO1 : Hid (w.ownsRow w.heap.size 32 7 (.slice none 0 0) 0 (rowIt (headR l ++ (l.map clsIt).take 0))) := Lib.hid (by rw [hh.out]; exact HO0.out)
    have HN0 : Hid (0 = (headR l).length + 0) := Lib.hid (by rw [hh.out]; rfl)
    clear HEAD
    go_wp2_with (fail)
  case' inr =>
    have hh : Hid (headR l = [⟨3, l.length, 0, zW⟩]) := Lib.hid (by unfold headR; rw [if_pos (by omega)])
    have HN0 : Hid (0 + 1 = (headR l).length + 0) := Lib.hid (by rw [hh.out]; rfl)
    clear HEAD
    go_wp2_with (at_builtin; refine app1 (P := Try.prog) (w0 := w) w.heap.size rfl _ _ 25 32 (.agg #[.int .i64 0, .int .i64 0, .int .i64 0, .int .u64 0, .int .u64 0, .int .u64 0, .int .u64 0]) 7 56 rfl Try.underlying25 infoVIt rfl (by omega) (by omega) _ 0 _ HO0.out HB0.out _ rfl (by rfl) rfl (by simp [Value.oneCell']) (by omega) (by omega) ?_; intro vn w4 hown hbn hgn hatn; obtain ⟨xN', cN', rfl, hnn2⟩ := own_slice hown; have hown := Lib.hid hown; have hbn := Lib.hid hbn; clear hatn hgn)
    have HO1 : Hid (w4.ownsRow w.heap.size 32 7 (.slice xN' (0 + 1) cN') (0 + 1) (rowIt (headR l ++ (l.map clsIt).take 0))) := Lib.hid (by rw [hh.out]; exact hown.out)
  all_goals
    go_loopw [3, 4] (fun v j wr => ∃ (k n : Nat) (xa : Option Addr) (xc : Nat), k ≤ l.length ∧ j = .int .i64 k ∧ v = .slice xa n xc ∧ Hid (n = (headR l).length + k) ∧ n ≤ k + 1 ∧ Hid (wr.ownsRow w.heap.size 32 7 (.slice xa n xc) n (rowIt (headR l ++ (l.map clsIt).take k))) ∧ Hid (Below w.heap.size w wr)) (fun _ j _ => l.length - (intOf j).toNat)
    case atStart => first | exact ⟨0, 0, none, 0, Nat.zero_le _, rfl, rfl, HN0, by omega, HO1, HB0⟩ | exact ⟨0, 0 + 1, xN', cN', Nat.zero_le _, rfl, by simp, HN0, by omega, HO1, hbn⟩
    case round =>
      obtain ⟨k, n, xa, xc, hk, rfl, rfl, hnk, hnk1, HO, HB⟩ := hrel
      clear HO1 HN0 HB0 HO0
      by_cases hlt : k < l.length
      · obtain ⟨b, off, rfl, hbz, r0⟩ := RowN.get HH.out HB k hlt
        have hx := HL.out _ (List.getElem_mem hlt)
        have HSN : Hid (rowIt (headR l ++ (l.map clsIt).take k) ++ (clsIt l[k]).cells = rowIt (headR l ++ (l.map clsIt).take (k + 1))) := Lib.hid (by
          rw [take_snoc' (by simpa using hlt), rowIt_snoc]; simp)
        generalize l[k] = x at *
        have HRW : Hid (RowN .u8 wr (some ⟨b, off + k, none⟩) [x]) := Lib.hid (fun j hj => ⟨b, off + k, rfl, by
          obtain rfl : j = 0 := by simp at hj; omega
          exact r0⟩)
        have hc1 : k + 1 ≤ c := by omega
        have hc2 : ¬ c = k := by omega
        clear r0
        go_wp2_with (fail)
        refine (BS.refList_any [x] (fun y hy => by simp at hy; omega) (by simp) _ _ wr HRW.out).mono ?_
        rintro e w2 ⟨rfl, hb⟩
        have HO2 := Lib.hid (own_below HO.out hb)
        have HB2 := Lib.hid (HB.out.trans (hb.mono HB.out.size))
        have hwz2 : w.heap.size ≤ w2.heap.size := HB2.out.size
        simp only [sc]
        simp only [It.cells, clsIt, words] at HSN
        clear hb HO hc1 hc2
        go_wp2_with (at_builtin; refine app1 (P := Try.prog) (w0 := w) w.heap.size rfl _ _ 25 32 (.agg #[.int .i64 0, .int .i64 0, .int .i64 0, .int .u64 0, .int .u64 0, .int .u64 0, .int .u64 0]) 7 56 rfl Try.underlying25 infoVIt rfl (by omega) (by omega) _ n _ HO2.out HB2.out _ rfl (by rfl) rfl (by simp [Value.oneCell']) (by omega) (by omega) ?_; intro vn w5 hown5 hbn5 hgn hatn; obtain ⟨yN', dN', rfl, hnn5⟩ := own_slice hown5; have hown5 := Lib.hid hown5; have hbn5 := Lib.hid hbn5; clear hatn hgn)
        have HO4 : Hid (w5.ownsRow w.heap.size 32 7 (.slice yN' (n + 1) dN') (n + 1) (rowIt (headR l ++ (l.map clsIt).take (k + 1)))) := Lib.hid (by rw [← HSN.out]; exact hown5.out)
        have HN4 : Hid (n + 1 = (headR l).length + (k + 1)) := Lib.hid (by have := hnk.out; omega)
        go_roundw
        case rel =>
          first
            | exact ⟨k + 1, n + 1, yN', dN', by omega, by go_num, rfl, HN4, by omega, HO4, hbn5⟩
            | exact ⟨k + 1, by omega, by omega, n + 1, yN', dN', ⟨rfl, rfl, rfl⟩, HN4, by omega, HO4, Lib.hid trivial⟩
        case measure => simp [intOf]; omega
      · obtain rfl : k = l.length := by omega
        have HO4 : Hid (wr.ownsRow w.heap.size 32 7 (.slice xa n xc) n (rowIt (litL l))) := Lib.hid (by have h := HO.out; rw [List.take_of_length_le (by simp), HX.out] at h; exact h)
        have HLN : Hid ((litL l).length = n) := Lib.hid (by rw [← HX.out, hnk.out]; simp)
        clear HO
        go_wp2
        go_ret
        obtain ⟨a2, c2, e2, hnil⟩ := own_slice HO4.out
        refine ⟨xa, xc, by rw [HLN.out]; simp, fun h => by injection e2 with e3 _ e4; rw [e4]; exact hnil (e3.symm.trans h), ?_, HB.out⟩
        rw [HLN.out]; exact HO4.out
end Go.Proofs.Ytdphcblbkdgbhaa
