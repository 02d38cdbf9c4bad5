import Derived.Test.YtdphcblbkdgbhaaQ1
import Derived.Lib.SlBytesConst
namespace Go.Proofs.Ytdphcblbkdgbhaa
open Go.RowKit
open BS (RowN setF inL sc)
def litIts : Array Value := (rowIt [itA, itB, itC]).toArray
theorem rs_l0 {W : World} {b b' : Nat} {t t' : TypeId} (h : W.heap[b]? = some (.cells litIts t (0, 0))) (h' : W.heap[b']? = some (.cells #[.string nmA, .slice (some ⟨b, 0, none⟩) 3 3] t' (0, 0))) : RsAt W (some ⟨b', 0, none⟩) l0 := fun j hj => by
  obtain rfl : j = 0 := by simp [l0] at hj; omega
  exact ⟨b', 0, rfl, (cell_of_row W b' 0 _ _ _ h').trans rfl, some ⟨b, 0, none⟩, 3, (cell_of_row W b' 1 _ _ _ h').trans rfl, its_of_cells (cells_lit h _ rfl), fun h => by cases h⟩
theorem rs_no {W : World} {b' : Nat} {t' : TypeId} (h' : W.heap[b']? = some (.cells #[.string nmA, .slice none 0 0] t' (0, 0))) : RsAt W (some ⟨b', 0, none⟩) [⟨nmA, []⟩] := fun j hj => by
  obtain rfl : j = 0 := by simp at hj; omega
  exact ⟨b', 0, rfl, (cell_of_row W b' 0 _ _ _ h').trans rfl, none, 0, (cell_of_row W b' 1 _ _ _ h').trans rfl, fun j hj => by simp at hj, fun _ => rfl⟩
set_option maxRecDepth 20000 in
set_option maxHeartbeats 6400000 in
theorem awake_any (w : World) : Calls Try.prog 8 #[] w fun e w' => e = .returned (.bool true) ∧ Below w.heap.size w w' := by
  go_enter Try.func8, Try.ntmps8
  go_upto_region 2 with (fail)
  have HB0 : Hid (Below w.heap.size w ((w.alloc (.cells #[.int .i64 3, .int .i64 2, .int .i64 0, .int .u64 0, .int .u64 0, .int .u64 0, .int .u64 0, .int .i64 1, .int .i64 0, .int .i64 0, .int .u64 0, .int .u64 8589934592, .int .u64 0, .int .u64 0, .int .i64 2, .int .i64 0, .int .i64 0, .int .u64 0, .int .u64 0, .int .u64 0, .int .u64 0] 64)).alloc (.cells #[.string ⟨#[65]⟩, .slice (some ⟨w.heap.size, 0, none⟩) 3 3] 66))) := ((Below.refl _ _).alloc (Nat.le_refl _) _).alloc (by simp) _
  have HRS : Hid (RsAt ((w.alloc (.cells #[.int .i64 3, .int .i64 2, .int .i64 0, .int .u64 0, .int .u64 0, .int .u64 0, .int .u64 0, .int .i64 1, .int .i64 0, .int .i64 0, .int .u64 0, .int .u64 8589934592, .int .u64 0, .int .u64 0, .int .i64 2, .int .i64 0, .int .i64 0, .int .u64 0, .int .u64 0, .int .u64 0, .int .u64 0] 64)).alloc (.cells #[.string ⟨#[65]⟩, .slice (some ⟨w.heap.size, 0, none⟩) 3 3] 66)) (some ⟨w.heap.size + 1, 0, none⟩) l0) := Lib.hid (rs_l0 (b := w.heap.size) (t := 64) (t' := 66) ((Below.heap_alloc _ _ _ (by simp)).trans (heap_alloc_new w _)) (heap_alloc2_new w _ _))
  generalize (w.alloc (.cells #[.int .i64 3, .int .i64 2, .int .i64 0, .int .u64 0, .int .u64 0, .int .u64 0, .int .u64 0, .int .i64 1, .int .i64 0, .int .i64 0, .int .u64 0, .int .u64 8589934592, .int .u64 0, .int .u64 0, .int .i64 2, .int .i64 0, .int .i64 0, .int .u64 0, .int .u64 0, .int .u64 0, .int .u64 0] 64)).alloc (.cells #[.string ⟨#[65]⟩, .slice (some ⟨w.heap.size, 0, none⟩) 3 3] 66) = W at *
  go_wp2_with (fail)
  refine (of0 W _ 1 HRS.out).mono ?_
  rintro e w2 ⟨ra, rc, b, off, nc, rfl, hra, hR, hN, hb⟩
  have HRA := Lib.hid hra
  have HB2 := Lib.hid (HB0.out.trans (hb.mono HB0.out.size))
  have HRS2 := Lib.hid (HRS.out.below hb)
  have HR2 := Lib.hid hR
  have HN2 := Lib.hid hN
  clear hra hR hN hb HB0 HRS
  have hxg := heap_alloc_new w2 (.cells #[.slice ra 1 rc, .slice (some ⟨b, off, none⟩) 3 nc] 36)
  have HBA := Lib.hid (HB2.out.alloc HB2.out.size (.cells #[.slice ra 1 rc, .slice (some ⟨b, off, none⟩) 3 nc] 36))
  have HAA : Hid (Below w2.heap.size w2 (w2.alloc (.cells #[.slice ra 1 rc, .slice (some ⟨b, off, none⟩) 3 nc] 36))) := (Below.refl _ _).alloc (Nat.le_refl _) _
  go_upto_region 3 with (fail)
  generalize w2.alloc (.cells #[.slice ra 1 rc, .slice (some ⟨b, off, none⟩) 3 nc] 36) = W3 at *
  have HRS3 := Lib.hid (HRS2.out.below HAA.out)
  have HR3 := Lib.hid (HR2.out.below HAA.out)
  have HN3 := Lib.hid (HN2.out.below HAA.out)
  have HG := Lib.hid hxg
  clear hxg HRS2 HR2 HN2 HAA HB2
  have HL3 : Hid (Below W3.heap.size W3 (W3.alloc (.cells #[.string ⟨#[65]⟩, .slice none 0 0] 66))) := (Below.refl _ _).alloc (Nat.le_refl _) _
  have HRN : Hid (RsAt (W3.alloc (.cells #[.string ⟨#[65]⟩, .slice none 0 0] 66)) (some ⟨W3.heap.size, 0, none⟩) [⟨nmA, []⟩]) := Lib.hid (rs_no (t' := 66) (heap_alloc_new W3 _))
  go_wp2_with (fail)
  refine (of1 _ _ 1 HRN.out).mono ?_
  rintro e w4 ⟨rfl, hb⟩
  have HL4 := Lib.hid (HL3.out.trans (hb.mono HL3.out.size))
  clear hb HL3 HRN
  have HL5 := Lib.hid (HL4.out.alloc HL4.out.size (.cells #[.slice none 0 0, .slice none 0 0] 36))
  go_upto_region 4 with (fail)
  generalize w4.alloc (.cells #[.slice none 0 0, .slice none 0 0] 36) = W5 at *
  have HB5 := Lib.hid (HBA.out.trans (HL5.out.mono HBA.out.size))
  have HRS5 := Lib.hid (HRS3.out.below HL5.out)
  have HR5 := Lib.hid (HR3.out.below HL5.out)
  have HN5 := Lib.hid (HN3.out.below HL5.out)
  have hg5 := (HL5.out.block _ (Array.getElem?_eq_some_iff.1 HG.out).1).trans HG.out
  have d0 := cell_of_row W5 w2.heap.size 0 _ _ _ hg5
  have d1 := cell_of_row W5 w2.heap.size 1 _ _ _ hg5
  simp only [List.getElem?_toArray, List.getElem?_cons_zero, List.getElem?_cons_succ] at d0 d1
  clear hg5 HL5 HL4 HG HRS3 HR3 HN3 HBA
  go_wp2_with (fail)
  refine (app0 W5 ra rc b off nc HRA.out HR5.out HN5.out).mono ?_
  rintro e w6 ⟨xa, xc, ya, yc, rfl, hb⟩
  have HL7 := Lib.hid (hb.alloc hb.size (.cells #[.slice xa 1 xc, .slice ya 6 yc] 36))
  have hx6 := heap_alloc_new w6 (.cells #[.slice xa 1 xc, .slice ya 6 yc] 36)
  clear hb
  go_upto_region 5 with (fail)
  generalize w6.alloc (.cells #[.slice xa 1 xc, .slice ya 6 yc] 36) = W7 at *
  have u0 := cell_keep HL7.out d0
  have u1 := cell_keep HL7.out d1
  have y1 := cell_of_row W7 w6.heap.size 1 _ _ _ hx6
  simp only [List.getElem?_toArray, List.getElem?_cons_zero, List.getElem?_cons_succ] at y1
  have HB7 := Lib.hid (HB5.out.trans (HL7.out.mono HB5.out.size))
  have HRS7 := Lib.hid (HRS5.out.below HL7.out)
  have HR7 := Lib.hid (HR5.out.below HL7.out)
  have HN7 := Lib.hid (HN5.out.below HL7.out)
  clear hx6 d0 d1 HL7 HB5 HRS5 HR5 HN5
  obtain ⟨b9, off9, e9, ka9, kc9, hop, -⟩ := HN7.out 2 (by decide)
  injection e9 with e9
  injection e9 with e91 e92
  subst e91 e92
  have hop : W7.cell? ⟨b, off + 14, none⟩ = some (.int .i64 3) := hop
  go_wp2_with (fail)
  refine (bi0 W7 ra rc b off nc HR7.out HN7.out).mono ?_
  rintro e w8 ⟨p, pc, rfl, hRI, hb⟩
  have HB8 := Lib.hid (HB7.out.trans (hb.mono HB7.out.size))
  have HRS8 := Lib.hid (HRS7.out.below hb)
  have HRI := Lib.hid hRI
  have y2 := cell_keep hb y1
  clear hb hRI hop u0 u1 y1 HR7 HN7 HRS7 HB7
  go_wp2_with (fail)
  refine (back0 w8 p pc HRI.out).mono ?_
  rintro e w9 ⟨q, qc, rfl, hQ, hb⟩
  have HB9 := Lib.hid (HB8.out.trans (hb.mono HB8.out.size))
  have HRS9 := Lib.hid (HRS8.out.below hb)
  have HQ := Lib.hid hQ
  have y3 := cell_keep hb y2
  clear hb hQ y2 HRI HRS8 HB8
  go_wp2_with (fail)
  refine (back0 w9 _ 1 HRS9.out).mono ?_
  rintro e w10 ⟨r, rcc, rfl, hR, hb⟩
  have HB10 := Lib.hid (HB9.out.trans (hb.mono HB9.out.size))
  have HQ10 := Lib.hid (HQ.out.below hb)
  have HRR := Lib.hid hR
  have y4 := cell_keep hb y3
  clear hb hR y3 HQ HRS9 HB9
  go_wp2_with (fail)
  refine (same0 w10 q r qc rcc HQ10.out HRR.out).mono ?_
  rintro e w11 ⟨rfl, hb⟩
  have HB11 := Lib.hid (HB10.out.trans (hb.mono HB10.out.size))
  have y5 := cell_keep hb y4
  clear hb y4 HQ10 HRR HB10
  have HB12 := Lib.hid (HB11.out.alloc HB11.out.size (.cells #[.int .u8 97, .int .u8 98] 5 (2, 3)))
  have HRW : Hid (RowN .u8 (w11.alloc (.cells #[.int .u8 97, .int .u8 98] 5 (2, 3))) (some ⟨w11.heap.size, 0, none⟩) [97, 98]) := Lib.hid (fun j hj => ⟨w11.heap.size, 0, rfl, by
    have h := cell_of_row _ w11.heap.size j _ _ _ (heap_alloc_new w11 (.cells #[.int .u8 97, .int .u8 98] 5 (2, 3)))
    rw [Nat.zero_add, h]
    match j, hj with
    | 0, _ => rfl
    | 1, _ => rfl⟩)
  have hcv : (convert 57 57 (.slice (some ⟨w11.heap.size, 0, none⟩) 2 2)).run Try.prog (w11.alloc (.cells #[.int .u8 97, .int .u8 98] 5)) = .ok (.slice (some ⟨w11.heap.size, 0, none⟩) 2 2) (w11.alloc (.cells #[.int .u8 97, .int .u8 98] 5 (2, 3))) := Lib.run_convert_bytes_const (P := Try.prog) w11 57 5 #[.int .u8 97, .int .u8 98] 2 2 Try.underlying57 Try.underlying5
  go_wp2_with (fail)
  refine (lit0 _ _ 2 HRW.out).mono ?_
  rintro e w13 ⟨z, zc, rfl, hb⟩
  have HB13 := Lib.hid (HB12.out.trans (hb.mono HB12.out.size))
  clear hb
  go_wp2
  go_ret
  exact ⟨by simp, HB13.out⟩
end Go.Proofs.Ytdphcblbkdgbhaa
