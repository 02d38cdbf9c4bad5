import Derived.Test.YtdphcblbkdgbhaaQ3
namespace Go.Proofs.Ytdphcblbkdgbhaa
open Go.RowKit
open BS (RowN setF inL sc)
theorem litL_len (l : List Nat) : (litL l).length ≤ l.length + 1 := by
  unfold litL; split
  · simp
  · split <;> simp
set_option maxRecDepth 20000 in
set_option maxHeartbeats 3200000 in
theorem literals_w (l : List Nat) (a : Option Addr) (c : Nat) (w : World) (hl : ∀ x ∈ l, x ≤ 255) (hc : l.length ≤ c) (H : RowN .u8 w a l) :
    Calls Try.prog 7 #[.slice a l.length c] w fun e w' => e = .returned (.bool true) ∧ Below w.heap.size w w' := by
  have HH := Lib.hid H
  have HL := Lib.hid hl
  clear H hl
  go_enter Try.func7, Try.ntmps7
  go_wp2_with (fail)
  refine (awake_any w).mono ?_
  rintro e w1 ⟨rfl, hb⟩
  have HB1 := Lib.hid hb
  have HR1 := Lib.hid (HH.out.below hb)
  clear hb HH
  by_cases hs : l.length ≤ 300
  · go_wp2_with (fail)
    refine (blit_any l HL.out (by omega) a c w1 HR1.out).mono ?_
    rintro e w2 ⟨a2, c2, rfl, -, ho, hb⟩
    have HB2 := Lib.hid (HB1.out.trans (hb.mono HB1.out.size))
    have HI2 := Lib.hid (its_of_cells (own_cells ho))
    have HR2 := Lib.hid (HR1.out.below hb)
    have hlen : (litL l).length ≤ 301 := by have := litL_len l; omega
    clear hb ho HR1 HB1
    go_wp2_with (fail)
    refine (litems_any (litL l) a2 c2 w2 (by omega) HI2.out).mono ?_
    rintro e w3 ⟨a3, c3, rfl, -, ho, hb⟩
    have HB3 := Lib.hid (HB2.out.trans (hb.mono HB2.out.size))
    have HI3 := Lib.hid (its_of_cells (own_cells ho))
    have HR3 := Lib.hid (HR2.out.below hb)
    clear hb ho HR2 HB2 HI2
    go_wp2_with (fail)
    refine (rlit_any l HL.out (by omega) a c hc w3 HR3.out).mono ?_
    rintro e w4 ⟨a4, c4, rfl, -, ho, hb⟩
    have HB4 := Lib.hid (HB3.out.trans (hb.mono HB3.out.size))
    have HI4 := Lib.hid (its_of_cells (own_cells ho))
    have HI5 := Lib.hid (HI3.out.below hb)
    clear hb ho HR3 HB3 HI3
    go_wp2_with (fail)
    refine (sameItems_any (litL l) (litL l) a3 a4 c3 c4 w4 (by omega) (by omega) HI5.out HI4.out).mono ?_
    rintro e w5 ⟨rfl, hb⟩
    have HB5 := Lib.hid (HB4.out.trans (hb.mono HB4.out.size))
    have ht : decide (litL l = litL l) = true := by simp
    clear hb
    go_wp2
    go_ret
    exact ⟨by simp, HB5.out⟩
  · go_wp2_with (fail)
    refine (awake_any w1).mono ?_
    rintro e w2 ⟨rfl, hb⟩
    have HB2 := Lib.hid (HB1.out.trans (hb.mono HB1.out.size))
    clear hb
    go_wp2
    go_ret
    exact ⟨by simp, HB2.out⟩
end Go.Proofs.Ytdphcblbkdgbhaa
