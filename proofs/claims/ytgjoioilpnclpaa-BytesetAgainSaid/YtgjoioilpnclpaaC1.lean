import Derived.Test.YtgjoioilpnclpaaB3
namespace Go.Proofs.Ytgjoioilpnclpaa
open Go.RowKit
theorem eqSelf (f : Nat → Nat) (W : World) : (Op.equalIn 10000 24 (.agg (sc f)) (.agg (sc f))).run Try.prog W = .ok true W := by
  have := eqSet (f 0) (f 1) (f 2) (f 3) (f 0) (f 1) (f 2) (f 3) W
  simp only [beq_self_eq_true, Bool.and_self] at this
  exact this
theorem mem_full (i : Nat) : mem fullF i = true := by
  unfold mem fullF
  have : (18446744073709551615 : Nat) = 2 ^ 64 - 1 := rfl
  rw [this, Nat.testBit_two_pow_sub_one]; simp; omega
set_option maxRecDepth 20000 in
set_option maxHeartbeats 2000000 in
theorem makes_any {w : World} (l : List Nat) (a : Option Addr) (c : Nat) (lo hi : Nat) (hl : ∀ x ∈ l, x ≤ 255) (H : RowN .u8 w a l) (h1 : lo ≤ 255) (h2 : hi ≤ 255) :
    Calls Try.prog 4 #[.slice a l.length c, .int .u8 lo, .int .u8 hi] w fun e w' => e = .returned (.bool true) ∧ Below w.heap.size w w' := by
  have hge := guard24
  have HH := Lib.hid H
  clear H
  go_enter Try.func4, Try.ntmps4
  go_wp2_with (fail)
  refine (awake_any w).mono ?_
  rintro e w1 ⟨rfl, hb⟩
  have B1 := Lib.hid hb
  clear hb
  by_cases hbig : 1000 < l.length
  · go_wp2_with (fail)
    refine (awake_any w1).mono ?_
    rintro e w2 ⟨rfl, hb⟩
    have B2 := Lib.hid (B1.out.trans (hb.mono B1.out.size))
    clear hb
    go_wp2
    go_ret
    exact ⟨rfl, B2.out⟩
  · have hn : l.length ≤ 140737488355328 := by omega
    go_wp2_with (fail)
    refine (of_any l hl hn a c w1 (HH.out.below B1.out)).mono ?_
    rintro e w2 ⟨rfl, hb⟩
    have B2 := Lib.hid (B1.out.trans (hb.mono B1.out.size))
    clear hb
    go_wp2_with (fail)
    refine (refList_any l hl hn a c w2 (HH.out.below B2.out)).mono ?_
    rintro e w3 ⟨rfl, hb⟩
    have B3 := Lib.hid (B2.out.trans (hb.mono B2.out.size))
    clear hb
    have hq := eqSelf (setF (inL l))
    go_wp2_with (fail)
    refine (range_any lo hi h1 h2 w3).mono ?_
    rintro e w4 ⟨rfl, hb⟩
    have B4 := Lib.hid (B3.out.trans (hb.mono B3.out.size))
    clear hb hq
    go_wp2_with (fail)
    refine (refRange_any lo hi h1 h2 w4).mono ?_
    rintro e w5 ⟨rfl, hb⟩
    have B5 := Lib.hid (B4.out.trans (hb.mono B4.out.size))
    clear hb
    have hq := eqSelf (setF (between lo (hi + 1)))
    go_wp2_with (fail)
    refine (full_any w5).mono ?_
    rintro e w6 ⟨rfl, hb⟩
    have B6 := Lib.hid (B5.out.trans (hb.mono B5.out.size))
    clear hb hq
    go_wp2_with (fail)
    refine (has_any fullF lo fullF_wf h1 w6).mono ?_
    rintro e w7 ⟨rfl, hb⟩
    have B7 := Lib.hid (B6.out.trans (hb.mono B6.out.size))
    clear hb
    rw [mem_full]
    go_wp2
    go_ret
    exact ⟨rfl, B7.out⟩
end Go.Proofs.Ytgjoioilpnclpaa
