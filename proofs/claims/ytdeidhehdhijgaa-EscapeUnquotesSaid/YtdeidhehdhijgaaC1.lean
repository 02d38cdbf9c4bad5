import Derived.Test.YtdeidhehdhijgaaB2
import Derived.Outline
namespace Go.Proofs.Ytdeidhehdhijgaa
open Go.RowKit
theorem readZ_lo {s : ByteArray} {x : Int} {c n : Nat} (h : readZ s x = some (c, n)) : c ≤ 255 ∧ n ≤ s.size := by
  unfold readZ at h
  split at h
  · cases h
  · have := readP_some h; omega
theorem readZ_none (s : ByteArray) (hs : s.size ≤ 140737488355328) (x : Int) (h : readZ s x = none) (w : World) :
    Calls Try.prog 9 #[.string s, .int .i64 x] w fun e w' => e = .returned (.tuple #[.int .u8 0, .int .i64 0, .bool false]) ∧ w' = w := by
  have := readZ_any s hs x w; rwa [h] at this
theorem readZ_some (s : ByteArray) (hs : s.size ≤ 140737488355328) (x : Int) {c n : Nat} (h : readZ s x = some (c, n)) (w : World) :
    Calls Try.prog 9 #[.string s, .int .i64 x] w fun e w' => e = .returned (.tuple #[.int .u8 c, .int .i64 n, .bool true]) ∧ w' = w := by
  have := readZ_any s hs x w; rwa [h] at this
theorem refReadZ_none (s : ByteArray) (hs : s.size ≤ 140737488355328) (x : Int) (h : readZ s x = none) (w : World) :
    Calls Try.prog 10 #[.string s, .int .i64 x] w fun e w' => e = .returned (.tuple #[.int .i64 0, .int .i64 (-1)]) ∧ Below w.heap.size w w' := by
  have := refReadZ_any s hs x w; rwa [h] at this
theorem refReadZ_some (s : ByteArray) (hs : s.size ≤ 140737488355328) (x : Int) {c n : Nat} (h : readZ s x = some (c, n)) (w : World) :
    Calls Try.prog 10 #[.string s, .int .i64 x] w fun e w' => e = .returned (.tuple #[.int .i64 c, .int .i64 n]) ∧ Below w.heap.size w w' := by
  have := refReadZ_any s hs x w; rwa [h] at this
set_option maxRecDepth 20000 in
set_option maxHeartbeats 1600000 in
theorem reads_any (s : ByteArray) (x : Int) (w : World) :
    Calls Try.prog 3 #[.string s, .int .i64 x] w fun e w' => e = .returned (.bool true) ∧ Below w.heap.size w w' := by
  by_cases hs : 1000 < s.size
  · go_enter Try.func3, Try.ntmps3
    go_wp2_with (fail)
    refine (awake_any _).mono ?_
    rintro e w1 ⟨rfl, hb⟩
    have B1 := Lib.hid hb
    clear hb
    go_wp2_with (fail)
    refine (awake_any _).mono ?_
    rintro e w2 ⟨rfl, hb⟩
    have B2 := Lib.hid (B1.out.trans (hb.mono B1.out.size))
    clear hb
    go_wp2
    go_ret
    exact ⟨rfl, B2.out⟩
  · have hs' : s.size ≤ 1000 := by omega
    clear hs
    cases hr : readZ s x with
    | none =>
      have R1 := Lib.hid (readZ_none s (by omega) x hr)
      have R2 := Lib.hid (refReadZ_none s (by omega) x hr)
      clear hr
      go_enter Try.func3, Try.ntmps3
      go_wp2_with (fail)
      refine (awake_any _).mono ?_
      rintro e w1 ⟨rfl, hb⟩
      have B1 := Lib.hid hb
      clear hb
      go_wp2_with (fail)
      refine (R1.out _).mono ?_
      rintro e w2 ⟨rfl, rfl⟩
      go_wp2_with (fail)
      refine (R2.out _).mono ?_
      rintro e w3 ⟨rfl, hb⟩
      have B2 := Lib.hid (B1.out.trans (hb.mono B1.out.size))
      clear hb
      go_wp2
      go_ret
      exact ⟨rfl, B2.out⟩
    | some p =>
      obtain ⟨c, n⟩ := p
      have hp := readZ_lo hr
      have R1 := Lib.hid (readZ_some s (by omega) x hr)
      have R2 := Lib.hid (refReadZ_some s (by omega) x hr)
      have hm : (c : Int).tmod 256 = c := by rw [Int.tmod_eq_emod_of_nonneg (by omega)]; omega
      clear hr
      go_enter Try.func3, Try.ntmps3
      go_wp2_with (fail)
      refine (awake_any _).mono ?_
      rintro e w1 ⟨rfl, hb⟩
      have B1 := Lib.hid hb
      clear hb
      go_wp2_with (fail)
      refine (R1.out _).mono ?_
      rintro e w2 ⟨rfl, rfl⟩
      go_wp2_with (fail)
      refine (R2.out _).mono ?_
      rintro e w3 ⟨rfl, hb⟩
      have B2 := Lib.hid (B1.out.trans (hb.mono B1.out.size))
      clear hb
      go_wp2

      all_goals go_ret
      all_goals exact ⟨rfl, B2.out⟩
set_option maxRecDepth 20000 in
set_option maxHeartbeats 1600000 in
theorem inverse_any (c : Nat) (hc : c ≤ 255) (cl : Bool) (r : ByteArray) (w : World) :
    Calls Try.prog 4 #[.int .u8 c, .bool cl, .string r] w fun e w' => e = .returned (.bool true) ∧ Below w.heap.size w w' := by
  by_cases hs : 100 < r.size
  · go_enter Try.func4, Try.ntmps4
    go_wp2_with (fail)
    refine (awake_any _).mono ?_
    rintro e w1 ⟨rfl, hb⟩
    have B1 := Lib.hid hb
    clear hb
    go_wp2_with (fail)
    refine (awake_any _).mono ?_
    rintro e w2 ⟨rfl, hb⟩
    have B2 := Lib.hid (B1.out.trans (hb.mono B1.out.size))
    clear hb
    go_wp2
    go_ret
    exact ⟨rfl, B2.out⟩
  · have hs' : r.size ≤ 100 := by omega
    clear hs
    have hl := formN_len c cl
    have hz := bytesN_size (formN c cl)
    have F1 := Lib.hid (form_any c (by omega) cl)
    have F2 := Lib.hid (refForm_any c (by omega) cl)
    have R1 := Lib.hid (read_some (bytesN (formN c cl) ++ r) (by rw [ByteArray.size_append]; omega) 0 (readP_append c hc cl r))
    have hz4 : (bytesN (formN c cl)).size ≤ 4 := by omega
    rw [← hz] at R1
    clear hl hz
    generalize bytesN (formN c cl) = F at *
    go_enter Try.func4, Try.ntmps4
    go_wp2_with (fail)
    refine (awake_any _).mono ?_
    rintro e w1 ⟨rfl, hb⟩
    have B1 := Lib.hid hb
    clear hb
    go_wp2_with (fail)
    refine (F1.out _).mono ?_
    rintro e w2 ⟨rfl, hb⟩
    have B2 := Lib.hid (B1.out.trans (hb.mono B1.out.size))
    clear hb
    go_wp2_with (fail)
    refine (R1.out _).mono ?_
    rintro e w3 ⟨rfl, rfl⟩
    go_wp2_with (fail)
    refine (F2.out _).mono ?_
    rintro e w4 ⟨rfl, hb⟩
    have B3 := Lib.hid (B2.out.trans (hb.mono B2.out.size))
    clear hb
    go_wp2

    all_goals go_ret
    all_goals exact ⟨rfl, B3.out⟩
set_option maxRecDepth 20000 in
set_option maxHeartbeats 1600000 in
theorem literals_any {w : World} (l : List Nat) (a : Option Addr) (k : Nat) (hl : ∀ x ∈ l, x ≤ 255) (H : RowN .u8 w a l) :
    Calls Try.prog 5 #[.slice a l.length k] w fun e w' => e = .returned (.bool true) ∧ Below w.heap.size w w' := by
  have HH := Lib.hid H
  clear H
  by_cases hs : 500 < l.length
  · go_enter Try.func5, Try.ntmps5
    go_wp2_with (fail)
    refine (awake_any _).mono ?_
    rintro e w1 ⟨rfl, hb⟩
    have B1 := Lib.hid hb
    clear hb
    go_wp2_with (fail)
    refine (awake_any _).mono ?_
    rintro e w2 ⟨rfl, hb⟩
    have B2 := Lib.hid (B1.out.trans (hb.mono B1.out.size))
    clear hb
    go_wp2
    go_ret
    exact ⟨rfl, B2.out⟩
  · have hs' : l.length ≤ 500 := by omega
    clear hs
    have U := Lib.hid (unq_yes (unq_lit hl) (by rw [bytesN_size]; have := litN_len l; omega))
    have L1 := Lib.hid (literal_any l hl (by omega) a k)
    have L2 := Lib.hid (refLiteral_any l hl (by omega) a k)
    generalize bytesN (litN l) = F at *
    clear hl
    go_enter Try.func5, Try.ntmps5
    go_wp2_with (fail)
    refine (awake_any _).mono ?_
    rintro e w1 ⟨rfl, hb⟩
    have B1 := Lib.hid hb
    clear hb
    go_wp2_with (fail)
    refine (L1.out _ (HH.out.below B1.out)).mono ?_
    rintro e w2 ⟨rfl, hb⟩
    have B2 := Lib.hid (B1.out.trans (hb.mono B1.out.size))
    clear hb
    go_wp2_with (fail)
    refine (U.out _).mono ?_
    rintro e w3 ⟨v, rfl, ho, hb⟩
    have B3 := Lib.hid (B2.out.trans (hb.mono B2.out.size))
    have O3 := Lib.hid ho
    clear hb ho
    obtain ⟨a2, c2, rfl⟩ := own_form O3.out
    go_wp2_with (fail)
    refine (L2.out _ (HH.out.below B3.out)).mono ?_
    rintro e w4 ⟨rfl, hb⟩
    have B4 := Lib.hid (B3.out.trans (hb.mono B3.out.size))
    have O4 := Lib.hid (own_below O3.out hb)
    have k1 := conv_row c2 (own_RowN O4.out)
    have k2 := conv_row k (HH.out.below B4.out)
    clear hb
    go_wp2

    all_goals go_ret
    all_goals exact ⟨rfl, B4.out⟩
set_option maxRecDepth 20000 in
set_option maxHeartbeats 1600000 in
theorem unquotes_any (s : ByteArray) (w : World) :
    Calls Try.prog 6 #[.string s] w fun e w' => e = .returned (.bool true) ∧ Below w.heap.size w w' := by
  by_cases hs : 500 < s.size
  · go_enter Try.func6, Try.ntmps6
    go_wp2_with (fail)
    refine (awake_any _).mono ?_
    rintro e w1 ⟨rfl, hb⟩
    have B1 := Lib.hid hb
    clear hb
    go_wp2_with (fail)
    refine (awake_any _).mono ?_
    rintro e w2 ⟨rfl, hb⟩
    have B2 := Lib.hid (B1.out.trans (hb.mono B1.out.size))
    clear hb
    go_wp2
    go_ret
    exact ⟨rfl, B2.out⟩
  · have hs' : s.size ≤ 500 := by omega
    clear hs
    have U1 := Lib.hid (unquote_any s (by omega))
    have U2 := Lib.hid (refUnquote_any s (by omega))
    go_enter Try.func6, Try.ntmps6
    go_wp2_with (fail)
    refine (awake_any _).mono ?_
    rintro e w1 ⟨rfl, hb⟩
    have B1 := Lib.hid hb
    clear hb
    go_wp2_with (fail)
    refine (U1.out _).mono ?_
    rintro e w2 ⟨v, rfl, ho, hb⟩
    have B2 := Lib.hid (B1.out.trans (hb.mono B1.out.size))
    have O2 := Lib.hid ho
    clear hb ho
    obtain ⟨a2, c2, rfl⟩ := own_form O2.out
    go_wp2_with (fail)
    refine (U2.out _).mono ?_
    rintro e w3 ⟨v, rfl, ho, hb⟩
    have B3 := Lib.hid (B2.out.trans (hb.mono B2.out.size))
    have O3 := Lib.hid (own_below O2.out hb)
    have O4 := Lib.hid ho
    clear hb ho
    obtain ⟨a3, c3, rfl⟩ := own_form O4.out
    have k1 := conv_row c2 (own_RowN O3.out)
    have k2 := conv_row c3 (own_RowN O4.out)
    generalize (unq s).isSome = q at *
    go_wp2

    all_goals go_ret
    all_goals exact ⟨rfl, B3.out⟩
end Go.Proofs.Ytdeidhehdhijgaa
