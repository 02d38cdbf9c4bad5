import Derived.Test.YtdphcblbkdgbhaaG2
namespace Go.Proofs.Ytdphcblbkdgbhaa
open Go.RowKit
/-- the byte at an index; 256 behind the end. -/
def at' (s : ByteArray) (i : Nat) : Nat := if h : i < s.size then (s[i]).toNat else 256
theorem at_lt {s : ByteArray} {i : Nat} (h : i < s.size) : at' s i = (s[i]).toNat := by unfold at'; rw [dif_pos h]
theorem at_hi {s : ByteArray} {i : Nat} (h : s.size ≤ i) : at' s i = 256 := by unfold at'; rw [dif_neg (by omega)]
theorem at_le (s : ByteArray) (i : Nat) : at' s i ≤ 256 := by
  unfold at'; split
  · have := (s[i]).toNat_lt; omega
  · omega
theorem at_byte {s : ByteArray} {i : Nat} (h : i < s.size) : at' s i ≤ 255 := by rw [at_lt h]; have := (s[i]).toNat_lt; omega
def letB (c : Nat) (first : Bool) : Bool := if 48 ≤ c ∧ c ≤ 57 then !first else decide (c = 95 ∨ (97 ≤ c ∧ c ≤ 122) ∨ (65 ≤ c ∧ c ≤ 90))
set_option maxRecDepth 20000 in
theorem letter_any (c : Nat) (hc : c ≤ 255) (f : Bool) (w : World) :
    Calls Try.prog 50 #[.int .u8 c, .bool f] w fun e w' => e = .returned (.bool (letB c f)) ∧ w' = w := by
  by_cases h : 48 ≤ c ∧ c ≤ 57
  · have HN := Lib.hid (show letB c f = !f by unfold letB; rw [if_pos h])
    obtain ⟨h1, h2⟩ := h
    go_enter Try.func50, Try.ntmps50
    go_wp2
    go_ret
    exact ⟨ret_bool (by rw [HN.out]), rfl⟩
  · have HN := Lib.hid (show letB c f = decide (c = 95 ∨ (97 ≤ c ∧ c ≤ 122) ∨ (65 ≤ c ∧ c ≤ 90)) by unfold letB; rw [if_neg h])
    have d0 : (decide ((48 : Int) ≤ c) && decide ((c : Int) ≤ 57)) = false := by simp; omega
    by_cases h1 : 48 ≤ c
    · have h2 : 57 < c := by omega
      clear h
      go_enter Try.func50, Try.ntmps50
      go_wp2
      all_goals go_ret
      all_goals refine ⟨ret_bool ?_, rfl⟩
      all_goals rw [HN.out, Bool.eq_iff_iff]
      all_goals simp
      all_goals omega
    · clear h
      go_enter Try.func50, Try.ntmps50
      go_wp2
      all_goals go_ret
      all_goals refine ⟨ret_bool ?_, rfl⟩
      all_goals rw [HN.out, Bool.eq_iff_iff]
      all_goals simp
      all_goals omega
/-- are the first k bytes letters of a name. -/
def nameTo (s : ByteArray) : Nat → Bool
  | 0 => true
  | k + 1 => nameTo s k && letB (at' s k) (k == 0)
theorem nameTo_mono {s : ByteArray} : ∀ {k n : Nat}, k ≤ n → nameTo s k = false → nameTo s n = false
  | k, 0, h, h1 => by obtain rfl : k = 0 := by omega
                      exact h1
  | k, n + 1, h, h1 => by
    by_cases e : k = n + 1
    · exact e ▸ h1
    · simp only [nameTo, nameTo_mono (show k ≤ n by omega) h1, Bool.false_and]
theorem empty_size (s : ByteArray) : s.toList.isEmpty = decide (s.size = 0) := by
  rw [ByteArray.toList_eq, Bool.eq_iff_iff, List.isEmpty_iff, decide_eq_true_eq, ← List.length_eq_zero_iff, Array.length_toList]; rfl
def nameB (s : ByteArray) : Bool := nameTo s s.size && decide (s.size ≠ 0)
set_option maxRecDepth 20000 in
set_option maxHeartbeats 800000 in
theorem name_any (s : ByteArray) (hs : s.size ≤ 140737488355328) (w : World) :
    Calls Try.prog 42 #[.string s] w fun e w' => e = .returned (.bool (nameB s)) ∧ w' = w := by
  have hat : ∀ (i : Nat) (h : i < s.size), (s[i]).toNat = at' s i := fun i h => (at_lt h).symm
  have hF : Hid (nameB s = (nameTo s s.size && decide (s.size ≠ 0))) := rfl
  go_enter Try.func42, Try.ntmps42
  go_wp2
  go_loop [3] (fun j => ∃ k : Nat, k ≤ s.size ∧ j = .int .i64 k ∧ Hid (nameTo s k = true)) (fun j => s.size - (intOf j).toNat)
  case atStart => exact ⟨0, by omega, rfl, rfl⟩
  case round =>
    obtain ⟨k, hk, rfl, HP⟩ := hrel
    by_cases hlt : k < s.size
    · have L := Lib.hid (letter_any (at' s k) (at_byte hlt) (k == 0))
      have hkz : ((k : Int) == 0) = (k == 0) := by rw [Bool.eq_iff_iff]; simp
      cases hq : letB (at' s k) (k == 0)
      · have HN : Hid (nameB s = false) := by
          show nameB s = false
          unfold nameB; rw [nameTo_mono (k := k + 1) (by omega) (by simp only [nameTo, hq, Bool.and_false])]; rfl
        rw [hq] at L
        clear hq
        go_wp2_with (fail)
        refine (L.out _).mono ?_
        rintro e w' ⟨rfl, rfl⟩
        go_wp2
        go_ret
        exact ⟨ret_bool (by rw [HN.out]), rfl⟩
      · have HN : Hid (nameTo s (k + 1) = true) := by
          show nameTo s (k + 1) = true
          simp only [nameTo, hq, HP.out, Bool.and_true]
        rw [hq] at L
        clear hq
        go_wp2_with (fail)
        refine (L.out _).mono ?_
        rintro e w' ⟨rfl, rfl⟩
        clear hkz
        go_wp2
        go_round
        case rel => exact ⟨k + 1, by omega, by go_num, HN⟩
        case measure => simp [intOf]; omega
    · obtain rfl : k = s.size := by omega
      have h9 := empty_size s
      go_wp2
      go_ret
      refine ⟨ret_bool ?_, rfl⟩
      rw [hF.out, HP.out]
      simp
end Go.Proofs.Ytdphcblbkdgbhaa
