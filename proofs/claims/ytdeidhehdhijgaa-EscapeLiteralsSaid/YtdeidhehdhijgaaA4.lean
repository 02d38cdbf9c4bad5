import Derived.Test.YtdeidhehdhijgaaA3
namespace Go.Proofs.Ytdeidhehdhijgaa
open Go.RowKit
/-- is the byte among the first k of a string. -/
def inTo (s : ByteArray) (c : Nat) : Nat → Bool
  | 0 => false
  | k + 1 => inTo s c k || (at' s k == c)
theorem inTo_mono {s : ByteArray} {c : Nat} : ∀ {k n : Nat}, k ≤ n → inTo s c k = true → inTo s c n = true
  | k, 0, h, h1 => by obtain rfl : k = 0 := by omega
                      exact h1
  | k, n + 1, h, h1 => by
    by_cases e : k = n + 1
    · exact e ▸ h1
    · simp only [inTo, inTo_mono (show k ≤ n by omega) h1, Bool.true_or]
theorem in_any (s : ByteArray) (hs : s.size ≤ 140737488355328) (c : Nat) (w : World) :
    Calls Try.prog 18 #[.int .u8 c, .string s] w fun e w' => e = .returned (.bool (inTo s c s.size)) ∧ w' = w := by
  have hat : ∀ (i : Nat) (h : i < s.size), (s[i]).toNat = at' s i := fun i h => (at_lt h).symm
  have hm := Lib.hid (fun k => inTo_mono (s := s) (c := c) (k := k) (n := s.size))
  go_enter Try.func18, Try.ntmps18
  go_wp2_with (fail)
  go_loopw [5] (fun j wr => ∃ k : Nat, k ≤ s.size ∧ j = .int .i64 k ∧ Hid (inTo s c k = false) ∧ wr = w) (fun j _ => s.size - (intOf j).toNat)
  case atStart => exact ⟨0, by omega, rfl, rfl, rfl⟩
  case round =>
    obtain ⟨k, hk, rfl, hf, rfl⟩ := hrel
    by_cases hlt : k < s.size
    · by_cases hc : at' s k = c
      · have ht : inTo s c s.size = true := hm.out (k + 1) (by omega) (by simp only [inTo, hc, beq_self_eq_true, Bool.or_true])
        go_wp2
        go_ret
        exact ⟨by rw [ht]; rfl, rfl⟩
      · have hn : inTo s c (k + 1) = false := by simp only [inTo, hf.out, Bool.false_or, beq_eq_false_iff_ne]; exact hc
        have HN := Lib.hid hn
        clear hn
        go_wp2
        go_roundw
        case rel => exact ⟨k + 1, by omega, by go_num, HN, trivial⟩
        case measure => simp [intOf]; omega
    · obtain rfl : k = s.size := by omega
      go_wp2
      go_ret
      exact ⟨by rw [hf.out]; rfl, rfl⟩
/-- are the first k bytes from an index on digits. -/
def digTo (s : ByteArray) (i : Nat) : Nat → Bool
  | 0 => true
  | k + 1 => digTo s i k && (decide (48 ≤ at' s (i + k)) && decide (at' s (i + k) ≤ 55))
theorem digTo_mono {s : ByteArray} {i : Nat} : ∀ {k n : Nat}, k ≤ n → digTo s i k = false → digTo s i n = false
  | k, 0, h, h1 => by obtain rfl : k = 0 := by omega
                      exact h1
  | k, n + 1, h, h1 => by
    by_cases e : k = n + 1
    · exact e ▸ h1
    · simp only [digTo, digTo_mono (show k ≤ n by omega) h1, Bool.false_and]
def digB (s : ByteArray) (i many most : Nat) : Bool := decide (i + many ≤ s.size) && (decide (48 ≤ at' s i) && (decide (at' s i ≤ most) && digTo s i many))
set_option maxRecDepth 20000 in
theorem digits_any (s : ByteArray) (hs : s.size ≤ 140737488355328) (i many most : Nat) (hi : i < s.size) (h1 : 1 ≤ many) (h3 : many ≤ 3) (w : World) :
    Calls Try.prog 19 #[.string s, .int .i64 i, .int .i64 many, .int .u8 most] w fun e w' => e = .returned (.bool (digB s i many most)) ∧ w' = w := by
  have hat : ∀ (i : Nat) (h : i < s.size), (s[i]).toNat = at' s i := fun i h => (at_lt h).symm
  have hm := Lib.hid (fun k => digTo_mono (s := s) (i := i) (k := k) (n := many))
  have hB : Hid (digB s i many most = (decide (i + many ≤ s.size) && (decide (48 ≤ at' s i) && (decide (at' s i ≤ most) && digTo s i many)))) := rfl
  go_enter Try.func19, Try.ntmps19
  by_cases c0 : i + many ≤ s.size
  · by_cases c1 : 48 ≤ at' s i
    · by_cases c2 : at' s i ≤ most
      · go_wp2_with (fail)
        go_loopw [9] (fun j wr => ∃ k : Nat, k ≤ many ∧ j = .int .i64 ((i + k : Nat) : Int) ∧ Hid (digTo s i k = true) ∧ wr = w) (fun j _ => i + many - (intOf j).toNat)
        case atStart => exact ⟨0, by omega, rfl, rfl, rfl⟩
        case round =>
          obtain ⟨k, hk, rfl, hf, rfl⟩ := hrel
          by_cases hlt : k < many
          · by_cases hc : 48 ≤ at' s (i + k) ∧ at' s (i + k) ≤ 55
            · have HN : Hid (digTo s i (k + 1) = true) := by
                show digTo s i (k + 1) = true
                simp only [digTo, hf.out, Bool.true_and, Bool.and_eq_true, decide_eq_true_eq]; exact hc
              obtain ⟨hc1, hc2⟩ := hc
              have d1 : decide (((at' s (i + k) : Nat) : Int) < 48) = false := by simp; omega
              have d2 : decide ((55 : Int) < ((at' s (i + k) : Nat) : Int)) = false := by simp; omega
              go_wp2
              go_roundw
              case rel => exact ⟨k + 1, by omega, by go_num, HN, trivial⟩
              case measure => simp [intOf]; omega
            · have hn : digTo s i (k + 1) = false := by
                simp only [digTo, hf.out, Bool.true_and, Bool.and_eq_false_iff, decide_eq_false_iff_not]; omega
              have ht := Lib.hid (hm.out (k + 1) (by omega) hn)
              clear hn
              by_cases hc1 : 48 ≤ at' s (i + k)
              · have hc2 : 55 < at' s (i + k) := by omega
                go_wp2
                all_goals go_ret
                all_goals exact ⟨by rw [hB.out, ht.out]; simp, rfl⟩
              · go_wp2
                all_goals go_ret
                all_goals exact ⟨by rw [hB.out, ht.out]; simp, rfl⟩
          · obtain rfl : k = many := by omega
            go_wp2
            go_ret
            exact ⟨by rw [hB.out, hf.out]; simp [c0, c1, c2], rfl⟩
      · go_wp2
        go_ret
        exact ⟨by rw [hB.out]; simp [c2], rfl⟩
    · go_wp2
      go_ret
      exact ⟨by rw [hB.out]; simp [c1], rfl⟩
  · go_wp2
    go_ret
    exact ⟨by rw [hB.out]; simp [c0], rfl⟩
end Go.Proofs.Ytdeidhehdhijgaa
