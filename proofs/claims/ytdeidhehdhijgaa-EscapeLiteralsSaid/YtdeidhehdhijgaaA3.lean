import Derived.Test.YtdeidhehdhijgaaA2
import Derived.OwnWalk
namespace Go.Proofs.Ytdeidhehdhijgaa
open Go.RowKit
/-- the character that is read at an index, and the index behind it. -/
def readP (s : ByteArray) (i : Nat) : Option (Nat × Nat) :=
  if s.size ≤ i then none else if at' s i ≠ 92 then some (at' s i, i + 1)
  else if s.size ≤ i + 1 then none
  else if at' s (i + 1) = 110 then some (10, i + 2) else if at' s (i + 1) = 114 then some (13, i + 2) else if at' s (i + 1) = 116 then some (9, i + 2)
  else if at' s (i + 1) = 39 ∨ at' s (i + 1) = 34 ∨ at' s (i + 1) = 91 ∨ at' s (i + 1) = 93 ∨ at' s (i + 1) = 92 then some (at' s (i + 1), i + 2)
  else if numK s (i + 1) = 0 then none else some ((pre s (i + 1) (numK s (i + 1))).toNat, i + 1 + numK s (i + 1))
def readV : Option (Nat × Nat) → Value
  | none => .tuple #[.int .u8 0, .int .i64 0, .bool false]
  | some (c, n) => .tuple #[.int .u8 (c : Nat), .int .i64 (n : Nat), .bool true]
theorem pre_le (s : ByteArray) (i : Nat) : 0 ≤ pre s i (numK s i) ∧ pre s i (numK s i) ≤ 191 := by
  have b0 := octI_range s i
  have b1 := octI_range s (i + 1)
  have b2 := octI_range s (i + 2)
  unfold numK
  split
  · simp [pre]
  · split
    · simp only [pre, Nat.add_zero]; omega
    · unfold numE
      split
      · simp only [pre, Nat.add_zero]; omega
      · simp only [pre, Nat.add_zero]; omega
theorem triple {a b c a' b' c' : Value} (h1 : a = a') (h2 : b = b') (h3 : c = c') : #[a, b, c] = #[a', b', c'] := by rw [h1, h2, h3]
theorem intEq {k : IntKind} {a b : Int} (h : a = b) : Value.int k a = .int k b := by rw [h]
set_option maxRecDepth 20000 in
set_option maxHeartbeats 1000000 in
theorem read_any (s : ByteArray) (hs : s.size ≤ 140737488355328) (i : Nat) (w : World) :
    Calls Try.prog 9 #[.string s, .int .i64 i] w fun e w' => e = .returned (readV (readP s i)) ∧ w' = w := by
  have hat : ∀ (i : Nat) (h : i < s.size), (s[i]).toNat = at' s i := fun i h => (at_lt h).symm
  have N := Lib.hid (number_any s (i + 1))
  have hp := pre_le s (i + 1)
  by_cases h0 : i < s.size
  · by_cases h1 : at' s i = 92
    · by_cases h2 : i + 1 < s.size
      · have hz := hs
        go_enter Try.func9, Try.ntmps9
        go_wp2_with (go_at_call 17; refine (N.out (by omega) _).mono ?_; rintro e w' ⟨rfl, rfl⟩)
        all_goals simp only [beq_iff_eq, beq_eq_false_iff_ne, ne_eq] at *
        all_goals go_ret3
        all_goals refine ⟨congrArg Ending.returned ?_, rfl⟩
        all_goals rw [readP, if_neg (by omega), if_neg (by omega), if_neg (by omega)]
        all_goals repeat (first | rw [if_pos (by omega)] | rw [if_neg (by omega)])
        all_goals exact congrArg Value.tuple (triple (intEq (by omega)) (intEq (by omega)) rfl)
      · go_enter Try.func9, Try.ntmps9
        go_wp2
        go_ret3
        exact ⟨by rw [readP, if_neg (by omega), if_neg (by omega), if_pos (by omega)]; rfl, rfl⟩
    · go_enter Try.func9, Try.ntmps9
      go_wp2
      go_ret3
      exact ⟨by rw [readP, if_neg (by omega), if_pos h1]; rfl, rfl⟩
  · go_enter Try.func9, Try.ntmps9
    go_wp2
    go_ret3
    exact ⟨by rw [readP, if_pos (by omega)]; rfl, rfl⟩
end Go.Proofs.Ytdeidhehdhijgaa
