import Derived.Test.YtdeidhehdhijgaaShelf
import Derived.WalkKit
import Derived.Lib.Hide
import Derived.KernelRfl
import Derived.WalkSpells
import Derived.WalkLawsBesides
namespace Go.Proofs.Ytdeidhehdhijgaa
open Go.RowKit
/-- the byte at an index; 256 behind the end. -/
def at' (s : ByteArray) (i : Nat) : Nat := if h : i < s.size then (s[i]).toNat else 256
theorem at_lt {s : ByteArray} {i : Nat} (h : i < s.size) : at' s i = (s[i]).toNat := by unfold at'; rw [dif_pos h]
theorem at_hi {s : ByteArray} {i : Nat} (h : s.size ≤ i) : at' s i = 256 := by unfold at'; rw [dif_neg (by omega)]
theorem at_le (s : ByteArray) (i : Nat) : at' s i ≤ 256 := by
  unfold at'; split
  · have := (s[i]).toNat_lt; omega
  · omega
/-- the digit to the base 8 at an index; -1 if there is none. -/
def octI (s : ByteArray) (i : Nat) : Int := if 48 ≤ at' s i ∧ at' s i ≤ 55 then (at' s i : Int) - 48 else -1
theorem octI_range (s : ByteArray) (i : Nat) : -1 ≤ octI s i ∧ octI s i ≤ 7 := by unfold octI; split <;> omega
theorem octI_hi {s : ByteArray} {i : Nat} (h : s.size ≤ i) : octI s i = -1 := by unfold octI; rw [at_hi h]; rfl
theorem octal_any (s : ByteArray) (i : Nat) (w : World) :
    Calls Try.prog 25 #[.string s, .int .i64 i] w fun e w' => e = .returned (.int .i64 (octI s i)) ∧ w' = w := by
  by_cases h : i < s.size
  · have e := at_lt h
    go_enter Try.func25, Try.ntmps25
    go_wp2
    all_goals go_ret
    all_goals refine ⟨congrArg (fun z => Ending.returned (Value.int .i64 z)) ?_, rfl⟩
    all_goals (unfold octI; rw [e]; split <;> omega)
  · have e := octI_hi (Nat.le_of_not_lt h)
    go_enter Try.func25, Try.ntmps25
    go_wp2
    all_goals go_ret
    all_goals exact ⟨by rw [e]; rfl, rfl⟩
end Go.Proofs.Ytdeidhehdhijgaa
