import Derived.Test.YtgjoioilpnclpaaRows
import Derived.WalkKit
import Derived.Lib.Hide
import Derived.WalkSpells
import Derived.WalkLawsBesides
namespace Go.Proofs.Ytgjoioilpnclpaa
open Go.RowKit
/-- the cells of a set: its four words. -/
def sc (f : Nat → Nat) : Array Value := #[.int .u64 (f 0), .int .u64 (f 1), .int .u64 (f 2), .int .u64 (f 3)]
theorem sc_at (f : Nat → Nat) (j : Nat) (h : j < 4) : (sc f)[j]? = some (.int .u64 (f j)) := by
  match j, h with
  | 0, _ => rfl
  | 1, _ => rfl
  | 2, _ => rfl
  | 3, _ => rfl
theorem sc_size (f : Nat → Nat) : (sc f).size = 4 := rfl
/-- is a byte a member? -/
def mem (f : Nat → Nat) (i : Nat) : Bool := (f (i / 64)).testBit (i % 64)
def Wf (f : Nat → Nat) : Prop := ∀ j, j < 4 → f j < 18446744073709551616
theorem bit1 (x k : Nat) (hx : x < 18446744073709551616) : (bits .and .u64 ((x : Int) / 2 ^ k) 1 == 1) = x.testBit k := by
  have e : ((x : Int) / 2 ^ k) = ((x / 2 ^ k : Nat) : Int) := by rw [Int.natCast_ediv, Int.natCast_pow]; rfl
  have hlt : x / 2 ^ k < 18446744073709551616 := Nat.lt_of_le_of_lt (Nat.div_le_self _ _) hx
  have h := u64_and_nat (x / 2 ^ k) 1 hlt (by omega)
  rw [e, show (1 : Int) = ((1 : Nat) : Int) from rfl, h, Nat.and_one_is_mod, Nat.testBit_eq_decide_div_mod_eq]
  rw [Bool.eq_iff_iff]; simp; omega
set_option maxHeartbeats 400000 in
theorem has_any (f : Nat → Nat) (i : Nat) (hf : Wf f) (h1 : i ≤ 255) (w : World) :
    Calls Try.prog 9 #[.agg (sc f), .int .u8 i] w fun e w' => e = .returned (.bool (mem f i)) ∧ Below w.heap.size w w' := by
  have hs := sc_size f
  have hc := sc_at f (i / 64) (by omega)
  have hb : Hid ((bits .and .u64 ((f (i / 64) : Int) / 2 ^ (i % 64)) 1 == 1) = mem f i) := bit1 _ _ (hf _ (by omega))
  go_enter Try.func9, Try.ntmps9
  go_wp2
  go_ret
  exact ⟨congrArg (fun b => Ending.returned (Value.bool b)) hb.out, (Below.refl _ _).alloc (Nat.le_refl _) _⟩
theorem quo2 (y : Nat) (h : y < 18446744073709551616) : IntKind.u64.wrap ((y : Int).tdiv 2) = ((y / 2 : Nat) : Int) := by
  rw [IntKind.wrap_u64, Int.tdiv_eq_ediv_of_nonneg (by omega)]; omega
theorem rem2 (y : Nat) : ((y : Int) % 2 == 1) = decide (y % 2 = 1) := by
  rw [Bool.eq_iff_iff]; simp; omega
set_option maxHeartbeats 400000 in
theorem refHas_any (f : Nat → Nat) (i : Nat) (hf : Wf f) (h1 : i ≤ 255) (w : World) :
    Calls Try.prog 10 #[.agg (sc f), .int .u8 i] w fun e w' => e = .returned (.bool (mem f i)) ∧ Below w.heap.size w w' := by
  have hs := sc_size f
  have hc := sc_at f (i / 64) (by omega)
  go_enter Try.func10, Try.ntmps10
  go_wp2
  go_loop [5, 6] (fun x j => ∃ k y : Nat, k ≤ i % 64 ∧ Hid (y = f (i / 64) / 2 ^ k) ∧ x = .int .u64 y ∧ j = .int .i64 k) (fun _ j => 64 - (intOf j).toNat)
  case atStart => exact ⟨0, f (i / 64), Nat.zero_le _, (Nat.div_one _).symm, rfl, rfl⟩
  case round =>
    obtain ⟨k, y, hk, hy, rfl, rfl⟩ := hrel
    by_cases hlt : k < i % 64
    · go_wp2
      go_round
      case rel => exact ⟨k + 1, y / 2, by omega, by rw [hy.out]; exact Nat.div_div_eq_div_mul _ _ _, congrArg _ (quo2 y (by rw [hy.out]; exact Nat.lt_of_le_of_lt (Nat.div_le_self _ _) (hf _ (by omega)))), by go_num⟩
      case measure => simp [intOf]; omega
    · go_wp2
      go_ret
      refine ⟨congrArg (fun b => Ending.returned (Value.bool b)) ?_, (Below.refl _ _).alloc (Nat.le_refl _) _⟩
      obtain rfl : k = i % 64 := by omega
      rw [rem2, hy.out, mem, Nat.testBit_eq_decide_div_mod_eq]
end Go.Proofs.Ytgjoioilpnclpaa
