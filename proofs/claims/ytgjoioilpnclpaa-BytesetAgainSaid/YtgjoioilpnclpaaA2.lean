import Derived.Test.YtgjoioilpnclpaaRows
import Derived.Test.YtgjoioilpnclpaaPop
import Derived.WalkKit
import Derived.Lib.Hide
import Derived.WalkSpells
import Derived.WalkLawsBesides
namespace Go.Proofs.Ytgjoioilpnclpaa
open Go.RowKit
theorem and_div (x k : Nat) (m : Nat) (hx : x < 18446744073709551616) (hm : m < 18446744073709551616) : bits .and .u64 ((x : Int) / (k : Int)) (m : Int) = ((x / k &&& m : Nat) : Int) := by
  rw [show ((x : Int) / (k : Int)) = ((x / k : Nat) : Int) from (Int.natCast_ediv x k).symm]
  exact u64_and_nat _ _ (Nat.lt_of_le_of_lt (Nat.div_le_self _ _) hx) hm
theorem wrap_nat (x : Nat) (hx : x < 18446744073709551616) : IntKind.u64.wrap (x : Int) = (x : Int) := by
  rw [IntKind.wrap_u64]; omega
theorem and127 (X : Nat) (h : X < 18446744073709551616) : bits .and .i64 (wrap64 (X : Int)) 127 = ((X % 128 : Nat) : Int) := by
  have e1 : BitVec.ofInt 64 (wrap64 (X : Int)) = BitVec.ofNat 64 X := by
    apply BitVec.eq_of_toNat_eq
    rw [BitVec.toNat_ofInt, BitVec.toNat_ofNat]
    unfold wrap64
    show ((((X : Int) + 9223372036854775808) % 18446744073709551616 - 9223372036854775808) % 18446744073709551616).toNat = X % 18446744073709551616
    omega
  show IntKind.i64.wrap ((BitVec.ofInt 64 (wrap64 (X : Int)) &&& BitVec.ofInt 64 127).toNat : Int) = _
  rw [e1]
  have e2 : (BitVec.ofNat 64 X &&& BitVec.ofInt 64 127).toNat = X % 128 := by
    rw [BitVec.toNat_and, BitVec.toNat_ofNat, Nat.mod_eq_of_lt h]
    exact Nat.and_two_pow_sub_one_eq_mod X 7
  rw [e2, IntKind.wrap_i64]; omega
/-- what the walk of OnesCount64 computes, step by step. -/
theorem ones_steps (x x1 x2 x3 x4 x5 n : Nat) (hx : x < 18446744073709551616)
    (e1 : x1 = (x / 2 &&& 6148914691236517205) + (x &&& 6148914691236517205))
    (e2 : x2 = (x1 / 4 &&& 3689348814741910323) + (x1 &&& 3689348814741910323))
    (e3 : x3 = (x2 / 16 + x2) &&& 1085102592571150095) (e4 : x4 = x3 + x3 / 256) (e5 : x5 = x4 + x4 / 65536)
    (h1 : x1 < 18446744073709551616) (h2 : x2 < 18446744073709551616) (h23 : x2 / 16 + x2 < 18446744073709551616) (h4 : x4 < 18446744073709551616) (h5 : x5 < 18446744073709551616) (h6 : x5 + x5 / 4294967296 < 18446744073709551616) (hn : (x5 + x5 / 4294967296) % 128 = n) :
    IntKind.u64.wrap (bits .and .u64 ((x : Int) / 2) 6148914691236517205 + bits .and .u64 (x : Int) 6148914691236517205) = (x1 : Int) ∧
    IntKind.u64.wrap (bits .and .u64 ((x1 : Int) / 4) 3689348814741910323 + bits .and .u64 (x1 : Int) 3689348814741910323) = (x2 : Int) ∧
    bits .and .u64 (IntKind.u64.wrap ((x2 : Int) / 16 + (x2 : Int))) 1085102592571150095 = (x3 : Int) ∧
    IntKind.u64.wrap ((x3 : Int) + (x3 : Int) / 256) = (x4 : Int) ∧ IntKind.u64.wrap ((x4 : Int) + (x4 : Int) / 65536) = (x5 : Int) ∧
    bits .and .i64 (wrap64 (IntKind.u64.wrap ((x5 : Int) + (x5 : Int) / 4294967296))) 127 = (n : Int) := by
  refine ⟨?_, ?_, ?_, ?_, ?_, ?_⟩
  · have a := and_div x 2 6148914691236517205 hx (by omega)
    have b := u64_and_nat x 6148914691236517205 hx (by omega)
    rw [show ((2 : Nat) : Int) = 2 from rfl, show ((6148914691236517205 : Nat) : Int) = 6148914691236517205 from rfl] at a
    rw [show ((6148914691236517205 : Nat) : Int) = 6148914691236517205 from rfl] at b
    rw [a, b, ← Int.natCast_add, ← e1]; exact wrap_nat _ h1
  · have a := and_div x1 4 3689348814741910323 h1 (by omega)
    have b := u64_and_nat x1 3689348814741910323 h1 (by omega)
    rw [show ((4 : Nat) : Int) = 4 from rfl, show ((3689348814741910323 : Nat) : Int) = 3689348814741910323 from rfl] at a
    rw [show ((3689348814741910323 : Nat) : Int) = 3689348814741910323 from rfl] at b
    rw [a, b, ← Int.natCast_add, ← e2]; exact wrap_nat _ h2
  · rw [show ((x2 : Int) / 16 + (x2 : Int)) = ((x2 / 16 + x2 : Nat) : Int) from by omega, wrap_nat _ h23]
    have b := u64_and_nat _ 1085102592571150095 h23 (by omega)
    rw [show ((1085102592571150095 : Nat) : Int) = 1085102592571150095 from rfl] at b
    rw [b, ← e3]
  · rw [show ((x3 : Int) + (x3 : Int) / 256) = ((x3 + x3 / 256 : Nat) : Int) from by omega, ← e4]; exact wrap_nat _ h4
  · rw [show ((x4 : Int) + (x4 : Int) / 65536) = ((x4 + x4 / 65536 : Nat) : Int) from by omega, ← e5]; exact wrap_nat _ h5
  · rw [show ((x5 : Int) + (x5 : Int) / 4294967296) = ((x5 + x5 / 4294967296 : Nat) : Int) from by omega, wrap_nat _ h6, and127 _ h6, hn]
set_option maxHeartbeats 400000 in
theorem ones_any (x : Nat) (hx : x < 18446744073709551616) (w : World) :
    Calls Try.prog 25 #[.int .u64 x] w fun e w' => e = .returned (.int .i64 (Pop.ones x 64)) ∧ w = w' := by
  have HX := Lib.hid hx; clear hx
  go_enter Try.func25, Try.ntmps25
  go_wp2
  go_ret
  refine ⟨?_, rfl⟩
  obtain ⟨x1, x2, x3, x4, x5, e1, e2, e3, e4, e5, h1, h2, h23, h3, h4, h5, h6, hn⟩ := Pop.swar x HX.out
  obtain ⟨r1, r2, r3, r4, r5, r6⟩ := ones_steps x x1 x2 x3 x4 x5 _ HX.out e1 e2 e3 e4 e5 h1 h2 h23 h4 h5 h6 hn
  show Ending.returned (Value.int .i64 _) = _
  rw [r1, r2, r3, r4, r5, r6]
end Go.Proofs.Ytgjoioilpnclpaa
