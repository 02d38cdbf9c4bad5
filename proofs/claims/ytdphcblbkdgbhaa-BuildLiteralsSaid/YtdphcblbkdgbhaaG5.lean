import Derived.Test.YtdphcblbkdgbhaaG4
namespace Go.Proofs.Ytdphcblbkdgbhaa
open Go.RowKit
def w0 : W4 := ⟨0, 0, 0, 0⟩
/-- is a node well made. -/
def madeB (x : Nd) (n : Nat) : Bool :=
  decide (0 ≤ x.op ∧ x.op ≤ 9) && (decide ((x.op ≤ 2 → x.kids.length = 0) ∧ (x.op = 3 ∨ x.op = 4 → 2 ≤ x.kids.length) ∧ (5 ≤ x.op → x.kids.length = 1))
    && (decide ((x.op = 2 → 0 ≤ x.rule ∧ x.rule < n) ∧ (x.op ≠ 2 → x.rule = 0)) && (decide (x.op = 1) || decide (x.set = w0))))
/-- a node's value. -/
def ndV (x : Nd) (ka : Option Addr) (kc : Nat) : Array Value := #[.int .i64 x.op, .slice ka x.kids.length kc, .int .i64 x.rule, .int .u64 x.set.a, .int .u64 x.set.b, .int .u64 x.set.c, .int .u64 x.set.d]
set_option maxRecDepth 20000 in
set_option maxHeartbeats 3200000 in
theorem made_any (x : Nd) (n : Nat) (ka : Option Addr) (kc : Nat) (w : World) (hk : x.kids.length ≤ 140737488355328) (hn : n ≤ 140737488355328) :
    Calls Try.prog 43 #[.agg #[.int .i64 x.op, .slice ka x.kids.length kc, .int .i64 x.rule, .int .u64 x.set.a, .int .u64 x.set.b, .int .u64 x.set.c, .int .u64 x.set.d], .int .i64 n] w fun e w' => e = .returned (.bool (madeB x n)) ∧ Below w.heap.size w w' := by
  have es : ∀ W, (Op.equalIn 10000 30 (.agg #[.int .u64 x.set.a, .int .u64 x.set.b, .int .u64 x.set.c, .int .u64 x.set.d]) (.agg #[.int .u64 0, .int .u64 0, .int .u64 0, .int .u64 0])).run Try.prog W = .ok (decide (x.set = w0)) W := fun W => eqW4 x.set w0 W
  have hF : Hid (madeB x n = (decide (0 ≤ x.op ∧ x.op ≤ 9) && (decide ((x.op ≤ 2 → x.kids.length = 0) ∧ (x.op = 3 ∨ x.op = 4 → 2 ≤ x.kids.length) ∧ (5 ≤ x.op → x.kids.length = 1))
    && (decide ((x.op = 2 → 0 ≤ x.rule ∧ x.rule < n) ∧ (x.op ≠ 2 → x.rule = 0)) && (decide (x.op = 1) || decide (x.set = w0)))))) := rfl
  have geq2 := guardSet
  obtain ⟨op, kids, rule, s⟩ := x
  simp only at es hF hk ⊢
  generalize decide (s = w0) = q at *
  generalize kids.length = m at *
  generalize madeB _ _ = r at *
  go_enter Try.func43, Try.ntmps43
  go_wp2
  all_goals go_ret
  all_goals refine ⟨ret_bool ?_, (Below.refl _ _).alloc (Nat.le_refl _) _⟩
  all_goals rw [hF.out]
  all_goals cases q
  all_goals clear hF es geq2
  all_goals rw [Bool.eq_iff_iff]
  all_goals simp only [Bool.and_eq_true, Bool.or_eq_true, decide_eq_true_eq, Bool.false_eq_true, false_iff, true_iff, beq_iff_eq, bne_iff_ne, bne_eq_false_iff_eq, ne_eq, or_false, or_true, and_true, iff_true, iff_false] at *
  all_goals omega
end Go.Proofs.Ytdphcblbkdgbhaa
