import Derived.Test.YtdphcblbkdgbhaaG0
import Derived.Laws.StructEq
namespace Go.Proofs.Ytdphcblbkdgbhaa
open Go.RowKit
attribute [local go_sem] Oper.semAt_some
theorem guardSet : Try.prog.eqGuardType Try.prog.depth 30 = false := by kernel_rfl
theorem guardRl : Try.prog.eqGuardType Try.prog.depth 70 = false := by kernel_rfl
theorem sizeU64 (W : World) : (sizeOf 28).run Try.prog W = .ok 1 W := by kernel_rfl
theorem eqSetD (e : Nat) (key : ∀ (p q : Int) (W : World), (Op.equalIn e 28 (.int .u64 p) (.int .u64 q)).run Try.prog W = .ok (p == q) W) (a b c d a' b' c' d' : Int) (W : World) : (Op.equalIn (e + 1) 30 (.agg #[.int .u64 a, .int .u64 b, .int .u64 c, .int .u64 d]) (.agg #[.int .u64 a', .int .u64 b', .int .u64 c', .int .u64 d'])).run Try.prog W = .ok (a == a' && (b == b' && (c == c' && d == d'))) W := by
  have p0 : ∀ (x y z u : Value) W, (_root_.Go.part 28 #[x, y, z, u] 0).run Try.prog W = Result.ok x W := fun _ _ _ _ _ => by kernel_rfl
  have p1 : ∀ (x y z u : Value) W, (_root_.Go.part 28 #[x, y, z, u] 1).run Try.prog W = Result.ok y W := fun _ _ _ _ _ => by kernel_rfl
  have p2 : ∀ (x y z u : Value) W, (_root_.Go.part 28 #[x, y, z, u] 2).run Try.prog W = Result.ok z W := fun _ _ _ _ _ => by kernel_rfl
  have p3 : ∀ (x y z u : Value) W, (_root_.Go.part 28 #[x, y, z, u] 3).run Try.prog W = Result.ok u W := fun _ _ _ _ _ => by kernel_rfl
  unfold Op.equalIn
  simp only [Sem.run_bind, run_underlying Try.underlying30, Result.andThen_ok, sizeU64]
  simp only [Std.Legacy.Range.forIn_eq_forIn_range', Std.Legacy.Range.size, Nat.sub_zero, Nat.reduceAdd, Nat.reduceSub, Nat.reduceDiv, List.range', List.forIn_cons, List.forIn_nil, Sem.run_bind, p0, key, Result.andThen_ok, Nat.mul_one]
  by_cases e0 : a = a' <;> by_cases e1 : b = b' <;> by_cases e2 : c = c' <;> by_cases e3 : d = d' <;> simp [Sem.run_bind, key, p1, p2, p3, e0, e1, e2, e3]
theorem eqSetI (d : Nat) (a b c d' x y z u : Int) (W : World) : (Op.equalIn (d + 2) 30 (.agg #[.int .u64 a, .int .u64 b, .int .u64 c, .int .u64 d']) (.agg #[.int .u64 x, .int .u64 y, .int .u64 z, .int .u64 u])).run Try.prog W = .ok (a == x && (b == y && (c == z && d' == u))) W :=
  eqSetD (d + 1) (fun p q W => run_equalIn_int W d 28 .u64 .u64 p q Try.underlying28) a b c d' x y z u W
/-- two sets of words. -/
theorem eqW4 (s t : W4) (W : World) : (Op.equalIn 10000 30 (.agg #[.int .u64 s.a, .int .u64 s.b, .int .u64 s.c, .int .u64 s.d]) (.agg #[.int .u64 t.a, .int .u64 t.b, .int .u64 t.c, .int .u64 t.d])).run Try.prog W = .ok (decide (s = t)) W := by
  rw [eqSetI 9998]
  congr 1
  rw [Bool.eq_iff_iff]
  obtain ⟨a, b, c, d⟩ := s
  obtain ⟨a', b', c', d'⟩ := t
  simp only [Bool.and_eq_true, beq_iff_eq, decide_eq_true_eq, W4.mk.injEq]
  omega
theorem bytes_beq (n m : ByteArray) : (n.toList == m.toList) = decide (n = m) := by
  rw [Bool.eq_iff_iff, beq_iff_eq, decide_eq_true_eq]
  refine ⟨fun h => ?_, fun h => by rw [h]⟩
  rw [ByteArray.toList_eq, ByteArray.toList_eq] at h
  exact ByteArray.ext (Array.toList_inj.1 h)
theorem eqRl (r s : Rl) (W : World) : (Op.equalIn 10000 70 (.agg #[.string r.name, .int .i64 r.root]) (.agg #[.string s.name, .int .i64 s.root])).run Try.prog W = .ok (decide (r = s)) W := by
  have p0 : ∀ (x y : Value) W, (_root_.Go.part 9 #[x, y] 0).run Try.prog W = Result.ok x W := fun _ _ _ => by kernel_rfl
  have p1 : ∀ (x y : Value) W, (_root_.Go.part 3 #[x, y] 1).run Try.prog W = Result.ok y W := fun _ _ _ => by kernel_rfl
  obtain ⟨n, x⟩ := r
  obtain ⟨m, y⟩ := s
  have k0 : (Op.equalIn 9999 9 (.string n) (.string m)).run Try.prog W = .ok (decide (n = m)) W := by
    rw [← bytes_beq]; exact run_equalIn_string (P := Try.prog) W 9998 9 n m Try.underlying9
  have k1 : (Op.equalIn 9999 3 (.int .i64 x) (.int .i64 y)).run Try.prog W = .ok (x == y) W := run_equalIn_int (P := Try.prog) W 9998 3 .i64 .i64 x y Try.underlying3
  rw [run_equalIn_struct W 9999 70 _ _ (by kernel_rfl) (by kernel_rfl)]
  simp only [Program.fieldsOf, Try.underlying70, Op.eqFields, Sem.run_bind, p0, p1, Result.andThen_ok, k0, k1]
  by_cases h0 : n = m
  · subst h0
    by_cases h1 : x = y
    · subst h1; simp [Sem.run_bind, k0, k1, p1, p0] at *
    · simp [Sem.run_bind, k0, k1, p1, p0, h1] at *
  · simp [Sem.run_bind, k0, k1, p1, p0, h0]
end Go.Proofs.Ytdphcblbkdgbhaa
