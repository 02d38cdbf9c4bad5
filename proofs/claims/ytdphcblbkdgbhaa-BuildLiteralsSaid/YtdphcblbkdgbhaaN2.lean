import Derived.Test.YtdphcblbkdgbhaaN1
import Derived.BigQuiet
namespace Go.Proofs.Ytdphcblbkdgbhaa
open Go.RowKit
attribute [local go_sem] Oper.semAt_some
theorem guardIt : Try.prog.eqGuardType Try.prog.depth 32 = false := by kernel_rfl
theorem eqIt (r s : It) (W : World) : (Op.equalIn 10000 32 (.agg #[.int .i64 r.op, .int .i64 r.kids, .int .i64 r.rule, .int .u64 r.set.a, .int .u64 r.set.b, .int .u64 r.set.c, .int .u64 r.set.d]) (.agg #[.int .i64 s.op, .int .i64 s.kids, .int .i64 s.rule, .int .u64 s.set.a, .int .u64 s.set.b, .int .u64 s.set.c, .int .u64 s.set.d])).run Try.prog W = .ok (decide (r = s)) W := by
  have p0 : ∀ (a b c d e f g : Value) W, (_root_.Go.part 3 #[a, b, c, d, e, f, g] 0).run Try.prog W = Result.ok a W := fun _ _ _ _ _ _ _ _ => by kernel_rfl
  have p1 : ∀ (a b c d e f g : Value) W, (_root_.Go.part 3 #[a, b, c, d, e, f, g] 1).run Try.prog W = Result.ok b W := fun _ _ _ _ _ _ _ _ => by kernel_rfl
  have p2 : ∀ (a b c d e f g : Value) W, (_root_.Go.part 3 #[a, b, c, d, e, f, g] 2).run Try.prog W = Result.ok c W := fun _ _ _ _ _ _ _ _ => by kernel_rfl
  have p3 : ∀ (a b c d e f g : Value) W, (_root_.Go.part 30 #[a, b, c, d, e, f, g] 3).run Try.prog W = Result.ok (.agg #[d, e, f, g]) W := fun _ _ _ _ _ _ _ _ => by kernel_rfl
  obtain ⟨o, k, x, t⟩ := r
  obtain ⟨o', k', x', t'⟩ := s
  have k0 : ∀ a b, (Op.equalIn 9999 3 (.int .i64 a) (.int .i64 b)).run Try.prog W = .ok (decide (a = b)) W := fun a b => by
    rw [run_equalIn_int (P := Try.prog) W 9998 3 .i64 .i64 a b Try.underlying3]; rfl
  have k3 : (Op.equalIn 9999 30 (.agg #[.int .u64 t.a, .int .u64 t.b, .int .u64 t.c, .int .u64 t.d]) (.agg #[.int .u64 t'.a, .int .u64 t'.b, .int .u64 t'.c, .int .u64 t'.d])).run Try.prog W = .ok (decide (t = t')) W := by
    rw [eqSetI 9997]
    congr 1
    rw [Bool.eq_iff_iff]
    obtain ⟨a, b, c, d⟩ := t
    obtain ⟨a', b', c', d'⟩ := t'
    simp only [Bool.and_eq_true, beq_iff_eq, decide_eq_true_eq, W4.mk.injEq]
    omega
  rw [run_equalIn_struct W 9999 32 _ _ (by kernel_rfl) (by kernel_rfl)]
  simp only [Program.fieldsOf, Try.underlying32, Op.eqFields, Sem.run_bind, p0, p1, p2, p3, Result.andThen_ok, k0, k3]
  by_cases h0 : o = o'
  · by_cases h1 : k = k'
    · by_cases h2 : x = x'
      · by_cases h3 : t = t'
        · simp [Sem.run_bind, k0, k3, p0, p1, p2, p3, h0, h1, h2, h3] at *
          first | done | simp [k3]
        · simp [Sem.run_bind, k0, k3, p0, p1, p2, p3, h0, h1, h2, h3] at *
          first | done | simp [k3, h3]
      · simp [Sem.run_bind, k0, p0, p1, p2, p3, h0, h1, h2] at *
    · simp [Sem.run_bind, k0, p0, p1, p2, p3, h0, h1] at *
  · simp [Sem.run_bind, k0, p0, p1, p2, p3, h0]
end Go.Proofs.Ytdphcblbkdgbhaa
