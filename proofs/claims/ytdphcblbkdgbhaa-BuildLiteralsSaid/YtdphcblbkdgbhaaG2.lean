import Derived.Test.YtdphcblbkdgbhaaG1
namespace Go.Proofs.Ytdphcblbkdgbhaa
open Go.RowKit
theorem below_drewN {B : Nat} {a w : World} (h : Below B a w) (n : Nat) : Below B a (w.drewN n) := ⟨h.os, h.tape, h.output, h.size, h.block⟩
theorem ret_bool {a b : Bool} (h : a = b) : Ending.returned (.bool a) = .returned (.bool b) := by rw [h]
def rulesFew (l : List Rl) : Bool := l.all fun r => decide (r.name.size ≤ 100)
def nodesFew (l : List Nd) : Bool := l.all fun x => decide (x.kids.length ≤ 60)
def fewB (g : Gr) : Bool := rulesFew g.rules && (nodesFew g.nodes && (decide (g.rules.length ≤ 30) && decide (g.nodes.length ≤ 300)))
theorem all_no {α : Type} {l : List α} {p : α → Bool} {k : Nat} (h : k < l.length) (hp : p l[k] = false) : l.all p = false := by
  rw [Bool.eq_false_iff]; intro ha
  have := (List.all_eq_true.1 ha) _ (List.getElem_mem h)
  rw [hp] at this; cases this
theorem all_take {α : Type} {l : List α} {p : α → Bool} {k : Nat} (h : k < l.length) (hp : p l[k] = true) (ht : (l.take k).all p = true) : (l.take (k + 1)).all p = true := by
  rw [List.take_succ_eq_append_getElem h, List.all_append, ht]; simp [hp]
/-- a grammar's value. -/
def grV (g : Gr) (ra na : Option Addr) (rc nc : Nat) : Value := .agg #[.slice ra g.rules.length rc, .slice na g.nodes.length nc]
set_option maxRecDepth 20000 in
set_option maxHeartbeats 1600000 in
theorem few_any (g : Gr) (ra na : Option Addr) (rc nc : Nat) (w : World) (hr : g.rules.length ≤ 140737488355328) (hn : g.nodes.length ≤ 140737488355328) (R : RlsAt w ra g.rules) (N : NdsAt w na g.nodes) :
    Calls Try.prog 20 #[.agg #[.slice ra g.rules.length rc, .slice na g.nodes.length nc]] w fun e w' => e = .returned (.bool (fewB g)) ∧ Below w.heap.size w w' := by
  have hF : Hid (fewB g = (rulesFew g.rules && (nodesFew g.nodes && (decide (g.rules.length ≤ 30) && decide (g.nodes.length ≤ 300))))) := rfl
  go_enter Try.func20, Try.ntmps20
  go_wp2
  have HB0 : Hid (Below w.heap.size w (w.alloc (.cells #[.slice ra g.rules.length rc, .slice na g.nodes.length nc] 36))) := (Below.refl _ _).alloc (Nat.le_refl _) _
  go_loop [3] (fun j => ∃ k : Nat, k ≤ g.rules.length ∧ j = .int .i64 k ∧ Hid (rulesFew (g.rules.take k) = true)) (fun j => g.rules.length - (intOf j).toNat)
  case atStart => exact ⟨0, by omega, rfl, rfl⟩
  case round =>
    obtain ⟨k, hk, rfl, HP⟩ := hrel
    by_cases hlt : k < g.rules.length
    · obtain ⟨b, off, rfl, h1, h2⟩ := R k hlt
      have h1' := cell_keep HB0.out h1
      by_cases hs : g.rules[k].name.size ≤ 100
      · have HN : Hid (rulesFew (g.rules.take (k + 1)) = true) := all_take hlt (by simpa using hs) HP.out
        go_wp2
        go_round
        case rel => exact ⟨k + 1, by omega, by go_num, HN⟩
        case measure => simp [intOf]; omega
      · have HN : Hid (rulesFew g.rules = false) := all_no hlt (by simpa using hs)
        go_wp2
        go_ret
        exact ⟨by rw [hF.out, HN.out]; rfl, HB0.out⟩
    · obtain rfl : k = g.rules.length := by omega
      rw [List.take_length] at HP
      go_wp2
      go_loop [4] (fun j => ∃ k : Nat, k ≤ g.nodes.length ∧ j = .int .i64 k ∧ Hid (nodesFew (g.nodes.take k) = true)) (fun j => g.nodes.length - (intOf j).toNat)
      case atStart => exact ⟨0, by omega, rfl, rfl⟩
      case round =>
        obtain ⟨k, hk, rfl, HQ⟩ := hrel
        by_cases hlt : k < g.nodes.length
        · obtain ⟨b, off, rfl, ka, kc, -, h1, -⟩ := N k hlt
          have h1' := cell_keep HB0.out h1
          by_cases hs : g.nodes[k].kids.length ≤ 60
          · have HN : Hid (nodesFew (g.nodes.take (k + 1)) = true) := all_take hlt (by simpa using hs) HQ.out
            go_wp2
            go_round
            case rel => exact ⟨k + 1, by omega, by go_num, HN⟩
            case measure => simp [intOf]; omega
          · have HN : Hid (nodesFew g.nodes = false) := all_no hlt (by simpa using hs)
            go_wp2
            go_ret
            exact ⟨by rw [hF.out, HN.out]; simp, HB0.out⟩
        · obtain rfl : k = g.nodes.length := by omega
          rw [List.take_length] at HQ
          go_wp2
          all_goals go_ret
          all_goals refine ⟨ret_bool ?_, HB0.out⟩
          all_goals rw [hF.out, HP.out, HQ.out, Bool.true_and, Bool.true_and, Bool.eq_iff_iff]
          all_goals simp only [Bool.and_eq_true, decide_eq_true_eq, Bool.false_eq_true, true_iff, false_iff]
          all_goals omega
end Go.Proofs.Ytdphcblbkdgbhaa
