import Derived.Test.YtdphcblbkdgbhaaK7
namespace Go.Proofs.Ytdphcblbkdgbhaa
open Go.RowKit
theorem exprK_all (nodes : List Nd) (f : Int → Int) (hf : ∀ i, -2 ≤ f i ∧ (f i = -2 ∨ f i < i)) : ∀ (l : List Int) (a : Int), -1 ≤ a →
    (∀ x : Int, 0 ≤ x → x ≤ a → f x ≠ -2 → ∀ (j : Nat), f x < j → (j : Int) ≤ x → f j ≠ -2 ∧ f x ≤ f j) →
    (∀ x : Int, x < 0 → f x = -2) →
    exprK f l a ≠ -2 → ∀ (j : Nat), exprK f l a < j → (j : Int) ≤ a → f j ≠ -2 ∧ exprK f l a ≤ f j
  | [], a, ha0, hx, hn, h => fun j h1 h2 => by simp only [exprK] at h1; omega
  | k :: l, a, ha0, hx, hn, h => by
    have e1 : k = a := by
      rcases Decidable.em (k = a) with e | e
      · exact e
      · exfalso; apply h; rw [exprK, if_pos e]
    have e2 : f a ≠ -2 := by
      intro e; apply h; rw [exprK, if_neg (by simpa using e1), if_pos e]
    have e3 : exprK f (k :: l) a = exprK f l (f a) := by rw [exprK, if_neg (by simpa using e1), if_neg e2]
    have hl := hf a
    have ha1 : 0 ≤ a := by
      rcases Int.lt_or_le a 0 with h9 | h9
      · exact absurd (hn a h9) e2
      · exact h9
    rw [e3] at h ⊢
    have r2 := exprK_all nodes f hf l (f a) (by omega) (fun x h0 h1 => hx x h0 (by omega)) hn h
    have hle : exprK f l (f a) ≤ f a := by
      rcases exprK_lo (fun i => (hf i).2) l (f a) with h9 | h9
      · exact absurd h9 h
      · exact h9
    intro j h1 h2
    by_cases hja : (j : Int) ≤ f a
    · exact r2 j h1 hja
    · have := hx a ha1 (Int.le_refl _) e2 j (by omega) h2
      omega
theorem expr_all (nodes : List Nd) : ∀ (n : Nat) (i : Nat), i < n → i < nodes.length → expr nodes i ≠ -2 → ∀ (j : Nat), expr nodes i < j → (j : Int) ≤ i → expr nodes j ≠ -2 ∧ expr nodes i ≤ expr nodes j
  | 0, i, h, _, _ => by omega
  | n + 1, i, h, hi, hne => by
    have he := expr_eq hi
    intro j h1 h2
    by_cases hji : j = i
    · subst hji; exact ⟨hne, Int.le_refl _⟩
    · rw [he] at hne h1 ⊢
      exact exprK_all nodes (expr nodes) (expr_lo nodes) nodes[i].kids.reverse ((i : Int) - 1) (by omega)
        (fun x h0 h1 h2 => by
          obtain ⟨y, rfl⟩ := Int.eq_ofNat_of_zero_le h0
          exact expr_all nodes n y (by omega) (by omega) h2) (fun x hx => expr_neg hx) hne j h1 (by omega)
theorem ordK_all (nodes : List Nd) : ∀ (l : List Rl) (b : Int), -1 ≤ b → ordK (expr nodes) nodes.length l b = true → ∀ (j : Nat) (_ : j < nodes.length), b < j → expr nodes j ≠ -2 ∧ b ≤ expr nodes j
  | [], b, hb, h, j, hj, hbj => by simp only [ordK, decide_eq_true_eq] at h; omega
  | r :: l, b, hb, h, j, hj, hbj => by
    unfold ordK at h
    split at h
    · cases h
    · rename_i hn
      have hr : expr nodes r.root = b := by omega
      obtain ⟨y, hy⟩ := Int.eq_ofNat_of_zero_le (show 0 ≤ r.root by omega)
      by_cases hle : (j : Int) ≤ r.root
      · rw [hy] at hr hle
        have := expr_all nodes (y + 1) y (by omega) (by omega) (by rw [hr]; omega) j (by rw [hr]; exact hbj) hle
        rw [hr] at this
        exact this
      · have := ordK_all nodes l r.root (by omega) h j hj (by omega)
        omega
theorem ordered_all {g : Gr} (h : orderedB g = true) (j : Nat) (hj : j < g.nodes.length) : expr g.nodes j ≠ -2 ∧ -1 ≤ expr g.nodes j := by
  have := ordK_all g.nodes g.rules (-1) (by omega) h j hj (by omega)
  exact this
/-- the first kid's expression begins where the whole begins. -/
theorem exprK_last {f : Int → Int} : ∀ (l : List Int) (k a : Int), exprK f (l ++ [k]) a ≠ -2 → f k = exprK f (l ++ [k]) a ∧ f k ≠ -2
  | [], k, a, h => by
    simp only [List.nil_append] at *
    rw [exprK] at h ⊢
    split at h
    · exact absurd rfl h
    · rename_i h1
      split at h
      · exact absurd rfl h
      · rename_i h2
        rw [if_neg h1, if_neg h2]
        have : k = a := by omega
        subst this
        exact ⟨rfl, h2⟩
  | x :: l, k, a, h => by
    rw [List.cons_append, exprK] at h ⊢
    split at h
    · exact absurd rfl h
    · rename_i h1
      split at h
      · exact absurd rfl h
      · rename_i h2
        rw [if_neg h1, if_neg h2]
        exact exprK_last l k (f a) h
theorem expr_first {nodes : List Nd} {i : Nat} (h : i < nodes.length) (hne : expr nodes i ≠ -2) :
    (nodes[i].kids = [] ∧ expr nodes i = (i : Int) - 1) ∨ ∃ (k : Int) (l : List Int), nodes[i].kids = k :: l ∧ expr nodes k = expr nodes i ∧ expr nodes k ≠ -2 := by
  rw [expr_eq h] at hne ⊢
  cases hk : nodes[i].kids with
  | nil => left; exact ⟨rfl, rfl⟩
  | cons k l =>
    right
    rw [hk, List.reverse_cons] at hne
    obtain ⟨h1, h2⟩ := exprK_last l.reverse k _ hne
    exact ⟨k, l, rfl, by rw [List.reverse_cons]; exact h1, h2⟩
set_option maxRecDepth 20000 in
set_option maxHeartbeats 1600000 in
theorem first_any (nodes : List Nd) (ra : Option Addr) (rl rc : Nat) (na : Option Addr) (nc : Nat) (w : World) (hn : nodes.length ≤ 140737488355328) (hkk : ∀ x ∈ nodes, x.kids.length ≤ 140737488355328) (hok : KidsOk nodes) (N : NdsAt w na nodes) (i : Nat) (hi : i < nodes.length) (hne : expr nodes i ≠ -2) :
    Calls Try.prog 36 #[.agg #[.slice ra rl rc, .slice na nodes.length nc], .int .i64 i] w fun e w' => e = .returned (.int .i64 (expr nodes i + 1)) ∧ Below w.heap.size w w' := by
  have HB0 : Hid (Below w.heap.size w (w.alloc (.cells #[.slice ra rl rc, .slice na nodes.length nc] 36))) := (Below.refl _ _).alloc (Nat.le_refl _) _
  have HNE := Lib.hid hne
  clear hne
  go_enter Try.func36, Try.ntmps36
  go_wp2
  go_loop [1] (fun j => ∃ (k : Nat), k < nodes.length ∧ k ≤ i ∧ j = .int .i64 k ∧ Hid (expr nodes k = expr nodes i)) (fun j => (intOf j).toNat)
  case atStart => exact ⟨i, hi, Nat.le_refl _, rfl, rfl⟩
  case round =>
    obtain ⟨k, hk, hki, rfl, HE⟩ := hrel
    obtain ⟨b, off, ka, kc, rfl, hz0, g0, g1, g2, g3, g4, g5, g6, H7⟩ := N.get HB0 k hk
    have hkl := hkk _ (List.getElem_mem hk)
    have hkids := hok k hk
    rcases expr_first hk (by rw [HE.out]; exact HNE.out) with ⟨h1, h2⟩ | ⟨y, l, h1, h2, h3⟩
    · have HF : Hid (expr nodes i = (k : Int) - 1) := by have := HE.out; rw [h2] at this; exact this.symm
      rw [h1] at g1
      clear h1 h2 hkids
      go_wp2
      go_ret
      exact ⟨ret_int (by rw [HF.out]; omega), HB0.out⟩
    · have hy := hkids y (by rw [h1]; simp)
      have hl0 : 0 < nodes[k].kids.length := by rw [h1]; simp
      obtain ⟨bk, ok, rfl, hz2, q0⟩ := H7.out.get (Below.refl _ _) 0 hl0
      have hy0 : nodes[k].kids[0] = y := by simp only [h1, List.getElem_cons_zero]
      rw [hy0, Nat.add_zero] at q0
      obtain ⟨y, rfl⟩ := Int.eq_ofNat_of_zero_le hy.1
      have HE2 : Hid (expr nodes y = expr nodes i) := by have := HE.out; rw [← h2] at this; exact this
      have hyk : y < k := by omega
      have hd : decide ((0 : Int) < (nodes[k].kids.length : Nat)) = true := by simp; omega
      clear h1 h2 h3 hkids hy0 hy
      go_wp2
      go_round
      case rel => exact ⟨y, by omega, by omega, rfl, HE2⟩
      case measure => simp [intOf]; omega
end Go.Proofs.Ytdphcblbkdgbhaa
