import Derived.Test.YtdphcblbkdgbhaaG8
namespace Go.Proofs.Ytdphcblbkdgbhaa
open Go.RowKit
theorem exprK_good (nodes : List Nd) (f : Int → Int) (hf : ∀ i, -2 ≤ f i ∧ (f i = -2 ∨ f i < i)) : ∀ (l : List Int) (a : Int), a < nodes.length → -1 ≤ a →
    (∀ x : Int, 0 ≤ x → x ≤ a → f x ≠ -2 → ∀ (j : Nat) (h : j < nodes.length), f x < j → (j : Int) ≤ x → ∀ k ∈ nodes[j].kids, f x < k ∧ k < j) →
    (∀ x : Int, x < 0 → f x = -2) →
    exprK f l a ≠ -2 → -1 ≤ exprK f l a ∧ (∀ k ∈ l, exprK f l a < k ∧ k ≤ a) ∧ ∀ (j : Nat) (h : j < nodes.length), exprK f l a < j → (j : Int) ≤ a → ∀ k ∈ nodes[j].kids, exprK f l a < k ∧ k < j
  | [], a, ha, ha0, hx, hn, h => ⟨ha0, by simp, fun j hj h1 h2 => by simp only [exprK] at h1; omega⟩
  | k :: l, a, ha, ha0, hx, hn, h => by
    have e1 : k = a := by
      rcases Decidable.em (k = a) with e | e
      · exact e
      · exfalso; apply h; rw [exprK, if_pos e]
    have e2 : f a ≠ -2 := by
      intro e; apply h; rw [exprK, if_neg (by simpa using e1), if_pos e]
    have e3 : exprK f (k :: l) a = exprK f l (f a) := by rw [exprK, if_neg (by simpa using e1), if_neg e2]
    have hl := hf a
    have ha1 : 0 ≤ a := by
      rcases Int.lt_or_le a 0 with h9 | h9
      · exact absurd (hn a h9) e2
      · exact h9
    rw [e3] at h ⊢
    obtain ⟨r0, r1, r2⟩ := exprK_good nodes f hf l (f a) (by omega) (by omega) (fun x h0 h1 => hx x h0 (by omega)) hn h
    have hle : exprK f l (f a) ≤ f a := by
      rcases exprK_lo (fun i => (hf i).2) l (f a) with h9 | h9
      · exact absurd h9 h
      · exact h9
    refine ⟨r0, ?_, ?_⟩
    · intro y hy
      rcases List.mem_cons.1 hy with rfl | hy
      · omega
      · have := r1 y hy; omega
    · intro j hj h1 h2 y hy
      by_cases hja : (j : Int) ≤ f a
      · exact r2 j hj h1 hja y hy
      · have := hx a ha1 (Int.le_refl _) e2 j hj (by omega) h2 y hy
        omega
theorem expr_good (nodes : List Nd) : ∀ (n : Nat) (i : Nat), i < n → i < nodes.length → expr nodes i ≠ -2 →
    -1 ≤ expr nodes i ∧ ∀ (j : Nat) (h : j < nodes.length), expr nodes i < j → (j : Int) ≤ i → ∀ k ∈ nodes[j].kids, expr nodes i < k ∧ k < j
  | 0, i, h, _, _ => by omega
  | n + 1, i, h, hi, hne => by
    have he := expr_eq hi
    rw [he] at hne ⊢
    obtain ⟨r0, r1, r2⟩ := exprK_good nodes (expr nodes) (expr_lo nodes) nodes[i].kids.reverse ((i : Int) - 1) (by omega) (by omega)
      (fun x h0 h1 h2 j hj => by
        obtain ⟨y, rfl⟩ := Int.eq_ofNat_of_zero_le h0
        exact (expr_good nodes n y (by omega) (by omega) h2).2 j hj) (fun x hx => expr_neg hx) hne
    refine ⟨r0, fun j hj h1 h2 y hy => ?_⟩
    by_cases hja : (j : Int) ≤ (i : Int) - 1
    · exact r2 j hj h1 hja y hy
    · obtain rfl : j = i := by omega
      have := r1 y (by simpa using hy)
      omega
/-- the kids of every node lie before it. -/
def KidsOk (nodes : List Nd) : Prop := ∀ (j : Nat) (h : j < nodes.length), ∀ k ∈ nodes[j].kids, 0 ≤ k ∧ k < j
theorem ordK_good (nodes : List Nd) : ∀ (l : List Rl) (b : Int), -1 ≤ b → ordK (expr nodes) nodes.length l b = true → ∀ (j : Nat) (h : j < nodes.length), b < j → ∀ k ∈ nodes[j].kids, b < k ∧ k < j
  | [], b, hb, h, j, hj, hbj => by simp only [ordK, decide_eq_true_eq] at h; omega
  | r :: l, b, hb, h, j, hj, hbj => by
    unfold ordK at h
    split at h
    · cases h
    · rename_i hn
      have hr : expr nodes r.root = b := by omega
      obtain ⟨y, hy⟩ := Int.eq_ofNat_of_zero_le (show 0 ≤ r.root by omega)
      intro k hk
      by_cases hle : (j : Int) ≤ r.root
      · rw [hy] at hr hle
        have := (expr_good nodes (y + 1) y (by omega) (by omega) (by rw [hr]; omega)).2 j hj (by rw [hr]; exact hbj) hle k hk
        rw [hr] at this
        exact this
      · have := ordK_good nodes l r.root (by omega) h j hj (by omega) k hk
        omega
theorem ordered_kids {g : Gr} (h : orderedB g = true) : KidsOk g.nodes := fun j hj k hk => by
  have := ordK_good g.nodes g.rules (-1) (by omega) h j hj (by omega) k hk
  omega
/-- the depth of a node, up to a greatest one. -/
def depF (nodes : List Nd) : Nat → Nat → Int
  | 0, _ => 1
  | m + 1, i => ((nodes.getD i ⟨0, [], 0, w0⟩).kids.foldl (fun d k => max d (depF nodes m k.toNat)) 0) + 1
theorem foldl_max_bd {f : Int → Int} {lo hi : Int} : ∀ (l : List Int) (d : Int), lo ≤ d → d ≤ hi → (∀ k ∈ l, f k ≤ hi) → lo ≤ l.foldl (fun d k => max d (f k)) d ∧ l.foldl (fun d k => max d (f k)) d ≤ hi
  | [], d, h1, h2, _ => ⟨h1, h2⟩
  | k :: l, d, h1, h2, h3 => by
    have h4 := h3 k (by simp)
    exact foldl_max_bd l (max d (f k)) (by omega) (by omega) (fun x hx => h3 x (by simp [hx]))
theorem depF_bd (nodes : List Nd) : ∀ (m i : Nat), 1 ≤ depF nodes m i ∧ depF nodes m i ≤ m + 1
  | 0, i => by simp [depF]
  | m + 1, i => by
    unfold depF
    have := foldl_max_bd (f := fun k => depF nodes m k.toNat) (lo := 0) (hi := m + 1) ((nodes.getD i ⟨0, [], 0, w0⟩).kids) 0 (by omega) (by omega) (fun k _ => (depF_bd nodes m k.toNat).2)
    omega
end Go.Proofs.Ytdphcblbkdgbhaa
