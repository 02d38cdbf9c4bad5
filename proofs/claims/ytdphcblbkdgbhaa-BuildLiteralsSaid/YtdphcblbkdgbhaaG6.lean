import Derived.Test.YtdphcblbkdgbhaaG5
namespace Go.Proofs.Ytdphcblbkdgbhaa
open Go.RowKit
/-- an expression read backwards from a node: the index before its first node; -2 if it is not in post-order. -/
def exprK (f : Int → Int) : List Int → Int → Int
  | [], at_ => at_
  | k :: l, at_ => if k ≠ at_ then -2 else if f at_ = -2 then -2 else exprK f l (f at_)
def exprF (nodes : List Nd) : Nat → Int → Int
  | 0, _ => -2
  | f + 1, i => if i < 0 then -2 else exprK (exprF nodes f) ((nodes.getD i.toNat ⟨0, [], 0, w0⟩).kids.reverse) (i - 1)
theorem exprK_lo {f : Int → Int} (hf : ∀ i, f i = -2 ∨ f i < i) : ∀ (l : List Int) (a : Int), exprK f l a = -2 ∨ exprK f l a ≤ a
  | [], a => .inr (Int.le_refl _)
  | k :: l, a => by
    unfold exprK
    split
    · exact .inl rfl
    · split
      · exact .inl rfl
      · rename_i h
        rcases hf a with h1 | h1
        · exact absurd h1 h
        · rcases exprK_lo hf l (f a) with h2 | h2
          · exact .inl h2
          · right; omega
theorem exprF_lo (nodes : List Nd) : ∀ (f : Nat) (i : Int), exprF nodes f i = -2 ∨ exprF nodes f i < i
  | 0, i => .inl rfl
  | f + 1, i => by
    unfold exprF
    split
    · exact .inl rfl
    · rcases exprK_lo (exprF_lo nodes f) ((nodes.getD i.toNat ⟨0, [], 0, w0⟩).kids.reverse) (i - 1) with h | h
      · exact .inl h
      · right; omega
theorem exprK_ge {f : Int → Int} (hf : ∀ i, -2 ≤ f i) : ∀ (l : List Int) (a : Int), -2 ≤ a → -2 ≤ exprK f l a
  | [], a, h => h
  | k :: l, a, h => by
    unfold exprK
    split
    · omega
    · split
      · omega
      · exact exprK_ge hf l _ (hf a)
theorem exprF_ge (nodes : List Nd) : ∀ (f : Nat) (i : Int), -2 ≤ exprF nodes f i
  | 0, i => by simp [exprF]
  | f + 1, i => by
    unfold exprF
    split
    · omega
    · exact exprK_ge (exprF_ge nodes f) _ _ (by omega)
theorem exprK_congr {f g : Int → Int} : ∀ (l : List Int) (a : Int), (∀ i, i ≤ a → f i = g i) → (∀ i, f i = -2 ∨ f i < i) → exprK f l a = exprK g l a
  | [], a, _, _ => rfl
  | k :: l, a, h, hl => by
    unfold exprK
    rw [h a (Int.le_refl _)]
    split
    · rfl
    · split
      · rfl
      · rename_i h2
        refine exprK_congr l _ (fun i hi => h i ?_) hl
        rcases hl a with h1 | h1
        · rw [h a (Int.le_refl _)] at h1; exact absurd h1 h2
        · rw [h a (Int.le_refl _)] at h1; omega
theorem exprF_fuel (nodes : List Nd) : ∀ (f g : Nat) (i : Int), i < f → i < g → exprF nodes f i = exprF nodes g i
  | 0, 0, i, _, _ => rfl
  | 0, g + 1, i, h1, _ => by
    unfold exprF; rw [if_pos (by simpa using h1)]
  | f + 1, 0, i, _, h2 => by
    unfold exprF; rw [if_pos (by simpa using h2)]
  | f + 1, g + 1, i, h1, h2 => by
    unfold exprF
    split
    · rfl
    · exact exprK_congr _ _ (fun j hj => exprF_fuel nodes f g j (by omega) (by omega)) (exprF_lo nodes f)
/-- vetchref05.Expression. -/
def expr (nodes : List Nd) (i : Int) : Int := exprF nodes (i.toNat + 1) i
theorem expr_neg {nodes : List Nd} {i : Int} (h : i < 0) : expr nodes i = -2 := by unfold expr exprF; rw [if_pos h]
theorem expr_eq {nodes : List Nd} {i : Nat} (h : i < nodes.length) : expr nodes i = exprK (expr nodes) nodes[i].kids.reverse ((i : Int) - 1) := by
  unfold expr
  rw [show exprF nodes ((i : Int).toNat + 1) i = exprK (exprF nodes i) ((nodes.getD i ⟨0, [], 0, w0⟩).kids.reverse) ((i : Int) - 1) by
    rw [exprF, if_neg (by omega)]; simp]
  rw [List.getD_eq_getElem?_getD, List.getElem?_eq_getElem h]
  refine exprK_congr _ _ (fun j hj => exprF_fuel nodes _ _ j (by omega) (by omega)) (exprF_lo nodes i)
theorem expr_lo (nodes : List Nd) (i : Int) : -2 ≤ expr nodes i ∧ (expr nodes i = -2 ∨ expr nodes i < i) := ⟨exprF_ge _ _ _, exprF_lo _ _ _⟩
end Go.Proofs.Ytdphcblbkdgbhaa
