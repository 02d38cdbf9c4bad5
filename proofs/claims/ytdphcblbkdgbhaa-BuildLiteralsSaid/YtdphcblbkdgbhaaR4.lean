import Derived.Test.YtdphcblbkdgbhaaR3
import Derived.OrdersHeld
namespace Go.Proofs.Ytdphcblbkdgbhaa
open Go.RowKit
section
variable {P : Program} {ops : Array Oper} {md : Region.Mode} {S : World → Prop} {t : Nat} {Q : Exit → Act → World → Prop}
/-- no panic, no way out: what it means at the end. -/
def calm (K : Act → World → Prop) (e : Exit) (a : Act) (w : World) : Prop := e = .normal ∧ K a w
theorem calm_lets {K : Act → World → Prop} : ¬ LetsOut (calm K) := fun ⟨_, _, h, _⟩ => by cases h
theorem wp_calm {o : Oper} {a : Act} {w : World} {K0 K K' : Act → World → Prop} (hK : ∀ a w, K a w → K' a w) (h : o.wp P a w K (calm K0)) (Q : Exit → Act → World → Prop) : o.wp P a w K' Q := by
  unfold Oper.wp at *
  generalize (execOp a.eval o).run P w = r at *
  cases r with
  | ok n w' =>
    cases n <;> simp only [Oper.upon] at h ⊢
    case value u => exact hK _ _ h
    case skip => exact hK _ _ h
    case defer d => exact hK _ _ h
    case enter f args =>
      refine Calls.mono h fun e w'' he => ?_
      cases e with
      | returned u => exact hK _ _ he
      | panicked c => exact absurd he.1 (by simp)
      | outgrown => exact absurd he calm_lets
    case row row args => exact Rows.mono h fun u w'' he => hK _ _ he
  | halt x w' =>
    cases x <;> simp only [Oper.upon] at h ⊢
    case panic u => exact absurd h.1 (by simp)
theorem wpOp_calm {i : Nat} {a : Act} {w : World} {K0 K K' : Act → World → Prop} (hK : ∀ a w, K a w → K' a w) (h : wpOp P ops (calm K0) i K a w) (Q : Exit → Act → World → Prop) : wpOp P ops Q i K' a w := by
  unfold wpOp at *
  split
  · rename_i ho; simp only [ho] at h; exact hK _ _ h
  · rename_i o ho
    simp only [ho] at h
    split
    · rename_i hw
      simp only [hw, if_true] at h
      rcases h with h | ⟨_, h⟩
      · exact .inl (wp_calm hK h Q)
      · exact absurd h calm_lets
    · rename_i hw
      simp only [hw] at h
      exact hK _ _ h
/-- any order; behind each operation but the last, t, what the loads rest on stands. -/
def wpAnyT (P : Program) (md : Region.Mode) (ops : Array Oper) (K : Act → World → Prop) (S : World → Prop) (t : Nat) : Nat → Array Bool → Act → World → Prop
  | 0, listed, a, w => Region.ready md ops listed = [] ∧ K a w
  | f + 1, listed, a, w => (Region.ready md ops listed = [] → K a w) ∧ ∀ i ∈ Region.ready md ops listed, wpOp P ops (calm K) i (fun a' w' => (i ≠ t → S w') ∧ wpAnyT P md ops K S t f (listed.setIfInBounds i true) a' w') a w
theorem wpAny_of_T {K : Act → World → Prop} (hQ : ∀ a w, K a w → Q .normal a w) : ∀ (f : Nat) (listed : Array Bool) (a : Act) (w : World), wpAnyT P md ops K S t f listed a w → wpAny P md ops Q f listed a w
  | 0, _, _, _, h => ⟨h.1, hQ _ _ h.2⟩
  | f + 1, _, _, _, h => ⟨fun h0 => hQ _ _ (h.1 h0), fun i hi => wpOp_calm (fun a' w' h' => wpAny_of_T hQ f _ a' w' h'.2) (h.2 i hi) Q⟩
/-- an operation that only reads, and that the last one waits for, may go first. -/
theorem wpAnyT_first {K : Act → World → Prop} {i : Nat} {oi : Oper} {v : Value} (hi : ops[i]? = some oi) (hsel : ∀ (j : Nat) (o : Oper) cs b, ops[j]? = some o → o.op ≠ .select cs b)
    (hwait : Region.waitsFor md ops t i = true) :
    ∀ (f : Nat) (listed : Array Bool) (a : Act) (w : World),
      (∀ j oj, ops[j]? = some oj → j ≠ i → listed.getD j true = false → (∀ e ∈ oj.after, Region.binds md e = true → e.on ≠ i) → oi.apart ops oj = true) →
      i ∈ Region.ready md ops listed → YieldsIf P ops S oi v a → S w →
      wpAnyT P md ops K S t f (listed.setIfInBounds i true) (a.put oi.dst v) w → wpAnyT P md ops K S t (f + 1) listed a w := by
  intro f
  induction f with
  | zero =>
    intro listed a w _ hr hy hS H
    refine ⟨fun h => (by rw [h] at hr; cases hr), fun j hj => ?_⟩
    by_cases hji : j = i
    · subst hji; exact hy.wpOp hi hS ⟨fun _ => hS, H⟩
    · have := ready_mono hj hji
      rw [H.1] at this
      cases this
  | succ f ih =>
    intro listed a w hfree hr hy hS H
    refine ⟨fun h => (by rw [h] at hr; cases hr), fun j hj => ?_⟩
    by_cases hji : j = i
    · subst hji; exact hy.wpOp hi hS ⟨fun _ => hS, H⟩
    · have h1 := H.2 j (ready_mono hj hji)
      obtain ⟨hjun, oj, hoj, hall⟩ := mem_ready.1 hj
      have hnot : ∀ e ∈ oj.after, Region.binds md e = true → e.on ≠ i := fun e he hb heq => by
        have h1 := hall e he hb
        rw [heq, getD_both (mem_ready.1 hr).1] at h1
        cases h1
      have hjt : j ≠ t := fun e => by
        obtain ⟨ot, hot, ed, hed, hb, hon⟩ := Region.waitsFor_spec hwait
        rw [← e, hoj] at hot
        injection hot with hot
        subst hot
        exact hnot ed hed hb hon
      have h2 := wpOp_putIf hoj (hfree j oj hoj hji hjun hnot) (fun cs b => hsel i oi cs b hi) (fun cs b => hsel j oj cs b hoj) (fun c a w (h : calm K (.panic c) (a.put oi.dst v) w) => absurd h.1 (by simp)) hy h1
      have hfree' : ∀ k ok, ops[k]? = some ok → k ≠ i → (listed.setIfInBounds j true).getD k true = false →
          (∀ e ∈ ok.after, Region.binds md e = true → e.on ≠ i) → oi.apart ops ok = true := fun k ok hk hki hun hno => by
        refine hfree k ok hk hki ?_ hno
        by_cases hjk : j = k
        · subst hjk; exact hjun
        · rw [getD_set_ne true hjk] at hun; exact hun
      refine wpOp_mono (fun a' w' h3 => ⟨h3.2.1, ih (listed.setIfInBounds j true) a' w' hfree' (ready_mono hr (Ne.symm hji)) h3.1 (h3.2.1 hjt) ?_⟩) h2
      rw [Array.setIfInBounds_comm _ _ hji]
      exact h3.2.2
/-- the tail, one operation behind the other. -/
def wpChain (P : Program) (ops : Array Oper) (S : World → Prop) (K : Act → World → Prop) : List Oper → Act → World → Prop
  | [], a, w => K a w
  | o :: rest, a, w => wpList P ops (calm fun a' w' => (rest ≠ [] → S w') ∧ wpChain P ops S K rest a' w') [o] a w
/-- the order in which the reading ones are taken, then the others. -/
def okTake (md : Region.Mode) (ops : Array Oper) (t : Nat) (ts : List Nat) : List Nat → Array Bool → Bool
  | [], listed => okSeq ts listed
  | k :: ks, listed => (Region.ready md ops listed).contains k && Region.free md ops listed k && Region.waitsFor md ops t k && okTake md ops t ts ks (listed.setIfInBounds k true)
where okSeq : List Nat → Array Bool → Bool
  | [], listed => (Region.ready md ops listed).isEmpty
  | k :: ks, listed => decide (Region.ready md ops listed = [k]) && (decide (k = t) == ks.isEmpty) && okSeq ks (listed.setIfInBounds k true)
theorem wpAnyT_seq {K : Act → World → Prop} : ∀ (ts : List Nat) (listed : Array Bool) (a : Act) (w : World) (l : List Oper), ts.map (fun k => ops[k]?) = l.map some →
    okTake.okSeq md ops t ts listed = true → wpChain P ops S K l a w → wpAnyT P md ops K S t ts.length listed a w
  | [], _, _, _, l, hl, hB, h => by
    have : l = [] := by simpa using hl.symm
    subst this
    exact ⟨by simpa [okTake.okSeq] using hB, h⟩
  | k :: ts, listed, a, w, l, hl, hB, h => by
    cases l with
    | nil => simp at hl
    | cons o l =>
      simp only [List.map_cons, List.cons.injEq] at hl
      simp only [okTake.okSeq, Bool.and_eq_true, decide_eq_true_eq, beq_iff_eq] at hB
      obtain ⟨⟨h1, h2⟩, h3⟩ := hB
      refine ⟨fun h0 => (by rw [h1] at h0; cases h0), fun i hi => ?_⟩
      rw [h1] at hi
      have hik : i = k := by simpa using hi
      subst hik
      unfold wpChain at h
      unfold wpOp
      simp only [hl.1]
      unfold wpList at h
      have next : ∀ a' w', calm (fun a' w' => (l ≠ [] → S w') ∧ wpChain P ops S K l a' w') .normal a' w' → (i ≠ t → S w') ∧ wpAnyT P md ops K S t ts.length (listed.setIfInBounds i true) a' w' := fun a' w' ⟨_, h4, h5⟩ => ⟨fun hne => h4 fun hl0 => by
          subst hl0
          have : ts = [] := by simpa using hl.2
          subst this
          simp [hne] at h2, wpAnyT_seq ts _ a' w' l hl.2 h3 h5⟩
      split
      · rename_i hw
        rw [if_pos hw] at h
        rcases h with h | ⟨_, h⟩
        · exact .inl (wp_calm (fun a' w' h4 => next a' w' (by unfold wpList at h4; exact h4)) h _)
        · exact absurd h calm_lets
      · rename_i hw
        rw [if_neg hw] at h
        unfold wpList at h
        exact next _ _ h
end
end Go.Proofs.Ytdphcblbkdgbhaa
