import Derived.Test.YtdphcblbkdgbhaaG8
import Derived.StillTail
namespace Go.Proofs.Ytdphcblbkdgbhaa
open Go.RowKit
section
variable {P : Program} {ops : Array Oper} {md : Region.Mode} {W0 : World} {S : FuncId → Array Value → Value → World → Prop}
/-- whatever world extends W0: the operation goes through, and what was there stands. -/
def looseUpon (P : Program) (S : FuncId → Array Value → Value → World → Prop) (w : World) : Result Next → Prop
  | .ok (.value _) w1 => Below w.heap.size w w1
  | .ok .skip w1 => w1 = w
  | .ok (.enter f args) w1 => w1 = w ∧ Calls P f args w (fun e w'' => ∃ v, e = .returned v ∧ Below w.heap.size w w'' ∧ S f args v w'')
  | _ => False
def looseOk (P : Program) (S : FuncId → Array Value → Value → World → Prop) (W0 : World) (o : Oper) (a : Act) : Prop := ∀ w, Below W0.heap.size W0 w → looseUpon P S w ((execOp a.eval o).run P w)
def yieldUpon (S : FuncId → Array Value → Value → World → Prop) (v : Value) (w'' : World) : Result Next → Prop
  | .ok (.value u) w1 => v = u ∧ Below w1.heap.size w1 w''
  | .ok .skip w1 => v = undef ∧ Below w1.heap.size w1 w''
  | .ok (.enter f args) _ => S f args v w''
  | _ => False
/-- what may be known of the operation's value later. -/
def yl (P : Program) (S : FuncId → Array Value → Value → World → Prop) (W0 : World) (o : Oper) (a : Act) (v : Value) (w'' : World) : Prop := ∃ w, Below W0.heap.size W0 w ∧ yieldUpon S v w'' ((execOp a.eval o).run P w)
def Stab (S : FuncId → Array Value → Value → World → Prop) : Prop := ∀ f args v w w', Below w.heap.size w w' → S f args v w → S f args v w'
theorem yl_stab (hS : Stab S) {o : Oper} {a : Act} {v : Value} {w w' : World} (hb : Below w.heap.size w w') (h : yl P S W0 o a v w) : yl P S W0 o a v w' := by
  obtain ⟨w0, h0, h1⟩ := h
  refine ⟨w0, h0, ?_⟩
  unfold yieldUpon at *
  split at h1
  · exact ⟨h1.1, h1.2.trans (hb.mono h1.2.size)⟩
  · exact ⟨h1.1, h1.2.trans (hb.mono h1.2.size)⟩
  · exact hS _ _ _ _ _ hb h1
  · exact h1
theorem loose_some {o : Oper} {a : Act} (h : looseOk P S W0 o a) : ∃ v w, yl P S W0 o a v w := by
  have h0 := h W0 (Below.refl _ _)
  unfold looseUpon at h0
  split at h0
  · rename_i u w1 hr
    exact ⟨u, w1, W0, Below.refl _ _, by rw [hr]; exact ⟨rfl, Below.refl _ _⟩⟩
  · rename_i w1 hr
    exact ⟨undef, w1, W0, Below.refl _ _, by rw [hr]; exact ⟨rfl, Below.refl _ _⟩⟩
  · rename_i f args w1 hr
    obtain ⟨e, w', fr, ⟨v, _, _, hs⟩, _⟩ := h0.2 []
    exact ⟨v, w', W0, Below.refl _ _, by rw [hr]; exact hs⟩
  · exact h0.elim
def rOp (P : Program) (S : FuncId → Array Value → Value → World → Prop) (W0 : World) (ops : Array Oper) (i : Nat) (K : Act → (World → Prop) → Prop) (a : Act) (Γ : World → Prop) : Prop :=
  match ops[i]? with
  | none => K a Γ
  | some o => if Region.wanted o (yielded ops a.tmps) = true then looseOk P S W0 o a ∧ ∀ v, (∃ w, yl P S W0 o a v w) → K (a.put o.dst v) (fun w => Γ w ∧ yl P S W0 o a v w) else K (a.put o.dst undef) Γ
theorem rOp_some {i : Nat} {o : Oper} {K : Act → (World → Prop) → Prop} {a : Act} {Γ : World → Prop} (h : ops[i]? = some o) :
    rOp P S W0 ops i K a Γ ↔ if Region.wanted o (yielded ops a.tmps) = true then looseOk P S W0 o a ∧ ∀ v, (∃ w, yl P S W0 o a v w) → K (a.put o.dst v) (fun w => Γ w ∧ yl P S W0 o a v w) else K (a.put o.dst undef) Γ := by
  unfold rOp; simp only [h]
def wpAnyR (P : Program) (S : FuncId → Array Value → Value → World → Prop) (W0 : World) (md : Region.Mode) (ops : Array Oper) (n : Nat) (L : Array Bool → Act → (World → Prop) → Prop) : Nat → Array Bool → Act → (World → Prop) → Prop
  | 0, listed, a, Γ => L listed a Γ
  | f + 1, listed, a, Γ => Region.ready md ops listed ≠ [] ∧ ∀ i ∈ Region.ready md ops listed, i < n ∧ rOp P S W0 ops i (wpAnyR P S W0 md ops n L f (listed.setIfInBounds i true)) a Γ
def AntiL (L : Array Bool → Act → (World → Prop) → Prop) : Prop := ∀ listed a (Γ Γ' : World → Prop), (∀ w, Γ' w → Γ w) → L listed a Γ → L listed a Γ'
theorem rOp_mono {i : Nat} {K K' : Act → (World → Prop) → Prop} {a : Act} {Γ Γ' : World → Prop} (hΓ : ∀ w, Γ' w → Γ w) (h : ∀ a Γ Γ', (∀ w, Γ' w → Γ w) → K a Γ → K' a Γ') (hh : rOp P S W0 ops i K a Γ) : rOp P S W0 ops i K' a Γ' := by
  unfold rOp at *
  split
  · rename_i ho; simp only [ho] at hh; exact h _ _ _ hΓ hh
  · rename_i o ho
    simp only [ho] at hh
    split
    · rename_i hw
      simp only [hw, if_true] at hh
      exact ⟨hh.1, fun v hv => h _ _ _ (fun w h1 => ⟨hΓ w h1.1, h1.2⟩) (hh.2 v hv)⟩
    · rename_i hw
      simp only [hw] at hh
      exact h _ _ _ hΓ hh
theorem wpAnyR_anti {n : Nat} {L : Array Bool → Act → (World → Prop) → Prop} (hL : AntiL L) : ∀ (f : Nat) (listed : Array Bool) (a : Act) (Γ Γ' : World → Prop), (∀ w, Γ' w → Γ w) → wpAnyR P S W0 md ops n L f listed a Γ → wpAnyR P S W0 md ops n L f listed a Γ'
  | 0, listed, a, Γ, Γ', h, hh => hL _ _ _ _ h hh
  | f + 1, listed, a, Γ, Γ', h, hh => ⟨hh.1, fun i hi => ⟨(hh.2 i hi).1, rOp_mono h (fun a Γ Γ' h1 h2 => wpAnyR_anti hL f _ a Γ Γ' h1 h2) (hh.2 i hi).2⟩⟩
theorem wpAny_of_headR (hS : Stab S) {n g : Nat} {L : Array Bool → Act → (World → Prop) → Prop} {Q' : Exit → Act → World → Prop}
    (hL : ∀ listed a Γ w, L listed a Γ → Below W0.heap.size W0 w → Γ w → wpAny P md ops Q' g listed a w) :
    ∀ (f : Nat) (listed : Array Bool) (a : Act) (Γ : World → Prop) (w : World), (∀ w w', Below w.heap.size w w' → Γ w → Γ w') → Below W0.heap.size W0 w → Γ w → wpAnyR P S W0 md ops n L f listed a Γ → wpAny P md ops Q' (f + g) listed a w
  | 0, listed, a, Γ, w, hΓ, hb, hg, h => by rw [Nat.zero_add]; exact hL _ _ _ _ h hb hg
  | f + 1, listed, a, Γ, w, hΓ, hb, hg, h => by
    rw [show f + 1 + g = (f + g) + 1 by omega]
    refine ⟨fun h0 => absurd h0 h.1, fun i hi => ?_⟩
    have hr := (h.2 i hi).2
    unfold rOp at hr
    unfold wpOp
    split
    · rename_i ho
      simp only [ho] at hr
      exact wpAny_of_headR hS hL f _ _ _ _ hΓ hb hg hr
    · rename_i o ho
      simp only [ho] at hr
      split
      · rename_i hw
        simp only [hw, if_true] at hr
        left
        have h3 := hr.1 w hb
        have hyl : ∀ v w'', yieldUpon S v w'' ((execOp a.eval o).run P w) → yl P S W0 o a v w'' := fun v w'' hy => ⟨w, hb, hy⟩
        have next : ∀ v w'', Below w.heap.size w w'' → yl P S W0 o a v w'' → wpAny P md ops Q' (f + g) (listed.setIfInBounds i true) (a.put o.dst v) w'' := fun v w'' hbw hy =>
          wpAny_of_headR hS hL f _ _ (fun w => Γ w ∧ yl P S W0 o a v w) w'' (fun x x' hx h1 => ⟨hΓ x x' hx h1.1, yl_stab hS hx h1.2⟩) (hb.trans (hbw.mono hb.size)) ⟨hΓ w w'' hbw hg, hy⟩ (hr.2 v ⟨w'', hy⟩)
        unfold Oper.wp
        generalize (execOp a.eval o).run P w = r at *
        cases r with
        | ok nx w' =>
          cases nx <;> simp only [looseUpon] at h3 <;> simp only [Oper.upon]
          case value u => exact next u w' h3 (hyl u w' ⟨rfl, Below.refl _ _⟩)
          case skip => subst h3; exact next undef w' (Below.refl _ _) (hyl undef w' ⟨rfl, Below.refl _ _⟩)
          case enter fn args =>
            obtain ⟨e1, hc⟩ := h3
            rw [e1]
            exact hc.mono fun e w'' ⟨v, he, hbw, hs⟩ => by subst he; exact next v w'' hbw (hyl v w'' hs)
        | halt x w' => simp only [looseUpon] at h3
      · rename_i hw
        simp only [hw] at hr
        exact wpAny_of_headR hS hL f _ _ _ _ hΓ hb hg hr
theorem loose_put {o oj : Oper} {a : Act} {d : Option Tmp} {v : Value} (he : execOp (a.put d v).eval oj = execOp a.eval oj) : looseOk P S W0 oj (a.put d v) = looseOk P S W0 oj a := by unfold looseOk; rw [he]
theorem yl_put {oj : Oper} {a : Act} {d : Option Tmp} {v : Value} (he : execOp (a.put d v).eval oj = execOp a.eval oj) : yl P S W0 oj (a.put d v) = yl P S W0 oj a := by funext x y; unfold yl; rw [he]
end
end Go.Proofs.Ytdphcblbkdgbhaa
