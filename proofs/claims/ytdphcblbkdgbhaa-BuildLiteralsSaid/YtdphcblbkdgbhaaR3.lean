import Derived.Test.YtdphcblbkdgbhaaR2
import Derived.BigQuiet
namespace Go.Proofs.Ytdphcblbkdgbhaa
open Go.RowKit
theorem never_value {P : Program} {s : Sem Value} {w w' : World} {f : FuncId} {args : Array Value} : ((do pure (.value (← s)) : Sem Next)).run P w ≠ .ok (.enter f args) w' := by
  rw [Sem.run_bind]
  cases h : s.run P w with
  | ok v w1 => simp [Result.andThen, Sem.run_pure]
  | halt x w1 => simp [Result.andThen]
theorem never_then {r : Result Value} {w' : World} {f : FuncId} {args : Array Value} : (r.andThen fun a w => Result.ok (Next.value a) w) ≠ .ok (.enter f args) w' := by
  cases r <;> simp [Result.andThen]
/-- operations that enter no function. -/
def noEnter (o : Oper) : Bool :=
  match o.op with
  | .move _ | .assign _ | .load _ _ | .fieldAddr _ _ _ | .indexAddr _ _ _ | .index _ _ _ | .binOp _ _ _ _ _ | .unOp _ _ _ | .build _ _ | .convert _ _ _ | .slice _ _ _ _ _ | .field _ _ _ | .extract _ _ => true
  | .call c => match c.callee with | .builtin .len => true | .builtin .max => true | _ => false
  | _ => false
theorem noEnter_spec {P : Program} {o : Oper} {ρ : Operand → Value} (h : noEnter o = true) {w w' : World} {f : FuncId} {args : Array Value} : (execOp ρ o).run P w ≠ .ok (.enter f args) w' := by
  unfold noEnter at h
  unfold execOp
  cases ho : o.op <;> rw [ho] at h <;> simp only at h ⊢ <;> first | exact never_value | (cases h; done) | skip
  all_goals first
    | (simp [Sem.run_pure]; done)
    | skip
  rename_i c
  cases hc : c.callee with
  | builtin b =>
    rw [hc] at h
    cases b <;> simp only at h <;> first | (cases h; done) | skip
    all_goals
      simp only [resolve, hc, Sem.run_bind, Sem.run_pure, Result.andThen_ok, invoke, builtin]
      exact never_then
  | invoke r n => rw [hc] at h; cases h
  | value x => rw [hc] at h; cases h
section
variable {P : Program} {ops : Array Oper} {W0 : World} {S : FuncId → Array Value → Value → World → Prop} {Lq : Act → (World → Prop) → Prop}
/-- operations that only read, in whatever world. -/
theorem lex_quiet (hL : ∀ a (Γ Γ' : World → Prop), (∀ w, Γ' w → Γ w) → Lq a Γ → Lq a Γ') {l2 : List Oper} {Γ : World → Prop} : ∀ (l1 : List Oper) (a : Act), l1.all noEnter = true →
    wpQuiet P ops (fun w' => ∃ e : ExtOf W0, w' = e.w) (fun a' => wpLexR P S W0 ops Lq l2 a' Γ) l1 a → wpLexR P S W0 ops Lq (l1 ++ l2) a Γ
  | [], a, _, h => h
  | o :: l1, a, hne, h => by
    simp only [List.all_cons, Bool.and_eq_true] at hne
    rw [List.cons_append]
    unfold wpLexR
    unfold wpQuiet at h
    split
    · rename_i hw
      rw [if_pos hw] at h
      obtain ⟨v, hv, hK⟩ := h
      have key : ∀ w, Below W0.heap.size W0 w → ((execOp a.eval o).run P w = .ok (.value v) w ∨ ((execOp a.eval o).run P w = .ok .skip w ∧ v = undef)) := fun w hb => by
        have h1 := hv w ⟨⟨w, hb⟩, rfl⟩
        unfold Oper.quietAt at h1
        cases hr : (execOp a.eval o).run P w with
        | ok nx w' =>
          rw [hr] at h1
          cases nx <;> simp only [Oper.quietUpon] at h1
          case value u => obtain ⟨rfl, rfl⟩ := h1; exact .inl rfl
          case skip => obtain ⟨rfl, rfl⟩ := h1; exact .inr ⟨rfl, rfl⟩
          case enter f args => exact absurd hr (noEnter_spec hne.1)
        | halt x w' => rw [hr] at h1; simp only [Oper.quietUpon] at h1
      refine ⟨fun w hb => ?_, fun u hu => ?_⟩
      · rcases key w hb with h1 | ⟨h1, _⟩
        · rw [h1]; exact Below.refl _ _
        · rw [h1]; exact rfl
      · obtain ⟨w1, w, hb, hy⟩ := hu
        have : u = v := by
          rcases key w hb with h1 | ⟨h1, h2⟩
          · rw [h1] at hy; exact hy.1
          · rw [h1] at hy; exact hy.1.trans h2.symm
        subst this
        exact wpLexR_anti hL _ _ _ _ (fun w h => h.1) (lex_quiet hL l1 _ hne.2 hK)
    · rename_i hw
      rw [if_neg hw] at h
      exact lex_quiet hL l1 _ hne.2 h
/-- a call. -/
theorem lex_call (hL : ∀ a (Γ Γ' : World → Prop), (∀ w, Γ' w → Γ w) → Lq a Γ → Lq a Γ') {o : Oper} {rest : List Oper} {a : Act} {Γ : World → Prop} (f : FuncId) (args : Array Value) (hw : Region.wanted o (yielded ops a.tmps) = true)
    (hrun : ∀ w, (execOp a.eval o).run P w = .ok (.enter f args) w) (hc : ∀ w, Below W0.heap.size W0 w → Calls P f args w (fun e w'' => ∃ v, e = .returned v ∧ Below w.heap.size w w'' ∧ S f args v w''))
    (h : ∀ v, (∃ w, S f args v w) → wpLexR P S W0 ops Lq rest (a.put o.dst v) (fun w => Γ w ∧ S f args v w)) : wpLexR P S W0 ops Lq (o :: rest) a Γ := by
  unfold wpLexR
  rw [if_pos hw]
  refine ⟨fun w hb => by rw [hrun]; exact ⟨rfl, hc w hb⟩, fun v hv => ?_⟩
  have e : ∀ w', yl P S W0 o a v w' → S f args v w' := fun w' ⟨w, hb, hy⟩ => by rw [hrun] at hy; exact hy
  obtain ⟨w, hv⟩ := hv
  exact wpLexR_anti hL _ _ _ _ (fun w h => ⟨h.1, e w h.2⟩) (h v ⟨w, e w hv⟩)
/-- a new block. -/
theorem lex_new (hL : ∀ a (Γ Γ' : World → Prop), (∀ w, Γ' w → Γ w) → Lq a Γ → Lq a Γ') {o : Oper} {rest : List Oper} {a : Act} {Γ : World → Prop} (mk : Nat → Value) (ob : Obj) (hinj : ∀ b b', mk b = mk b' → b = b') (hw : Region.wanted o (yielded ops a.tmps) = true)
    (hrun : ∀ w, (execOp a.eval o).run P w = .ok (.value (mk w.heap.size)) (w.alloc ob))
    (h : ∀ b, W0.heap.size ≤ b → wpLexR P S W0 ops Lq rest (a.put o.dst (mk b)) (fun w => Γ w ∧ w.heap[b]? = some ob)) : wpLexR P S W0 ops Lq (o :: rest) a Γ := by
  unfold wpLexR
  rw [if_pos hw]
  refine ⟨fun w hb => by rw [hrun]; exact (Below.refl _ _).alloc (Nat.le_refl _) _, fun v hv => ?_⟩
  have e : ∀ w', yl P S W0 o a v w' → ∃ b, v = mk b ∧ W0.heap.size ≤ b ∧ w'.heap[b]? = some ob := fun w' ⟨w, hb, hy⟩ => by
    rw [hrun] at hy
    exact ⟨w.heap.size, hy.1, hb.size, (hy.2.block _ (by simp)).trans (heap_alloc_new w ob)⟩
  obtain ⟨w, hv⟩ := hv
  obtain ⟨b, rfl, hb, _⟩ := e w hv
  exact wpLexR_anti hL _ _ _ _ (fun w h => ⟨h.1, by obtain ⟨b', h1, _, h2⟩ := e w h.2; rw [hinj _ _ h1]; exact h2⟩) (h b hb)
/-- the end of the walk: the tail, in its order. -/
theorem lex_nil {a : Act} {Γ : World → Prop} (h : Lq a Γ) : wpLexR P S W0 ops Lq [] a Γ := h
end
end Go.Proofs.Ytdphcblbkdgbhaa
