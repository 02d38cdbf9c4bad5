import Derived.Test.YtdphcblbkdgbhaaR4
namespace Go.Proofs.Ytdphcblbkdgbhaa
open Go.RowKit
theorem skip_value {P : Program} {s : Sem Value} {w w' : World} : ((do pure (.value (← s)) : Sem Next)).run P w ≠ .ok .skip w' := by
  rw [Sem.run_bind]
  cases h : s.run P w with
  | ok v w1 => simp [Result.andThen, Sem.run_pure]
  | halt x w1 => simp [Result.andThen]
theorem skip_then {r : Result Value} {w' : World} : (r.andThen fun a w => Result.ok (Next.value a) w) ≠ .ok .skip w' := by
  cases r <;> simp [Result.andThen]
theorem noSkip_spec {P : Program} {o : Oper} {ρ : Operand → Value} (h : noEnter o = true) {w w' : World} : (execOp ρ o).run P w ≠ .ok .skip w' := by
  unfold noEnter at h
  unfold execOp
  cases ho : o.op <;> rw [ho] at h <;> simp only at h ⊢ <;> first | exact skip_value | (cases h; done) | skip
  all_goals first
    | (simp [Sem.run_pure]; done)
    | skip
  rename_i c
  cases hc : c.callee with
  | builtin b =>
    rw [hc] at h
    cases b <;> simp only at h <;> first | (cases h; done) | skip
    all_goals
      simp only [resolve, hc, Sem.run_bind, Sem.run_pure, Result.andThen_ok, invoke, builtin]
      exact skip_then
  | invoke r n => rw [hc] at h; cases h
  | value x => rw [hc] at h; cases h
theorem nil_value {P : Program} {o : Oper} {ρ : Operand → Value} {x : Operand} (ho : o.op = .nilCheck x) {w w' : World} {nx : Next} (h : (execOp ρ o).run P w = .ok nx w') : ∃ v, nx = .value v := by
  unfold execOp at h
  rw [ho] at h
  simp only at h
  split at h
  · simp [runtimePanic] at h
  · simp [runtimePanic] at h
  · simp [runtimePanic] at h
  · split at h
    · simp [runtimePanic] at h
    · simp only [Sem.run_bind] at h
      generalize Sem.run P program w = r1 at h
      cases r1 with
      | halt e w1 => simp [Result.andThen] at h
      | ok p w1 =>
        simp only [Result.andThen_ok] at h
        generalize Sem.run P (nilAhead _ _ _ _) w1 = r2 at h
        cases r2 with
        | halt e w1 => simp [Result.andThen] at h
        | ok b w2 =>
          simp only [Result.andThen_ok] at h
          split at h
          · simp [unsupported, Sem.run_bind, Result.andThen] at h
          · exact ⟨_, by simp [Sem.run_pure] at h; exact h.1.symm⟩
    · exact ⟨_, by simp [Sem.run_pure] at h; exact h.1.symm⟩
  · exact ⟨_, by simp [Sem.run_pure] at h; exact h.1.symm⟩
/-- operations that only read: they yield a value, or halt. -/
def reads (o : Oper) : Bool := noEnter o || match o.op with | .nilCheck _ => true | _ => false
theorem reads_enter {P : Program} {o : Oper} {ρ : Operand → Value} (h : reads o = true) {w w' : World} {f : FuncId} {args : Array Value} : (execOp ρ o).run P w ≠ .ok (.enter f args) w' := by
  intro hr
  unfold reads at h
  rcases Bool.or_eq_true_iff.1 h with h | h
  · exact noEnter_spec h hr
  · split at h
    · rename_i x ho
      obtain ⟨v, hv⟩ := nil_value ho hr
      cases hv
    · cases h
theorem reads_skip {P : Program} {o : Oper} {ρ : Operand → Value} (h : reads o = true) {w w' : World} : (execOp ρ o).run P w ≠ .ok .skip w' := by
  intro hr
  unfold reads at h
  rcases Bool.or_eq_true_iff.1 h with h | h
  · exact noSkip_spec h hr
  · split at h
    · rename_i x ho
      obtain ⟨v, hv⟩ := nil_value ho hr
      cases hv
    · cases h
section
variable {P : Program} {ops : Array Oper} {S : World → Prop} {t : Nat}
/-- a world of the class. -/
structure InW (S : World → Prop) where
  w : World
  ok : S w
theorem late_take {K : Act → World → Prop} {w : World} (hsel : Region.noSelect ops = true) (hS : S w) {ts : List Nat} {lt : List Oper} (hlt : ts.map (fun k => ops[k]?) = lt.map some) :
    ∀ (ks : List Nat) (lq : List Oper) (listed : Array Bool) (a : Act), ks.map (fun k => ops[k]?) = lq.map some → lq.all reads = true → okTake .any ops t ts ks listed = true →
      wpQuiet P ops (fun w' => ∃ e : InW S, w' = e.w) (fun a' => wpChain P ops S K lt a' w) lq a → wpAnyT P .any ops K S t (ks.length + ts.length) listed a w
  | [], lq, listed, a, hl, _, hB, h => by
    have : lq = [] := by simpa using hl.symm
    subst this
    rw [List.length_nil, Nat.zero_add]
    exact wpAnyT_seq ts listed a w lt hlt hB h
  | k :: ks, lq, listed, a, hl, hne, hB, h => by
    cases lq with
    | nil => simp at hl
    | cons o lq =>
      simp only [List.map_cons, List.cons.injEq] at hl
      simp only [List.all_cons, Bool.and_eq_true] at hne
      simp only [okTake, Bool.and_eq_true] at hB
      obtain ⟨⟨⟨h1, h2⟩, h3⟩, h4⟩ := hB
      rw [List.length_cons, show ks.length + 1 + ts.length = (ks.length + ts.length) + 1 by omega]
      unfold wpQuiet at h
      have go : ∀ v, YieldsIf P ops S o v a → wpQuiet P ops (fun w' => ∃ e : InW S, w' = e.w) (fun a' => wpChain P ops S K lt a' w) lq (a.put o.dst v) → wpAnyT P .any ops K S t ((ks.length + ts.length) + 1) listed a w := fun v hy hq =>
        wpAnyT_first hl.1 (Region.noSelect_spec hsel) h3 _ listed a w (Region.free_spec hl.1 h2) (by simpa using h1) hy hS (late_take hsel hS hlt ks lq _ _ hl.2 hne.2 h4 hq)
      split at h
      · rename_i hw
        obtain ⟨v, hv, hK⟩ := h
        refine go v (.inl ⟨hw, fun w1 hw1 => ?_⟩) hK
        have h1 := hv w1 ⟨⟨w1, hw1⟩, rfl⟩
        unfold Oper.quietAt at h1
        cases hr : (execOp a.eval o).run P w1 with
        | ok nx w' =>
          rw [hr] at h1
          cases nx <;> simp only [Oper.quietUpon] at h1
          case value u => obtain ⟨rfl, rfl⟩ := h1; rfl
          case skip => exact absurd hr (reads_skip hne.1)
          case enter f args => exact absurd hr (reads_enter hne.1)
        | halt x w' => rw [hr] at h1; simp only [Oper.quietUpon] at h1
      · rename_i hw
        exact go undef (.inr ⟨by simpa using hw, rfl⟩) h
/-- the operations of these numbers. -/
def pick (l : List Oper) (ks : List Nat) : List Oper := ks.filterMap (fun k => l[k]?)
def lateB (ops : Array Oper) (t : Nat) (ts ks : List Nat) : Bool :=
  Region.noSelect ops && decide (ks.length + ts.length = ops.size) && (ks ++ ts).all (fun k => decide (k < ops.size)) && okTake .any ops t ts ks (Array.replicate ops.size false)
theorem pick_map {l : List Oper} : ∀ (ks : List Nat), (∀ k ∈ ks, k < l.length) → ks.map (fun k => l.toArray[k]?) = (pick l ks).map some
  | [], _ => rfl
  | k :: ks, h => by
    have hk : l[k]? = some (l[k]'(h k (by simp))) := List.getElem?_eq_getElem _
    have ih := pick_map ks (fun j hj => h j (by simp [hj]))
    unfold pick at *
    rw [List.filterMap_cons, hk]
    simp only [List.map_cons, List.cons.injEq]
    exact ⟨by rw [List.getElem?_toArray]; exact hk, ih⟩
/-- a region that draws its order, whose last operation may write where others read: the reading ones (ks) may be taken first, whatever the order, where what they rest on (S) stands behind every operation but the last (t); then the others (ts), which come one behind the other. -/
theorem wp_region_late {id : Nat} {Q : Exit → Act → World → Prop} {a : Act} {w : World} {l : List Oper} (t : Nat) (ks ts : List Nat) (S : World → Prop) (hm : P.follows .mixedOrders = true) (hB : lateB l.toArray t ts ks = true) (hn : (pick l ks).all reads = true) (hS : S w.drew)
    (h : wpQuiet P l.toArray (fun w' => ∃ e : InW S, w' = e.w) (fun a' => wpChain P l.toArray S (Q .normal) (pick l ts) a' w.drew) (pick l ks) a) : (Code.region id l.toArray true).wp P Q a w := by
  simp only [lateB, Bool.and_eq_true, decide_eq_true_eq, List.all_eq_true, List.mem_append] at hB
  obtain ⟨⟨⟨hsel, hsz⟩, hlt⟩, hok⟩ := hB
  refine wp_region_any hm ?_
  have h1 := late_take hsel hS (pick_map ts (fun k hk => by simpa using hlt k (.inr hk))) ks (pick l ks) _ a (pick_map ks (fun k hk => by simpa using hlt k (.inl hk))) hn hok h
  rw [hsz] at h1
  exact wpAny_of_T (Q := Q) (fun a w h => h) _ _ _ _ h1
end
section
variable {P : Program} {ops : Array Oper} {S : World → Prop} {K : Act → World → Prop} {o : Oper} {rest : List Oper} {a : Act} {w w1 : World}
theorem chain_run {v : Value} (hw : Region.wanted o (yielded ops a.tmps) = true) (hr : (execOp a.eval o).run P w = .ok (.value v) w1) (hs : rest ≠ [] → S w1) (h : wpChain P ops S K rest (a.put o.dst v) w1) : wpChain P ops S K (o :: rest) a w := by
  unfold wpChain wpList
  rw [if_pos hw]
  refine .inl ?_
  unfold Oper.wp
  rw [hr]
  exact ⟨rfl, hs, h⟩
theorem chain_skip (hw : Region.wanted o (yielded ops a.tmps) = true) (hr : (execOp a.eval o).run P w = .ok .skip w1) (hs : rest ≠ [] → S w1) (h : wpChain P ops S K rest (a.put o.dst undef) w1) : wpChain P ops S K (o :: rest) a w := by
  unfold wpChain wpList
  rw [if_pos hw]
  refine .inl ?_
  unfold Oper.wp
  rw [hr]
  exact ⟨rfl, hs, h⟩
theorem chain_end {Q : Exit → Act → World → Prop} (h : wpList P ops Q [] a w) : wpChain P ops S (Q .normal) [] a w := h
theorem chain_list (h : wpList P ops (calm fun a' w' => (rest ≠ [] → S w') ∧ wpChain P ops S K rest a' w') [o] a w) : wpChain P ops S K (o :: rest) a w := h
end
/-- all that lay in W lies as it lay, but for the row v. -/
def Stays (W : World) (v : Value) (w' : World) : Prop := W.heap.size ≤ w'.heap.size ∧ ∀ b, b < W.heap.size → v.ownBlock ≠ some b → w'.heap[b]? = W.heap[b]?
theorem stay_refl (W : World) (v : Value) : Stays W v W := ⟨Nat.le_refl _, fun _ _ _ => rfl⟩
theorem stay_drew (W : World) (v : Value) : Stays W v W.drew := ⟨Nat.le_refl _, fun _ _ _ => rfl⟩
theorem stay_heap {W : World} {v : Value} {w' : World} (h : Stays W v w') {b : Nat} (hb : b < W.heap.size) (hv : v.ownBlock ≠ some b) : w'.heap[b]? = W.heap[b]? := h.2 b hb hv
theorem stay_cell {W : World} {v : Value} {w' : World} (h : Stays W v w') {b o : Nat} (hb : b < W.heap.size) (hv : v.ownBlock ≠ some b) : w'.cell? ⟨b, o, none⟩ = W.cell? ⟨b, o, none⟩ :=
  World.cell?_of_block (h.2 b hb hv)
theorem stay_alloc {W : World} {v : Value} {w' : World} (h : Stays W v w') (o : Obj) : Stays W v (w'.alloc o) :=
  ⟨by have := h.1; simp; omega, fun b hb hv => (Below.heap_alloc _ _ _ (Nat.lt_of_lt_of_le hb h.1)).trans (h.2 b hb hv)⟩
theorem stay_grown {W : World} {v : Value} {w' w'' : World} (h : Stays W v w') (hz : w'.heap.size ≤ w''.heap.size) (hg : w'.grownBy w'' v.ownBlock) : Stays W v w'' :=
  ⟨Nat.le_trans h.1 hz, fun b hb hv => (hg.block b (Nat.lt_of_lt_of_le hb h.1) (fun e => hv e.symm)).trans (h.2 b hb hv)⟩
end Go.Proofs.Ytdphcblbkdgbhaa
