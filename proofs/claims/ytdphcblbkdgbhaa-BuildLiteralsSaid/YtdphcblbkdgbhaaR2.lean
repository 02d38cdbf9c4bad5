import Derived.Test.YtdphcblbkdgbhaaR1
namespace Go.Proofs.Ytdphcblbkdgbhaa
open Go.RowKit
section
variable {P : Program} {ops : Array Oper} {md : Region.Mode} {W0 : World} {S : FuncId → Array Value → Value → World → Prop}
theorem wpAnyR_first {n i : Nat} {oi : Oper} {L : Array Bool → Act → (World → Prop) → Prop} (hi : ops[i]? = some oi) (hsel : ∀ (j : Nat) (o : Oper) cs b, ops[j]? = some o → o.op ≠ .select cs b)
    (hs : Region.sinkB md ops n = true) (hc : Region.chainB md ops n = true) (hn : n < ops.size) (hin : i < n) (hanti : AntiL L)
    (hdone : ∀ listed a Γ, L listed a Γ → ∀ j ∈ Region.ready md ops listed, n ≤ j) :
    ∀ (f : Nat) (listed : Array Bool) (a : Act) (Γ : World → Prop), HeadInv md ops n listed →
      (∀ j oj, ops[j]? = some oj → j ≠ i → listed.getD j true = false → (∀ e ∈ oj.after, Region.binds md e = true → e.on ≠ i) → oi.apart ops oj = true) →
      i ∈ Region.ready md ops listed → rOp P S W0 ops i (wpAnyR P S W0 md ops n L f (listed.setIfInBounds i true)) a Γ → wpAnyR P S W0 md ops n L (f + 1) listed a Γ := by
  intro f
  induction f with
  | zero =>
    intro listed a Γ inv _ hr H
    have hun := (mem_ready.1 hr).1
    refine ⟨fun h => (by rw [h] at hr; cases hr), fun j hj => ?_⟩
    have hjn : j < n := by
      rcases Nat.lt_or_ge j n with h | h
      · exact h
      · exact absurd hj (tail_waits hs hc hn inv _ i rfl hin hun j h)
    refine ⟨hjn, ?_⟩
    by_cases hji : j = i
    · subst hji; exact H
    · exfalso
      rw [rOp_some hi] at H
      split at H
      · obtain ⟨v, w, hv⟩ := loose_some H.1
        have := hdone _ _ _ (H.2 v ⟨w, hv⟩) j (ready_mono hj hji)
        omega
      · have := hdone _ _ _ H j (ready_mono hj hji)
        omega
  | succ f ih =>
    intro listed a Γ inv hfree hr H
    have hun := (mem_ready.1 hr).1
    refine ⟨fun h => (by rw [h] at hr; cases hr), fun j hj => ?_⟩
    have hjn : j < n := by
      rcases Nat.lt_or_ge j n with h | h
      · exact h
      · exact absurd hj (tail_waits hs hc hn inv _ i rfl hin hun j h)
    refine ⟨hjn, ?_⟩
    by_cases hji : j = i
    · subst hji; exact H
    · obtain ⟨hjun, oj, hoj, hall⟩ := mem_ready.1 hj
      have hnot : ∀ e ∈ oj.after, Region.binds md e = true → e.on ≠ i := fun e he hb heq => by
        have h1 := hall e he hb
        rw [heq, getD_both hun] at h1
        cases h1
      obtain ⟨p1, p2, p3⟩ := Oper.apart_spec (hfree j oj hoj hji hjun hnot)
      have hsi := fun cs b => hsel i oi cs b hi
      have hsj := fun cs b => hsel j oj cs b hoj
      have hfree' : ∀ k ok, ops[k]? = some ok → k ≠ i → (listed.setIfInBounds j true).getD k true = false →
          (∀ e ∈ ok.after, Region.binds md e = true → e.on ≠ i) → oi.apart ops ok = true := fun k ok hk hki hun hno => by
        refine hfree k ok hk hki ?_ hno
        by_cases hjk : j = k
        · subst hjk; exact hjun
        · rw [getD_set_ne true hjk] at hun; exact hun
      have back : ∀ (a' : Act) (Γ' : World → Prop), rOp P S W0 ops i (wpAnyR P S W0 md ops n L f ((listed.setIfInBounds j true).setIfInBounds i true)) a' Γ' → wpAnyR P S W0 md ops n L (f + 1) (listed.setIfInBounds j true) a' Γ' :=
        fun a' Γ' h => ih _ a' Γ' (inv.set hj hjn) hfree' (ready_mono hr (Ne.symm hji)) h
      rw [rOp_some hoj]
      rw [rOp_some hi] at H
      have eI : ∀ v, execOp (a.put oj.dst v).eval oi = execOp a.eval oi := fun v => execOp_put oi hsi a oj.dst v p3
      have eJ : ∀ v, execOp (a.put oi.dst v).eval oj = execOp a.eval oj := fun v => execOp_put oj hsj a oi.dst v p1
      have wI : ∀ v, Region.wanted oi (yielded ops (a.put oj.dst v).tmps) = Region.wanted oi (yielded ops a.tmps) := fun v => wanted_put oi a oj.dst v p3
      have wJ : ∀ v, Region.wanted oj (yielded ops (a.put oi.dst v).tmps) = Region.wanted oj (yielded ops a.tmps) := fun v => wanted_put oj a oi.dst v p1
      have comm : ∀ v u, (a.put oi.dst v).put oj.dst u = (a.put oj.dst u).put oi.dst v := fun v u => Act.put_comm a v u p2
      -- what is known behind i: j is next
      have step : ∀ (v : Value) (Γ' : World → Prop), wpAnyR P S W0 md ops n L (f + 1) (listed.setIfInBounds i true) (a.put oi.dst v) Γ' →
          if Region.wanted oj (yielded ops a.tmps) = true then looseOk P S W0 oj a ∧ ∀ u, (∃ w, yl P S W0 oj a u w) → wpAnyR P S W0 md ops n L f ((listed.setIfInBounds j true).setIfInBounds i true) ((a.put oj.dst u).put oi.dst v) (fun w => Γ' w ∧ yl P S W0 oj a u w)
          else wpAnyR P S W0 md ops n L f ((listed.setIfInBounds j true).setIfInBounds i true) ((a.put oj.dst undef).put oi.dst v) Γ' := fun v Γ' h => by
        have h1 := (h.2 j (ready_mono hj hji)).2
        rw [rOp_some hoj, wJ, Array.setIfInBounds_comm _ _ (Ne.symm hji)] at h1
        split
        · rename_i hw
          rw [if_pos hw, loose_put (o := oj) (eJ v), yl_put (eJ v)] at h1
          exact ⟨h1.1, fun u hu => by rw [← comm]; exact h1.2 u hu⟩
        · rename_i hw
          rw [if_neg hw] at h1
          rw [← comm]; exact h1
      by_cases hwi : Region.wanted oi (yielded ops a.tmps) = true
      · rw [if_pos hwi] at H
        obtain ⟨v0, w0, hv0⟩ := loose_some H.1
        have h0 := step v0 _ (H.2 v0 ⟨w0, hv0⟩)
        split
        · rename_i hwj
          rw [if_pos hwj] at h0
          refine ⟨h0.1, fun u hu => back _ _ ?_⟩
          rw [rOp_some hi, wI, if_pos hwi, loose_put (o := oi) (eI u), yl_put (eI u)]
          refine ⟨H.1, fun v hv => ?_⟩
          have h1 := step v _ (H.2 v hv)
          rw [if_pos hwj] at h1
          exact wpAnyR_anti hanti _ _ _ _ _ (fun w hw => ⟨⟨hw.1.1, hw.2⟩, hw.1.2⟩) (h1.2 u hu)
        · rename_i hwj
          refine back _ _ ?_
          rw [rOp_some hi, wI, if_pos hwi, loose_put (o := oi) (eI undef), yl_put (eI undef)]
          refine ⟨H.1, fun v hv => ?_⟩
          have h1 := step v _ (H.2 v hv)
          rw [if_neg hwj] at h1
          exact h1
      · rw [if_neg hwi] at H
        have h0 := step undef _ H
        split
        · rename_i hwj
          rw [if_pos hwj] at h0
          refine ⟨h0.1, fun u hu => back _ _ ?_⟩
          rw [rOp_some hi, wI, if_neg hwi]
          exact h0.2 u hu
        · rename_i hwj
          rw [if_neg hwj] at h0
          refine back _ _ ?_
          rw [rOp_some hi, wI, if_neg hwi]
          exact h0
/-- the lexical walk of the operations ahead of the tail. -/
def wpLexR (P : Program) (S : FuncId → Array Value → Value → World → Prop) (W0 : World) (ops : Array Oper) (Lq : Act → (World → Prop) → Prop) : List Oper → Act → (World → Prop) → Prop
  | [], a, Γ => Lq a Γ
  | o :: rest, a, Γ => if Region.wanted o (yielded ops a.tmps) = true then looseOk P S W0 o a ∧ ∀ v, (∃ w, yl P S W0 o a v w) → wpLexR P S W0 ops Lq rest (a.put o.dst v) (fun w => Γ w ∧ yl P S W0 o a v w) else wpLexR P S W0 ops Lq rest (a.put o.dst undef) Γ
theorem wpLexR_anti {Lq : Act → (World → Prop) → Prop} (hL : ∀ a (Γ Γ' : World → Prop), (∀ w, Γ' w → Γ w) → Lq a Γ → Lq a Γ') : ∀ (l : List Oper) (a : Act) (Γ Γ' : World → Prop), (∀ w, Γ' w → Γ w) → wpLexR P S W0 ops Lq l a Γ → wpLexR P S W0 ops Lq l a Γ'
  | [], a, Γ, Γ', h, hh => hL _ _ _ h hh
  | o :: rest, a, Γ, Γ', h, hh => by
    unfold wpLexR at *
    split
    · rename_i hw
      rw [if_pos hw] at hh
      exact ⟨hh.1, fun v hv => wpLexR_anti hL rest _ _ _ (fun w h1 => ⟨h w h1.1, h1.2⟩) (hh.2 v hv)⟩
    · rename_i hw
      rw [if_neg hw] at hh
      exact wpLexR_anti hL rest _ _ _ h hh
theorem wpAnyR_lex {n g : Nat} {Lq : Act → (World → Prop) → Prop} (hq : ∀ a (Γ Γ' : World → Prop), (∀ w, Γ' w → Γ w) → Lq a Γ → Lq a Γ') (hsel : Region.noSelect ops = true) (hs : Region.sinkB md ops n = true) (hc : Region.chainB md ops n = true) (hn : n < ops.size) :
    ∀ (l : List Oper) (k : Nat) (listed : Array Bool) (a : Act) (Γ : World → Prop), (∀ j, j < l.length → l[j]? = ops[k + j]?) → k + l.length = n → HeadInv md ops n listed →
    Region.lexHead md ops g l.length k listed = true → wpLexR P S W0 ops Lq l a Γ →
    wpAnyR P S W0 md ops n (fun listed' a' Γ' => Region.seqB md ops g n listed' = true ∧ Lq a' Γ') l.length listed a Γ
  | [], k, listed, a, Γ, _, hk, _, hB, h => by
    have : k = n := by simpa using hk
    subst this
    exact ⟨by simpa [Region.lexHead] using hB, h⟩
  | o :: l, k, listed, a, Γ, hl, hk, inv, hB, h => by
    have h0 : ops[k]? = some o := by simpa using (hl 0 (by simp)).symm
    simp only [List.length_cons, Region.lexHead, Bool.and_eq_true] at hB
    obtain ⟨⟨hr, hf⟩, hB'⟩ := hB
    have hkn : k < n := by simp only [List.length_cons] at hk; omega
    have hr' : k ∈ Region.ready md ops listed := by simpa using hr
    have next : ∀ (a' : Act) (Γ' : World → Prop), wpLexR P S W0 ops Lq l a' Γ' → wpAnyR P S W0 md ops n (fun listed' a' Γ' => Region.seqB md ops g n listed' = true ∧ Lq a' Γ') l.length (listed.setIfInBounds k true) a' Γ' := fun a' Γ' h' =>
      wpAnyR_lex hq hsel hs hc hn l (k + 1) _ a' Γ' (fun j hj => by have := hl (j + 1) (by simp; omega); simpa [Nat.add_assoc, Nat.add_comm 1 j] using this) (by simp only [List.length_cons] at hk; omega) (inv.set hr' hkn) hB' h'
    refine wpAnyR_first h0 (Region.noSelect_spec hsel) hs hc hn hkn (fun listed' a' Γ Γ' h1 h2 => ⟨h2.1, hq _ _ _ h1 h2.2⟩) (fun listed' a' Γ' hL => seqB_ready hL.1) l.length listed a Γ inv (Region.free_spec h0 hf) hr' ?_
    rw [rOp_some h0]
    unfold wpLexR at h
    split
    · rename_i hw
      rw [if_pos hw] at h
      exact ⟨h.1, fun v hv => next _ _ (h.2 v hv)⟩
    · rename_i hw
      rw [if_neg hw] at h
      exact next _ _ h
/-- a region that draws its order: its first n operations in any order, each in whatever world extends the first one; then the others, in their order. -/
theorem wp_region_ext_tail {id : Nat} {Q : Exit → Act → World → Prop} {a : Act} {w : World} {l : List Oper} (n : Nat) (S : FuncId → Array Value → Value → World → Prop) (hS : Stab S) (hm : P.follows .mixedOrders = true) (hB : Region.lexTailB .any l.toArray n = true)
    (h : wpLexR P S w l.toArray (fun a' Γ => ∀ w', Below w.heap.size w w' → Γ w' → wpList P l.toArray Q (l.drop n) a' w') (l.take n) a (fun _ => True)) : (Code.region id l.toArray true).wp P Q a w := by
  simp only [Region.lexTailB, Bool.and_eq_true, decide_eq_true_eq] at hB
  obtain ⟨⟨⟨⟨hsel, hn⟩, hs⟩, hc⟩, hlex⟩ := hB
  have hn' : n < l.length := by simpa using hn
  have htl : (l.take n).length = n := by simp; omega
  have hdl : (l.drop n).length = l.toArray.size - n := by simp
  have inv0 : HeadInv .any l.toArray n (Array.replicate l.toArray.size false) :=
    ⟨by simp, fun j oj _ hl => (by rw [getD_replicate_false] at hl; cases hl), fun t _ ht => getD_in (by simpa using ht) (getD_replicate_false _ _)⟩
  have H := wpAnyR_lex (md := .any) (g := l.toArray.size - n) (fun a Γ Γ' h1 h2 w' hb hg => h2 w' hb (h1 w' hg)) hsel hs hc hn (l.take n) 0 _ a (fun _ => True) (fun j hj => by
    have hj' : j < n := by rw [htl] at hj; exact hj
    simp [hj']) (by simpa using htl) inv0 (by rw [htl]; exact hlex) h
  refine wp_region_any hm ?_
  have := wpAny_of_headR (Q' := Q) (g := l.toArray.size - n) hS (fun listed a' Γ w' hL hb hg => by
    have := wpAny_of_seq (Q' := Q) (l.drop n) n listed a' w' (fun j => by simp) (by rw [hdl]; exact hL.1) (hL.2 w' hb hg)
    rw [hdl] at this
    exact this) (l.take n).length _ a (fun _ => True) w.drew (fun _ _ _ _ => trivial) (Below.refl _ _).drew trivial H
  rw [htl, show n + (l.toArray.size - n) = l.toArray.size by simp; omega] at this
  exact this
end
end Go.Proofs.Ytdphcblbkdgbhaa
