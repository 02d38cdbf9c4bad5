import Derived.Test.YtdphcblbkdgbhaaK8
namespace Go.Proofs.Ytdphcblbkdgbhaa
open Go.RowKit
/-- a node with moved kids. -/
def mvN (by_ : Int) (x : Nd) : Nd := { x with kids := x.kids.map (· + by_) }
def mvA (by_ : Int) (x : NdA) : NdA := ⟨mvN by_ x.nd, x.a, x.c⟩
/-- vetch/build.Append's grammar. -/
def appendG (g x : Gr) (i : Nat) : Gr :=
  ⟨g.rules, g.nodes ++ ((x.nodes.drop (expr x.nodes i + 1).toNat).take (i + 1 - (expr x.nodes i + 1).toNat)).map (mvN ((g.nodes.length : Int) - (expr x.nodes i + 1)))⟩
/-- the state of Append's loop behind k nodes of x: first = f. -/
def AState (w wr : World) (bx : Nat) (xR : Option Addr) (cR : Nat) (xN : Option Addr) (cN : Nat) (xC : Option Addr) (cC : Nat) (rl : List Rl) (lg lx : List NdA) (f k : Nat) (by_ : Int) : Prop :=
  w.heap.size + 3 ≤ bx ∧ wr.heap[w.heap.size + 2]? = some (.cells #[.slice none 0 0, .slice none 0 0] 36 (0, 0)) ∧ wr.heap[bx]? = some (.cells #[.slice xR rl.length cR, .slice xN (lg.length + k) cN] 36 (0, 0)) ∧
  wr.ownsRow w.heap.size 70 2 (.slice xR rl.length cR) rl.length (rowRl rl) ∧
  wr.ownsRow w.heap.size 55 7 (.slice xN (lg.length + k) cN) (lg.length + k) (rowNd (lg ++ ((lx.drop f).take k).map (mvA by_))) ∧
  wr.ownsRow w.heap.size 55 7 (.slice xC lx.length cC) lx.length (rowNd lx) ∧
  (Value.slice xN (lg.length + k) cN).ownBlock ≠ blk xC ∧
  (∀ y ∈ lg, KidO wr w.heap.size y) ∧ (∀ j (h : j < lx.length), f ≤ j → j < f + k → KidO wr w.heap.size (mvA by_ lx[j])) ∧ (∀ j (h : j < lx.length), f + k ≤ j → KidO wr w.heap.size lx[j]) ∧
  (lg ++ lx).Pairwise KDis ∧ Below w.heap.size w wr
theorem mvA_a (b : Int) (x : NdA) : (mvA b x).a = x.a := rfl
theorem mv_len (b : Int) (x : NdA) : (mvA b x).nd.kids.length = x.nd.kids.length := by simp [mvA, mvN]
theorem take_drop_snoc {α : Type} {l : List α} {f k : Nat} (h : f + k < l.length) : (l.drop f).take (k + 1) = (l.drop f).take k ++ [l[f + k]] := by
  rw [List.take_succ_eq_append_getElem (by simp; omega)]
  simp
/-- a node's cells in an own row. -/
theorem own_nd_at {w : World} {base n c g : Nat} {l : List NdA} (h : w.ownsRow base 55 7 (.slice (some ⟨g, 0, none⟩) n c) n (rowNd l)) (j : Nat) (hj : j < l.length) (o : Nat) (ho : o = j * 7) :
    g < w.heap.size ∧ w.cell? ⟨g, o, none⟩ = some (.int .i64 l[j].nd.op) ∧ w.cell? ⟨g, o + 1, none⟩ = some (.slice l[j].a l[j].nd.kids.length l[j].c) ∧ w.cell? ⟨g, o + 2, none⟩ = some (.int .i64 l[j].nd.rule) ∧ w.cell? ⟨g, o + 3, none⟩ = some (.int .u64 l[j].nd.set.a) ∧ w.cell? ⟨g, o + 4, none⟩ = some (.int .u64 l[j].nd.set.b) ∧ w.cell? ⟨g, o + 5, none⟩ = some (.int .u64 l[j].nd.set.c) ∧ w.cell? ⟨g, o + 6, none⟩ = some (.int .u64 l[j].nd.set.d) := by
  subst ho
  have hc := own_cells h
  have key : ∀ q u, q < 7 → (l[j].cells)[q]? = some u → w.cell? ⟨g, j * 7 + q, none⟩ = some u := fun q u hq hu => by
    obtain ⟨b, off, e, h1⟩ := cells_get hc (j * 7 + q) u ((flat_get NdA.len l j q hj hq).trans hu)
    cases e
    rwa [Nat.zero_add] at h1
  have h0 := key 0 _ (by omega) rfl
  exact ⟨block_lt_of_cell h0, h0, key 1 _ (by omega) rfl, key 2 _ (by omega) rfl, key 3 _ (by omega) rfl, key 4 _ (by omega) rfl, key 5 _ (by omega) rfl, key 6 _ (by omega) rfl⟩
/-- one round of Append's loop: what may be written is the one kid row, the out row, the out box. -/
theorem astate_step {w wr wf : World} {bx : Nat} {xR : Option Addr} {cR : Nat} {xN xN' : Option Addr} {cN cN' : Nat} {xC : Option Addr} {cC : Nat} {rl : List Rl} {lg lx : List NdA} {f k : Nat} {by_ : Int}
    (H : AState w wr bx xR cR xN cN xC cC rl lg lx f k by_) (hk : f + k < lx.length)
    (hK : ∀ b, b < wr.heap.size → (Value.slice xN (lg.length + k) cN).ownBlock ≠ some b → b ≠ bx → blk lx[f + k].a ≠ some b → wf.heap[b]? = wr.heap[b]?)
    (hbx : wf.heap[bx]? = some (.cells #[.slice xR rl.length cR, .slice xN' (lg.length + (k + 1)) cN'] 36 (0, 0)))
    (hat : (Value.slice xN' (lg.length + (k + 1)) cN').ownBlock = (Value.slice xN (lg.length + k) cN).ownBlock ∨ ∃ q, (Value.slice xN' (lg.length + (k + 1)) cN').ownBlock = some q ∧ wr.heap.size ≤ q)
    (ho : wf.ownsRow w.heap.size 55 7 (.slice xN' (lg.length + (k + 1)) cN') (lg.length + (k + 1)) (rowNd (lg ++ ((lx.drop f).take (k + 1)).map (mvA by_))))
    (hkid : KidO wf w.heap.size (mvA by_ lx[f + k])) (hB : Below w.heap.size w wf) :
    AState w wf bx xR cR xN' cN' xC cC rl lg lx f (k + 1) by_ := by
  obtain ⟨p0, p1, p2, p3, p4, p5, p6, p7, p8, p9, p10, p11⟩ := H
  have h2l := (Array.getElem?_eq_some_iff.1 p1).1
  have hkr := p9 (f + k) hk (Nat.le_refl _)
  -- a row of another type than nodes, grammars, ints; or of ints, of another block
  have hnb : ∀ {e : TypeId} {size n : Nat} {v : Value} {xs : List Value}, wr.ownsRow w.heap.size e size v n xs → (e ≠ 55 ∨ ∀ b, v.ownBlock = some b → (Value.slice xN (lg.length + k) cN).ownBlock ≠ some b) → e ≠ 36 → (e ≠ 3 ∨ ∀ b, v.ownBlock = some b → blk lx[f + k].a ≠ some b) → ∀ b, b < wr.heap.size → v.ownBlock = some b → wf.heap[b]? = wr.heap[b]? := by
    intro e size n v xs h hn1 hn2 hn3 b hb hv
    refine hK b hb (fun e2 => ?_) (fun e2 => ?_) (fun e2 => ?_)
    · rcases hn1 with hn1 | hn1
      · rcases p4.2 with ⟨q, _⟩ | ⟨gN, cap, cur, q, _, hh, _⟩
        · rw [q] at e2; simp [Value.ownBlock] at e2
        · rw [q] at e2
          have : gN = b := by simpa [Value.ownBlock] using e2
          subst this
          exact own_ne_blk h hh hn1 hv
      · exact hn1 b hv e2
    · subst e2; exact own_ne_blk h p2 hn2 hv
    · rcases hn3 with hn3 | hn3
      · rcases hkr.2 with ⟨q, _⟩ | ⟨gN, cap, cur, q, _, hh, _⟩
        · injection q with q; rw [q] at e2; simp [blk] at e2
        · injection q with q; rw [q] at e2
          have : gN = b := by simpa [blk] using e2
          subst this
          exact own_ne_blk h hh hn3 hv
      · exact hn3 b hv e2
  have hp := List.pairwise_append.1 p10
  refine ⟨p0, ?_, hbx, own_of_heap p3 (hnb p3 (.inl (by decide)) (by decide) (.inl (by decide))), ho, own_of_heap p5 (hnb p5 (.inr fun b hb e => ?_) (by decide) (.inl (by decide))), ?_, ?_, ?_, ?_, p10, hB⟩
  · refine (hK _ h2l (fun e2 => ?_) (by omega) (fun e2 => ?_)).trans p1
    · rcases p4.2 with ⟨q, _⟩ | ⟨gN, cap, cur, q, _, hh, _⟩
      · rw [q] at e2; simp [Value.ownBlock] at e2
      · rw [q] at e2
        have : gN = w.heap.size + 2 := by simpa [Value.ownBlock] using e2
        subst this
        rw [p1] at hh; injection hh with h; injection h with _ h; exact absurd h (by decide)
    · exact kid_ne hkr p1 (by decide) e2
  · rw [blk_own] at hb
    exact p6 (by rw [e, hb])
  · rcases hat with h | ⟨q, h, hq⟩
    · rw [h]; exact p6
    · rw [h]; intro e
      have := own_blk_lt p5 q (by rw [blk_own]; exact e.symm)
      omega
  · intro y hy
    refine own_of_heap (p7 y hy) (hnb (p7 y hy) (.inl (by decide)) (by decide) (.inr fun b hb e => ?_))
    rw [blk_own] at hb
    rcases hp.2.2 y hy lx[f + k] (List.getElem_mem hk) with h | h
    · rw [h] at hb; cases hb
    · exact h (by rw [hb, e])
  · intro j hj h1 h2
    by_cases e : j = f + k
    · subst e; exact hkid
    · have h8 := p8 j hj h1 (by omega)
      refine own_of_heap h8 (hnb h8 (.inl (by decide)) (by decide) (.inr fun b hb e2 => ?_))
      rw [blk_own] at hb
      rcases (List.pairwise_iff_getElem.1 hp.2.1) j (f + k) hj hk (by omega) with h | h
      · rw [mvA_a, h] at hb; cases hb
      · exact h (by rw [mvA_a] at hb; rw [hb, e2])
  · intro j hj h1
    have h9 := p9 j hj (by omega)
    refine own_of_heap h9 (hnb h9 (.inl (by decide)) (by decide) (.inr fun b hb e2 => ?_))
    rw [blk_own] at hb
    rcases (List.pairwise_iff_getElem.1 hp.2.1) (f + k) j hk hj (by omega) with h | h
    · rw [h] at e2; cases e2
    · exact h (by rw [hb, e2])
theorem set_mid (l : List Int) (d : Int) (m : Nat) (h : m < l.length) : (intsV ((l.take m).map (· + d) ++ l.drop m)).set m (.int .i64 (l[m] + d)) = intsV ((l.take (m + 1)).map (· + d) ++ l.drop (m + 1)) := by
  have hl : ((l.take m).map (· + d)).length = m := by rw [List.length_map, List.length_take, Nat.min_eq_left (Nat.le_of_lt h)]
  have e : ((l.take m).map (· + d) ++ l.drop m).set m (l[m] + d) = (l.take (m + 1)).map (· + d) ++ l.drop (m + 1) := by
    rw [List.set_append_right _ _ (by omega), hl, Nat.sub_self, List.drop_eq_getElem_cons h, List.set_cons_zero, List.take_succ_eq_append_getElem h, List.map_append, List.append_assoc]
    rfl
  unfold intsV
  rw [← e, List.map_set]
end Go.Proofs.Ytdphcblbkdgbhaa
