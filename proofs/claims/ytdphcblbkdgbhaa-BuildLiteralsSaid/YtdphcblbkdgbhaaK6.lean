import Derived.Test.YtdphcblbkdgbhaaK5
namespace Go.Proofs.Ytdphcblbkdgbhaa
open Go.RowKit
theorem own_of_heap {w w' : World} {base : Nat} {e : TypeId} {size n : Nat} {v : Value} {xs : List Value} (h : w.ownsRow base e size v n xs) (hh : ∀ b, b < w.heap.size → v.ownBlock = some b → w'.heap[b]? = w.heap[b]?) : w'.ownsRow base e size v n xs := by
  rcases h with ⟨h1, h2 | ⟨g, cap, cur, hv, hb, hg, r⟩⟩
  · exact ⟨h1, .inl h2⟩
  · exact ⟨h1, .inr ⟨g, cap, cur, hv, hb, (hh g (Array.getElem?_eq_some_iff.1 hg).1 (by rw [hv]; rfl)).trans hg, r⟩⟩
theorem own_blk_lt {w : World} {base : Nat} {e : TypeId} {size n : Nat} {v : Value} {xs : List Value} (h : w.ownsRow base e size v n xs) (b : Nat) (hb : v.ownBlock = some b) : base ≤ b ∧ b < w.heap.size := by
  rcases h.2 with ⟨rfl, _⟩ | ⟨g, cap, cur, rfl, hg, hh, _⟩
  · simp [Value.ownBlock] at hb
  · have : g = b := by simpa [Value.ownBlock] using hb
    subst this
    exact ⟨hg, (Array.getElem?_eq_some_iff.1 hh).1⟩
/-- the state of Copy's loop behind k nodes: 'bx' is the copy's box. -/
def CState (w wr : World) (bx : Nat) (xR : Option Addr) (cR : Nat) (xN : Option Addr) (cN : Nat) (g : Gr) (k : Nat) (la : List NdA) : Prop :=
  w.heap.size + 2 ≤ bx ∧ wr.heap[w.heap.size + 1]? = some (.cells #[.slice none 0 0, .slice none 0 0] 36 (0, 0)) ∧ wr.heap[bx]? = some (.cells #[.slice xR g.rules.length cR, .slice xN k cN] 36 (0, 0)) ∧
  wr.ownsRow w.heap.size 70 2 (.slice xR g.rules.length cR) g.rules.length (rowRl g.rules) ∧
  wr.ownsRow w.heap.size 55 7 (.slice xN k cN) k (rowNd la) ∧ nds la = g.nodes.take k ∧
  (∀ x ∈ la, KidO wr w.heap.size x) ∧ la.Pairwise KDis ∧ Below w.heap.size w wr
theorem nds_len {la : List NdA} {l : List Nd} (h : nds la = l) : la.length = l.length := by rw [← h]; simp [nds]
theorem cstate_step {w wr wf : World} {bx k : Nat} {xR : Option Addr} {cR : Nat} {xN xN' : Option Addr} {cN cN' : Nat} {g : Gr} {la : List NdA} (H : CState w wr bx xR cR xN cN g k la) (hk : k < g.nodes.length) (xk : Option Addr) (ck : Nat)
    (hK : ∀ b, b < wr.heap.size → (Value.slice xN k cN).ownBlock ≠ some b → b ≠ bx → wf.heap[b]? = wr.heap[b]?) (hbx : wf.heap[bx]? = some (.cells #[.slice xR g.rules.length cR, .slice xN' (k + 1) cN'] 36 (0, 0)))
    (ho : wf.ownsRow w.heap.size 55 7 (.slice xN' (k + 1) cN') (k + 1) (rowNd (la ++ [⟨g.nodes[k], xk, ck⟩]))) (hkid : wf.ownsRow wr.heap.size 3 1 (.slice xk g.nodes[k].kids.length ck) g.nodes[k].kids.length (intsV g.nodes[k].kids)) (hB : Below w.heap.size w wf) :
    CState w wf bx xR cR xN' cN' g (k + 1) (la ++ [⟨g.nodes[k], xk, ck⟩]) := by
  obtain ⟨p0, p1, p2, p3, p4, p5, p6, p7, p8⟩ := H
  have h1l := (Array.getElem?_eq_some_iff.1 p1).1
  have hnb : ∀ {e : TypeId} {size n : Nat} {v : Value} {xs : List Value}, wr.ownsRow w.heap.size e size v n xs → e ≠ 55 → e ≠ 36 → ∀ b, b < wr.heap.size → v.ownBlock = some b → wf.heap[b]? = wr.heap[b]? := by
    intro e size n v xs h hne1 hne2 b hb hv
    refine hK b hb (fun e2 => ?_) (fun e2 => ?_)
    · rcases p4.2 with ⟨q, _⟩ | ⟨gN, cap, cur, q, _, hh, _⟩
      · rw [q] at e2; simp [Value.ownBlock] at e2
      · rw [q] at e2
        have : gN = b := by simpa [Value.ownBlock] using e2
        subst this
        exact own_ne_blk h hh hne1 hv
    · subst e2; exact own_ne_blk h p2 hne2 hv
  refine ⟨p0, ?_, hbx, own_of_heap p3 (hnb p3 (by decide) (by decide)), ho, ?_, ?_, ?_, hB⟩
  · refine (hK _ h1l (fun e2 => ?_) (by omega)).trans p1
    rcases p4.2 with ⟨q, _⟩ | ⟨gN, cap, cur, q, _, hh, _⟩
    · rw [q] at e2; simp [Value.ownBlock] at e2
    · rw [q] at e2
      have : gN = w.heap.size + 1 := by simpa [Value.ownBlock] using e2
      subst this
      rw [p1] at hh; injection hh with h; injection h with _ h; exact absurd h (by decide)
  · rw [List.take_succ_eq_append_getElem hk, ← p5]; simp [nds]
  · intro x hx
    rcases List.mem_append.1 hx with hx | hx
    · exact own_of_heap (p6 x hx) (hnb (p6 x hx) (by decide) (by decide))
    · obtain rfl : x = ⟨g.nodes[k], xk, ck⟩ := by simpa using hx
      exact own_mono hkid p8.size
  · rw [List.pairwise_append]
    refine ⟨p7, by simp, fun y hy x hx => ?_⟩
    obtain rfl : x = ⟨g.nodes[k], xk, ck⟩ := by simpa using hx
    rcases kid_lt (p6 y hy) with h | ⟨q, h, hq⟩
    · exact .inl h
    · right
      rw [h]
      intro e
      have := own_blk_lt hkid q (by rw [blk_own]; exact e.symm)
      omega
end Go.Proofs.Ytdphcblbkdgbhaa
