import Derived.Test.YtdphcblbkdgbhaaK3
import Derived.Test.YtdphcblbkdgbhaaR3
namespace Go.Proofs.Ytdphcblbkdgbhaa
open Go.RowKit
def blk (a : Option Addr) : Option Nat := a.map Addr.block
def KDis (x y : NdA) : Prop := blk x.a = none ∨ blk x.a ≠ blk y.a
def KidO (w : World) (base : Nat) (x : NdA) : Prop := w.ownsRow base 3 1 (.slice x.a x.nd.kids.length x.c) x.nd.kids.length (intsV x.nd.kids)
/-- a grammar of one's own. -/
def OwnG (w : World) (base : Nat) (ra : Option Addr) (rc : Nat) (na : Option Addr) (nc : Nat) (rl : List Rl) (la : List NdA) : Prop :=
  w.ownsRow base 70 2 (.slice ra rl.length rc) rl.length (rowRl rl) ∧ w.ownsRow base 55 7 (.slice na la.length nc) la.length (rowNd la) ∧ (∀ x ∈ la, KidO w base x) ∧ la.Pairwise KDis
theorem KidO.kidR {w : World} {base : Nat} {x : NdA} (h : KidO w base x) : KidR w x := by
  refine ⟨ints_of_cells (own_cells h), fun e => ?_⟩
  rcases h.2 with ⟨h1, _⟩ | ⟨g, cap, cur, hv, _⟩
  · injection h1
  · rw [e] at hv; cases hv
/-- the state of Clone's loop behind k nodes. -/
def GState (w wr : World) (bx : Nat) (xR : Option Addr) (cR : Nat) (xN : Option Addr) (cN : Nat) (g : Gr) (k : Nat) (la : List NdA) : Prop :=
  w.heap.size + 2 ≤ bx ∧ wr.heap[w.heap.size + 1]? = some (.cells #[.slice none 0 0, .slice none 0 0] 36 (0, 0)) ∧ wr.heap[bx]? = some (.cells #[.slice xR g.rules.length cR, .slice xN g.nodes.length cN] 36 (0, 0)) ∧
  wr.ownsRow w.heap.size 70 2 (.slice xR g.rules.length cR) g.rules.length (rowRl g.rules) ∧
  wr.ownsRow w.heap.size 55 7 (.slice xN g.nodes.length cN) g.nodes.length (rowNd la) ∧ nds la = g.nodes ∧
  (∀ m (h : m < la.length), m < k → KidO wr w.heap.size la[m]) ∧ (∀ m (h : m < la.length), k ≤ m → KidR w la[m]) ∧ (la.take k).Pairwise KDis ∧ Below w.heap.size w wr
theorem grown_set (w : World) (p : Addr) (u : Value) : w.grownBy (w.setCell p u) (some p.block) :=
  ⟨rfl, rfl, rfl, by simp [World.setCell], fun k _ hk => Below.heap_setCell _ _ _ _ (fun e => hk (by rw [e]))⟩
theorem own_ne_blk {w : World} {base : Nat} {e t : TypeId} {size n : Nat} {v : Value} {xs : List Value} {g : Nat} {cs : Array Value} {fr : Nat × Nat} (h : w.ownsRow base e size v n xs) (hg : w.heap[g]? = some (.cells cs t fr)) (hne : e ≠ t) : v.ownBlock ≠ some g := by
  rcases h.2 with ⟨rfl, _⟩ | ⟨g', cap, cur, rfl, _, hh, _⟩
  · simp [Value.ownBlock]
  · intro he
    have : g' = g := by simpa [Value.ownBlock] using he
    subst this
    rw [hh] at hg
    injection hg with hg
    injection hg with _ ht
    exact hne ht
theorem own_set {w : World} {base : Nat} {e : TypeId} {size n : Nat} {v : Value} {xs : List Value} {p : Addr} {u : Value} (h : w.ownsRow base e size v n xs) (hne : v.ownBlock ≠ some p.block) : (w.setCell p u).ownsRow base e size v n xs :=
  own_grown h (grown_set w p u) (.inr hne)
theorem blk_set {w : World} {g : Nat} {a b : Value} {t : TypeId} (h : w.heap[g]? = some (.cells #[a, b] t (0, 0))) (u v : Value) : ((w.setCell ⟨g, 0, none⟩ u).setCell ⟨g, 1, none⟩ v).heap[g]? = some (.cells #[u, v] t (0, 0)) := by
  have h1 := heap_setCell_same w g 0 _ t u h
  exact heap_setCell_same _ g 1 _ t v h1
theorem own_set2 {w : World} {base : Nat} {e t : TypeId} {size n : Nat} {v : Value} {xs : List Value} {g : Nat} {a b u1 u2 : Value} (h : w.ownsRow base e size v n xs) (hg : w.heap[g]? = some (.cells #[a, b] t (0, 0))) (hne : e ≠ t) : ((w.setCell ⟨g, 0, none⟩ u1).setCell ⟨g, 1, none⟩ u2).ownsRow base e size v n xs := by
  have h0 := own_ne_blk h hg hne
  exact own_set (own_set h h0) h0
/-- behind the fresh box: the state of Clone's loop before its first round. -/
theorem gstate0 {w WF : World} {bx : Nat} {xR : Option Addr} {cR : Nat} {xN : Option Addr} {cN : Nat} {g : Gr} {la : List NdA} (h1 : w.heap.size + 2 ≤ bx) (h1' : WF.heap[w.heap.size + 1]? = some (.cells #[.slice none 0 0, .slice none 0 0] 36 (0, 0))) (h2 : WF.heap[bx]? = some (.cells #[.slice xR g.rules.length cR, .slice xN g.nodes.length cN] 36 (0, 0)))
    (h3 : WF.ownsRow w.heap.size 70 2 (.slice xR g.rules.length cR) g.rules.length (rowRl g.rules)) (h4 : WF.ownsRow w.heap.size 55 7 (.slice xN g.nodes.length cN) g.nodes.length (rowNd la)) (h5 : nds la = g.nodes) (hB : Below w.heap.size w WF) (hk : ∀ x ∈ la, KidR w x) : GState w WF bx xR cR xN cN g 0 la :=
  ⟨h1, h1', h2, h3, h4, h5, fun m _ h => by omega, fun m h _ => hk _ (List.getElem_mem h), by simp, hB⟩
theorem bcell {W w1 : World} (hb : Below W.heap.size W w1) : (∀ b o, b < W.heap.size → w1.cell? ⟨b, o, none⟩ = W.cell? ⟨b, o, none⟩) ∧ (∀ b o, b < W.heap.size → w1.frozen? ⟨b, o, none⟩ = W.frozen? ⟨b, o, none⟩) :=
  ⟨fun b o h => hb.cell (p := ⟨b, o, none⟩) h, fun b o h => hb.frozen (p := ⟨b, o, none⟩) h⟩
theorem own_setAt {w : World} {base : Nat} {e : TypeId} {size n c g i : Nat} {xs : List Value} {u : Value} (h : w.ownsRow base e size (.slice (some ⟨g, 0, none⟩) n c) n xs) (hi : i < xs.length) : (w.setCell ⟨g, i, none⟩ u).ownsRow base e size (.slice (some ⟨g, 0, none⟩) n c) n (xs.set i u) := by
  rcases h with ⟨h1, ⟨h2, _⟩ | ⟨g', cap, cur, hv, hb, hh, hn, hm, hcs, ht⟩⟩
  · cases h2
  · cases hv
    refine ⟨by simpa using h1, .inr ⟨g, c, cur.setIfInBounds i u, rfl, hb, heap_setCell_same w g i _ e u hh, hn, hm, by simpa using hcs, ?_⟩⟩
    rw [← ht, Array.toList_setIfInBounds, List.take_set]
theorem flat_set {α β : Type} {f : α → List β} {k : Nat} (hf : ∀ x, (f x).length = k) : ∀ (l : List α) (j q : Nat) (x : α) (v : β) (h : j < l.length), q < k → f x = (f l[j]).set q v → (l.flatMap f).set (j * k + q) v = (l.set j x).flatMap f
  | [], j, q, x, v, h, _, _ => by simp at h
  | y :: l, 0, q, x, v, h, hq, e => by
    simp only [List.flatMap_cons, List.set_cons_zero, Nat.zero_mul, Nat.zero_add]
    rw [List.set_append_left _ _ (by rw [hf]; exact hq), e]; rfl
  | y :: l, j + 1, q, x, v, h, hq, e => by
    simp only [List.flatMap_cons, List.set_cons_succ]
    rw [List.set_append_right _ _ (by rw [hf, Nat.add_mul]; omega), hf, show (j + 1) * k + q - k = j * k + q by rw [Nat.add_mul]; omega,
      flat_set hf l j q x v (by simpa using h) hq (by simpa using e)]
theorem rowNd_set (l : List NdA) (j : Nat) (h : j < l.length) (a : Option Addr) (c : Nat) : (rowNd l).set (j * 7 + 1) (.slice a l[j].nd.kids.length c) = rowNd (l.set j ⟨l[j].nd, a, c⟩) :=
  flat_set NdA.len l j 1 _ _ h (by omega) rfl
theorem KidO.keep {w w' : World} {base : Nat} {x : NdA} {row : Option Nat} (h : KidO w base x) (hg : w.grownBy w' row) (hne : row = none ∨ blk x.a ≠ row) : KidO w' base x := by
  refine own_grown h hg ?_
  rcases hne with e | e
  · exact .inl e
  · right
    intro e2
    apply e
    cases hx : x.a with
    | none => rw [hx] at e2; simpa [Value.ownBlock, blk] using e2
    | some p => rw [hx] at e2; simpa [Value.ownBlock, blk] using e2
theorem blk_own {a : Option Addr} {n c : Nat} : (Value.slice a n c).ownBlock = blk a := by cases a <;> rfl
theorem below_grown {w w' : World} (h : Below w.heap.size w w') : w.grownBy w' none := ⟨h.os, h.tape, h.output, h.size, fun k hk _ => h.block k hk⟩
theorem kid_ne {w : World} {base : Nat} {x : NdA} {g : Nat} {cs : Array Value} {t : TypeId} {fr : Nat × Nat} (h : KidO w base x) (hg : w.heap[g]? = some (.cells cs t fr)) (ht : 3 ≠ t) : blk x.a ≠ some g := by
  rw [← blk_own (n := x.nd.kids.length) (c := x.c)]; exact own_ne_blk h hg ht
theorem own_heap {w : World} {base : Nat} {e : TypeId} {size n g c : Nat} {xs : List Value} (h : w.ownsRow base e size (.slice (some ⟨g, 0, none⟩) n c) n xs) : ∃ cs, w.heap[g]? = some (.cells cs e (0, 0)) ∧ base ≤ g := by
  rcases h.2 with ⟨h1, _⟩ | ⟨g', cap, cur, hv, hb, hh, _⟩
  · cases h1
  · cases hv; exact ⟨cur, hh, hb⟩
theorem kid_lt {w : World} {base : Nat} {x : NdA} (h : KidO w base x) : blk x.a = none ∨ ∃ q, blk x.a = some q ∧ q < w.heap.size := by
  rcases h.2 with ⟨h, _⟩ | ⟨q, cap, cur, h, hq, hh, _⟩
  · injection h with h; left; rw [h]; rfl
  · injection h with h; right; exact ⟨q, by rw [h]; rfl, (Array.getElem?_eq_some_iff.1 hh).1⟩
/-- one round of Clone's loop. -/
theorem gstate_step {w wr w3 : World} {bx k gN : Nat} {xR : Option Addr} {cR cN : Nat} {g : Gr} {la : List NdA} (H : GState w wr bx xR cR (some ⟨gN, 0, none⟩) cN g k la) (hk : k < la.length) (hb : Below wr.heap.size wr w3) (a : Option Addr) (c : Nat)
    (ho : w3.ownsRow wr.heap.size 3 1 (.slice a la[k].nd.kids.length c) la[k].nd.kids.length (intsV la[k].nd.kids)) :
    GState w (w3.setCell ⟨gN, k * 7 + 1, none⟩ (.slice a la[k].nd.kids.length c)) bx xR cR (some ⟨gN, 0, none⟩) cN g (k + 1) (la.set k ⟨la[k].nd, a, c⟩) := by
  obtain ⟨p0, p1, p2, p3, p4, p5, p6, p7, p8, p9⟩ := H
  obtain ⟨cs, hgN, hgb⟩ := own_heap p4
  have hgN3 := (hb.block _ (Array.getElem?_eq_some_iff.1 hgN).1).trans hgN
  have hgl := (Array.getElem?_eq_some_iff.1 hgN).1
  have h1l := (Array.getElem?_eq_some_iff.1 p1).1
  have h2l := (Array.getElem?_eq_some_iff.1 p2).1
  have hne1 : w.heap.size + 1 ≠ gN := fun e => by rw [← e, p1] at hgN; injection hgN with h; injection h with _ h; exact absurd h (by decide)
  have hne2 : bx ≠ gN := fun e => by rw [← e, p2] at hgN; injection hgN with h; injection h with _ h; exact absurd h (by decide)
  have hset := grown_set w3 ⟨gN, k * 7 + 1, none⟩ (.slice a la[k].nd.kids.length c)
  have hkb : blk a = none ∨ ∃ q, blk a = some q ∧ wr.heap.size ≤ q := by
    rcases ho.2 with ⟨h, _⟩ | ⟨q, cap, cur, h, hq, _⟩
    · injection h with h; left; rw [h]; rfl
    · injection h with h; right; exact ⟨q, by rw [h]; rfl, hq⟩
  have hnk : blk a ≠ some gN := by
    rcases hkb with h | ⟨q, h, hq⟩
    · rw [h]; simp
    · rw [h]; intro e; injection e with e; omega
  refine ⟨p0, ?_, ?_, ?_, ?_, ?_, ?_, ?_, ?_, ?_⟩
  · exact (heap_setCell_other _ _ _ _ (by simpa using hne1)).trans ((hb.block _ h1l).trans p1)
  · exact (heap_setCell_other _ _ _ _ (by simpa using hne2)).trans ((hb.block _ h2l).trans p2)
  · exact own_set (own_below p3 hb) (own_ne_blk (own_below p3 hb) hgN3 (by decide))
  · have := own_setAt (u := .slice a la[k].nd.kids.length c) (i := k * 7 + 1) (own_below p4 hb) (by rw [rowNd_len]; omega)
    rw [rowNd_set la k hk] at this
    exact this
  · rw [← p5, nds, nds, List.map_set]
    have : la[k].nd = (la.map NdA.nd)[k]'(by simpa using hk) := by simp
    rw [this, List.set_getElem_self]
  · intro m hm hmk
    have hm' : m < la.length := by simpa using hm
    by_cases e : m = k
    · subst e
      simp only [List.getElem_set_self]
      exact own_mono (own_set ho (by rw [blk_own]; exact hnk)) p9.size
    · simp only [List.getElem_set_ne (Ne.symm e)]
      have h6 := (p6 m hm' (by omega)).keep (below_grown hb) (.inl rfl)
      exact h6.keep hset (.inr (kid_ne h6 hgN3 (by decide)))
  · intro m hm hmk
    have hm' : m < la.length := by simpa using hm
    simp only [List.getElem_set_ne (show k ≠ m by omega)]
    exact p7 m hm' (by omega)
  · have e : (la.set k ⟨la[k].nd, a, c⟩).take (k + 1) = la.take k ++ [⟨la[k].nd, a, c⟩] := by
      rw [List.take_succ_eq_append_getElem (by simpa using hk), List.take_set_of_le (Nat.le_refl _)]
      simp
    rw [e, List.pairwise_append]
    refine ⟨p8, by simp, fun y hy x hx => ?_⟩
    obtain rfl : x = ⟨la[k].nd, a, c⟩ := by simpa using hx
    obtain ⟨m, hm, rfl⟩ := List.mem_iff_getElem.1 hy
    have hm2 : m < k := by simp at hm; omega
    have hm3 : m < la.length := by omega
    have h6 := p6 m hm3 hm2
    rw [List.getElem_take]
    rcases kid_lt h6 with h | ⟨q, h, hq⟩
    · exact .inl h
    · right
      rw [h]
      rcases hkb with h' | ⟨q', h', hq'⟩
      · rw [h']; simp
      · rw [h']; intro e; injection e with e; omega
  · exact (p9.trans (hb.mono p9.size)).setCell hgb _
theorem gstate_get {w wr : World} {bx k : Nat} {xR : Option Addr} {cR : Nat} {xN : Option Addr} {cN : Nat} {g : Gr} {la : List NdA} (H : GState w wr bx xR cR xN cN g k la) (hk : k < g.nodes.length) :
    ∃ (gN : Nat), xN = some ⟨gN, 0, none⟩ ∧ ∃ (hl : k < la.length), wr.cell? ⟨gN, k * 7 + 1, none⟩ = some (.slice la[k].a la[k].nd.kids.length la[k].c) ∧ wr.frozen? ⟨gN, k * 7 + 1, none⟩ = false ∧ wr.cell? ⟨bx, 1, none⟩ = some (.slice xN g.nodes.length cN) ∧ (IntsAt w la[k].a la[k].nd.kids ∧ (la[k].a = none → la[k].c = 0) ∧ la[k].nd = g.nodes[k]) ∧ bx < wr.heap.size ∧ gN < wr.heap.size ∧ gN ≠ bx := by
  obtain ⟨p0, p1, p2, p3, p4, p5, p6, p7, p8, p9⟩ := H
  have hl : la.length = g.nodes.length := by rw [← p5]; simp [nds]
  rcases p4.2 with ⟨_, h0⟩ | ⟨gN, cap, cur, hv, hb, hh, _⟩
  · omega
  · injection hv with hv
    subst hv
    have hc := own_cells p4
    have hkl : k < la.length := by omega
    have key := flat_get NdA.len la k 1 hkl (by omega)
    obtain ⟨b, off, e, hcell⟩ := cells_get hc (k * 7 + 1) _ key
    cases e
    have h7 := p7 k hkl (Nat.le_refl _)
    refine ⟨gN, rfl, hkl, by simpa using hcell, frozen_of_row _ _ _ _ _ hh, cell_of_row _ _ 1 _ _ _ p2, ⟨h7.1, h7.2, ?_⟩, (Array.getElem?_eq_some_iff.1 p2).1, (Array.getElem?_eq_some_iff.1 hh).1, fun e => by rw [e, p2] at hh; injection hh with h; injection h with _ h; exact absurd h (by decide)⟩
    have : (nds la)[k]'(by simpa [nds] using hkl) = la[k].nd := by simp [nds]
    rw [← this]; simp only [p5]
/-- two cells that a region may lean on, and that nothing old was written. -/
abbrev Two (W : World) (b : Nat) (x y : Value) (w' : World) : Prop := w'.cell? ⟨b, 0, none⟩ = some x ∧ w'.cell? ⟨b, 1, none⟩ = some y ∧ Hid (Below W.heap.size W w')
theorem two_step {W : World} {b : Nat} {x y : Value} {w' w'' : World} (h : Two W b x y w') (hb : Below w'.heap.size w' w'') : Two W b x y w'' :=
  ⟨cell_keep hb h.1, cell_keep hb h.2.1, h.2.2.out.trans (hb.mono h.2.2.out.size)⟩
theorem two_bel {W : World} {b : Nat} {x y : Value} {w' : World} (h : Two W b x y w') : Below W.heap.size W w' := h.2.2.out
theorem two_alloc {W : World} {b : Nat} {x y : Value} {w' : World} (h : Two W b x y w') (o : Obj) : Two W b x y (w'.alloc o) := two_step h ((Below.refl _ _).alloc (Nat.le_refl _) o)
theorem two_set {W : World} {b : Nat} {x y : Value} {w' : World} (h : Two W b x y w') (hW : b < W.heap.size) {p : Addr} (hp : W.heap.size ≤ p.block) (u : Value) : Two W b x y (w'.setCell p u) :=
  ⟨(World.cell?_setCell_other w' p _ u (fun e => by subst e; simp at hp; omega)).trans h.1, (World.cell?_setCell_other w' p _ u (fun e => by subst e; simp at hp; omega)).trans h.2.1, h.2.2.out.setCell hp u⟩
end Go.Proofs.Ytdphcblbkdgbhaa
