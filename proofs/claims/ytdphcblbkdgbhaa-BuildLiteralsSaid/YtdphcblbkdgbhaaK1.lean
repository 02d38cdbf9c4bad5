import Derived.Test.YtdphcblbkdgbhaaH3
import Derived.Maps.AppendAt
import Derived.Laws.AppendOwnNone
namespace Go.Proofs.Ytdphcblbkdgbhaa
open Go.RowKit
theorem own_base' {w : World} {base : Nat} {e : TypeId} {size n : Nat} {v : Value} {xs : List Value} (h : w.ownsRow base e size v n xs) (k : Nat) (hk : v.ownBlock = some k) : base ≤ k := by
  rcases h.2 with ⟨rfl, _⟩ | ⟨g, cap, cur, rfl, hb, _⟩
  · simp [Value.ownBlock] at hk
  · have : g = k := by simpa [Value.ownBlock] using hk
    omega
theorem own_nil (W : World) (base : Nat) (e : TypeId) (size : Nat) : W.ownsRow base e size (.slice none 0 0) 0 [] := ⟨by simp, .inl ⟨rfl, rfl⟩⟩
theorem own_below {w w1 : World} {base : Nat} {e : TypeId} {size n : Nat} {v : Value} {xs : List Value} (h : w.ownsRow base e size v n xs) (hb : Below w.heap.size w w1) : w1.ownsRow base e size v n xs := by
  rcases h with ⟨h1, h2 | ⟨g, cap, cur, hv, hg, hh, r⟩⟩
  · exact ⟨h1, .inl h2⟩
  · exact ⟨h1, .inr ⟨g, cap, cur, hv, hg, (hb.block _ (Array.getElem?_eq_some_iff.1 hh).1).trans hh, r⟩⟩
theorem own_mono {w : World} {base base' : Nat} {e : TypeId} {size n : Nat} {v : Value} {xs : List Value} (h : w.ownsRow base e size v n xs) (hb : base' ≤ base) : w.ownsRow base' e size v n xs := by
  rcases h with ⟨h1, h2 | ⟨g, cap, cur, hv, hg, r⟩⟩
  · exact ⟨h1, .inl h2⟩
  · exact ⟨h1, .inr ⟨g, cap, cur, hv, by omega, r⟩⟩
/-- a row that is not the one that grew stands. -/
theorem own_grown {w w1 : World} {base : Nat} {e : TypeId} {size n : Nat} {v : Value} {xs : List Value} {row : Option Nat} (h : w.ownsRow base e size v n xs) (hg : w.grownBy w1 row) (hne : row = none ∨ v.ownBlock ≠ row) : w1.ownsRow base e size v n xs := by
  rcases h with ⟨h1, h2 | ⟨g, cap, cur, hv, hb, hh, r⟩⟩
  · exact ⟨h1, .inl h2⟩
  · refine ⟨h1, .inr ⟨g, cap, cur, hv, hb, (hg.block g (Array.getElem?_eq_some_iff.1 hh).1 ?_).trans hh, r⟩⟩
    rcases hne with rfl | hne
    · simp
    · rw [hv] at hne; simpa [Value.ownBlock] using hne
theorem own_slice {w : World} {base n : Nat} {e : TypeId} {size : Nat} {v : Value} {xs : List Value} (h : w.ownsRow base e size v n xs) : ∃ a c, v = .slice a n c ∧ (a = none → c = 0) := by
  rcases h.2 with ⟨rfl, h0⟩ | ⟨g, cap, cur, hv, _⟩
  · exact ⟨none, 0, by rw [h0], fun _ => rfl⟩
  · exact ⟨_, cap, hv, fun h => by cases h⟩
/-- a slice value that reads as some cells. -/
def CellsAt (w : World) (a : Option Addr) (l : List Value) : Prop :=
  ∀ j (h : j < l.length), ∃ b off, a = some ⟨b, off, none⟩ ∧ w.cell? ⟨b, off + j, none⟩ = some l[j]
theorem CellsAt.below {w w' : World} {a : Option Addr} {l : List Value} (h : CellsAt w a l) (hb : Below w.heap.size w w') : CellsAt w' a l := fun j hj => by
  obtain ⟨b, off, e, hc⟩ := h j hj
  exact ⟨b, off, e, cell_keep hb hc⟩
theorem own_cells {w : World} {base n c : Nat} {e : TypeId} {size : Nat} {a : Option Addr} {xs : List Value} (h : w.ownsRow base e size (.slice a n c) n xs) : CellsAt w a xs := fun j hj => by
  rcases h.2 with ⟨h1, h0⟩ | ⟨g, cap, cur, hv, _, hh, _, _, hcs, ht⟩
  · have := h.1; rw [h0] at this; omega
  · cases hv
    refine ⟨g, 0, rfl, ?_⟩
    rw [Nat.zero_add, cell_of_row w g j cur e (0, 0) hh]
    have hj' : j < n * size := by have := h.1; omega
    have : (cur.toList.take (n * size))[j]? = some xs[j] := by rw [ht]; exact List.getElem?_eq_getElem hj
    rw [List.getElem?_take_of_lt hj'] at this
    simpa using this
theorem addr_add (b o j : Nat) : (⟨b, o, none⟩ : Addr).add j = ⟨b, o + j, none⟩ := by unfold Addr.add; split <;> simp_all
theorem own_alloc {w : World} {base n : Nat} {e : TypeId} {size : Nat} {v : Value} {xs : List Value} (h : w.ownsRow base e size v n xs) (o : Obj) : (w.alloc o).ownsRow base e size v n xs :=
  own_below h ((Below.refl _ _).alloc (Nat.le_refl _) o)
/-- append of a slice that is read onto a row of one's own. -/
theorem appN {P : Program} {ops : Array Oper} {rest : List Oper} {o : Oper} {a : Act} {Q : Exit → Act → World → Prop} {w0 W : World} (base : Nat) (hgd : o.guard = none) (s x : Operand) (t e : TypeId) (z : Value) (size bytes : Nat)
    (ho : o.op = .call { callee := .builtin .append, args := #[s, x], argTypes := #[t, t] })
    (ht : P.underlying t = some (.slice e)) (hinfo : (P.info? e).map (fun i => (i.zero, i.size, i.bytes)) = some (some z, size, bytes)) (hz : z.cells.size = size) (hb0 : 0 < bytes) (hs0 : 0 < size)
    (v : Value) (n : Nat) (xs : List Value) (HO : W.ownsRow base e size v n xs) (HB : Below base w0 W) (src : Option Addr) (m c : Nat) (ys : List Value) (hs : a.eval s = v) (hx : a.eval x = .slice src m c) (hlen : ys.length = m * size) (hc : CellsAt W src ys) (hnil : src = none → c = 0) (h1 : ∀ u ∈ ys, u.oneCell' = true)
    (hbase : base ≤ W.heap.size) (hl : (n + m) * bytes ≤ 140737488355328)
    (h : ∀ v1 w1, w1.ownsRow base e size v1 (n + m) (xs ++ ys) → Below base w0 w1 → W.grownBy w1 v.ownBlock → (v1.ownBlock = v.ownBlock ∨ v1.ownBlock = some W.heap.size) → wpList P ops Q rest (a.put o.dst v1) w1) :
    wpList P ops Q (o :: rest) a W := by
  obtain ⟨i0, hi, hzz⟩ := Option.map_eq_some_iff.1 hinfo
  simp only [Prod.mk.injEq] at hzz
  obtain ⟨hz0, hz1, hz2⟩ := hzz
  have hlen' : n + m ≤ 140737488355328 := Nat.le_trans (Nat.le_mul_of_pos_right _ hb0) hl
  have hm0 : ys = [] → m = 0 := fun h0 => by
    rw [h0] at hlen
    rcases Nat.eq_zero_or_pos m with h9 | h9
    · exact h9
    · have := Nat.mul_le_mul_right size h9; simp at hlen; omega
  cases src with
  | none =>
    have hy : ys = [] := by
      cases ys with
      | nil => rfl
      | cons y ys => obtain ⟨b, off, e, _⟩ := hc 0 (by simp); cases e
    have hm := hm0 hy
    subst hy
    rw [hnil rfl] at hx
    subst hm
    refine wpList_append_own_none (P := P) hgd s x t ho base e i0 size ht hi v n xs hs HO hx (h v W ?_ HB ⟨rfl, rfl, rfl, Nat.le_refl _, fun _ _ _ => rfl⟩ (.inl rfl))
    simpa using HO
  | some ad =>
    have hn : ∀ j u, ys[j]? = some u → W.cell? (ad.add j) = some u := by
      intro j u hu
      obtain ⟨hj, rfl⟩ := List.getElem?_eq_some_iff.1 hu
      obtain ⟨b, off, e, hcc⟩ := hc j hj
      cases e
      rw [addr_add]; exact hcc
    refine wpList_append_own_at W hgd s x t ho base e i0 z size bytes ht hi hz0 hz1 hz2 hz hs0 v n xs hs HO ad m c ys hx hlen hn h1 (by simp only [maxLen]; omega) hl hbase ?_
    intro v1 w1 hown hg _ hat
    exact h v1 w1 hown (HB.grown hg hbase (own_base' HO)) hg hat
/-- append of a literal of one element, laid just before. -/
theorem app1 {P : Program} {ops : Array Oper} {rest : List Oper} {o : Oper} {a : Act} {Q : Exit → Act → World → Prop} {w0 W : World} (base : Nat) (hgd : o.guard = none) (s x : Operand) (t e : TypeId) (z : Value) (size bytes : Nat)
    (ho : o.op = .call { callee := .builtin .append, args := #[s, x], argTypes := #[t, t] })
    (ht : P.underlying t = some (.slice e)) (hinfo : (P.info? e).map (fun i => (i.zero, i.size, i.bytes)) = some (some z, size, bytes)) (hz : z.cells.size = size) (hb0 : 0 < bytes) (hs0 : 0 < size)
    (v : Value) (n : Nat) (xs : List Value) (HO : W.ownsRow base e size v n xs) (HB : Below base w0 W) (ys : Array Value) (hs : a.eval s = v) (hx : a.eval x = .slice (some ⟨W.heap.size, 0, none⟩) 1 1) (hy : ys.size = size) (h1 : ∀ u ∈ ys.toList, u.oneCell' = true)
    (hbase : base ≤ W.heap.size) (hl : (n + 1) * bytes ≤ 140737488355328)
    (h : ∀ v1 w1, w1.ownsRow base e size v1 (n + 1) (xs ++ ys.toList) → Below base w0 w1 → (W.alloc (.cells ys e)).grownBy w1 v.ownBlock → (v1.ownBlock = v.ownBlock ∨ v1.ownBlock = some (W.heap.size + 1)) → wpList P ops Q rest (a.put o.dst v1) w1) :
    wpList P ops Q (o :: rest) a (W.alloc (.cells ys e)) := by
  refine appN (W := W.alloc (.cells ys e)) base hgd s x t e z size bytes ho ht hinfo hz hb0 hs0 v n xs (own_alloc HO _) (HB.alloc hbase _) (some ⟨W.heap.size, 0, none⟩) 1 1 ys.toList hs hx (by simp [hy]) ?_ (fun h => by cases h) h1 (by simp; omega) hl ?_
  · intro j hj
    refine ⟨_, 0, rfl, ?_⟩
    rw [Nat.zero_add, World.cell?_alloc_mark]
    simp
  · intro v1 w1 h2 h3 h4 h5
    refine h v1 w1 h2 h3 h4 ?_
    simpa using h5
end Go.Proofs.Ytdphcblbkdgbhaa
