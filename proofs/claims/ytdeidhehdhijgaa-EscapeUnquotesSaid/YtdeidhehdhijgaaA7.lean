import Derived.Test.YtdeidhehdhijgaaA6
import Derived.Maps.AppendAt
import Derived.Laws.Rows
import Derived.Lib.SmallJoins
namespace Go.Proofs.Ytdeidhehdhijgaa
open Go.RowKit
/-- a slice value that reads as some numbers of a kind. -/
def RowN (k : IntKind) (w : World) (a : Option Addr) (l : List Nat) : Prop :=
  ∀ j (h : j < l.length), ∃ b off, a = some ⟨b, off, none⟩ ∧ w.cell? ⟨b, off + j, none⟩ = some (.int k (l[j] : Nat))
theorem RowN.below {k : IntKind} {w w' : World} {a : Option Addr} {l : List Nat} (h : RowN k w a l) (hb : Below w.heap.size w w') : RowN k w' a l := fun j hj => by
  obtain ⟨b, off, e, hc⟩ := h j hj
  exact ⟨b, off, e, (hb.cell (p := ⟨b, off + j, none⟩) (block_lt_of_cell hc)).trans hc⟩
theorem own_base' {w : World} {base : Nat} {e : TypeId} {size n : Nat} {v : Value} {xs : List Value} (h : w.ownsRow base e size v n xs) (k : Nat) (hk : v.ownBlock = some k) : base ≤ k := by
  rcases h.2 with ⟨rfl, _⟩ | ⟨g, cap, cur, rfl, hb, _⟩
  · simp [Value.ownBlock] at hk
  · have : g = k := by simpa [Value.ownBlock] using hk
    omega
theorem own_nil (W : World) (base : Nat) (e : TypeId) (size : Nat) : W.ownsRow base e size (.slice none 0 0) 0 [] := ⟨by simp, .inl ⟨rfl, rfl⟩⟩
theorem own_row {w : World} {base : Nat} {e : TypeId} {size n : Nat} {v : Value} {xs : List Value} (h : w.ownsRow base e size v n xs) (hn : 0 < n) :
    ∃ g cap, v = .slice (some ⟨g, 0, none⟩) n cap ∧ base ≤ g ∧ g < w.heap.size ∧ n ≤ cap ∧ (∀ j u, xs[j]? = some u → w.cell? ⟨g, j, none⟩ = some u) ∧ ∀ j, w.frozen? ⟨g, j, none⟩ = false := by
  rcases h.2 with ⟨_, h0⟩ | ⟨g, cap, cur, rfl, hb, hh, hc, _, _, ht⟩
  · omega
  · refine ⟨g, cap, rfl, hb, (Array.getElem?_eq_some_iff.1 hh).1, hc, fun j u hu => ?_, fun j => frozen_of_row w g j _ e hh⟩
    rw [cell_of_row w g j _ e (0, 0) hh]
    rw [← ht, List.getElem?_take] at hu
    split at hu
    · simpa using hu
    · cases hu
theorem news_lit (W : World) (ys : Array Value) (e : TypeId) (j : Nat) (u : Value) (h : ys.toList[j]? = some u) : (W.alloc (.cells ys e)).cell? ((⟨W.heap.size, 0, none⟩ : Addr).add j) = some u := by
  rw [show (⟨W.heap.size, 0, none⟩ : Addr).add j = ⟨W.heap.size, j, none⟩ from by unfold Addr.add; split <;> simp_all]
  rw [cell_of_row _ _ j _ e (0, 0) (heap_alloc_new W _)]
  simpa using h
/-- append(v, y): y a literal of one element, laid just before. -/
theorem app1 {P : Program} {ops : Array Oper} {rest : List Oper} {o : Oper} {a : Act} {Q : Exit → Act → World → Prop} {w0 W : World} (base : Nat) (hgd : o.guard = none) (s x : Operand) (t e : TypeId) (z : Value) (size bytes : Nat)
    (ho : o.op = .call { callee := .builtin .append, args := #[s, x], argTypes := #[t, t] })
    (ht : P.underlying t = some (.slice e)) (hinfo : (P.info? e).map (fun i => (i.zero, i.size, i.bytes)) = some (some z, size, bytes)) (hz : z.cells.size = size) (hb0 : 0 < bytes) (hs0 : 0 < size)
    (v : Value) (n : Nat) (xs : List Value) (HO : W.ownsRow base e size v n xs) (HB : Below base w0 W) (ys : Array Value) (hs : a.eval s = v) (hx : a.eval x = .slice (some ⟨W.heap.size, 0, none⟩) 1 1) (hy : ys.size = size) (h1 : ∀ u ∈ ys.toList, u.oneCell' = true)
    (hbase : base ≤ W.heap.size) (hl : (n + 1) * bytes ≤ 140737488355328)
    (h : ∀ v1 w1, w1.ownsRow base e size v1 (n + 1) (xs ++ ys.toList) → Below base w0 w1 → wpList P ops Q rest (a.put o.dst v1) w1) :
    wpList P ops Q (o :: rest) a (W.alloc (.cells ys e)) := by
  obtain ⟨i0, hi, hzz⟩ := Option.map_eq_some_iff.1 hinfo
  simp only [Prod.mk.injEq] at hzz
  obtain ⟨hz0, hz1, hz2⟩ := hzz
  have hlen : n + 1 ≤ 140737488355328 := Nat.le_trans (Nat.le_mul_of_pos_right _ hb0) hl
  refine wpList_append_own (W.alloc (.cells ys e)) hgd s x t ho base e i0 z size bytes ht hi hz0 hz1 hz2 hz hs0 v n xs hs (HO.alloc _) ⟨W.heap.size, 0, none⟩ 1 1 ys.toList hx (by simp [hy])
    (news_lit W ys e) h1 (by simp only [maxLen]; omega) hl (by simp; omega) ?_
  intro v1 w1 hown hg _
  exact h v1 w1 hown ((HB.alloc hbase _).grown hg (by simp; omega) (own_base' HO))
/-- a call hands back a slice of its own. -/
def RetOwn (e : TypeId) (size n : Nat) (l : List Value) (w : World) (en : Ending) (w' : World) : Prop :=
  ∃ v, en = .returned v ∧ w'.ownsRow w.heap.size e size v n l ∧ Below w.heap.size w w'
def bytesV (l : List Nat) : List Value := l.map fun x => .int .u8 (x : Nat)
theorem bytesV_snoc (l : List Nat) (x : Nat) : bytesV l ++ #[Value.int .u8 (x : Nat)].toList = bytesV (l ++ [x]) := by simp [bytesV]
theorem own_below {w w1 : World} {base : Nat} {e : TypeId} {size n : Nat} {v : Value} {xs : List Value} (h : w.ownsRow base e size v n xs) (hb : Below w.heap.size w w1) : w1.ownsRow base e size v n xs := by
  rcases h with ⟨h1, h2 | ⟨g, cap, cur, hv, hg, hh, r⟩⟩
  · exact ⟨h1, .inl h2⟩
  · exact ⟨h1, .inr ⟨g, cap, cur, hv, hg, (hb.block _ (Array.getElem?_eq_some_iff.1 hh).1).trans hh, r⟩⟩
theorem own_mono {w : World} {base base' : Nat} {e : TypeId} {size n : Nat} {v : Value} {xs : List Value} (h : w.ownsRow base e size v n xs) (hb : base' ≤ base) : w.ownsRow base' e size v n xs := by
  rcases h with ⟨h1, h2 | ⟨g, cap, cur, hv, hg, r⟩⟩
  · exact ⟨h1, .inl h2⟩
  · exact ⟨h1, .inr ⟨g, cap, cur, hv, by omega, r⟩⟩
theorem Try.info5 : (Try.prog.info? 5).map (fun i => (i.zero, i.size, i.bytes)) = some (some (.int .u8 0), 1, 1) := by kernel_rfl
theorem own_RowN {w : World} {base n c : Nat} {a : Option Addr} {l : List Nat} (h : w.ownsRow base 5 1 (.slice a n c) n (bytesV l)) : RowN .u8 w a l := fun j hj => by
  have hn : l.length = n := by have := h.1; simpa [bytesV] using this
  obtain ⟨g, cap, e, _, _, _, hc, _⟩ := own_row h (by omega)
  cases e
  refine ⟨g, 0, rfl, ?_⟩
  rw [Nat.zero_add]
  exact hc j _ (by simp [bytesV, hj])
/-- the cells of some bytes. -/
def cellsN (l : List Nat) : List Value := Lib.byteCells (l.map Nat.toUInt8)
theorem cellsN_len (l : List Nat) : (cellsN l).length = l.length := by simp [cellsN, Lib.byteCells]
theorem cellsN_append (l m : List Nat) : cellsN l ++ cellsN m = cellsN (l ++ m) := by simp [cellsN, Lib.byteCells]
theorem cellsN_str (l : List Nat) : Lib.strCells (bytesN l) = cellsN l := by simp [cellsN, Lib.strCells_eq, bytesN]
theorem bytesN_append (l m : List Nat) : bytesN l ++ bytesN m = bytesN (l ++ m) := by
  apply ByteArray.ext; simp [bytesN]
theorem bytesN_size (l : List Nat) : (bytesN l).size = l.length := by simp [bytesN, ByteArray.size]
theorem cellsN_bytesV {l : List Nat} (h : ∀ x ∈ l, x ≤ 255) : cellsN l = bytesV l := by
  unfold cellsN bytesV Lib.byteCells
  rw [List.map_map]
  apply List.map_congr_left
  intro x hx
  have := h x hx
  have e : (x.toUInt8).toNat = x := by simp; omega
  simp [e]
theorem formN_len (c : Nat) (cl : Bool) : 1 ≤ (formN c cl).length ∧ (formN c cl).length ≤ 4 := by
  unfold formN; repeat' split
  all_goals simp
/-- the forms of some bytes. -/
def litTo (l : List Nat) : List Nat := l.flatMap fun c => formN c false
theorem litTo_snoc (l : List Nat) (k : Nat) (h : k < l.length) : litTo (l.take (k + 1)) = litTo (l.take k) ++ formN l[k] false := by
  unfold litTo; rw [List.take_succ_eq_append_getElem h, List.flatMap_append]; simp only [List.flatMap_cons, List.flatMap_nil, List.append_nil]
theorem litTo_le (l : List Nat) : (litTo l).length ≤ 4 * l.length := by
  induction l with
  | nil => simp [litTo]
  | cons c l ih =>
    have := formN_len c false
    have e : litTo (c :: l) = formN c false ++ litTo l := by simp [litTo]
    rw [e]; simp only [List.length_append, List.length_cons]; omega
theorem builder_below {T e : TypeId} {B b : Nat} {p : Value} {bs : List Value} {w w1 : World} (h : Lib.BuilderAt T e B b p bs w) (hb : Below w.heap.size w w1) : Lib.BuilderAt T e B b p bs w1 := by
  have hlt := h.lt
  obtain ⟨h1, v, h2, h3, h4⟩ := h
  exact ⟨h1, v, (hb.block _ hlt).trans h2, own_below h3 hb, h4⟩
end Go.Proofs.Ytdeidhehdhijgaa
