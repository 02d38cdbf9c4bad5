import Derived.Test.YtdphcblbkdgbhaaK1
namespace Go.Proofs.Ytdphcblbkdgbhaa
open Go.RowKit
theorem flat_get {α β : Type} {f : α → List β} {k : Nat} (hf : ∀ x, (f x).length = k) : ∀ (l : List α) (j q : Nat) (h : j < l.length), q < k → (l.flatMap f)[j * k + q]? = (f l[j])[q]?
  | [], j, q, h, _ => by simp at h
  | x :: l, 0, q, h, hq => by
    rw [List.flatMap_cons, List.getElem?_append_left (by rw [hf]; omega)]
    simp
  | x :: l, j + 1, q, h, hq => by
    rw [List.flatMap_cons, List.getElem?_append_right (by rw [hf, Nat.add_mul]; omega), hf, show (j + 1) * k + q - k = j * k + q by rw [Nat.add_mul]; omega]
    rw [flat_get hf l j q (by simpa using h) hq]
    simp
theorem flat_len {α β : Type} {f : α → List β} {k : Nat} (hf : ∀ x, (f x).length = k) (l : List α) : (l.flatMap f).length = l.length * k := by
  induction l with
  | nil => simp
  | cons x l ih => rw [List.flatMap_cons, List.length_append, hf, ih, List.length_cons, Nat.add_mul]; omega
/-- a node, and where its kids lie. -/
structure NdA where
  nd : Nd
  a : Option Addr
  c : Nat
def NdA.cells (x : NdA) : List Value := [.int .i64 x.nd.op, .slice x.a x.nd.kids.length x.c, .int .i64 x.nd.rule, .int .u64 x.nd.set.a, .int .u64 x.nd.set.b, .int .u64 x.nd.set.c, .int .u64 x.nd.set.d]
theorem NdA.len (x : NdA) : x.cells.length = 7 := rfl
def rowNd (l : List NdA) : List Value := l.flatMap NdA.cells
def nds (l : List NdA) : List Nd := l.map NdA.nd
def rlCells (r : Rl) : List Value := [.string r.name, .int .i64 r.root]
theorem rlCells_len (r : Rl) : (rlCells r).length = 2 := rfl
def rowRl (l : List Rl) : List Value := l.flatMap rlCells
def intsV (l : List Int) : List Value := l.map (Value.int .i64)
theorem rowNd_len (l : List NdA) : (rowNd l).length = l.length * 7 := flat_len NdA.len l
theorem rowRl_len (l : List Rl) : (rowRl l).length = l.length * 2 := flat_len rlCells_len l
theorem rowNd_snoc (l : List NdA) (x : NdA) : rowNd l ++ x.cells = rowNd (l ++ [x]) := by simp [rowNd]
theorem rowRl_snoc (l : List Rl) (x : Rl) : rowRl l ++ rlCells x = rowRl (l ++ [x]) := by simp [rowRl]
theorem intsV_snoc (l : List Int) (x : Int) : intsV l ++ [.int .i64 x] = intsV (l ++ [x]) := by simp [intsV]
theorem rowNd_one (l : List NdA) : ∀ u ∈ rowNd l, u.oneCell' = true := by
  intro u hu
  obtain ⟨x, _, hx⟩ := List.mem_flatMap.1 hu
  simp only [NdA.cells, List.mem_cons, List.not_mem_nil, or_false] at hx
  rcases hx with rfl | rfl | rfl | rfl | rfl | rfl | rfl <;> rfl
theorem rowRl_one (l : List Rl) : ∀ u ∈ rowRl l, u.oneCell' = true := by
  intro u hu
  obtain ⟨x, _, hx⟩ := List.mem_flatMap.1 hu
  simp only [rlCells, List.mem_cons, List.not_mem_nil, or_false] at hx
  rcases hx with rfl | rfl <;> rfl
theorem intsV_one (l : List Int) : ∀ u ∈ intsV l, u.oneCell' = true := by
  intro u hu
  obtain ⟨x, _, rfl⟩ := List.mem_map.1 hu
  rfl
def KidR (w : World) (x : NdA) : Prop := IntsAt w x.a x.nd.kids ∧ (x.a = none → x.c = 0)
theorem KidR.below {w w' : World} {x : NdA} (h : KidR w x) (hb : Below w.heap.size w w') : KidR w' x := ⟨h.1.below hb, h.2⟩
theorem get_map {α β : Type} (f : α → β) (l : List α) (j : Nat) (h : j < (l.map f).length) : (l.map f)[j] = f (l[j]'(by simpa using h)) := by simp
theorem cells_get {w : World} {a : Option Addr} {l : List Value} (h : CellsAt w a l) (j : Nat) (u : Value) (hu : l[j]? = some u) : ∃ b off, a = some ⟨b, off, none⟩ ∧ w.cell? ⟨b, off + j, none⟩ = some u := by
  obtain ⟨hj, rfl⟩ := List.getElem?_eq_some_iff.1 hu
  exact h j hj
theorem nds_of_cells {w : World} {a : Option Addr} {l : List NdA} (h : CellsAt w a (rowNd l)) (hk : ∀ x ∈ l, KidR w x) : NdsAt w a (nds l) := fun j hj => by
  have hj' : j < l.length := by simpa [nds] using hj
  have key : ∀ q, q < 7 → (rowNd l)[j * 7 + q]? = (l[j].cells)[q]? := fun q hq => flat_get NdA.len l j q hj' hq
  obtain ⟨b, off, rfl, h0⟩ := cells_get h (j * 7 + 0) (.int .i64 l[j].nd.op) (key 0 (by omega))
  refine ⟨b, off, rfl, l[j].a, l[j].c, ?_⟩
  have hn : (nds l)[j] = l[j].nd := by simp [nds]
  have g : ∀ q u, q < 7 → (l[j].cells)[q]? = some u → w.cell? ⟨b, off + j * 7 + q, none⟩ = some u := fun q u hq hu => by
    obtain ⟨b', off', e, h1⟩ := cells_get h (j * 7 + q) u ((key q hq).trans hu)
    cases e
    rw [Nat.add_assoc]; exact h1
  have hkk := hk _ (List.getElem_mem hj')
  rw [hn]
  exact ⟨g 0 _ (by omega) rfl, g 1 _ (by omega) rfl, g 2 _ (by omega) rfl, g 3 _ (by omega) rfl, g 4 _ (by omega) rfl, g 5 _ (by omega) rfl, g 6 _ (by omega) rfl, hkk.1, hkk.2⟩
theorem rls_of_cells {w : World} {a : Option Addr} {l : List Rl} (h : CellsAt w a (rowRl l)) : RlsAt w a l := fun j hj => by
  have key : ∀ q, q < 2 → (rowRl l)[j * 2 + q]? = (rlCells l[j])[q]? := fun q hq => flat_get rlCells_len l j q hj hq
  obtain ⟨b, off, rfl, h0⟩ := cells_get h (j * 2 + 0) (.string l[j].name) (key 0 (by omega))
  obtain ⟨b', off', e, h1⟩ := cells_get h (j * 2 + 1) (.int .i64 l[j].root) (key 1 (by omega))
  cases e
  exact ⟨b, off, rfl, by simpa using h0, by rw [Nat.add_assoc]; exact h1⟩
theorem ints_of_cells {w : World} {a : Option Addr} {l : List Int} (h : CellsAt w a (intsV l)) : IntsAt w a l := fun j hj => cells_get h j _ (by simp [intsV, hj])
theorem cells_of_ints {w : World} {a : Option Addr} {l : List Int} (h : IntsAt w a l) : CellsAt w a (intsV l) := fun j hj => by
  obtain ⟨b, off, e, hc⟩ := h j (by simpa [intsV] using hj)
  exact ⟨b, off, e, by rw [hc]; simp [intsV]⟩
theorem cells_of_rls {w : World} {a : Option Addr} {l : List Rl} (h : RlsAt w a l) : CellsAt w a (rowRl l) := fun j hj => by
  have hl := rowRl_len l
  have hjl : j / 2 < l.length := by omega
  obtain ⟨b, off, e, h0, h1⟩ := h (j / 2) hjl
  refine ⟨b, off, e, ?_⟩
  have key := flat_get (f := rlCells) (k := 2) rlCells_len l (j / 2) (j % 2) hjl (by omega)
  rw [show j / 2 * 2 + j % 2 = j by omega] at key
  rw [show (l.flatMap rlCells)[j]? = some (rowRl l)[j] from List.getElem?_eq_getElem hj] at key
  rcases Nat.mod_two_eq_zero_or_one j with h2 | h2
  · rw [h2] at key
    have e1 : (rowRl l)[j] = .string (l[j / 2]).name := by simpa [rlCells] using key
    rw [e1, ← h0]; congr 2; omega
  · rw [h2] at key
    have e1 : (rowRl l)[j] = .int .i64 (l[j / 2]).root := by simpa [rlCells] using key
    rw [e1, ← h1]; congr 2; omega
theorem cells_of_nds {w : World} {a : Option Addr} {l : List Nd} (h : NdsAt w a l) : ∃ la : List NdA, nds la = l ∧ CellsAt w a (rowNd la) ∧ ∀ x ∈ la, KidR w x := by
  have hch : ∀ j : Fin l.length, ∃ p : Option Addr × Nat, ∃ b off, a = some ⟨b, off, none⟩ ∧ w.cell? ⟨b, off + j.1 * 7, none⟩ = some (.int .i64 l[j].op) ∧ w.cell? ⟨b, off + j.1 * 7 + 1, none⟩ = some (.slice p.1 l[j].kids.length p.2) ∧ w.cell? ⟨b, off + j.1 * 7 + 2, none⟩ = some (.int .i64 l[j].rule) ∧
    w.cell? ⟨b, off + j.1 * 7 + 3, none⟩ = some (.int .u64 l[j].set.a) ∧ w.cell? ⟨b, off + j.1 * 7 + 4, none⟩ = some (.int .u64 l[j].set.b) ∧ w.cell? ⟨b, off + j.1 * 7 + 5, none⟩ = some (.int .u64 l[j].set.c) ∧ w.cell? ⟨b, off + j.1 * 7 + 6, none⟩ = some (.int .u64 l[j].set.d) ∧ IntsAt w p.1 l[j].kids ∧ (p.1 = none → p.2 = 0) := fun j => by
    obtain ⟨b, off, e, ka, kc, hh⟩ := h j.1 j.2
    exact ⟨(ka, kc), b, off, e, hh⟩
  let f : Fin l.length → Option Addr × Nat := fun j => Classical.choose (hch j)
  have hf := fun j => Classical.choose_spec (hch j)
  let la : List NdA := (List.finRange l.length).map fun j => ⟨l[j], (f j).1, (f j).2⟩
  have hlen : la.length = l.length := by simp [la]
  have hget : ∀ j (h : j < l.length), la[j]'(by omega) = ⟨l[j], (f ⟨j, h⟩).1, (f ⟨j, h⟩).2⟩ := fun j h => by simp [la]
  refine ⟨la, ?_, ?_, ?_⟩
  · apply List.ext_getElem
    · simp [nds, la]
    · intro j h1 h2
      simp [nds, la]
  · intro j hj
    have hrl := rowNd_len la
    have hjl : j / 7 < l.length := by omega
    obtain ⟨b, off, e, h0, h1, h2, h3, h4, h5, h6, _⟩ := hf ⟨j / 7, hjl⟩
    refine ⟨b, off, e, ?_⟩
    have key := flat_get (f := NdA.cells) (k := 7) NdA.len la (j / 7) (j % 7) (by omega) (by omega)
    rw [show j / 7 * 7 + j % 7 = j by omega, hget _ hjl] at key
    rw [show (la.flatMap NdA.cells)[j]? = some (rowNd la)[j] from List.getElem?_eq_getElem hj] at key
    have hq : j % 7 < 7 := by omega
    have hoff : off + j = off + j / 7 * 7 + j % 7 := by omega
    rw [hoff, key]
    generalize j % 7 = q at *
    match q, hq with
    | 0, _ => exact h0
    | 1, _ => exact h1
    | 2, _ => exact h2
    | 3, _ => exact h3
    | 4, _ => exact h4
    | 5, _ => exact h5
    | 6, _ => exact h6
  · intro x hx
    obtain ⟨j, hj, rfl⟩ := List.mem_iff_getElem.1 hx
    obtain ⟨b, off, e, _, _, _, _, _, _, _, h7, h8⟩ := hf ⟨j, by omega⟩
    rw [hget j (by omega)]
    exact ⟨h7, h8⟩
/-- a call hands back a slice of its own. -/
def RetOwn (e : TypeId) (size n : Nat) (l : List Value) (w : World) (en : Ending) (w' : World) : Prop :=
  ∃ v, en = .returned v ∧ w'.ownsRow w.heap.size e size v n l ∧ Below w.heap.size w w'
theorem infoInt : (Try.prog.info? 3).map (fun i => (i.zero, i.size, i.bytes)) = some (some (.int .i64 0), 1, 8) := by kernel_rfl
theorem infoRl : (Try.prog.info? 70).map (fun i => (i.zero, i.size, i.bytes)) = some (some (.agg #[.string ⟨#[]⟩, .int .i64 0]), 2, 24) := by kernel_rfl
theorem infoNd : (Try.prog.info? 55).map (fun i => (i.zero, i.size, i.bytes)) = some (some (.agg #[.int .i64 0, .slice none 0 0, .int .i64 0, .int .u64 0, .int .u64 0, .int .u64 0, .int .u64 0]), 7, 72) := by kernel_rfl
end Go.Proofs.Ytdphcblbkdgbhaa
