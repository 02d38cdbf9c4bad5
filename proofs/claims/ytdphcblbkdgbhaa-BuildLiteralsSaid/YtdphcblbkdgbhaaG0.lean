import Derived.WalkKit
import Derived.Lib.Hide
import Derived.KernelRfl
import Derived.WalkSpells
import Derived.WalkLawsBesides
import Derived.BigQuiet
import Derived.Deep.QuietTactic
import Derived.IntWalk
import Derived.WalkMore
import Derived.OwnWalk
import Derived.Maps.AppendAt
import Derived.Laws.Rows
import Derived.Lib.SmallJoins
import Derived.Laws.BytesArg
import Derived.StillTailTactics
import Derived.Outline
import Derived.Test.YtdphcblbkdgbhaaProg
namespace Go.Proofs.Ytdphcblbkdgbhaa
open Go.RowKit
/-- four words. -/
structure W4 where
  a : Nat
  b : Nat
  c : Nat
  d : Nat
  deriving DecidableEq
def W4.Wf (s : W4) : Prop := s.a < 18446744073709551616 ∧ s.b < 18446744073709551616 ∧ s.c < 18446744073709551616 ∧ s.d < 18446744073709551616
/-- a node. -/
structure Nd where
  op : Int
  kids : List Int
  rule : Int
  set : W4
  deriving DecidableEq
/-- a rule. -/
structure Rl where
  name : ByteArray
  root : Int
  deriving DecidableEq
/-- a grammar. -/
structure Gr where
  rules : List Rl
  nodes : List Nd
  deriving DecidableEq
def I64 (x : Int) : Prop := -9223372036854775808 ≤ x ∧ x ≤ 9223372036854775807
/-- a slice value that reads as some numbers. -/
def IntsAt (w : World) (a : Option Addr) (l : List Int) : Prop :=
  ∀ j (h : j < l.length), ∃ b off, a = some ⟨b, off, none⟩ ∧ w.cell? ⟨b, off + j, none⟩ = some (.int .i64 l[j])
theorem IntsAt.below {w w' : World} {a : Option Addr} {l : List Int} (h : IntsAt w a l) (hb : Below w.heap.size w w') : IntsAt w' a l := fun j hj => by
  obtain ⟨b, off, e, hc⟩ := h j hj
  exact ⟨b, off, e, (hb.cell (p := ⟨b, off + j, none⟩) (block_lt_of_cell hc)).trans hc⟩
/-- the seven cells of a node at a place. -/
def NdAt (w : World) (b o : Nat) (x : Nd) : Prop :=
  ∃ ka kc, w.cell? ⟨b, o, none⟩ = some (.int .i64 x.op) ∧ w.cell? ⟨b, o + 1, none⟩ = some (.slice ka x.kids.length kc) ∧ w.cell? ⟨b, o + 2, none⟩ = some (.int .i64 x.rule) ∧
    w.cell? ⟨b, o + 3, none⟩ = some (.int .u64 x.set.a) ∧ w.cell? ⟨b, o + 4, none⟩ = some (.int .u64 x.set.b) ∧ w.cell? ⟨b, o + 5, none⟩ = some (.int .u64 x.set.c) ∧ w.cell? ⟨b, o + 6, none⟩ = some (.int .u64 x.set.d) ∧ IntsAt w ka x.kids ∧ (ka = none → kc = 0)
theorem cell_keep {w w' : World} {p : Addr} {v : Value} (hb : Below w.heap.size w w') (h : w.cell? p = some v) : w'.cell? p = some v := (hb.cell (block_lt_of_cell h)).trans h
theorem NdAt.below {w w' : World} {b o : Nat} {x : Nd} (h : NdAt w b o x) (hb : Below w.heap.size w w') : NdAt w' b o x := by
  obtain ⟨ka, kc, h0, h1, h2, h3, h4, h5, h6, h7, h8⟩ := h
  exact ⟨ka, kc, cell_keep hb h0, cell_keep hb h1, cell_keep hb h2, cell_keep hb h3, cell_keep hb h4, cell_keep hb h5, cell_keep hb h6, h7.below hb, h8⟩
def NdsAt (w : World) (a : Option Addr) (l : List Nd) : Prop :=
  ∀ j (h : j < l.length), ∃ b off, a = some ⟨b, off, none⟩ ∧ NdAt w b (off + j * 7) l[j]
theorem NdsAt.below {w w' : World} {a : Option Addr} {l : List Nd} (h : NdsAt w a l) (hb : Below w.heap.size w w') : NdsAt w' a l := fun j hj => by
  obtain ⟨b, off, e, hc⟩ := h j hj
  exact ⟨b, off, e, hc.below hb⟩
def RlsAt (w : World) (a : Option Addr) (l : List Rl) : Prop :=
  ∀ j (h : j < l.length), ∃ b off, a = some ⟨b, off, none⟩ ∧ w.cell? ⟨b, off + j * 2, none⟩ = some (.string l[j].name) ∧ w.cell? ⟨b, off + j * 2 + 1, none⟩ = some (.int .i64 l[j].root)
theorem RlsAt.below {w w' : World} {a : Option Addr} {l : List Rl} (h : RlsAt w a l) (hb : Below w.heap.size w w') : RlsAt w' a l := fun j hj => by
  obtain ⟨b, off, e, h1, h2⟩ := h j hj
  exact ⟨b, off, e, cell_keep hb h1, cell_keep hb h2⟩
/-- a node's cells, in a later world. -/
theorem NdsAt.get {w wr : World} {a : Option Addr} {l : List Nd} (N : NdsAt w a l) (hb : Hid (Below w.heap.size w wr)) (j : Nat) (hj : j < l.length) :
    ∃ b off ka kc, a = some ⟨b, off, none⟩ ∧ b < wr.heap.size ∧ wr.cell? ⟨b, off + j * 7, none⟩ = some (.int .i64 l[j].op) ∧ wr.cell? ⟨b, off + j * 7 + 1, none⟩ = some (.slice ka l[j].kids.length kc) ∧ wr.cell? ⟨b, off + j * 7 + 2, none⟩ = some (.int .i64 l[j].rule) ∧
      wr.cell? ⟨b, off + j * 7 + 3, none⟩ = some (.int .u64 l[j].set.a) ∧ wr.cell? ⟨b, off + j * 7 + 4, none⟩ = some (.int .u64 l[j].set.b) ∧ wr.cell? ⟨b, off + j * 7 + 5, none⟩ = some (.int .u64 l[j].set.c) ∧ wr.cell? ⟨b, off + j * 7 + 6, none⟩ = some (.int .u64 l[j].set.d) ∧ Hid (IntsAt wr ka l[j].kids) := by
  obtain ⟨b, off, rfl, h⟩ := N j hj
  obtain ⟨ka, kc, h0, h1, h2, h3, h4, h5, h6, h7, h8⟩ := h.below hb.out
  exact ⟨b, off, ka, kc, rfl, block_lt_of_cell h0, h0, h1, h2, h3, h4, h5, h6, h7⟩
theorem RlsAt.get {w wr : World} {a : Option Addr} {l : List Rl} (N : RlsAt w a l) (hb : Hid (Below w.heap.size w wr)) (j : Nat) (hj : j < l.length) :
    ∃ b off, a = some ⟨b, off, none⟩ ∧ b < wr.heap.size ∧ wr.cell? ⟨b, off + j * 2, none⟩ = some (.string l[j].name) ∧ wr.cell? ⟨b, off + j * 2 + 1, none⟩ = some (.int .i64 l[j].root) := by
  obtain ⟨b, off, rfl, h0, h1⟩ := N j hj
  have h0' := cell_keep hb.out h0
  exact ⟨b, off, rfl, block_lt_of_cell h0', h0', cell_keep hb.out h1⟩
theorem IntsAt.get {w wr : World} {a : Option Addr} {l : List Int} (N : IntsAt w a l) (hb : Hid (Below w.heap.size w wr)) (j : Nat) (hj : j < l.length) :
    ∃ b off, a = some ⟨b, off, none⟩ ∧ b < wr.heap.size ∧ wr.cell? ⟨b, off + j, none⟩ = some (.int .i64 l[j]) := by
  obtain ⟨b, off, rfl, h0⟩ := N j hj
  have h0' := cell_keep hb.out h0
  exact ⟨b, off, rfl, block_lt_of_cell h0', h0'⟩
end Go.Proofs.Ytdphcblbkdgbhaa
