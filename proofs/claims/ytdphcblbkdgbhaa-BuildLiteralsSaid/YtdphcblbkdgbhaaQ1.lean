import Derived.Test.YtdphcblbkdgbhaaP5
namespace Go.Proofs.Ytdphcblbkdgbhaa
open Go.RowKit
open BS (RowN setF inL sc)
theorem cells_lit {W : World} {b : Nat} {cs : Array Value} {t : TypeId} {fr : Nat × Nat} (h : W.heap[b]? = some (.cells cs t fr)) (l : List Value) (hl : cs.toList = l) : CellsAt W (some ⟨b, 0, none⟩) l := fun j hj => ⟨b, 0, rfl, by
  subst hl
  rw [Nat.zero_add]
  exact (cell_of_row W b j _ _ _ h).trans (by simp at hj; simp [hj])⟩
def itA : It := ⟨3, 2, 0, zW⟩
def itB : It := ⟨1, 0, 0, ⟨0, 8589934592, 0, 0⟩⟩
def itC : It := ⟨2, 0, 0, zW⟩
def nmA : ByteArray := ⟨#[65]⟩
/-- the example of awake. -/
def l0 : List Rs := [⟨nmA, [itA, itB, itC]⟩]
def g0 : Gr := ⟨[⟨nmA, 2⟩], [⟨1, [], 0, ⟨0, 8589934592, 0, 0⟩⟩, ⟨2, [], 0, zW⟩, ⟨3, [0, 1], 0, zW⟩]⟩
theorem of_l0 : ofL [] [] l0 = some g0 := by simp [ofL, l0, g0, addL, pops, itA, itB, itC]
theorem of_no : ofL [] [] [⟨nmA, []⟩] = none := by simp [ofL, addL]
theorem items_g0 : itemsG g0 = l0 := by decide
theorem ord_g0 : orderedB g0 = true := by decide
theorem expr_g0 : expr g0.nodes 2 = -1 := by decide
theorem of0 (w : World) (a : Option Addr) (c : Nat) (R : RsAt w a l0) :
    Calls Try.prog 10 #[.slice a 1 c] w fun e w' => ∃ ra rc b off nc, e = .returned (.tuple #[.agg #[.slice ra 1 rc, .slice (some ⟨b, off, none⟩) 3 nc], .bool true]) ∧ (ra = none → rc = 0) ∧ RlsAt w' ra g0.rules ∧ NdsAt w' (some ⟨b, off, none⟩) g0.nodes ∧ Below w.heap.size w w' := by
  refine (of_any l0 a c w (by decide) (by decide) R).mono ?_
  rintro e w' (⟨g, hg, ra, rc, na, nc, la, rfl, hla, hog, hb⟩ | ⟨h, _⟩)
  · rw [of_l0] at hg
    injection hg with hg
    subst hg
    have hlen := nds_len hla
    obtain ⟨r1, r2⟩ := ownG_nds hog
    rw [hla] at r2
    obtain ⟨b, off, rfl, -⟩ := r2 0 (by decide)
    refine ⟨ra, rc, b, off, nc, by rw [hlen]; rfl, ?_, r1, r2, hb⟩
    obtain ⟨a2, c2, e2, h2⟩ := own_slice hog.1
    intro h
    injection e2 with e3 _ e4
    rw [e4]; exact h2 (e3.symm.trans h)
  · rw [of_l0] at h; cases h
theorem of1 (w : World) (a : Option Addr) (c : Nat) (R : RsAt w a [⟨nmA, []⟩]) :
    Calls Try.prog 10 #[.slice a 1 c] w fun e w' => e = .returned (.tuple #[.agg #[.slice none 0 0, .slice none 0 0], .bool false]) ∧ Below w.heap.size w w' := by
  refine (of_any [⟨nmA, []⟩] a c w (by decide) (by decide) R).mono ?_
  rintro e w' (⟨g, hg, _⟩ | ⟨_, h, hb⟩)
  · rw [of_no] at hg; cases hg
  · exact ⟨h, hb⟩
theorem app0 (w : World) (ra : Option Addr) (rc b off nc : Nat) (hr : ra = none → rc = 0) (R : RlsAt w ra g0.rules) (N : NdsAt w (some ⟨b, off, none⟩) g0.nodes) :
    Calls Try.prog 22 #[.agg #[.slice ra 1 rc, .slice (some ⟨b, off, none⟩) 3 nc], .agg #[.slice ra 1 rc, .slice (some ⟨b, off, none⟩) 3 nc], .int .i64 2] w fun e w' => ∃ xa xc ya yc, e = .returned (.tuple #[.agg #[.slice xa 1 xc, .slice ya 6 yc], .int .i64 5]) ∧ Below w.heap.size w w' := by
  refine (append_any g0 g0 2 ra (some ⟨b, off, none⟩) rc nc ra (some ⟨b, off, none⟩) rc nc w (by decide) (by decide) (by decide) (by decide) (by decide) (by decide) hr (fun h => by cases h) hr (fun h => by cases h) R N R N ord_g0 (by decide)).mono ?_
  rintro e w' ⟨xa, xc, ya, yc, la, rfl, hla, -, hb⟩
  have hlen := nds_len hla
  have h6 : (appendG g0 g0 2).nodes.length = 6 := by decide
  refine ⟨xa, xc, ya, yc, ?_, hb⟩
  rw [hlen, h6]
  have h5 : ((2 : Nat) : Int) + ((g0.nodes.length : Int) - (expr g0.nodes ((2 : Nat) : Int) + 1)) = 5 := by decide
  rw [h5]; rfl
theorem bi0 (w : World) (ra : Option Addr) (rc b off nc : Nat) (R : RlsAt w ra g0.rules) (N : NdsAt w (some ⟨b, off, none⟩) g0.nodes) :
    Calls Try.prog 15 #[.agg #[.slice ra 1 rc, .slice (some ⟨b, off, none⟩) 3 nc]] w fun e w' => ∃ a c, e = .returned (.slice a 1 c) ∧ RsAt w' a l0 ∧ Below w.heap.size w w' := by
  refine (bitems_any g0 ra rc (some ⟨b, off, none⟩) nc w (by decide) (by decide) (ordered_kids ord_g0) (by decide) (by decide) (by decide) R N).mono ?_
  rintro e w' ⟨a, c, lr, rfl, _, _, h1, h2, hb⟩
  refine ⟨a, c, rfl, ?_, hb⟩
  have := h2.rs
  rwa [h1, items_g0] at this
theorem back0 (w : World) (a : Option Addr) (c : Nat) (R : RsAt w a l0) :
    Calls Try.prog 17 #[.slice a 1 c] w fun e w' => ∃ a c, e = .returned (.slice a 1 c) ∧ RsAt w' a l0 ∧ Below w.heap.size w w' := by
  refine (back_any l0 a c w (by decide) (by decide) R).mono ?_
  rintro e w' ⟨a, c, lr, rfl, _, _, h1, h2, hb⟩
  refine ⟨a, c, rfl, ?_, hb⟩
  have := h2.rs
  rwa [h1] at this
theorem same0 (w : World) (a a' : Option Addr) (c c' : Nat) (R : RsAt w a l0) (R' : RsAt w a' l0) :
    Calls Try.prog 16 #[.slice a 1 c, .slice a' 1 c'] w fun e w' => e = .returned (.bool true) ∧ Below w.heap.size w w' := by
  refine (rsame_any l0 l0 a a' c c' w (by decide) (by decide) (by decide) (by decide) R R').mono ?_
  rintro e w' ⟨rfl, hb⟩
  exact ⟨by simp, hb⟩
theorem lit0 (w : World) (a : Option Addr) (c : Nat) (R : RowN .u8 w a [97, 98]) :
    Calls Try.prog 26 #[.slice a 2 c] w fun e w' => ∃ a c, e = .returned (.slice a 3 c) ∧ Below w.heap.size w w' := by
  refine (blit_any [97, 98] (by decide) (by decide) a c w R).mono ?_
  rintro e w' ⟨a, c, rfl, _, _, hb⟩
  exact ⟨a, c, rfl, hb⟩
end Go.Proofs.Ytdphcblbkdgbhaa
