import Derived.Test.YtdphcblbkdgbhaaK2
import Derived.WalkSpells
namespace Go.Proofs.Ytdphcblbkdgbhaa
open Go.RowKit
theorem own_empty (w : World) (e : TypeId) (size : Nat) : (w.alloc (.cells #[] e)).ownsRow w.heap.size e size (.slice (some ⟨w.heap.size, 0, none⟩) 0 0) 0 [] :=
  ⟨by simp, .inr ⟨w.heap.size, 0, #[], rfl, Nat.le_refl _, heap_alloc_new w _, Nat.le_refl _, by simp [maxLen], by simp, by simp⟩⟩
set_option maxRecDepth 20000 in
theorem cloneInt_any (a : Option Addr) (n c : Nat) (xs : List Value) (w : World) (hn : n ≤ 1000000000000) (hl : xs.length = n * 1) (h : CellsAt w a xs) (hc : a = none → c = 0) (h1 : ∀ u ∈ xs, u.oneCell' = true) :
    Calls Try.prog 48 #[.slice a n c] w (RetOwn 3 1 n xs w) := by
  have HC := Lib.hid h
  have H1 := Lib.hid h1
  have HL := Lib.hid hl
  have HN := Lib.hid hc
  have heq := fun W => Lib.run_eql_slice_nil (P := Try.prog) W 53 3 a n c 0 0 Try.underlying53
  clear h h1 hl hc
  cases a with
  | none =>
    have h0 : xs = [] := by
      cases xs with
      | nil => rfl
      | cons y ys => obtain ⟨b, off, e, _⟩ := HC.out 0 (by simp); cases e
    have h00 : n = 0 := by have := HL.out; rw [h0] at this; simp only [List.length_nil] at this; omega
    have hz := HN.out rfl
    subst h0 h00 hz
    go_enter Try.func48, Try.ntmps48
    go_wp2
    go_ret
    exact ⟨_, rfl, own_nil _ _ _ _, Below.refl _ _⟩
  | some ad =>
    have HE := Lib.hid (own_empty w 3 1)
    have HB : Hid (Below w.heap.size w (w.alloc (.cells #[] 3))) := (Below.refl _ _).alloc (Nat.le_refl _) _
    go_enter Try.func48, Try.ntmps48
    go_wp2_with (at_builtin; refine appN (P := Try.prog) w.heap.size rfl _ _ 53 3 (.int .i64 0) 1 8 rfl Try.underlying53 infoInt rfl (by omega) (by omega) _ 0 [] HE.out HB.out (some ad) n c xs rfl rfl HL.out (HC.out.below ((Below.refl _ _).alloc (Nat.le_refl _) _)) HN.out H1.out HB.out.size (by omega) ?_; intro v1 w1 hown hb hg hat)
    have HO := Lib.hid hown
    have HB1 := Lib.hid hb
    clear hown hb hg hat
    go_wp2
    go_ret
    refine ⟨v1, rfl, ?_, HB1.out⟩
    have := HO.out
    rw [Nat.zero_add, List.nil_append] at this
    exact this
set_option maxRecDepth 20000 in
theorem cloneRl_any (a : Option Addr) (n c : Nat) (xs : List Value) (w : World) (hn : n ≤ 1000000000000) (hl : xs.length = n * 2) (h : CellsAt w a xs) (hc : a = none → c = 0) (h1 : ∀ u ∈ xs, u.oneCell' = true) :
    Calls Try.prog 46 #[.slice a n c] w (RetOwn 70 2 n xs w) := by
  have HC := Lib.hid h
  have H1 := Lib.hid h1
  have HL := Lib.hid hl
  have HN := Lib.hid hc
  have heq := fun W => Lib.run_eql_slice_nil (P := Try.prog) W 33 70 a n c 0 0 Try.underlying33
  clear h h1 hl hc
  cases a with
  | none =>
    have h0 : xs = [] := by
      cases xs with
      | nil => rfl
      | cons y ys => obtain ⟨b, off, e, _⟩ := HC.out 0 (by simp); cases e
    have h00 : n = 0 := by have := HL.out; rw [h0] at this; simp only [List.length_nil] at this; omega
    have hz := HN.out rfl
    subst h0 h00 hz
    go_enter Try.func46, Try.ntmps46
    go_wp2
    go_ret
    exact ⟨_, rfl, own_nil _ _ _ _, Below.refl _ _⟩
  | some ad =>
    have HE := Lib.hid (own_empty w 70 2)
    have HB : Hid (Below w.heap.size w (w.alloc (.cells #[] 70))) := (Below.refl _ _).alloc (Nat.le_refl _) _
    go_enter Try.func46, Try.ntmps46
    go_wp2_with (at_builtin; refine appN (P := Try.prog) w.heap.size rfl _ _ 33 70 (.agg #[.string ⟨#[]⟩, .int .i64 0]) 2 24 rfl Try.underlying33 infoRl rfl (by omega) (by omega) _ 0 [] HE.out HB.out (some ad) n c xs rfl rfl HL.out (HC.out.below ((Below.refl _ _).alloc (Nat.le_refl _) _)) HN.out H1.out HB.out.size (by omega) ?_; intro v1 w1 hown hb hg hat)
    have HO := Lib.hid hown
    have HB1 := Lib.hid hb
    clear hown hb hg hat
    go_wp2
    go_ret
    refine ⟨v1, rfl, ?_, HB1.out⟩
    have := HO.out
    rw [Nat.zero_add, List.nil_append] at this
    exact this
set_option maxRecDepth 20000 in
theorem cloneNd_any (a : Option Addr) (n c : Nat) (xs : List Value) (w : World) (hn : n ≤ 1000000000000) (hl : xs.length = n * 7) (h : CellsAt w a xs) (hc : a = none → c = 0) (h1 : ∀ u ∈ xs, u.oneCell' = true) :
    Calls Try.prog 47 #[.slice a n c] w (RetOwn 55 7 n xs w) := by
  have HC := Lib.hid h
  have H1 := Lib.hid h1
  have HL := Lib.hid hl
  have HN := Lib.hid hc
  have heq := fun W => Lib.run_eql_slice_nil (P := Try.prog) W 34 55 a n c 0 0 Try.underlying34
  clear h h1 hl hc
  cases a with
  | none =>
    have h0 : xs = [] := by
      cases xs with
      | nil => rfl
      | cons y ys => obtain ⟨b, off, e, _⟩ := HC.out 0 (by simp); cases e
    have h00 : n = 0 := by have := HL.out; rw [h0] at this; simp only [List.length_nil] at this; omega
    have hz := HN.out rfl
    subst h0 h00 hz
    go_enter Try.func47, Try.ntmps47
    go_wp2
    go_ret
    exact ⟨_, rfl, own_nil _ _ _ _, Below.refl _ _⟩
  | some ad =>
    have HE := Lib.hid (own_empty w 55 7)
    have HB : Hid (Below w.heap.size w (w.alloc (.cells #[] 55))) := (Below.refl _ _).alloc (Nat.le_refl _) _
    go_enter Try.func47, Try.ntmps47
    go_wp2_with (at_builtin; refine appN (P := Try.prog) w.heap.size rfl _ _ 34 55 (.agg #[.int .i64 0, .slice none 0 0, .int .i64 0, .int .u64 0, .int .u64 0, .int .u64 0, .int .u64 0]) 7 72 rfl Try.underlying34 infoNd rfl (by omega) (by omega) _ 0 [] HE.out HB.out (some ad) n c xs rfl rfl HL.out (HC.out.below ((Below.refl _ _).alloc (Nat.le_refl _) _)) HN.out H1.out HB.out.size (by omega) ?_; intro v1 w1 hown hb hg hat)
    have HO := Lib.hid hown
    have HB1 := Lib.hid hb
    clear hown hb hg hat
    go_wp2
    go_ret
    refine ⟨v1, rfl, ?_, HB1.out⟩
    have := HO.out
    rw [Nat.zero_add, List.nil_append] at this
    exact this
end Go.Proofs.Ytdphcblbkdgbhaa
