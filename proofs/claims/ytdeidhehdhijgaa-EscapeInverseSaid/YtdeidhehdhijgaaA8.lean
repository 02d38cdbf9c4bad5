import Derived.Test.YtdeidhehdhijgaaA7
import Derived.Outline
namespace Go.Proofs.Ytdeidhehdhijgaa
open Go.RowKit
def litN (l : List Nat) : List Nat := 39 :: (litTo l ++ [39])
theorem litN_len (l : List Nat) : (litN l).length ≤ 4 * l.length + 2 := by have := litTo_le l; simp [litN]; omega
set_option maxRecDepth 20000 in
set_option maxHeartbeats 800000 in
theorem refLiteral_any (l : List Nat) (hl : ∀ x ∈ l, x ≤ 255) (hn : l.length ≤ 1099511627776) (a : Option Addr) (c : Nat) (w : World) (H : RowN .u8 w a l) :
    Calls Try.prog 15 #[.slice a l.length c] w fun e w' => e = .returned (.string (bytesN (litN l))) ∧ Below w.heap.size w w' := by
  go_enter Try.func15, Try.ntmps15
  go_wp2
  go_loopw [3, 4] (fun s j wr => ∃ k : Nat, k ≤ l.length ∧ j = .int .i64 k ∧ s = .string (bytesN (39 :: litTo (l.take k))) ∧ Below w.heap.size w wr) (fun _ j _ => l.length - (intOf j).toNat)
  case atStart => exact ⟨0, by omega, rfl, rfl, Below.refl _ _⟩
  case round =>
    obtain ⟨k, hk, rfl, rfl, hb⟩ := hrel
    have hsz := bytesN_size (39 :: litTo (l.take k))
    have hsl := litTo_le (l.take k)
    simp only [List.length_cons, List.length_take] at hsz hsl
    have HS : Hid ((bytesN (39 :: litTo (l.take k))).size = (litTo (l.take k)).length + 1) := hsz
    have hb2 : (bytesN (39 :: litTo (l.take k))).size ≤ 4 * l.length + 1 := by omega
    clear hsz hsl
    by_cases hlt : k < l.length
    · obtain ⟨b, off, rfl, hc⟩ := H k hlt
      have hc' := (hb.cell (p := ⟨b, off + k, none⟩) (block_lt_of_cell hc)).trans hc
      have hx := hl _ (List.getElem_mem hlt)
      have hsn := litTo_snoc l k hlt
      clear hc H
      generalize hy : l[k] = x at *
      have HSN := Lib.hid hsn
      have hfl := bytesN_size (formN x false)
      have hfl2 := (formN_len x false).2
      have hfs : (bytesN (formN x false)).size ≤ 4 := by omega
      have F := Lib.hid (refForm_any x (by omega) false)
      clear hy hsn hfl hfl2
      go_wp2_with (go_at_call 12; refine (F.out _).mono ?_; rintro e w1 ⟨rfl, hb1⟩)
      go_roundw
      case rel => exact ⟨k + 1, by omega, by go_num, by rw [bytesN_append, HSN.out]; rfl, hb.trans (hb1.mono hb.size)⟩
      case measure => simp [intOf]; omega
    · obtain rfl : k = l.length := by omega
      rw [List.take_length] at *
      go_wp2
      go_ret
      exact ⟨ret_str (by rw [show (⟨#[39]⟩ : ByteArray) = bytesN [39] from rfl, bytesN_append]; rfl), hb⟩
set_option maxRecDepth 20000 in
set_option maxHeartbeats 800000 in
theorem literal_any (l : List Nat) (hl : ∀ x ∈ l, x ≤ 255) (hn : l.length ≤ 1099511627776) (a : Option Addr) (c : Nat) (w : World) (H : RowN .u8 w a l) :
    Calls Try.prog 13 #[.slice a l.length c] w fun e w' => e = .returned (.string (bytesN (litN l))) ∧ Below w.heap.size w w' := by
  have hF := Lib.hid (Lib.fresh_isBuilder 42 5 w)
  have hB0 : Hid (Below w.heap.size w (w.alloc (.cells #[.pointer none, .slice none 0 0] 42))) := (Below.refl _ _).alloc (Nat.le_refl _) _
  go_enter Try.func13, Try.ntmps13
  go_wp2_with (fail)
  refine (writeByte_any w.heap.size w.heap.size [] 39 _ hF.out (by decide) hB0.out.size).mono ?_
  rintro e w1 ⟨rfl, h1, b1⟩
  have H1 : Hid (Lib.BuilderAt 42 5 w.heap.size w.heap.size (.pointer (some ⟨w.heap.size, 0, none⟩)) (cellsN (39 :: litTo (l.take 0))) w1) := h1
  have B1 : Hid (Below w.heap.size w w1) := hB0.out.trans b1
  clear h1 b1
  go_wp2_with (fail)

  go_loopw [9] (fun j wr => ∃ k : Nat, k ≤ l.length ∧ j = .int .i64 k ∧ Hid (Lib.BuilderAt 42 5 w.heap.size w.heap.size (.pointer (some ⟨w.heap.size, 0, none⟩)) (cellsN (39 :: litTo (l.take k))) wr) ∧ Below w.heap.size w wr) (fun j _ => l.length - (intOf j).toNat)
  case atStart => exact ⟨0, by omega, rfl, H1, B1.out⟩
  case round =>
    obtain ⟨k, hk, rfl, HB, hb⟩ := hrel
    clear H1 B1
    by_cases hlt : k < l.length
    · obtain ⟨b, off, rfl, hc⟩ := H k hlt
      have hc' := (hb.cell (p := ⟨b, off + k, none⟩) (block_lt_of_cell hc)).trans hc
      have hx := hl _ (List.getElem_mem hlt)
      have hsn := litTo_snoc l k hlt
      have hsl := litTo_le (l.take k)
      simp only [List.length_take] at hsl
      clear hc H
      generalize hy : l[k] = x at *
      have HSN := Lib.hid hsn
      have hfl := bytesN_size (formN x false)
      have hfl2 := (formN_len x false).2
      have F := Lib.hid (form_any x (by omega) false)
      clear hy hsn
      go_wp2_with (fail)
      refine (F.out _).mono ?_
      rintro e w2 ⟨rfl, hb2⟩
      have HB2 := Lib.hid (builder_below HB.out hb2)
      have hb3 := hb.trans (hb2.mono hb.size)
      have HL : Hid ((cellsN (39 :: litTo (l.take k))).length + (bytesN (formN x false)).size ≤ 140737488355328) := by
        show _ ≤ _
        rw [cellsN_len]; simp only [List.length_cons]; omega
      clear hfl hb2
      go_wp2_with (fail)
      refine (writeString_any w.heap.size w.heap.size _ _ _ (Or.inr HB2.out) HL.out hb3.size).mono ?_
      rintro e w3 ⟨rfl, h3, b3⟩
      have H3 : Hid (Lib.BuilderAt 42 5 w.heap.size w.heap.size (.pointer (some ⟨w.heap.size, 0, none⟩)) (cellsN (39 :: litTo (l.take (k + 1)))) w3) := by
        rw [HSN.out, ← List.cons_append, ← cellsN_append]; rw [cellsN_str] at h3; exact h3
      have hb4 := hb3.trans b3
      clear h3 b3
      go_wp2
      go_roundw
      case rel => exact ⟨k + 1, by omega, by go_num, H3, hb4⟩
      case measure => simp [intOf]; omega
    · obtain rfl : k = l.length := by omega
      rw [List.take_length] at HB
      have hsl := litTo_le l
      go_wp2_with (fail)
      refine (writeByte_any w.heap.size w.heap.size _ 39 _ (Or.inr HB.out) (by rw [cellsN_len]; simp only [List.length_cons]; omega) hb.size).mono ?_
      rintro e w4 ⟨rfl, h4, b4⟩
      have H4 : Hid (Lib.IsBuilder 42 5 w.heap.size w.heap.size (Lib.byteCells ((litN l).map Nat.toUInt8)) w4) := by
        refine Or.inr ?_
        have e : [Value.int .u8 39] = cellsN [39] := rfl
        rw [e, cellsN_append] at h4
        exact h4
      have hb5 := hb.trans b4
      clear h4 b4
      go_wp2_with (fail)
      refine (string_any w.heap.size w.heap.size _ _ H4.out (by simp [litN])).mono ?_
      rintro e w5 ⟨rfl, b5⟩
      have hb6 := hb5.trans b5
      go_wp2
      go_ret
      exact ⟨ret_str (by rfl), hb6⟩
end Go.Proofs.Ytdeidhehdhijgaa
