import Derived.Test.YtdeidhehdhijgaaA9
import Derived.Outline
import Derived.Lib.SlBytesConst
namespace Go.Proofs.Ytdeidhehdhijgaa
open Go.RowKit
theorem aw1 (w : World) : Calls Try.prog 9 #[.string ⟨#[92, 49, 48, 49, 120]⟩, .int .i64 0] w fun e w' => e = .returned (.tuple #[.int .u8 65, .int .i64 4, .bool true]) ∧ w' = w :=
  read_some ⟨#[92, 49, 48, 49, 120]⟩ (by decide) 0 (c := 65) (n := 4) (by decide +kernel) w
theorem unq_yes {s : ByteArray} {l : List Nat} (h : unq s = some l) (hs : s.size ≤ 1099511627776) (w : World) :
    Calls Try.prog 14 #[.string s] w fun e w' => ∃ v, e = .returned (.tuple #[v, .bool true]) ∧ w'.ownsRow w.heap.size 5 1 v l.length (bytesV l) ∧ Below w.heap.size w w' := by
  refine (unquote_any s hs w).mono ?_
  rintro e w' ⟨v, rfl, ho, hb⟩
  rw [unqL, h] at ho; rw [h]
  exact ⟨v, rfl, ho, hb⟩
theorem unq_no {s : ByteArray} (h : unq s = none) (hs : s.size ≤ 1099511627776) (w : World) :
    Calls Try.prog 14 #[.string s] w fun e w' => ∃ v, e = .returned (.tuple #[v, .bool false]) ∧ Below w.heap.size w w' := by
  refine (unquote_any s hs w).mono ?_
  rintro e w' ⟨v, rfl, ho, hb⟩
  rw [h]
  exact ⟨v, rfl, hb⟩
theorem aw5 (w : World) : Calls Try.prog 11 #[.int .u8 192, .bool false] w fun e w' => e = .returned (.string ⟨#[192]⟩) ∧ Below w.heap.size w w' := form_any 192 (by decide) false w
theorem aw6 (w : World) : Calls Try.prog 11 #[.int .u8 45, .bool true] w fun e w' => e = .returned (.string ⟨#[92, 48, 53, 53]⟩) ∧ Below w.heap.size w w' := form_any 45 (by decide) true w
theorem aw4 (w : World) (a : Option Addr) (c : Nat) (H : RowN .u8 w a [97, 39, 98]) : Calls Try.prog 13 #[.slice a 3 c] w fun e w' => e = .returned (.string ⟨#[39, 97, 92, 39, 98, 39]⟩) ∧ Below w.heap.size w w' :=
  literal_any [97, 39, 98] (by decide) (by decide) a c w H
theorem u2 : unq ⟨#[39, 97, 92, 39, 98, 39]⟩ = some [97, 39, 98] := by decide +kernel
theorem u3 : unq ⟨#[39, 97, 39, 98, 39]⟩ = none := by decide +kernel
theorem own_form {w : World} {base n : Nat} {e : TypeId} {size : Nat} {v : Value} {xs : List Value} (h : w.ownsRow base e size v n xs) : ∃ a c, v = .slice a n c := by
  rcases h.2 with ⟨rfl, h0⟩ | ⟨g, cap, cur, hv, _⟩
  · exact ⟨none, 0, by rw [h0]⟩
  · exact ⟨_, cap, hv⟩
/-- string(b) of bytes that are read. -/
theorem conv_row {w : World} {a : Option Addr} {l : List Nat} (c : Nat) (hR : RowN .u8 w a l) : (convert 30 9 (.slice a l.length c)).run Try.prog w = .ok (.string (bytesN l)) w := by
  cases l with
  | nil =>
    cases a with
    | none => exact run_convert_bytes_nil w 30 5 Try.underlying30 Try.underlying5 0 c 9 Try.underlying9
    | some x =>
      have := Go.run_convert_bytes_back (P := Try.prog) w 30 9 5 x c [] Try.underlying30 Try.underlying5 Try.underlying9 (by simp)
      exact this
  | cons y l =>
    obtain ⟨b, off, rfl, _⟩ := hR 0 (by simp)
    have := run_convert_bytes_arg (P := Try.prog) w 30 5 Try.underlying30 Try.underlying5 b off (y :: l).length c ((y :: l).map Int.ofNat) (by simp) (fun i hi => by
      obtain ⟨b', off', e, hc⟩ := hR i hi
      cases e
      rw [hc]
      rw [List.getD_eq_getElem?_getD, List.getElem?_map, List.getElem?_eq_getElem hi]; rfl) 9 Try.underlying9
    rw [this]
    congr 2
    apply ByteArray.ext
    simp [strOfNums, bytesN]
set_option maxRecDepth 20000 in
set_option maxHeartbeats 1600000 in
theorem awake_any (w : World) : Calls Try.prog 8 #[] w fun e w' => e = .returned (.bool true) ∧ Below w.heap.size w w' := by
  have A1 := Lib.hid aw1
  have A2 := Lib.hid (unq_yes u2 (by decide))
  have A3 := Lib.hid (unq_no u3 (by decide))
  have A4 := Lib.hid aw4
  have A5 := Lib.hid aw5
  have A6 := Lib.hid aw6
  go_enter Try.func8, Try.ntmps8
  go_wp2_with (fail)
  refine (A1.out _).mono ?_
  rintro e w1 ⟨rfl, rfl⟩
  go_wp2_with (fail)
  refine (A2.out _).mono ?_
  rintro e w2 ⟨v2, rfl, o2, b2⟩
  have O2 := Lib.hid o2
  have B2 := Lib.hid b2
  clear o2 b2
  go_wp2_with (fail)
  refine (A3.out _).mono ?_
  rintro e w3 ⟨v3, rfl, b3⟩
  have O3 := Lib.hid (own_below O2.out b3)
  have B3 := Lib.hid (B2.out.trans (b3.mono B2.out.size))
  clear b3
  have kc := fun (w : World) (C : Array Value) (n c : Nat) => Lib.run_convert_bytes_const (P := Try.prog) w 30 5 C n c Try.underlying30 Try.underlying5
  go_wp2_with (fail)
  refine (A4.out _ _ _ ?_).mono ?_
  · intro j hj
    refine ⟨_, 0, rfl, ?_⟩
    rw [World.cell?_alloc_mark]
    match j, hj with
    | 0, _ => rfl
    | 1, _ => rfl
    | 2, _ => rfl
  rintro e w4 ⟨rfl, b4⟩
  have B4 := Lib.hid ((B3.out.alloc B3.out.size _).trans (b4.mono (by have := B3.out.size; simp; omega)))
  have O4 := Lib.hid (own_below (O3.out.alloc _) b4)
  clear b4 kc
  obtain ⟨a2, c2, rfl⟩ := own_form O4.out
  have R4 := Lib.hid (own_RowN O4.out)
  have kr : (convert 30 9 (.slice a2 3 c2)).run Try.prog w4 = .ok (.string ⟨#[97, 39, 98]⟩) w4 := conv_row c2 R4.out
  go_wp2_with (fail)
  refine (A5.out _).mono ?_
  rintro e w5 ⟨rfl, b5⟩
  have B5 := Lib.hid (B4.out.trans (b5.mono B4.out.size))
  clear b5
  go_wp2_with (fail)
  refine (A6.out _).mono ?_
  rintro e w6 ⟨rfl, b6⟩
  have B6 := Lib.hid (B5.out.trans (b6.mono B5.out.size))
  clear b6
  go_wp2
  go_ret
  exact ⟨rfl, B6.out⟩
end Go.Proofs.Ytdeidhehdhijgaa
