import Derived.Test.YtdeidhehdhijgaaC1
import Derived.Outline
namespace Go.Proofs.Ytdeidhehdhijgaa
open Go.RowKit
theorem formN_plain {c : Nat} (hc : c ≤ 255) (cl : Bool) : ∀ x ∈ formN c cl, 32 ≤ x ∧ (x < 127 ∨ 192 ≤ x) := by
  by_cases h : c = 10 ∨ c = 13 ∨ c = 9
  · rcases h with rfl | rfl | rfl <;> (intro x hx; simp [formN] at hx; omega)
  · cases hs : spc c cl
    · cases ho : octB c cl
      · rw [formN_one h hs ho]
        simp only [octB, decide_eq_false_iff_not] at ho
        intro x hx; simp at hx; omega
      · rw [formN_oct h hs ho]
        intro x hx; simp at hx; omega
    · rw [formN_spc h hs]
      simp only [spc, decide_eq_true_eq] at hs
      intro x hx; simp at hx; omega
theorem formN_shape {c : Nat} (cl : Bool) : (formN c cl = [c] ∧ c ≠ 92 ∧ (cl = false ∨ (c ≠ 93 ∧ c ≠ 45))) ∨ ((formN c cl).length ≠ 1 ∧ ∀ (h : 0 < (formN c cl).length), (formN c cl)[0] = 92) := by
  by_cases h : c = 10 ∨ c = 13 ∨ c = 9
  · right; rcases h with rfl | rfl | rfl <;> simp [formN]
  · cases hs : spc c cl
    · cases ho : octB c cl
      · left
        refine ⟨formN_one h hs ho, ?_⟩
        simp only [octB, decide_eq_false_iff_not] at ho
        simp only [spc, decide_eq_false_iff_not] at hs
        cases cl
        · simp at hs ⊢; omega
        · simp at hs ho ⊢; omega
      · right; rw [formN_oct h hs ho]; simp
    · right; rw [formN_spc h hs]; simp
set_option maxRecDepth 20000 in
set_option maxHeartbeats 1600000 in
theorem plain_any (c : Nat) (hc : c ≤ 255) (cl : Bool) (w : World) :
    Calls Try.prog 7 #[.int .u8 c, .bool cl] w fun e w' => e = .returned (.bool true) ∧ Below w.heap.size w w' := by
  have F1 := Lib.hid (form_any c (by omega) cl)
  have hz := bytesN_size (formN c cl)
  have hl := formN_len c cl
  have hA : ∀ j (hj : j < (formN c cl).length), at' (bytesN (formN c cl)) j = (formN c cl)[j] := fun j hj =>
    at_pre (r := bytesN []) (by rw [bytesN_append]; simp) j hj (formN_le hc cl)
  have P : ∀ j, j < (bytesN (formN c cl)).size → 32 ≤ at' (bytesN (formN c cl)) j ∧ (at' (bytesN (formN c cl)) j < 127 ∨ 192 ≤ at' (bytesN (formN c cl)) j) := fun j hj => by
    rw [hA j (by omega)]; exact formN_plain hc cl _ (List.getElem_mem _)
  have S : ((bytesN (formN c cl)).size = 1 ∧ at' (bytesN (formN c cl)) 0 = c ∧ c ≠ 92 ∧ (cl = false ∨ (c ≠ 93 ∧ c ≠ 45))) ∨ ((bytesN (formN c cl)).size ≠ 1 ∧ at' (bytesN (formN c cl)) 0 = 92) := by
    rcases formN_shape (c := c) cl with ⟨h1, h2⟩ | ⟨h1, h2⟩
    · left; exact ⟨by rw [hz, h1]; rfl, by rw [hA 0 (by omega)]; simp [h1], h2⟩
    · right; exact ⟨by omega, by rw [hA 0 (by omega)]; exact h2 (by omega)⟩
  have hs1 : 1 ≤ (bytesN (formN c cl)).size := by omega
  have hs4 : (bytesN (formN c cl)).size ≤ 4 := by omega
  clear hz hl hA
  generalize bytesN (formN c cl) = s at *
  have hat : ∀ (i : Nat) (h : i < s.size), (s[i]).toNat = at' s i := fun i h => (at_lt h).symm
  have z1 : ¬ s.toList = [] := fun h => by have := congrArg List.length h; rw [ByteArray.toList_eq, Array.length_toList] at this; change s.size = 0 at this; omega
  have z0 : s.toList.isEmpty = false := by rw [Bool.eq_false_iff]; intro h; exact z1 (List.isEmpty_iff.1 h)
  have HP := Lib.hid P
  have HS := Lib.hid S
  clear P S
  go_enter Try.func7, Try.ntmps7
  go_wp2_with (fail)
  refine (awake_any _).mono ?_
  rintro e w1 ⟨rfl, hb⟩
  have B1 := Lib.hid hb
  clear hb
  go_wp2_with (fail)
  refine (F1.out _).mono ?_
  rintro e w2 ⟨rfl, hb⟩
  have B2 := Lib.hid (B1.out.trans (hb.mono B1.out.size))
  clear hb
  go_wp2_with (fail)
  go_loopw [6] (fun j wr => ∃ k : Nat, k ≤ s.size ∧ j = .int .i64 k ∧ Hid (Below w.heap.size w wr)) (fun j _ => s.size - (intOf j).toNat)
  case atStart => exact ⟨0, by omega, rfl, B2⟩
  case round =>
    obtain ⟨k, hk, rfl, HB⟩ := hrel
    clear B2
    by_cases hlt : k < s.size
    · obtain ⟨p1, p2⟩ := HP.out k hlt
      have d1 : decide (((at' s k : Nat) : Int) < 32) = false := by simp; omega
      rcases p2 with p2 | p2
      · have d2 : decide ((127 : Int) ≤ ((at' s k : Nat) : Int)) = false := by simp; omega
        go_wp2
        go_roundw
        case rel => exact ⟨k + 1, by omega, by go_num, HB⟩
        case measure => simp [intOf]; omega
      · have d2 : decide ((127 : Int) ≤ ((at' s k : Nat) : Int)) = true := by simp; omega
        have d3 : decide (((at' s k : Nat) : Int) < 192) = false := by simp; omega
        go_wp2
        go_roundw
        case rel => exact ⟨k + 1, by omega, by go_num, HB⟩
        case measure => simp [intOf]; omega
    · rcases HS.out with ⟨h1, h2, h3, h4⟩ | ⟨h1, h2⟩
      · have h1' : ((s.size : Nat) : Int) = 1 := by omega
        have h2' : ((at' s 0 : Nat) : Int) = c := by omega
        have h3' : ((c : Int) != 92) = true := by rw [bne_iff_ne]; omega
        cases cl
        · clear h1 h2 h3 h4
          go_wp2

          go_ret
          exact ⟨rfl, HB.out⟩
        · have h4' : c ≠ 93 ∧ c ≠ 45 := by simpa using h4
          have h5 : ((c : Int) != 93) = true := by rw [bne_iff_ne]; omega
          have h6 : ((c : Int) != 45) = true := by rw [bne_iff_ne]; omega
          clear h1 h2 h3 h4 h4'
          go_wp2

          go_ret
          exact ⟨rfl, HB.out⟩
      · have h1' : ((s.size : Int) == 1) = false := by simp; omega
        have h2' : ((at' s 0 : Nat) : Int) = 92 := by omega
        clear h1 h2
        go_wp2

        go_ret
        exact ⟨rfl, HB.out⟩
end Go.Proofs.Ytdeidhehdhijgaa
