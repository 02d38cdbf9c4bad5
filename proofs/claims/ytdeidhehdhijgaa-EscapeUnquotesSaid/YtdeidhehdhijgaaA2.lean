import Derived.Test.YtdeidhehdhijgaaA1
import Derived.WalkMore
import Derived.Tactics
namespace Go.Proofs.Ytdeidhehdhijgaa
open Go.RowKit
/-- the value of the first k digits. -/
def pre (s : ByteArray) (i : Nat) : Nat → Int
  | 0 => 0
  | k + 1 => 8 * pre s i k + octI s (i + k)
/-- how many digits may be read. -/
def numE (s : ByteArray) (i : Nat) : Nat := if 0 ≤ octI s i ∧ octI s i ≤ 2 ∧ 0 ≤ octI s (i + 1) ∧ 0 ≤ octI s (i + 2) then 3 else 2
/-- how many digits are read. -/
def numK (s : ByteArray) (i : Nat) : Nat := if octI s i < 0 then 0 else if octI s (i + 1) < 0 then 1 else numE s i
theorem pre_range (s : ByteArray) (i : Nat) : ∀ k, k ≤ 3 → (∀ j, j < k → 0 ≤ octI s (i + j)) → 0 ≤ pre s i k ∧ pre s i k < 8 ^ k := by
  intro k hk h
  have b0 := octI_range s (i + 0)
  have b1 := octI_range s (i + 1)
  have b2 := octI_range s (i + 2)
  match k with
  | 0 => simp [pre]
  | 1 => have := h 0 (by omega); simp only [pre]; omega
  | 2 => have := h 0 (by omega); have := h 1 (by omega); simp only [pre]; omega
  | 3 => have := h 0 (by omega); have := h 1 (by omega); have := h 2 (by omega); simp only [pre]; omega
theorem numK_stop {s : ByteArray} {i k : Nat} (hk : k ≤ numE s i) (h : ∀ j, j < k → 0 ≤ octI s (i + j)) (hs : k = numE s i ∨ octI s (i + k) < 0) : numK s i = k := by
  unfold numK
  unfold numE at *
  rcases hs with hs | hs
  · split at hs
    · subst hs
      have h0 := h 0 (by omega)
      have h1 := h 1 (by omega)
      rw [Nat.add_zero] at h0
      rw [if_neg (by omega), if_neg (by omega)]
      rw [if_pos (by assumption)]
    · subst hs
      have h0 := h 0 (by omega)
      have h1 := h 1 (by omega)
      rw [Nat.add_zero] at h0
      rw [if_neg (by omega), if_neg (by omega)]
      rw [if_neg (by assumption)]
  · have hk3 : k ≤ 3 := by split at hk <;> omega
    match k, hk3 with
    | 0, _ => rw [Nat.add_zero] at hs; rw [if_pos hs]
    | 1, _ =>
      have h0 := h 0 (by omega)
      rw [Nat.add_zero] at h0
      rw [if_neg (by omega), if_pos hs]
    | 2, _ =>
      have h0 := h 0 (by omega)
      have h1 := h 1 (by omega)
      rw [Nat.add_zero] at h0
      rw [if_neg (by omega), if_neg (by omega), if_neg (by omega)]
    | 3, _ =>
      have h0 := h 0 (by omega)
      have h1 := h 1 (by omega)
      rw [Nat.add_zero] at h0
      rw [if_neg (by omega), if_neg (by omega)]
      split at hk
      · rename_i hc; rw [if_pos hc]
      · omega
set_option maxHeartbeats 800000 in
theorem number_any (s : ByteArray) (i : Nat) (hi : i ≤ 281474976710656) (w : World) :
    Calls Try.prog 17 #[.string s, .int .i64 i] w fun e w' => e = .returned (.tuple #[.int .i64 (pre s i (numK s i)), .int .i64 ((i + numK s i : Nat) : Int)]) ∧ w' = w := by
  have O := Lib.hid (octal_any s)
  have r0 := octI_range s i
  have r1 := octI_range s (i + 1)
  have r2 := octI_range s (i + 2)
  have hstop := Lib.hid (fun k => numK_stop (s := s) (i := i) (k := k))
  have hpre := Lib.hid (pre_range s i)
  have hE : Hid (numE s i = if 0 ≤ octI s i ∧ octI s i ≤ 2 ∧ 0 ≤ octI s (i + 1) ∧ 0 ≤ octI s (i + 2) then 3 else 2) := rfl
  go_enter Try.func17, Try.ntmps17
  go_wp2_with (fail)
  go_step3
  go_wp2_with (fail)
  refine (O.out i w).mono ?_
  rintro e w' ⟨rfl, rfl⟩
  by_cases c0 : 0 ≤ octI s i
  · by_cases c1 : octI s i ≤ 2
    · go_wp2_with (fail)
      refine (O.out (i + 1) w').mono ?_
      rintro e w'' ⟨rfl, rfl⟩
      by_cases c2 : 0 ≤ octI s (i + 1)
      · go_wp2_with (fail)
        refine (O.out (i + 2) w'').mono ?_
        rintro e w' ⟨rfl, rfl⟩
        by_cases c3 : 0 ≤ octI s (i + 2)
        · have hN : numE s i = 3 := by rw [hE.out, if_pos ⟨c0, c1, c2, c3⟩]
          go_wp2_with (fail)
          go_step3
          go_wp2_with (fail)
          go_loopw [1, 6, 9] (fun j n _ wr => ∃ k : Nat, k ≤ 3 ∧ j = .int .i64 ((i + k : Nat) : Int) ∧ n = .int .i64 (pre s i k) ∧ Hid (∀ j, j < k → 0 ≤ octI s (i + j)) ∧ wr = w') (fun j _ _ _ => i + 3 - (intOf j).toNat)
          case atStart => exact ⟨0, by omega, rfl, rfl, fun j hj => by omega, rfl⟩
          case round =>
            obtain ⟨k, hk, rfl, rfl, hd, rfl⟩ := hrel
            have hp := hpre.out k (by omega) hd.out
            have h8 : (8 : Int) ^ k ≤ 512 := by
              have : k = 0 ∨ k = 1 ∨ k = 2 ∨ k = 3 := by omega
              rcases this with rfl | rfl | rfl | rfl <;> decide
            have hr := octI_range s (i + k)
            have hpl : pre s i k < 512 := by omega
            have hp0 := hp.1
            clear hp h8
            by_cases hlt : k < 3
            · go_wp2_with (fail)
              refine (O.out (i + k) _).mono ?_
              rintro e w3 ⟨rfl, rfl⟩
              by_cases hneg : octI s (i + k) < 0
              · have hK := hstop.out k (by rw [hN]; omega) hd.out (.inr hneg)
                go_wp2_with (fail)
                (try simp only [Exit.inBlock, Exit.then]); (try rw [Exit.noGoto_ret]); go_ret2
                rw [hK]
                exact ⟨rfl, rfl⟩
              · go_wp2_with (fail)
                go_roundw
                case rel => exact ⟨k + 1, by omega, by go_num, rfl, fun j hj => by by_cases e : j = k; exact e ▸ (by omega); exact hd.out j (by omega), trivial⟩
                case measure => simp [intOf]; omega
            · obtain rfl : k = 3 := by omega
              have hK := hstop.out 3 (by rw [hN]; exact Nat.le_refl _) hd.out (.inl hN.symm)
              go_wp2_with (fail)
              (try simp only [Exit.inBlock, Exit.then]); (try rw [Exit.noGoto_ret]); go_ret2
              rw [hK]
              exact ⟨rfl, rfl⟩
        · have hN : numE s i = 2 := by rw [hE.out, if_neg (by omega)]
          go_wp2_with (fail)
          go_step3
          go_wp2_with (fail)
          go_loopw [1, 6, 9] (fun j n _ wr => ∃ k : Nat, k ≤ 2 ∧ j = .int .i64 ((i + k : Nat) : Int) ∧ n = .int .i64 (pre s i k) ∧ Hid (∀ j, j < k → 0 ≤ octI s (i + j)) ∧ wr = w') (fun j _ _ _ => i + 2 - (intOf j).toNat)
          case atStart => exact ⟨0, by omega, rfl, rfl, fun j hj => by omega, rfl⟩
          case round =>
            obtain ⟨k, hk, rfl, rfl, hd, rfl⟩ := hrel
            have hp := hpre.out k (by omega) hd.out
            have h8 : (8 : Int) ^ k ≤ 512 := by
              have : k = 0 ∨ k = 1 ∨ k = 2 ∨ k = 3 := by omega
              rcases this with rfl | rfl | rfl | rfl <;> decide
            have hr := octI_range s (i + k)
            have hpl : pre s i k < 512 := by omega
            have hp0 := hp.1
            clear hp h8
            by_cases hlt : k < 2
            · go_wp2_with (fail)
              refine (O.out (i + k) _).mono ?_
              rintro e w3 ⟨rfl, rfl⟩
              by_cases hneg : octI s (i + k) < 0
              · have hK := hstop.out k (by rw [hN]; omega) hd.out (.inr hneg)
                go_wp2_with (fail)
                (try simp only [Exit.inBlock, Exit.then]); (try rw [Exit.noGoto_ret]); go_ret2
                rw [hK]
                exact ⟨rfl, rfl⟩
              · go_wp2_with (fail)
                go_roundw
                case rel => exact ⟨k + 1, by omega, by go_num, rfl, fun j hj => by by_cases e : j = k; exact e ▸ (by omega); exact hd.out j (by omega), trivial⟩
                case measure => simp [intOf]; omega
            · obtain rfl : k = 2 := by omega
              have hK := hstop.out 2 (by rw [hN]; exact Nat.le_refl _) hd.out (.inl hN.symm)
              go_wp2_with (fail)
              (try simp only [Exit.inBlock, Exit.then]); (try rw [Exit.noGoto_ret]); go_ret2
              rw [hK]
              exact ⟨rfl, rfl⟩
      · have hN : numE s i = 2 := by rw [hE.out, if_neg (by omega)]
        go_wp2_with (fail)
        go_step3
        go_wp2_with (fail)
        go_loopw [1, 6, 9] (fun j n _ wr => ∃ k : Nat, k ≤ 2 ∧ j = .int .i64 ((i + k : Nat) : Int) ∧ n = .int .i64 (pre s i k) ∧ Hid (∀ j, j < k → 0 ≤ octI s (i + j)) ∧ wr = w'') (fun j _ _ _ => i + 2 - (intOf j).toNat)
        case atStart => exact ⟨0, by omega, rfl, rfl, fun j hj => by omega, rfl⟩
        case round =>
          obtain ⟨k, hk, rfl, rfl, hd, rfl⟩ := hrel
          have hp := hpre.out k (by omega) hd.out
          have h8 : (8 : Int) ^ k ≤ 512 := by
            have : k = 0 ∨ k = 1 ∨ k = 2 ∨ k = 3 := by omega
            rcases this with rfl | rfl | rfl | rfl <;> decide
          have hr := octI_range s (i + k)
          have hpl : pre s i k < 512 := by omega
          have hp0 := hp.1
          clear hp h8
          by_cases hlt : k < 2
          · go_wp2_with (fail)
            refine (O.out (i + k) _).mono ?_
            rintro e w3 ⟨rfl, rfl⟩
            by_cases hneg : octI s (i + k) < 0
            · have hK := hstop.out k (by rw [hN]; omega) hd.out (.inr hneg)
              go_wp2_with (fail)
              (try simp only [Exit.inBlock, Exit.then]); (try rw [Exit.noGoto_ret]); go_ret2
              rw [hK]
              exact ⟨rfl, rfl⟩
            · go_wp2_with (fail)
              go_roundw
              case rel => exact ⟨k + 1, by omega, by go_num, rfl, fun j hj => by by_cases e : j = k; exact e ▸ (by omega); exact hd.out j (by omega), trivial⟩
              case measure => simp [intOf]; omega
          · obtain rfl : k = 2 := by omega
            have hK := hstop.out 2 (by rw [hN]; exact Nat.le_refl _) hd.out (.inl hN.symm)
            go_wp2_with (fail)
            (try simp only [Exit.inBlock, Exit.then]); (try rw [Exit.noGoto_ret]); go_ret2
            rw [hK]
            exact ⟨rfl, rfl⟩
    · have hN : numE s i = 2 := by rw [hE.out, if_neg (by omega)]
      go_wp2_with (fail)
      go_step3
      go_wp2_with (fail)
      go_loopw [1, 6, 9] (fun j n _ wr => ∃ k : Nat, k ≤ 2 ∧ j = .int .i64 ((i + k : Nat) : Int) ∧ n = .int .i64 (pre s i k) ∧ Hid (∀ j, j < k → 0 ≤ octI s (i + j)) ∧ wr = w') (fun j _ _ _ => i + 2 - (intOf j).toNat)
      case atStart => exact ⟨0, by omega, rfl, rfl, fun j hj => by omega, rfl⟩
      case round =>
        obtain ⟨k, hk, rfl, rfl, hd, rfl⟩ := hrel
        have hp := hpre.out k (by omega) hd.out
        have h8 : (8 : Int) ^ k ≤ 512 := by
          have : k = 0 ∨ k = 1 ∨ k = 2 ∨ k = 3 := by omega
          rcases this with rfl | rfl | rfl | rfl <;> decide
        have hr := octI_range s (i + k)
        have hpl : pre s i k < 512 := by omega
        have hp0 := hp.1
        clear hp h8
        by_cases hlt : k < 2
        · go_wp2_with (fail)
          refine (O.out (i + k) _).mono ?_
          rintro e w3 ⟨rfl, rfl⟩
          by_cases hneg : octI s (i + k) < 0
          · have hK := hstop.out k (by rw [hN]; omega) hd.out (.inr hneg)
            go_wp2_with (fail)
            (try simp only [Exit.inBlock, Exit.then]); (try rw [Exit.noGoto_ret]); go_ret2
            rw [hK]
            exact ⟨rfl, rfl⟩
          · go_wp2_with (fail)
            go_roundw
            case rel => exact ⟨k + 1, by omega, by go_num, rfl, fun j hj => by by_cases e : j = k; exact e ▸ (by omega); exact hd.out j (by omega), trivial⟩
            case measure => simp [intOf]; omega
        · obtain rfl : k = 2 := by omega
          have hK := hstop.out 2 (by rw [hN]; exact Nat.le_refl _) hd.out (.inl hN.symm)
          go_wp2_with (fail)
          (try simp only [Exit.inBlock, Exit.then]); (try rw [Exit.noGoto_ret]); go_ret2
          rw [hK]
          exact ⟨rfl, rfl⟩
  · have hN : numE s i = 2 := by rw [hE.out, if_neg (by omega)]
    go_wp2_with (fail)
    go_step3
    go_wp2_with (fail)
    go_loopw [1, 6, 9] (fun j n _ wr => ∃ k : Nat, k ≤ 2 ∧ j = .int .i64 ((i + k : Nat) : Int) ∧ n = .int .i64 (pre s i k) ∧ Hid (∀ j, j < k → 0 ≤ octI s (i + j)) ∧ wr = w') (fun j _ _ _ => i + 2 - (intOf j).toNat)
    case atStart => exact ⟨0, by omega, rfl, rfl, fun j hj => by omega, rfl⟩
    case round =>
      obtain ⟨k, hk, rfl, rfl, hd, rfl⟩ := hrel
      have hp := hpre.out k (by omega) hd.out
      have h8 : (8 : Int) ^ k ≤ 512 := by
        have : k = 0 ∨ k = 1 ∨ k = 2 ∨ k = 3 := by omega
        rcases this with rfl | rfl | rfl | rfl <;> decide
      have hr := octI_range s (i + k)
      have hpl : pre s i k < 512 := by omega
      have hp0 := hp.1
      clear hp h8
      by_cases hlt : k < 2
      · go_wp2_with (fail)
        refine (O.out (i + k) _).mono ?_
        rintro e w3 ⟨rfl, rfl⟩
        by_cases hneg : octI s (i + k) < 0
        · have hK := hstop.out k (by rw [hN]; omega) hd.out (.inr hneg)
          go_wp2_with (fail)
          (try simp only [Exit.inBlock, Exit.then]); (try rw [Exit.noGoto_ret]); go_ret2
          rw [hK]
          exact ⟨rfl, rfl⟩
        · go_wp2_with (fail)
          go_roundw
          case rel => exact ⟨k + 1, by omega, by go_num, rfl, fun j hj => by by_cases e : j = k; exact e ▸ (by omega); exact hd.out j (by omega), trivial⟩
          case measure => simp [intOf]; omega
      · obtain rfl : k = 2 := by omega
        have hK := hstop.out 2 (by rw [hN]; exact Nat.le_refl _) hd.out (.inl hN.symm)
        go_wp2_with (fail)
        (try simp only [Exit.inBlock, Exit.then]); (try rw [Exit.noGoto_ret]); go_ret2
        rw [hK]
        exact ⟨rfl, rfl⟩
end Go.Proofs.Ytdeidhehdhijgaa
