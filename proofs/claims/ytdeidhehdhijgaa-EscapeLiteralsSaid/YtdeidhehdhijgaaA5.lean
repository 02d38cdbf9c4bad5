import Derived.Test.YtdeidhehdhijgaaA4
import Derived.BigQuiet
import Derived.Deep.QuietTactic
import Derived.IntWalk
namespace Go.Proofs.Ytdeidhehdhijgaa
open Go.RowKit
theorem below_drewN {B : Nat} {a w : World} (h : Below B a w) (n : Nat) : Below B a (w.drewN n) := ⟨h.os, h.tape, h.output, h.size, h.block⟩
def refV : Option (Nat × Nat) → Value
  | none => .tuple #[.int .i64 0, .int .i64 (-1)]
  | some (c, n) => .tuple #[.int .i64 (c : Nat), .int .i64 (n : Nat)]
theorem octI_pos {s : ByteArray} {i : Nat} : 0 ≤ octI s i ↔ (48 ≤ at' s i ∧ at' s i ≤ 55) := by unfold octI; split <;> omega
theorem octI_val {s : ByteArray} {i : Nat} (h : 0 ≤ octI s i) : octI s i = (at' s i : Int) - 48 := by unfold octI at *; split at h <;> rename_i hc; rw [if_pos hc]; omega
theorem oct_in {s : ByteArray} {i : Nat} (h : 0 ≤ octI s i) : i < s.size := by
  rcases Nat.lt_or_ge i s.size with h1 | h1
  · exact h1
  · rw [octI_hi h1] at h; omega
theorem digB3 {s : ByteArray} {i : Nat} : digB s i 3 50 = true ↔ (0 ≤ octI s i ∧ octI s i ≤ 2 ∧ 0 ≤ octI s (i + 1) ∧ 0 ≤ octI s (i + 2)) := by
  simp only [digB, digTo, Bool.and_eq_true, decide_eq_true_eq, Nat.add_zero, true_and]
  constructor
  · rintro ⟨h, h1, h2, h3⟩
    have a := (octI_pos (s := s) (i := i)).2 (by omega)
    have b := (octI_pos (s := s) (i := i + 1)).2 (by omega)
    have c := (octI_pos (s := s) (i := i + 2)).2 (by omega)
    have := octI_val a
    omega
  · rintro ⟨h, h1, h2, h3⟩
    have e := octI_val h
    have a := octI_pos.1 h
    have b := octI_pos.1 h2
    have c := octI_pos.1 h3
    have := oct_in h3
    omega
theorem digB2 {s : ByteArray} {i : Nat} : digB s i 2 55 = true ↔ (0 ≤ octI s i ∧ 0 ≤ octI s (i + 1)) := by
  simp only [digB, digTo, Bool.and_eq_true, decide_eq_true_eq, Nat.add_zero, true_and]
  constructor
  · rintro ⟨h, h1, h2, h3⟩
    have a := (octI_pos (s := s) (i := i)).2 (by omega)
    have b := (octI_pos (s := s) (i := i + 1)).2 (by omega)
    omega
  · rintro ⟨h, h2⟩
    have a := octI_pos.1 h
    have b := octI_pos.1 h2
    have := oct_in h2
    omega
theorem digB1 {s : ByteArray} {i : Nat} : digB s i 1 55 = true ↔ 0 ≤ octI s i := by
  simp only [digB, digTo, Bool.and_eq_true, decide_eq_true_eq, Nat.add_zero, true_and]
  constructor
  · rintro ⟨h, h1, h2, h3⟩
    exact octI_pos.2 (by omega)
  · intro h
    have a := octI_pos.1 h
    have := oct_in h
    omega
theorem num3 {s : ByteArray} {j : Nat} (h : 0 ≤ octI s j ∧ octI s j ≤ 2 ∧ 0 ≤ octI s (j + 1) ∧ 0 ≤ octI s (j + 2)) : numK s j = 3 ∧ pre s j 3 = 64 * ((at' s j : Int) - 48) + 8 * ((at' s (j + 1) : Int) - 48) + ((at' s (j + 2) : Int) - 48) := by
  have e0 := octI_val h.1
  have e1 := octI_val h.2.2.1
  have e2 := octI_val h.2.2.2
  refine ⟨by unfold numK numE; rw [if_neg (by omega), if_neg (by omega), if_pos h], ?_⟩
  simp only [pre, Nat.add_zero, e0, e1, e2]; omega
theorem num2 {s : ByteArray} {j : Nat} (hn : ¬(0 ≤ octI s j ∧ octI s j ≤ 2 ∧ 0 ≤ octI s (j + 1) ∧ 0 ≤ octI s (j + 2))) (h : 0 ≤ octI s j ∧ 0 ≤ octI s (j + 1)) : numK s j = 2 ∧ pre s j 2 = 8 * ((at' s j : Int) - 48) + ((at' s (j + 1) : Int) - 48) := by
  have e0 := octI_val h.1
  have e1 := octI_val h.2
  refine ⟨by unfold numK numE; rw [if_neg (by omega), if_neg (by omega), if_neg hn], ?_⟩
  simp only [pre, Nat.add_zero, e0, e1]; omega
theorem num1 {s : ByteArray} {j : Nat} (hn : ¬(0 ≤ octI s j ∧ 0 ≤ octI s (j + 1))) (h : 0 ≤ octI s j) : numK s j = 1 ∧ pre s j 1 = (at' s j : Int) - 48 := by
  have e0 := octI_val h
  refine ⟨by unfold numK; rw [if_neg (by omega), if_pos (by omega)], ?_⟩
  simp only [pre, Nat.add_zero, e0]; omega
theorem num0 {s : ByteArray} {j : Nat} (h : ¬0 ≤ octI s j) : numK s j = 0 := by unfold numK; rw [if_pos (by omega)]
theorem in_esc (c : Nat) : inTo ⟨#[39, 34, 91, 93, 92]⟩ c 5 = (c == 39 || c == 34 || c == 91 || c == 93 || c == 92) := by
  have h0 : at' ⟨#[39, 34, 91, 93, 92]⟩ 0 = 39 := by decide +kernel
  have h1 : at' ⟨#[39, 34, 91, 93, 92]⟩ 1 = 34 := by decide +kernel
  have h2 : at' ⟨#[39, 34, 91, 93, 92]⟩ 2 = 91 := by decide +kernel
  have h3 : at' ⟨#[39, 34, 91, 93, 92]⟩ 3 = 93 := by decide +kernel
  have h4 : at' ⟨#[39, 34, 91, 93, 92]⟩ 4 = 92 := by decide +kernel
  simp only [inTo, h0, h1, h2, h3, h4, Bool.false_or]
  rw [Bool.eq_iff_iff]
  simp only [Bool.or_eq_true, beq_iff_eq]
  omega
theorem escIn (c : Nat) (w : World) :
    Calls Try.prog 18 #[.int .u8 c, .string ⟨#[39, 34, 91, 93, 92]⟩] w fun e w' => e = .returned (.bool (c == 39 || c == 34 || c == 91 || c == 93 || c == 92)) ∧ w' = w := by
  rw [← in_esc]
  exact in_any ⟨#[39, 34, 91, 93, 92]⟩ (by decide) c w
theorem readP_num {s : ByteArray} {i : Nat} (_ : i < s.size) (h1 : at' s i = 92) (h2 : i + 1 < s.size) (k1 : ¬at' s (i + 1) = 110) (k2 : ¬at' s (i + 1) = 114) (k3 : ¬at' s (i + 1) = 116)
    (k4 : ¬ (at' s (i + 1) = 39 ∨ at' s (i + 1) = 34 ∨ at' s (i + 1) = 91 ∨ at' s (i + 1) = 93 ∨ at' s (i + 1) = 92)) {k : Nat} (hk : numK s (i + 1) = k) (hk0 : k ≠ 0) :
    readP s i = some ((pre s (i + 1) k).toNat, i + 1 + k) := by
  subst hk
  rw [readP, if_neg (by omega), if_neg (by omega), if_neg (by omega), if_neg k1, if_neg k2, if_neg k3, if_neg k4, if_neg hk0]
theorem readP_none {s : ByteArray} {i : Nat} (_ : i < s.size) (h1 : at' s i = 92) (h2 : i + 1 < s.size) (k1 : ¬at' s (i + 1) = 110) (k2 : ¬at' s (i + 1) = 114) (k3 : ¬at' s (i + 1) = 116)
    (k4 : ¬ (at' s (i + 1) = 39 ∨ at' s (i + 1) = 34 ∨ at' s (i + 1) = 91 ∨ at' s (i + 1) = 93 ∨ at' s (i + 1) = 92)) (hk : numK s (i + 1) = 0) :
    readP s i = none := by
  rw [readP, if_neg (by omega), if_neg (by omega), if_neg (by omega), if_neg k1, if_neg k2, if_neg k3, if_neg k4, if_pos hk]
theorem refV_some {c n : Nat} {a b : Int} (h1 : a = c) (h2 : b = n) : Ending.returned (.tuple #[.int .i64 a, .int .i64 b]) = .returned (refV (some (c, n))) := by subst h1 h2; rfl
set_option maxRecDepth 20000 in
set_option maxHeartbeats 2000000 in
theorem refRead_any (s : ByteArray) (hs : s.size ≤ 140737488355328) (i : Nat) (w : World) :
    Calls Try.prog 10 #[.string s, .int .i64 i] w fun e w' => e = .returned (refV (readP s i)) ∧ Below w.heap.size w w' := by
  have hat : ∀ (i : Nat) (h : i < s.size), (s[i]).toNat = at' s i := fun i h => (at_lt h).symm
  have b0 := at_le s i
  have b1 := at_le s (i + 1)
  by_cases h0 : i < s.size
  · by_cases h1 : at' s i = 92
    · by_cases h2 : i + 1 < s.size
      · have E := Lib.hid (escIn (at' s (i + 1)))
        have D3 := Lib.hid (digits_any s hs (i + 1) 3 50 h2 (by omega) (by omega))
        have D2 := Lib.hid (digits_any s hs (i + 1) 2 55 h2 (by omega) (by omega))
        have D1 := Lib.hid (digits_any s hs (i + 1) 1 55 h2 (by omega) (by omega))
        go_enter Try.func10, Try.ntmps10
        by_cases k1 : at' s (i + 1) = 110
        · go_wp2
          go_ret2
          exact ⟨by rw [readP, if_neg (by omega), if_neg (by omega), if_neg (by omega), if_pos k1]; exact congrArg Ending.returned (congrArg Value.tuple (by rfl)), Below.refl _ _⟩
        by_cases k2 : at' s (i + 1) = 114
        · go_wp2
          go_ret2
          exact ⟨by rw [readP, if_neg (by omega), if_neg (by omega), if_neg (by omega), if_neg k1, if_pos k2]; exact congrArg Ending.returned (congrArg Value.tuple (by rfl)), Below.refl _ _⟩
        by_cases k3 : at' s (i + 1) = 116
        · go_wp2
          go_ret2
          exact ⟨by rw [readP, if_neg (by omega), if_neg (by omega), if_neg (by omega), if_neg k1, if_neg k2, if_pos k3]; exact congrArg Ending.returned (congrArg Value.tuple (by rfl)), Below.refl _ _⟩
        go_wp2_with (fail)
        refine (E.out _).mono ?_
        rintro e w' ⟨rfl, rfl⟩
        have hk : (at' s (i + 1) == 39 || at' s (i + 1) == 34 || at' s (i + 1) == 91 || at' s (i + 1) == 93 || at' s (i + 1) == 92) = true ↔ (at' s (i + 1) = 39 ∨ at' s (i + 1) = 34 ∨ at' s (i + 1) = 91 ∨ at' s (i + 1) = 93 ∨ at' s (i + 1) = 92) := by
          simp only [Bool.or_eq_true, beq_iff_eq]; omega
        generalize (at' s (i + 1) == 39 || at' s (i + 1) == 34 || at' s (i + 1) == 91 || at' s (i + 1) == 93 || at' s (i + 1) == 92) = b at *
        cases b
        · have k4 : ¬ (at' s (i + 1) = 39 ∨ at' s (i + 1) = 34 ∨ at' s (i + 1) = 91 ∨ at' s (i + 1) = 93 ∨ at' s (i + 1) = 92) := fun h => by have := hk.2 h; cases this
          have K4 := Lib.hid k4
          clear k4 hk
          go_wp2_with (fail)
          refine (D3.out _).mono ?_
          rintro e w1 ⟨rfl, rfl⟩
          have d3 := digB3 (s := s) (i := i + 1)
          have d2 := digB2 (s := s) (i := i + 1)
          have d1 := digB1 (s := s) (i := i + 1)
          generalize digB s (i + 1) 3 50 = x3 at *
          generalize digB s (i + 1) 2 55 = x2 at *
          generalize digB s (i + 1) 1 55 = x1 at *
          have DD3 := Lib.hid d3
          have DD2 := Lib.hid d2
          have DD1 := Lib.hid d1
          clear d1 d2 d3
          cases x3
          · go_wp2_with (fail)
            refine (D2.out _).mono ?_
            rintro e w2 ⟨rfl, rfl⟩
            cases x2
            · go_wp2_with (fail)
              refine (D1.out _).mono ?_
              rintro e w3 ⟨rfl, rfl⟩
              cases x1
              · have HN := Lib.hid (readP_none h0 h1 h2 k1 k2 k3 K4.out (num0 (fun h => by cases DD1.out.2 h)))
                go_wp2
                go_ret2
                exact ⟨by rw [HN.out]; rfl, Below.refl _ _⟩
              · have q0 := DD1.out.1 rfl
                have ⟨q3, q4⟩ := num1 (s := s) (j := i + 1) (fun h => by cases DD2.out.2 h) q0
                have HN := Lib.hid (readP_num h0 h1 h2 k1 k2 k3 K4.out q3 (by omega))
                have H4 := Lib.hid q4
                obtain ⟨r0, r1⟩ := octI_pos.1 q0
                clear q0 q3 q4
                go_wp2
                go_ret2
                exact ⟨by rw [HN.out]; exact refV_some (by rw [H4.out]; omega) (by omega), Below.refl _ _⟩
            · have q0 := DD2.out.1 rfl
              have ⟨q3, q4⟩ := num2 (s := s) (j := i + 1) (fun h => by cases DD3.out.2 h) q0
              have HN := Lib.hid (readP_num h0 h1 h2 k1 k2 k3 K4.out q3 (by omega))
              have H4 : Hid (pre s (i + 1) 2 = 8 * ((at' s (i + 1) : Int) - 48) + ((at' s (i + 2) : Int) - 48)) := q4
              obtain ⟨r0, r1⟩ := octI_pos.1 q0.1
              obtain ⟨r2, r3⟩ : 48 ≤ at' s (i + 2) ∧ at' s (i + 2) ≤ 55 := octI_pos.1 q0.2
              have hi := oct_in q0.2
              clear q0 q3 q4
              go_wp2
              go_ret2
              exact ⟨by rw [HN.out]; exact refV_some (by rw [H4.out]; omega) (by omega), Below.refl _ _⟩
          · have q0 := DD3.out.1 rfl
            have ⟨q3, q4⟩ := num3 (s := s) (j := i + 1) q0
            have HN := Lib.hid (readP_num h0 h1 h2 k1 k2 k3 K4.out q3 (by omega))
            have H4 : Hid (pre s (i + 1) 3 = 64 * ((at' s (i + 1) : Int) - 48) + 8 * ((at' s (i + 2) : Int) - 48) + ((at' s (i + 3) : Int) - 48)) := q4
            obtain ⟨r0, r1⟩ := octI_pos.1 q0.1
            obtain ⟨r2, r3⟩ : 48 ≤ at' s (i + 2) ∧ at' s (i + 2) ≤ 55 := octI_pos.1 q0.2.2.1
            obtain ⟨r4, r5⟩ : 48 ≤ at' s (i + 3) ∧ at' s (i + 3) ≤ 55 := octI_pos.1 q0.2.2.2
            have r6 : at' s (i + 1) ≤ 50 := by have := octI_val q0.1; have := q0.2.1; omega
            have hi := oct_in q0.2.2.2
            clear q0 q3 q4
            go_wp2
            have s2 : IntKind.i64.wrap ((i : Int) + 2) = i + 2 := IntWalk.i64_in _ (by omega)
            have s3 : IntKind.i64.wrap ((i : Int) + 3) = i + 3 := IntWalk.i64_in _ (by omega)
            have s4 : 0 ≤ (i : Int) + 2 := by omega
            have s5 : 0 ≤ (i : Int) + 3 := by omega
            have s6 : ((i : Int) + 2).toNat = i + 2 := by omega
            have s7 : ((i : Int) + 3).toNat = i + 3 := by omega
            go_quiet (fail)
            clear s2 s3 s4 s5 s6 s7
            go_wp2
            go_ret2
            exact ⟨by rw [HN.out]; exact refV_some (by rw [H4.out]; omega) (by omega), below_drewN (Below.refl _ _) _⟩
        · have k4 := hk.1 rfl
          have K4 := Lib.hid k4
          clear k4 hk
          go_wp2
          go_ret2
          exact ⟨by rw [readP, if_neg (by omega), if_neg (by omega), if_neg (by omega), if_neg k1, if_neg k2, if_neg k3, if_pos K4.out]; exact congrArg Ending.returned (congrArg Value.tuple (by rfl)), Below.refl _ _⟩
      · go_enter Try.func10, Try.ntmps10
        go_wp2
        go_ret2
        exact ⟨by rw [readP, if_neg (by omega), if_neg (by omega), if_pos (by omega)]; rfl, Below.refl _ _⟩
    · go_enter Try.func10, Try.ntmps10
      go_wp2
      go_ret2
      exact ⟨by rw [readP, if_neg (by omega), if_pos h1]; rfl, Below.refl _ _⟩
  · go_enter Try.func10, Try.ntmps10
    go_wp2
    go_ret2
    exact ⟨by rw [readP, if_pos (by omega)]; rfl, Below.refl _ _⟩
theorem read_neg (s : ByteArray) (x : Int) (hx : x < 0) (w : World) :
    Calls Try.prog 9 #[.string s, .int .i64 x] w fun e w' => e = .returned (readV none) ∧ w' = w := by
  go_enter Try.func9, Try.ntmps9
  go_wp2
  go_ret3
  exact ⟨rfl, rfl⟩
theorem refRead_neg (s : ByteArray) (x : Int) (hx : x < 0) (w : World) :
    Calls Try.prog 10 #[.string s, .int .i64 x] w fun e w' => e = .returned (refV none) ∧ Below w.heap.size w w' := by
  go_enter Try.func10, Try.ntmps10
  go_wp2
  go_ret2
  exact ⟨rfl, Below.refl _ _⟩
/-- the character at any index. -/
def readZ (s : ByteArray) (x : Int) : Option (Nat × Nat) := if x < 0 then none else readP s x.toNat
theorem readZ_any (s : ByteArray) (hs : s.size ≤ 140737488355328) (x : Int) (w : World) :
    Calls Try.prog 9 #[.string s, .int .i64 x] w fun e w' => e = .returned (readV (readZ s x)) ∧ w' = w := by
  unfold readZ; split
  · exact read_neg s x ‹_› w
  · obtain ⟨n, rfl⟩ := Int.eq_ofNat_of_zero_le (show 0 ≤ x by omega)
    exact read_any s hs n w
theorem refReadZ_any (s : ByteArray) (hs : s.size ≤ 140737488355328) (x : Int) (w : World) :
    Calls Try.prog 10 #[.string s, .int .i64 x] w fun e w' => e = .returned (refV (readZ s x)) ∧ Below w.heap.size w w' := by
  unfold readZ; split
  · exact refRead_neg s x ‹_› w
  · obtain ⟨n, rfl⟩ := Int.eq_ofNat_of_zero_le (show 0 ≤ x by omega)
    exact refRead_any s hs n w
end Go.Proofs.Ytdeidhehdhijgaa
