import Derived.Test.YtdeidhehdhijgaaA5
import Derived.Outline
import Derived.Laws.BytesArg
namespace Go.Proofs.Ytdeidhehdhijgaa
open Go.RowKit
def spc (c : Nat) (cl : Bool) : Bool := decide (c = 92 ∨ (cl = false ∧ c = 39) ∨ (cl = true ∧ (c = 91 ∨ c = 93)))
def octB (c : Nat) (cl : Bool) : Bool := decide (c < 32 ∨ (127 ≤ c ∧ c ≤ 191) ∨ (cl = true ∧ c = 45))
/-- the form of a byte. -/
def formN (c : Nat) (cl : Bool) : List Nat :=
  if c = 10 then [92, 110] else if c = 13 then [92, 114] else if c = 9 then [92, 116]
  else if spc c cl = true then [92, c] else if octB c cl = true then [92, 48 + c / 64, 48 + c / 8 % 8, 48 + c % 8] else [c]
theorem formN_spc {c : Nat} {cl : Bool} (h : ¬(c = 10 ∨ c = 13 ∨ c = 9)) (hs : spc c cl = true) : formN c cl = [92, c] := by
  unfold formN; rw [if_neg (by omega), if_neg (by omega), if_neg (by omega), if_pos hs]
theorem formN_oct {c : Nat} {cl : Bool} (h : ¬(c = 10 ∨ c = 13 ∨ c = 9)) (hs : spc c cl = false) (ho : octB c cl = true) : formN c cl = [92, 48 + c / 64, 48 + c / 8 % 8, 48 + c % 8] := by
  unfold formN; rw [if_neg (by omega), if_neg (by omega), if_neg (by omega), if_neg (by rw [hs]; decide), if_pos ho]
theorem formN_one {c : Nat} {cl : Bool} (h : ¬(c = 10 ∨ c = 13 ∨ c = 9)) (hs : spc c cl = false) (ho : octB c cl = false) : formN c cl = [c] := by
  unfold formN; rw [if_neg (by omega), if_neg (by omega), if_neg (by omega), if_neg (by rw [hs]; decide), if_neg (by rw [ho]; decide)]
theorem octB_lo {c : Nat} {cl : Bool} (h : c < 32) : octB c cl = true := by simp only [octB, decide_eq_true_eq]; omega
theorem octB_mid {c : Nat} {cl : Bool} (h : 127 ≤ c) (h' : c < 192) : octB c cl = true := by simp only [octB, decide_eq_true_eq]; omega
theorem octB_no {c : Nat} {cl : Bool} (h : 32 ≤ c) (h' : ¬(127 ≤ c ∧ c < 192)) (h3 : cl = false ∨ c ≠ 45) : octB c cl = false := by
  simp only [octB, decide_eq_false_iff_not]; cases cl <;> simp <;> (try simp at h3) <;> omega
def bytesN (l : List Nat) : ByteArray := ⟨(l.map Nat.toUInt8).toArray⟩
theorem ix_ctl : ∀ c, c < 256 → Lib.indexByte [10, 13, 9] c.toUInt8 = if c = 10 then 0 else if c = 13 then 1 else if c = 9 then 2 else -1 := by decide +kernel
theorem ix_cls : ∀ c, c < 256 → Lib.indexByte [92, 91, 93] c.toUInt8 = if c = 92 then 0 else if c = 91 then 1 else if c = 93 then 2 else -1 := by decide +kernel
theorem ctl_any (c : Nat) (hc : c < 256) (w : World) :
    Calls Try.prog 20 #[.string ⟨#[10, 13, 9]⟩, .int .u8 c] w fun e w' => e = .returned (.int .i64 (if c = 10 then 0 else if c = 13 then 1 else if c = 9 then 2 else -1)) ∧ w' = w := by
  rw [← ix_ctl c hc]; exact indexByte_any ⟨#[10, 13, 9]⟩ c w
theorem cls_any (c : Nat) (hc : c < 256) (w : World) :
    Calls Try.prog 20 #[.string ⟨#[92, 91, 93]⟩, .int .u8 c] w fun e w' => e = .returned (.int .i64 (if c = 92 then 0 else if c = 91 then 1 else if c = 93 then 2 else -1)) ∧ w' = w := by
  rw [← ix_cls c hc]; exact indexByte_any ⟨#[92, 91, 93]⟩ c w
theorem ret_bool {a b : Bool} (h : a = b) : Ending.returned (.bool a) = .returned (.bool b) := by rw [h]
set_option maxRecDepth 20000 in
theorem special_any (c : Nat) (hc : c < 256) (cl : Bool) (w : World) :
    Calls Try.prog 21 #[.int .u8 c, .bool cl] w fun e w' => e = .returned (.bool (spc c cl)) ∧ w' = w := by
  have E := Lib.hid (cls_any c hc)
  cases cl
  · go_enter Try.func21, Try.ntmps21
    go_wp2
    all_goals go_ret
    · have h9 : c = 92 := by omega
      exact ⟨ret_bool (by subst h9; rfl), rfl⟩
    · refine ⟨ret_bool ?_, rfl⟩
      rw [Bool.eq_iff_iff]
      simp only [spc, Bool.or_eq_true, beq_iff_eq, decide_eq_true_eq, true_and, reduceCtorEq, false_and, or_false]
      omega
  · go_enter Try.func21, Try.ntmps21
    go_wp2_with (fail)
    refine (E.out _).mono ?_
    rintro e w' ⟨rfl, rfl⟩
    have hk : spc c true = decide (0 ≤ (if c = 92 then (0 : Int) else if c = 91 then 1 else if c = 93 then 2 else -1)) := by
      rw [Bool.eq_iff_iff]
      simp only [spc, decide_eq_true_eq, true_and, reduceCtorEq, false_and, false_or]
      split
      · simp [*]
      · split
        · simp [*]
        · split <;> simp [*]
    have HK := Lib.hid hk
    clear hk
    generalize (if c = 92 then (0 : Int) else if c = 91 then 1 else if c = 93 then 2 else -1) = z at *
    go_wp2
    go_ret
    exact ⟨ret_bool HK.out.symm, rfl⟩
theorem conv_new (l : List Int) (n : Nat) (C : Array Value) (hn : l.length = n) (hC : C = (l.map (Value.int .u8)).toArray) (w : World) :
    (convert 30 9 (.slice (some ⟨w.heap.size, 0, none⟩) n n)).run Try.prog (w.alloc (.cells C 5)) = .ok (.string (strOfNums l)) (w.alloc (.cells C 5)) := by
  refine run_convert_bytes_arg (P := Try.prog) _ 30 5 Try.underlying30 Try.underlying5 _ 0 n n l hn ?_ 9 Try.underlying9
  intro i hi
  subst hn hC
  rw [Nat.zero_add, World.cell?_alloc_mark]
  simp [List.getD, List.getElem?_eq_getElem hi]
theorem conv1 (w : World) (a : Int) : (convert 30 9 (.slice (some ⟨w.heap.size, 0, none⟩) 1 1)).run Try.prog (w.alloc (.cells #[.int .u8 a] 5)) = .ok (.string (strOfNums [a])) (w.alloc (.cells #[.int .u8 a] 5)) := conv_new [a] 1 _ rfl rfl w
theorem conv2 (w : World) (a b : Int) : (convert 30 9 (.slice (some ⟨w.heap.size, 0, none⟩) 2 2)).run Try.prog (w.alloc (.cells #[.int .u8 a, .int .u8 b] 5)) = .ok (.string (strOfNums [a, b])) (w.alloc (.cells #[.int .u8 a, .int .u8 b] 5)) := conv_new [a, b] 2 _ rfl rfl w
theorem conv4 (w : World) (X : Obj) (a b c d : Int) : (convert 30 9 (.slice (some ⟨w.heap.size + 1, 0, none⟩) 4 4)).run Try.prog ((w.alloc X).alloc (.cells #[.int .u8 a, .int .u8 b, .int .u8 c, .int .u8 d] 5)) = .ok (.string (strOfNums [a, b, c, d])) ((w.alloc X).alloc (.cells #[.int .u8 a, .int .u8 b, .int .u8 c, .int .u8 d] 5)) := by
  have h := conv_new [a, b, c, d] 4 _ rfl rfl (w.alloc X)
  rwa [show (w.alloc X).heap.size = w.heap.size + 1 from by simp] at h
theorem ret_str {a b : ByteArray} (h : a = b) : Ending.returned (.string a) = .returned (.string b) := by rw [h]
theorem indexN {c : Nat} {z : Int} (hc : c < 256) (h : (if c = 10 then (0 : Int) else if c = 13 then 1 else if c = 9 then 2 else -1) = z) (w : World) :
    Calls Try.prog 20 #[.string ⟨#[10, 13, 9]⟩, .int .u8 c] w fun e w' => e = .returned (.int .i64 z) ∧ w' = w := by
  rw [← h]; exact ctl_any c hc w
set_option maxRecDepth 20000 in
theorem form_ctl (c : Nat) (hc : c = 10 ∨ c = 13 ∨ c = 9) (cl : Bool) (w : World) :
    Calls Try.prog 11 #[.int .u8 c, .bool cl] w fun e w' => e = .returned (.string (bytesN (formN c cl))) ∧ Below w.heap.size w w' := by
  rcases hc with rfl | rfl | rfl
  · have E := Lib.hid (indexN (c := 10) (z := 0) (by decide) rfl)
    go_enter Try.func11, Try.ntmps11
    go_wp2_with (fail)
    refine (E.out _).mono ?_
    rintro e w' ⟨rfl, rfl⟩
    go_wp2
    go_ret
    exact ⟨rfl, Below.refl _ _⟩
  · have E := Lib.hid (indexN (c := 13) (z := 1) (by decide) rfl)
    go_enter Try.func11, Try.ntmps11
    go_wp2_with (fail)
    refine (E.out _).mono ?_
    rintro e w' ⟨rfl, rfl⟩
    go_wp2
    go_ret
    exact ⟨rfl, Below.refl _ _⟩
  · have E := Lib.hid (indexN (c := 9) (z := 2) (by decide) rfl)
    go_enter Try.func11, Try.ntmps11
    go_wp2_with (fail)
    refine (E.out _).mono ?_
    rintro e w' ⟨rfl, rfl⟩
    go_wp2
    go_ret
    exact ⟨rfl, Below.refl _ _⟩
set_option maxRecDepth 20000 in
theorem form_spc (c : Nat) (hc : c < 256) (h1 : ¬(c = 10 ∨ c = 13 ∨ c = 9)) (cl : Bool) (w : World) :
    Calls Try.prog 11 #[.int .u8 c, .bool cl] w fun e w' => e = .returned (.string (bytesN (formN c cl))) ∧ Below w.heap.size w w' := by
  have E := Lib.hid (indexN (c := c) (z := -1) hc (by rw [if_neg (by omega), if_neg (by omega), if_neg (by omega)]))
  have S := Lib.hid (special_any c hc cl)
  have C1 := fun w a => conv1 w a
  have C4 := fun w X a b c d => conv4 w X a b c d
  have hsz : (strOfNums [(c : Int)]).size = 1 := rfl
  cases hs : spc c cl
  · rw [hs] at S
    have P1 := Lib.hid (formN_oct h1 hs)
    have P2 := Lib.hid (formN_one h1 hs)
    clear h1 hs
    go_enter Try.func11, Try.ntmps11
    go_wp2_with (fail)
    refine (E.out _).mono ?_
    rintro e w' ⟨rfl, rfl⟩
    go_wp2_with (fail)
    refine (S.out _).mono ?_
    rintro e w' ⟨rfl, rfl⟩
    by_cases k1 : c < 32
    · go_wp2
      go_ret
      exact ⟨ret_str (by rw [P1.out (octB_lo k1)]; rfl), ((Below.refl _ _).alloc (Nat.le_refl _) _).alloc (by simp) _⟩
    by_cases k2 : 127 ≤ c ∧ c < 192
    · obtain ⟨k2, k3⟩ := k2
      go_wp2
      go_ret
      exact ⟨ret_str (by rw [P1.out (octB_mid k2 k3)]; rfl), ((Below.refl _ _).alloc (Nat.le_refl _) _).alloc (by simp) _⟩
    have h32 : 32 ≤ c := by omega
    have K2 := Lib.hid k2
    have d1 : decide ((c : Int) < 32) = false := by simp; omega
    clear k1
    cases cl
    · by_cases k5 : 127 ≤ c
      · have k6 : 192 ≤ c := by omega
        clear k2
        go_wp2
        go_ret
        exact ⟨ret_str (by rw [P2.out (octB_no h32 K2.out (Or.inl rfl))]; rfl), (Below.refl _ _).alloc (Nat.le_refl _) _⟩
      · clear k2
        go_wp2
        go_ret
        exact ⟨ret_str (by rw [P2.out (octB_no h32 K2.out (Or.inl rfl))]; rfl), (Below.refl _ _).alloc (Nat.le_refl _) _⟩
    · clear k2
      by_cases k4 : c = 45
      · subst k4
        go_wp2
        go_ret
        exact ⟨ret_str rfl, ((Below.refl _ _).alloc (Nat.le_refl _) _).alloc (by simp) _⟩
      · have K4 := Lib.hid k4
        have k5 : ((c : Int) == 45) = false := by simp; omega
        clear k4
        by_cases k7 : 127 ≤ c
        · have k6 : 192 ≤ c := by have := K2.out; omega
          go_wp2
          go_ret
          exact ⟨ret_str (by rw [P2.out (octB_no h32 K2.out (Or.inr K4.out))]; rfl), (Below.refl _ _).alloc (Nat.le_refl _) _⟩
        · go_wp2
          go_ret
          exact ⟨ret_str (by rw [P2.out (octB_no h32 K2.out (Or.inr K4.out))]; rfl), (Below.refl _ _).alloc (Nat.le_refl _) _⟩
  · rw [hs] at S
    have P1 := Lib.hid (formN_spc h1 hs)
    clear h1 hs
    go_enter Try.func11, Try.ntmps11
    go_wp2_with (fail)
    refine (E.out _).mono ?_
    rintro e w' ⟨rfl, rfl⟩
    go_wp2_with (fail)
    refine (S.out _).mono ?_
    rintro e w' ⟨rfl, rfl⟩
    go_wp2
    go_ret
    exact ⟨ret_str (by rw [P1.out]; rfl), (Below.refl _ _).alloc (Nat.le_refl _) _⟩
theorem form_any (c : Nat) (hc : c < 256) (cl : Bool) (w : World) :
    Calls Try.prog 11 #[.int .u8 c, .bool cl] w fun e w' => e = .returned (.string (bytesN (formN c cl))) ∧ Below w.heap.size w w' := by
  by_cases h : c = 10 ∨ c = 13 ∨ c = 9
  · exact form_ctl c h cl w
  · exact form_spc c hc h cl w
theorem conv4' (w : World) (a b c d : Int) : (convert 30 9 (.slice (some ⟨w.heap.size, 0, none⟩) 4 4)).run Try.prog (w.alloc (.cells #[.int .u8 a, .int .u8 b, .int .u8 c, .int .u8 d] 5)) = .ok (.string (strOfNums [a, b, c, d])) (w.alloc (.cells #[.int .u8 a, .int .u8 b, .int .u8 c, .int .u8 d] 5)) := conv_new [a, b, c, d] 4 _ rfl rfl w
set_option maxRecDepth 20000 in
theorem refForm_ctl (c : Nat) (hc : c = 10 ∨ c = 13 ∨ c = 9) (cl : Bool) (w : World) :
    Calls Try.prog 12 #[.int .u8 c, .bool cl] w fun e w' => e = .returned (.string (bytesN (formN c cl))) ∧ Below w.heap.size w w' := by
  rcases hc with rfl | rfl | rfl
  all_goals
    go_enter Try.func12, Try.ntmps12
    go_wp2
    go_ret
    exact ⟨ret_str rfl, Below.refl _ _⟩
set_option maxRecDepth 20000 in
set_option maxHeartbeats 1000000 in
theorem refForm_any (c : Nat) (hc : c < 256) (cl : Bool) (w : World) :
    Calls Try.prog 12 #[.int .u8 c, .bool cl] w fun e w' => e = .returned (.string (bytesN (formN c cl))) ∧ Below w.heap.size w w' := by
  have C1 := fun w a => conv1 w a
  have C2 := fun w a b => conv2 w a b
  have C4 := fun w a b c d => conv4' w a b c d
  by_cases h1 : c = 10 ∨ c = 13 ∨ c = 9
  · exact refForm_ctl c h1 cl w
  have e1 : ((c : Int) == 10) = false := by simp; omega
  have e2 : ((c : Int) == 13) = false := by simp; omega
  have e3 : ((c : Int) == 9) = false := by simp; omega
  have P0 := Lib.hid (formN_spc (cl := cl) h1)
  have P1 := Lib.hid (formN_oct (cl := cl) h1)
  have P2 := Lib.hid (formN_one (cl := cl) h1)
  have PS : Hid (∀ b, spc c cl = b ↔ decide (c = 92 ∨ (cl = false ∧ c = 39) ∨ (cl = true ∧ (c = 91 ∨ c = 93))) = b) := fun b => Iff.rfl
  clear h1
  by_cases k4 : c = 92
  · subst k4
    go_enter Try.func12, Try.ntmps12
    go_wp2
    go_ret
    exact ⟨ret_str (by cases cl <;> rfl), (Below.refl _ _).alloc (Nat.le_refl _) _⟩
  have e4 : ((c : Int) == 92) = false := by simp; omega
  cases cl
  · by_cases k5 : c = 39
    · subst k5
      go_enter Try.func12, Try.ntmps12
      go_wp2
      go_ret
      exact ⟨ret_str rfl, (Below.refl _ _).alloc (Nat.le_refl _) _⟩
    have hs : spc c false = false := by simp [spc, k4, k5]
    have e5 : ((c : Int) == 39) = false := by simp; omega
    have HS := Lib.hid hs
    clear k4 k5 hs PS
    by_cases k1 : c < 32
    · go_enter Try.func12, Try.ntmps12
      go_wp2
      go_ret
      exact ⟨ret_str (by rw [P1.out HS.out (octB_lo k1)]; rfl), (Below.refl _ _).alloc (Nat.le_refl _) _⟩
    have h32 : 32 ≤ c := by omega
    have d1 : decide ((c : Int) < 32) = false := by simp; omega
    clear k1
    by_cases k2 : 127 ≤ c
    · by_cases k3 : c < 192
      · have k3' : c ≤ 191 := by omega
        go_enter Try.func12, Try.ntmps12
        go_wp2
        go_ret
        exact ⟨ret_str (by rw [P1.out HS.out (octB_mid k2 k3)]; rfl), (Below.refl _ _).alloc (Nat.le_refl _) _⟩
      · have k3' : 191 < c := by omega
        have HO := Lib.hid (octB_no (cl := false) h32 (by omega) (Or.inl rfl))
        clear k3
        go_enter Try.func12, Try.ntmps12
        go_wp2
        go_ret
        exact ⟨ret_str (by rw [P2.out HS.out HO.out]; rfl), (Below.refl _ _).alloc (Nat.le_refl _) _⟩
    · have HO := Lib.hid (octB_no (cl := false) h32 (by omega) (Or.inl rfl))
      have d2 : decide ((127 : Int) ≤ (c : Int)) = false := by simp; omega
      go_enter Try.func12, Try.ntmps12
      go_wp2
      go_ret
      exact ⟨ret_str (by rw [P2.out HS.out HO.out]; rfl), (Below.refl _ _).alloc (Nat.le_refl _) _⟩
  · by_cases k5 : c = 91
    · subst k5
      go_enter Try.func12, Try.ntmps12
      go_wp2
      go_ret
      exact ⟨ret_str rfl, (Below.refl _ _).alloc (Nat.le_refl _) _⟩
    by_cases k6 : c = 93
    · subst k6
      go_enter Try.func12, Try.ntmps12
      go_wp2
      go_ret
      exact ⟨ret_str rfl, (Below.refl _ _).alloc (Nat.le_refl _) _⟩
    by_cases k7 : c = 45
    · subst k7
      go_enter Try.func12, Try.ntmps12
      go_wp2
      go_ret
      exact ⟨ret_str rfl, (Below.refl _ _).alloc (Nat.le_refl _) _⟩
    have hs : spc c true = false := by simp [spc, k4, k5, k6]
    have e5 : ((c : Int) == 91) = false := by simp; omega
    have e6 : ((c : Int) == 93) = false := by simp; omega
    have e7 : ((c : Int) == 45) = false := by simp; omega
    have HS := Lib.hid hs
    have K7 := Lib.hid k7
    clear k4 k5 k6 k7 hs PS
    by_cases k1 : c < 32
    · go_enter Try.func12, Try.ntmps12
      go_wp2
      go_ret
      exact ⟨ret_str (by rw [P1.out HS.out (octB_lo k1)]; rfl), (Below.refl _ _).alloc (Nat.le_refl _) _⟩
    have h32 : 32 ≤ c := by omega
    have d1 : decide ((c : Int) < 32) = false := by simp; omega
    clear k1
    by_cases k2 : 127 ≤ c
    · by_cases k3 : c < 192
      · have k3' : c ≤ 191 := by omega
        go_enter Try.func12, Try.ntmps12
        go_wp2
        go_ret
        exact ⟨ret_str (by rw [P1.out HS.out (octB_mid k2 k3)]; rfl), (Below.refl _ _).alloc (Nat.le_refl _) _⟩
      · have k3' : 191 < c := by omega
        have HO := Lib.hid (octB_no (cl := true) h32 (by omega) (Or.inr K7.out))
        clear k3
        go_enter Try.func12, Try.ntmps12
        go_wp2
        go_ret
        exact ⟨ret_str (by rw [P2.out HS.out HO.out]; rfl), (Below.refl _ _).alloc (Nat.le_refl _) _⟩
    · have HO := Lib.hid (octB_no (cl := true) h32 (by omega) (Or.inr K7.out))
      have d2 : decide ((127 : Int) ≤ (c : Int)) = false := by simp; omega
      go_enter Try.func12, Try.ntmps12
      go_wp2
      go_ret
      exact ⟨ret_str (by rw [P2.out HS.out HO.out]; rfl), (Below.refl _ _).alloc (Nat.le_refl _) _⟩
end Go.Proofs.Ytdeidhehdhijgaa
