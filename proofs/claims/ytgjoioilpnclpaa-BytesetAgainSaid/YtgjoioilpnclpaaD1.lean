import Derived.Test.YtgjoioilpnclpaaC2
namespace Go.Proofs.Ytgjoioilpnclpaa
/-- the members that lie in one of some runs. -/
def cov (l : List (Nat × Nat)) (i : Nat) : Bool := l.any fun p => decide (p.1 ≤ i) && decide (i ≤ p.2)
theorem cov_nil : sc (setF (cov [])) = sc zF := sc_ext (setF_wf _) zF_wf fun i _ => by
  rw [setF_mem]; simp [cov, mem, zF]
theorem cov_step {l : List (Nat × Nat)} {k x y : Nat} (h : l[k]? = some (x, y)) : sc (orF (setF (cov (l.take k))) (setF (between x (y + 1)))) = sc (setF (cov (l.take (k + 1)))) := by
  refine sc_ext (orF_wf (setF_wf _) (setF_wf _)) (setF_wf _) fun i _ => ?_
  rw [orF_mem, setF_mem, setF_mem, setF_mem, List.take_add_one, h]
  simp [cov, between, Nat.lt_succ_iff]
theorem last_split {α : Type} {l : List α} {a : α} (h : l.getLast? = some a) : l = l.dropLast ++ [a] := by
  obtain ⟨m, rfl⟩ := List.getLast?_eq_some_iff.1 h
  simp
theorem cov_addRun (l : List (Nat × Nat)) (k : Nat) (h : ∀ p ∈ l, p.1 ≤ p.2 ∧ p.2 < k) (i : Nat) : cov (addRun l k) i = (cov l i || decide (i = k)) := by
  unfold addRun
  split
  · rename_i a b hl
    have hab := h (a, b) (List.mem_of_getLast? hl)
    have hs := last_split hl
    generalize l.dropLast = m at *
    subst hs
    simp only at hab
    split
    · rw [Bool.eq_iff_iff]
      unfold cov
      by_cases hP : (m.any fun p => decide (p.1 ≤ i) && decide (i ≤ p.2)) = true
      · simp only [List.any_append, hP, Bool.true_or]
      · simp only [List.any_append, hP, Bool.false_or, List.any_cons, List.any_nil, Bool.or_false, Bool.or_eq_true, Bool.and_eq_true, decide_eq_true_eq]
        omega
    · rw [Bool.eq_iff_iff]
      unfold cov
      simp only [List.any_append, List.any_cons, List.any_nil, Bool.or_false, Bool.or_eq_true, Bool.and_eq_true, decide_eq_true_eq]
      constructor
      · rintro (h | h)
        · exact .inl h
        · exact .inr (by omega)
      · rintro (h | h)
        · exact .inl h
        · exact .inr (by omega)
  · rename_i hl
    obtain rfl := List.getLast?_eq_none_iff.1 hl
    rw [Bool.eq_iff_iff]
    simp only [cov, List.nil_append, List.any_cons, List.any_nil, Bool.or_false, Bool.false_or, Bool.and_eq_true, decide_eq_true_eq]
    omega
theorem cov_all (f : Nat → Nat) (i : Nat) : ∀ k, cov (runsTo f k) i = (decide (i < k) && mem f i)
  | 0 => by simp [cov, runsTo]
  | k + 1 => by
    have ih := cov_all f i k
    cases hm : mem f k
    · rw [runsTo_no hm, ih]
      by_cases e : i = k
      · subst e; simp [hm]
      · rw [show decide (i < k + 1) = decide (i < k) from by rw [decide_eq_decide]; omega]
    · rw [runsTo_yes hm, cov_addRun _ _ (runsTo_hi f k), ih]
      by_cases e : i = k
      · subst e; simp [hm]
      · rw [show decide (i < k + 1) = decide (i < k) from by rw [decide_eq_decide]; omega, decide_eq_false e, Bool.or_false]
theorem cov_end {f : Nat → Nat} (hf : Wf f) : sc (setF (cov (runsTo f 256))) = sc f := sc_ext (setF_wf _) hf fun i hi => by
  rw [setF_mem, cov_all]; simp [hi]
theorem gap_addRun (l : List (Nat × Nat)) (k : Nat) (h : ∀ p ∈ l, p.1 ≤ p.2 ∧ p.2 < k) (hg : ∀ j p q, l[j]? = some p → l[j + 1]? = some q → p.2 + 1 < q.1) : ∀ j p q, (addRun l k)[j]? = some p → (addRun l k)[j + 1]? = some q → p.2 + 1 < q.1 := by
  intro j p q
  unfold addRun
  split
  · rename_i a b hl
    have hab := h (a, b) (List.mem_of_getLast? hl)
    have hs := last_split hl
    generalize l.dropLast = m at *
    subst hs
    simp only at hab
    split
    · intro h1 h2
      have hj : j + 1 < (m ++ [(a, k)]).length := (List.getElem?_eq_some_iff.1 h2).1
      simp only [List.length_append, List.length_cons, List.length_nil] at hj
      rw [List.getElem?_append_left (by omega)] at h1
      by_cases e : j + 1 = m.length
      · rw [List.getElem?_append_right (by omega), e] at h2
        obtain rfl : (a, k) = q := by simpa using h2
        exact hg j p (a, b) (by rw [List.getElem?_append_left (by omega)]; exact h1) (by rw [e]; simp)
      · rw [List.getElem?_append_left (by omega)] at h2
        exact hg j p q (by rw [List.getElem?_append_left (by omega)]; exact h1) (by rw [List.getElem?_append_left (by omega)]; exact h2)
    · intro h1 h2
      have hj : j + 1 < (m ++ [(a, b)] ++ [(k, k)]).length := (List.getElem?_eq_some_iff.1 h2).1
      simp only [List.length_append, List.length_cons, List.length_nil] at hj
      rw [List.getElem?_append_left (by simp; omega)] at h1
      by_cases e : j = m.length
      · subst e
        obtain rfl : (a, b) = p := by simpa using h1
        obtain rfl : (k, k) = q := by simpa using h2
        simp only
        omega
      · rw [List.getElem?_append_left (by simp; omega)] at h2
        exact hg j p q h1 h2
  · rename_i hl
    obtain rfl := List.getLast?_eq_none_iff.1 hl
    intro _ h2
    simp at h2
theorem gap_all (f : Nat → Nat) : ∀ k j p q, (runsTo f k)[j]? = some p → (runsTo f k)[j + 1]? = some q → p.2 + 1 < q.1
  | 0 => by intro j p q h; simp [runsTo] at h
  | k + 1 => by
    have ih := gap_all f k
    cases hm : mem f k
    · rw [runsTo_no hm]; exact ih
    · rw [runsTo_yes hm]; exact gap_addRun _ _ (runsTo_hi f k) ih
theorem mems_not {f : Nat → Nat} (hf : Wf f) : ∀ k, (memsTo f k).length + (memsTo (notF f) k).length = k
  | 0 => by simp [memsTo]
  | k + 1 => by
    have ih := mems_not hf k
    have hn := notF_mem hf k
    cases hm : mem f k
    · rw [hm] at hn
      rw [memsTo_no hm, memsTo_yes (by simpa using hn), List.length_append]
      simp only [List.length_cons, List.length_nil]
      omega
    · rw [hm] at hn
      rw [memsTo_yes hm, memsTo_no (by simpa using hn), List.length_append]
      simp only [List.length_cons, List.length_nil]
      omega
theorem of_mems {f : Nat → Nat} (hf : Wf f) : sc (setF (inL (memsTo f 256))) = sc f := sc_ext (setF_wf _) hf fun i hi => by
  rw [setF_mem]; simp [inL, memsTo, hi]
theorem not_not {f : Nat → Nat} (hf : Wf f) : sc (notF (notF f)) = sc f := sc_ext (notF_wf (notF_wf hf)) hf fun i _ => by
  rw [notF_mem (notF_wf hf), notF_mem hf, Bool.not_not]
end Go.Proofs.Ytgjoioilpnclpaa
