import Derived.Test.YtdeidhehdhijgaaB1
namespace Go.Proofs.Ytdeidhehdhijgaa
open Go.RowKit
theorem at_pre {s : ByteArray} {l : List Nat} {r : ByteArray} (h : s = bytesN l ++ r) (i : Nat) (hi : i < l.length) (hl : ∀ x ∈ l, x ≤ 255) : at' s i = l[i] := by
  subst h
  have hz : i < (bytesN l ++ r).size := by rw [ByteArray.size_append, bytesN_size]; omega
  rw [at_lt hz]
  have hx := hl _ (List.getElem_mem hi)
  have e : (bytesN l ++ r)[i]'hz = l[i].toUInt8 := by
    rw [ByteArray.getElem_append_left (by rw [bytesN_size]; omega)]
    simp [bytesN, ByteArray.getElem_eq_getElem_data]
  rw [e]; simp; omega
theorem formN_le {c : Nat} (hc : c ≤ 255) (cl : Bool) : ∀ x ∈ formN c cl, x ≤ 255 := by
  unfold formN; repeat' split
  all_goals (intro x hx; simp at hx; omega)
theorem readP_form {s : ByteArray} {i c : Nat} {cl : Bool} (hc : c ≤ 255) (hz : i + (formN c cl).length ≤ s.size) (H : ∀ j (h : j < (formN c cl).length), at' s (i + j) = (formN c cl)[j]) :
    readP s i = some (c, i + (formN c cl).length) := by
  by_cases h : c = 10 ∨ c = 13 ∨ c = 9
  · rcases h with rfl | rfl | rfl
    all_goals
      have e0 := H 0 (show 0 < 2 by decide)
      have e1 := H 1 (show 1 < 2 by decide)
      have hz' : i + 2 ≤ s.size := hz
      simp only [Nat.add_zero] at e0
      have e0' : at' s i = 92 := e0
      unfold readP
      rw [if_neg (by omega), if_neg (by omega), if_neg (by omega)]
    · have e1' : at' s (i + 1) = 110 := e1
      rw [if_pos e1']; rfl
    · have e1' : at' s (i + 1) = 114 := e1
      rw [if_neg (by omega), if_pos e1']; rfl
    · have e1' : at' s (i + 1) = 116 := e1
      rw [if_neg (by omega), if_neg (by omega), if_pos e1']; rfl
  · cases hs : spc c cl
    · cases ho : octB c cl
      · have hf := formN_one h hs ho
        rw [hf] at H hz ⊢
        have e0 := H 0 (by simp)
        simp at e0 hz
        have hne : c ≠ 92 := by
          intro e; subst e; simp [spc] at hs
        unfold readP
        rw [if_neg (by omega), if_pos (by omega), e0]; rfl
      · have hf := formN_oct h hs ho
        rw [hf] at H hz ⊢
        have e0 := H 0 (by simp)
        have e1 := H 1 (by simp)
        have e2 := H 2 (by simp)
        have e3 := H 3 (by simp)
        simp only [List.getElem_cons_zero, List.getElem_cons_succ, Nat.add_zero] at e0 e1 e2 e3
        simp only [List.length_cons, List.length_nil] at hz ⊢
        have hlt : c < 192 := by
          simp only [octB, decide_eq_true_eq] at ho
          omega
        have a0 := (octI_pos (s := s) (i := i + 1)).2 (by omega)
        have a1 := (octI_pos (s := s) (i := i + 1 + 1)).2 (by rw [show i + 1 + 1 = i + 2 from rfl]; omega)
        have a2 := (octI_pos (s := s) (i := i + 1 + 2)).2 (by rw [show i + 1 + 2 = i + 3 from rfl]; omega)
        have v0 := octI_val a0
        obtain ⟨n1, n2⟩ := num3 (s := s) (j := i + 1) ⟨a0, by omega, a1, a2⟩
        rw [show i + 1 + 1 = i + 2 from rfl, show i + 1 + 2 = i + 3 from rfl] at n2
        rw [readP_num (k := 3) (by omega) e0 (by omega) (by omega) (by omega) (by omega) (by omega) n1 (by omega), n2, e1, e2, e3]
        congr 2
        omega
    · have hf := formN_spc h hs
      rw [hf] at H hz ⊢
      have e0 := H 0 (by simp)
      have e1 := H 1 (by simp)
      simp at e0 e1 hz
      have hm : c = 39 ∨ c = 34 ∨ c = 91 ∨ c = 93 ∨ c = 92 := by
        simp only [spc, decide_eq_true_eq] at hs
        omega
      unfold readP
      rw [if_neg (by omega), if_neg (by omega), if_neg (by omega), if_neg (by omega), if_neg (by omega), if_neg (by omega), e1, if_pos hm]; rfl
theorem readP_append (c : Nat) (hc : c ≤ 255) (cl : Bool) (r : ByteArray) : readP (bytesN (formN c cl) ++ r) 0 = some (c, (formN c cl).length) := by
  have := readP_form (s := bytesN (formN c cl) ++ r) (i := 0) (c := c) (cl := cl) hc (by rw [ByteArray.size_append, bytesN_size]; omega) (fun j h => by rw [Nat.zero_add]; exact at_pre rfl j h (formN_le hc cl))
  rwa [Nat.zero_add] at this
theorem formN_head {c : Nat} (h : 0 < (formN c false).length) : (formN c false)[0] ≠ 39 := by
  unfold formN
  repeat' split
  all_goals simp
  rename_i h1 h2
  intro e; subst e; simp [spc] at h1
theorem litTo_cons (c : Nat) (l : List Nat) : litTo (c :: l) = formN c false ++ litTo l := by simp [litTo]
theorem unqF_lit {s : ByteArray} (h0 : at' s 0 = 39) : ∀ (l : List Nat) (f i : Nat) (out : List Nat), l.length < f → (∀ x ∈ l, x ≤ 255) → i + (litTo l).length < s.size → (∀ j (h : j < (litTo l ++ [39]).length), at' s (i + j) = (litTo l ++ [39])[j]) →
    unqF s f i out = some (out ++ l, i + (litTo l).length)
  | [], f, i, out, hf, hl, hz, H => by
    obtain ⟨f, rfl⟩ : ∃ f', f = f' + 1 := ⟨f - 1, by omega⟩
    have e := H 0 (by simp)
    simp only [litTo, List.flatMap_nil, List.nil_append, List.getElem_cons_zero, Nat.add_zero] at e
    rw [unqF_stop (.inr (by omega))]
    simp [litTo]
  | c :: l, f, i, out, hf, hl, hz, H => by
    obtain ⟨f, rfl⟩ : ∃ f', f = f' + 1 := ⟨f - 1, by omega⟩
    rw [litTo_cons] at H hz ⊢
    have hfl := formN_len c false
    have hc : c ≤ 255 := hl c (by simp)
    simp only [List.length_append] at hz ⊢
    have hr := readP_form (s := s) (i := i) (c := c) (cl := false) hc (by omega) (fun j h => by
      rw [H j (by simp; omega), List.getElem_append_left (by simp; omega), List.getElem_append_left h])
    have hh : at' s i ≠ at' s 0 := by
      have e := H 0 (by simp; omega)
      rw [Nat.add_zero, List.getElem_append_left (by simp; omega), List.getElem_append_left (by omega)] at e
      rw [e, h0]; exact formN_head (by omega)
    rw [unqF_step (by omega) hr, unqF_lit h0 l f _ _ (by simp at hf; omega) (fun x hx => hl x (by simp [hx])) (by omega) (fun j h => by
      have := H ((formN c false).length + j) (by simp at h ⊢; omega)
      rw [← Nat.add_assoc] at this
      rw [this]
      simp only [List.append_assoc]
      rw [List.getElem_append_right (by omega)]
      simp)]
    simp [Nat.add_assoc]
theorem litTo_bytes {l : List Nat} (h : ∀ x ∈ l, x ≤ 255) : ∀ x ∈ litTo l, x ≤ 255 := by
  intro x hx
  obtain ⟨c, hc, hx⟩ := List.mem_flatMap.1 hx
  exact formN_le (h c hc) false x hx
theorem litTo_ge (l : List Nat) : l.length ≤ (litTo l).length := by
  induction l with
  | nil => simp
  | cons c l ih => rw [litTo_cons]; have := formN_len c false; simp only [List.length_append, List.length_cons]; omega
theorem unq_lit {l : List Nat} (h : ∀ x ∈ l, x ≤ 255) : unq (bytesN (litN l)) = some l := by
  have hb : ∀ x ∈ litN l, x ≤ 255 := by
    intro x hx
    simp only [litN, List.mem_cons, List.mem_append, List.not_mem_nil, or_false] at hx
    rcases hx with rfl | hx | rfl
    · omega
    · exact litTo_bytes h x hx
    · omega
  have hap : bytesN (litN l) = bytesN (litN l) ++ bytesN [] := by rw [bytesN_append]; simp
  have hA : ∀ j (hj : j < (litN l).length), at' (bytesN (litN l)) j = (litN l)[j] := fun j hj => at_pre hap j hj hb
  have hz : (bytesN (litN l)).size = (litTo l).length + 2 := by rw [bytesN_size]; simp [litN]
  have h0 : at' (bytesN (litN l)) 0 = 39 := hA 0 (by simp [litN])
  have hge := litTo_ge l
  have hF := unqF_lit h0 l ((bytesN (litN l)).size + 1) 1 [] (by omega) h (by omega) (fun j hj => by
    have := hA (1 + j) (by simp only [litN, List.length_cons]; omega)
    rw [this]
    simp only [litN, Nat.add_comm 1 j, List.getElem_cons_succ])
  rw [List.nil_append] at hF
  exact unq_of_some (by omega) hF (by omega)
end Go.Proofs.Ytdeidhehdhijgaa
