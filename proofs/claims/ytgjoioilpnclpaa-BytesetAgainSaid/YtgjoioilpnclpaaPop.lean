namespace Pop
theorem and_split (b B m M : Nat) (hb : b < 256) (hm : m < 256) : (b + 256 * B) &&& (m + 256 * M) = (b &&& m) + 256 * (B &&& M) := by
  have h1 : ((b + 256 * B) &&& (m + 256 * M)) % 2^8 = b &&& m := by
    rw [Nat.and_mod_two_pow]; congr 1 <;> omega
  have h2 : ((b + 256 * B) &&& (m + 256 * M)) / 2^8 = B &&& M := by
    rw [Nat.and_div_two_pow]; congr 1 <;> omega
  omega
def val : List Nat → Nat
  | [] => 0
  | b :: r => b + 256 * val r
def mask (m : Nat) : Nat → Nat
  | 0 => 0
  | n + 1 => m + 256 * mask m n
def f1 (b : Nat) : Nat := (b / 2 &&& 85) + (b &&& 85)
def f2 (b : Nat) : Nat := (b / 4 &&& 51) + (b &&& 51)
def f3 (b : Nat) : Nat := (b / 16 + b) &&& 15
theorem f1_hi : ∀ b < 256, ∀ c < 2, (b / 2 + 128 * c) &&& 85 = b / 2 &&& 85 := by decide +kernel
theorem f2_hi : ∀ b < 256, ∀ c < 4, (b / 4 + 64 * c) &&& 51 = b / 4 &&& 51 := by decide +kernel
theorem step1 : ∀ l : List Nat, (∀ b ∈ l, b < 256) → (val l / 2 &&& mask 85 l.length) + (val l &&& mask 85 l.length) = val (l.map f1)
  | [], _ => rfl
  | b :: r, h => by
    have hb := h b (by simp)
    have ih := step1 r (fun x hx => h x (by simp [hx]))
    have e : (b + 256 * val r) / 2 = (b / 2 + 128 * (val r % 2)) + 256 * (val r / 2) := by omega
    simp only [val, mask, List.length_cons, List.map_cons]
    rw [e, and_split _ _ _ _ (by omega) (by omega), and_split _ _ _ _ (by omega) (by omega), f1_hi b hb _ (by omega), ← ih]
    unfold f1; omega
theorem step2 : ∀ l : List Nat, (∀ b ∈ l, b < 256) → (val l / 4 &&& mask 51 l.length) + (val l &&& mask 51 l.length) = val (l.map f2)
  | [], _ => rfl
  | b :: r, h => by
    have hb := h b (by simp)
    have ih := step2 r (fun x hx => h x (by simp [hx]))
    have e : (b + 256 * val r) / 4 = (b / 4 + 64 * (val r % 4)) + 256 * (val r / 4) := by omega
    simp only [val, mask, List.length_cons, List.map_cons]
    rw [e, and_split _ _ _ _ (by omega) (by omega), and_split _ _ _ _ (by omega) (by omega), f2_hi b hb _ (by omega), ← ih]
    unfold f2; omega
def Nib (b : Nat) : Prop := b / 16 ≤ 4 ∧ b % 16 ≤ 4
theorem f3_hi (b c : Nat) (hb : Nib b) (hc : c ≤ 4) : (b / 16 + 16 * c + b) &&& 15 = f3 b ∧ b / 16 + 16 * c + b < 256 := by
  unfold f3 Nib at *
  refine ⟨?_, by omega⟩
  rw [show (15 : Nat) = 2 ^ 4 - 1 from rfl, Nat.and_two_pow_sub_one_eq_mod, Nat.and_two_pow_sub_one_eq_mod]; omega
theorem val_mod : ∀ l : List Nat, (∀ b ∈ l, Nib b) → val l % 16 ≤ 4
  | [], _ => by simp [val]
  | b :: r, h => by have := (h b (by simp)).2; simp only [val]; omega
theorem step3 : ∀ l : List Nat, (∀ b ∈ l, Nib b) → (val l / 16 + val l) &&& mask 15 l.length = val (l.map f3)
  | [], _ => rfl
  | b :: r, h => by
    have hb := h b (by simp)
    have hr : ∀ x ∈ r, Nib x := fun x hx => h x (by simp [hx])
    have ih := step3 r hr
    have hm := val_mod r hr
    obtain ⟨h1, h2⟩ := f3_hi b (val r % 16) hb hm
    have e : (b + 256 * val r) / 16 + (b + 256 * val r) = (b / 16 + 16 * (val r % 16) + b) + 256 * (val r / 16 + val r) := by unfold Nib at hb; omega
    simp only [val, mask, List.length_cons, List.map_cons]
    rw [e, and_split _ _ _ _ h2 (by omega), h1, ← ih]
/-- the number of ones among the first n bits. -/
def ones (x : Nat) : Nat → Nat
  | 0 => 0
  | n + 1 => ones x n + (x / 2 ^ n) % 2
theorem byte_pop : ∀ b < 256, f3 (f2 (f1 b)) = ones b 8 ∧ f1 b < 256 ∧ f2 (f1 b) < 256 ∧ f2 (f1 b) / 16 ≤ 4 ∧ f2 (f1 b) % 16 ≤ 4 ∧ f3 (f2 (f1 b)) ≤ 8 := by decide +kernel
theorem ones_low (b B : Nat) (_hb : b < 256) : ones (b + 256 * B) 8 = ones b 8 := by
  simp only [ones]; omega
theorem ones_add (b B : Nat) (hb : b < 256) : ∀ n, ones (b + 256 * B) (8 + n) = ones b 8 + ones B n
  | 0 => by simp [ones_low b B hb]; simp [ones]
  | n + 1 => by
    have : (b + 256 * B) / 2 ^ (8 + n) = B / 2 ^ n := by
      rw [Nat.pow_add, ← Nat.div_div_eq_div_mul]; congr 1; omega
    show ones (b + 256 * B) (8 + n) + (b + 256 * B) / 2 ^ (8 + n) % 2 = ones b 8 + (ones B n + B / 2 ^ n % 2)
    rw [ones_add b B hb n, this, Nat.add_assoc]
theorem ones_val (b : Nat) (r : List Nat) (hb : b < 256) (n : Nat) : ones (val (b :: r)) (8 + n) = ones b 8 + ones (val r) n := ones_add b (val r) hb n
theorem div_of (A B m : Nat) (h : A < m) : (A + m * B) / m = B := by
  rw [Nat.add_mul_div_left _ _ (by omega), Nat.div_eq_of_lt h, Nat.zero_add]
theorem sums (x3 c0 c1 c2 c3 c4 c5 c6 c7 : Nat) (t1 : c0 ≤ 8) (t2 : c1 ≤ 8) (t3 : c2 ≤ 8) (t4 : c3 ≤ 8) (t5 : c4 ≤ 8) (t6 : c5 ≤ 8) (t7 : c6 ≤ 8) (t8 : c7 ≤ 8)
    (e3 : x3 = c0 + 256 * (c1 + 256 * (c2 + 256 * (c3 + 256 * (c4 + 256 * (c5 + 256 * (c6 + 256 * (c7 + 256 * 0)))))))) :
    ∃ x4 x5, x4 = x3 + x3 / 256 ∧ x5 = x4 + x4 / 65536 ∧ x4 < 2^64 ∧ x5 < 2^64 ∧ x5 + x5 / 4294967296 < 2^64 ∧ (x5 + x5 / 4294967296) % 128 = c0 + (c1 + (c2 + (c3 + (c4 + (c5 + (c6 + (c7 + 0))))))) := by
  have d3 : x3 / 256 = (c1 + 256 * (c2 + 256 * (c3 + 256 * (c4 + 256 * (c5 + 256 * (c6 + 256 * (c7 + 256 * 0))))))) := by rw [e3]; exact div_of _ _ _ (by omega)
  have h4 : x3 + x3 / 256 = ((c0 + c1) + 256 * (c1 + c2)) + 65536 * (((c2 + c3) + 256 * (c3 + c4)) + 65536 * (((c4 + c5) + 256 * (c5 + c6)) + 65536 * ((c6 + c7) + 256 * c7))) := by
    rw [d3, e3]; simp only [Nat.mul_add, ← Nat.mul_assoc, Nat.mul_zero, Nat.reduceMul]; ac_rfl
  have d4 := div_of ((c0 + c1) + 256 * (c1 + c2)) (((c2 + c3) + 256 * (c3 + c4)) + 65536 * (((c4 + c5) + 256 * (c5 + c6)) + 65536 * ((c6 + c7) + 256 * c7))) 65536 (by omega)
  have h5 : (((c0 + c1) + 256 * (c1 + c2)) + 65536 * (((c2 + c3) + 256 * (c3 + c4)) + 65536 * (((c4 + c5) + 256 * (c5 + c6)) + 65536 * ((c6 + c7) + 256 * c7)))) + (((c2 + c3) + 256 * (c3 + c4)) + 65536 * (((c4 + c5) + 256 * (c5 + c6)) + 65536 * ((c6 + c7) + 256 * c7))) = (c0 + c1 + (c2 + c3) + 256 * (c1 + c2 + (c3 + c4)) + 65536 * (c2 + c3 + (c4 + c5) + 256 * (c3 + c4 + (c5 + c6)))) + 4294967296 * ((c4 + c5 + (c6 + c7)) + 256 * (c5 + c6 + c7) + 65536 * (c6 + c7 + 256 * c7)) := by
    simp only [Nat.mul_add, ← Nat.mul_assoc, Nat.reduceMul]; ac_rfl
  have d5 := div_of (c0 + c1 + (c2 + c3) + 256 * (c1 + c2 + (c3 + c4)) + 65536 * (c2 + c3 + (c4 + c5) + 256 * (c3 + c4 + (c5 + c6)))) ((c4 + c5 + (c6 + c7)) + 256 * (c5 + c6 + c7) + 65536 * (c6 + c7 + 256 * c7)) 4294967296 (by omega)
  refine ⟨_, _, h4.symm, by rw [d4], ?_, ?_, ?_, ?_⟩
  · clear d3 e3 h4 d4 h5 d5; omega
  · rw [h5]; clear d3 e3 h4 d4 h5 d5; omega
  · rw [h5, d5]; clear d3 e3 h4 d4 h5 d5; omega
  · rw [h5, d5]; clear d3 e3 h4 d4 h5 d5; omega
theorem val_lt : ∀ l : List Nat, (∀ b ∈ l, b < 256) → val l < 256 ^ l.length
  | [], _ => by simp [val]
  | b :: r, h => by
    have hb := h b (by simp)
    have ih := val_lt r (fun x hx => h x (by simp [hx]))
    simp only [val, List.length_cons, Nat.pow_succ]
    omega
def bytes8 (X : Nat) : List Nat := [X % 256, X / 2^8 % 256, X / 2^16 % 256, X / 2^24 % 256, X / 2^32 % 256, X / 2^40 % 256, X / 2^48 % 256, X / 2^56 % 256]
theorem bytes8_val (X : Nat) (hX : X < 2 ^ 64) : val (bytes8 X) = X := by
  simp only [val, bytes8]; omega
theorem bytes8_lt (X : Nat) : ∀ b ∈ bytes8 X, b < 256 := by
  intro b hb
  simp only [bytes8, List.mem_cons, List.not_mem_nil, or_false] at hb
  rcases hb with rfl | rfl | rfl | rfl | rfl | rfl | rfl | rfl <;> exact Nat.mod_lt _ (by omega)
theorem map_lt {l : List Nat} {f : Nat → Nat} (hl : ∀ b ∈ l, b < 256) (hf : ∀ b < 256, f b < 256) : ∀ b ∈ l.map f, b < 256 := by
  intro b hb
  obtain ⟨c, hc, rfl⟩ := List.mem_map.1 hb
  exact hf c (hl c hc)
theorem ones_vals : ∀ l : List Nat, (∀ b ∈ l, b < 256) → ones (val l) (8 * l.length) = (l.map fun b => ones b 8).sum
  | [], _ => rfl
  | b :: r, h => by
    have hb := h b (by simp)
    have ih := ones_vals r (fun x hx => h x (by simp [hx]))
    rw [List.length_cons, show 8 * (r.length + 1) = 8 + 8 * r.length by omega, ones_val b r hb, ih]
    simp
theorem swar (X : Nat) (hX : X < 2 ^ 64) : ∃ x1 x2 x3 x4 x5 : Nat,
    x1 = (X / 2 &&& 6148914691236517205) + (X &&& 6148914691236517205) ∧
    x2 = (x1 / 4 &&& 3689348814741910323) + (x1 &&& 3689348814741910323) ∧
    x3 = (x2 / 16 + x2) &&& 1085102592571150095 ∧ x4 = x3 + x3 / 256 ∧ x5 = x4 + x4 / 65536 ∧
    x1 < 2^64 ∧ x2 < 2^64 ∧ x2 / 16 + x2 < 2^64 ∧ x3 < 2^64 ∧ x4 < 2^64 ∧ x5 < 2^64 ∧ x5 + x5 / 4294967296 < 2^64 ∧ (x5 + x5 / 4294967296) % 128 = ones X 64 := by
  have hl := bytes8_lt X
  have hv := bytes8_val X hX
  have h1 := map_lt hl (fun b hb => (byte_pop b hb).2.1)
  have h2 : ∀ b ∈ ((bytes8 X).map f1).map f2, b < 256 := by
    rw [List.map_map]; exact map_lt hl (fun b hb => (byte_pop b hb).2.2.1)
  have hn : ∀ b ∈ ((bytes8 X).map f1).map f2, Nib b := by
    intro b hb
    rw [List.map_map] at hb
    obtain ⟨c, hc, rfl⟩ := List.mem_map.1 hb
    exact ⟨(byte_pop c (hl c hc)).2.2.2.1, (byte_pop c (hl c hc)).2.2.2.2.1⟩
  have s1 := step1 _ hl
  have s2 := step2 _ h1
  have s3 := step3 _ hn
  have m1 : mask 85 8 = 6148914691236517205 := by decide
  have m2 : mask 51 8 = 3689348814741910323 := by decide
  have m3 : mask 15 8 = 1085102592571150095 := by decide
  have hlen : (bytes8 X).length = 8 := rfl
  simp only [List.length_map, hlen, m1, m2, m3, hv] at s1 s2 s3
  have b1 : val ((bytes8 X).map f1) < 2 ^ 64 := by
    have := val_lt _ h1; rw [List.length_map, hlen] at this; omega
  have b2 : val (((bytes8 X).map f1).map f2) < 2 ^ 60 + 2 ^ 63 := by
    have h3 := (byte_pop (X / 2^56 % 256) (Nat.mod_lt _ (by omega))).2.2.2
    have h4 := val_lt ((((bytes8 X).map f1).map f2).take 7) (fun b hb => h2 b (List.mem_of_mem_take hb))
    simp only [bytes8, List.map_cons, List.map_nil, List.take_succ_cons, List.take_zero, List.length_cons, List.length_nil, val] at h4 ⊢
    omega
  have hb3 : (((bytes8 X).map f1).map f2).map f3 = (bytes8 X).map (fun b => ones b 8) := by
    rw [List.map_map, List.map_map]
    exact List.map_congr_left fun b hb => (byte_pop b (hl b hb)).1
  rw [hb3] at s3
  have ho := ones_vals _ hl
  rw [hv, hlen] at ho
  have t : ∀ b < 256, ones b 8 ≤ 8 := fun b hb => by rw [← (byte_pop b hb).1]; exact (byte_pop b hb).2.2.2.2.2
  simp only [bytes8, List.map_cons, List.map_nil, List.sum_cons, List.sum_nil] at s3 ho
  simp only [val] at s3
  obtain ⟨y4, y5, a1, a2, a3, a4, a5, a6⟩ := sums _ _ _ _ _ _ _ _ _ (t _ (Nat.mod_lt X (by omega))) (t _ (Nat.mod_lt (X / 2^8) (by omega))) (t _ (Nat.mod_lt (X / 2^16) (by omega))) (t _ (Nat.mod_lt (X / 2^24) (by omega))) (t _ (Nat.mod_lt (X / 2^32) (by omega))) (t _ (Nat.mod_lt (X / 2^40) (by omega))) (t _ (Nat.mod_lt (X / 2^48) (by omega))) (t _ (Nat.mod_lt (X / 2^56) (by omega))) rfl
  rw [← s3] at a1
  refine ⟨_, _, _, y4, y5, rfl, rfl, rfl, ?_, a2, ?_, ?_, ?_, ?_, a3, a4, a5, ?_⟩
  · rw [s1, s2]; exact a1
  · rw [s1]; exact b1
  · rw [s1, s2]; clear a1 a2 a3 a4 a5 a6 s1 s2 s3 ho h1 hv; omega
  · rw [s1, s2]; clear a1 a2 a3 a4 a5 a6 s1 s2 s3 ho h1 hv; omega
  · exact Nat.lt_of_le_of_lt Nat.and_le_right (by omega)
  · rw [a6]; exact ho.symm
end Pop
