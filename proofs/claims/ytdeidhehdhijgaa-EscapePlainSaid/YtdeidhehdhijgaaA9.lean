import Derived.Test.YtdeidhehdhijgaaA8
import Derived.Outline
namespace Go.Proofs.Ytdeidhehdhijgaa
open Go.RowKit
/-- the bytes of a literal from an index on, up to the quote, and its index. -/
def unqF (s : ByteArray) : Nat → Nat → List Nat → Option (List Nat × Nat)
  | 0, _, _ => none
  | f + 1, i, out => if s.size ≤ i ∨ at' s i = at' s 0 then some (out, i) else match readP s i with | none => none | some (c, n) => unqF s f n (out ++ [c])
def unq (s : ByteArray) : Option (List Nat) :=
  if s.size < 2 ∨ (at' s 0 ≠ 39 ∧ at' s 0 ≠ 34) then none
  else match unqF s (s.size + 1) 1 [] with | none => none | some (out, i) => if i + 1 = s.size then some out else none
theorem numK_pos {s : ByteArray} {i : Nat} (h : numK s i ≠ 0) : i + numK s i ≤ s.size := by
  unfold numK at *
  split
  · simp_all
  · rename_i h0
    have h1 := oct_in (s := s) (i := i) (by omega)
    split
    · omega
    · rename_i h2
      have h3 := oct_in (s := s) (i := i + 1) (by omega)
      unfold numE
      split
      · rename_i h4; have := oct_in h4.2.2.2; omega
      · omega
theorem readP_some {s : ByteArray} {i c n : Nat} (h : readP s i = some (c, n)) : i < n ∧ n ≤ s.size ∧ c ≤ 255 := by
  have hp := pre_le s (i + 1)
  have hb := at_le s i
  have hb1 := at_le s (i + 1)
  unfold readP at h
  split at h
  · cases h
  split at h
  · cases h
    rename_i h1 _
    have := at_lt (s := s) (i := i) (by omega)
    have := (s[i]'(by omega)).toNat_lt
    omega
  split at h
  · cases h
  have h3 := at_lt (s := s) (i := i + 1) (by omega)
  have h4 := (s[i + 1]'(by omega)).toNat_lt
  split at h
  · cases h; omega
  split at h
  · cases h; omega
  split at h
  · cases h; omega
  split at h
  · cases h; omega
  split at h
  · cases h
  · rename_i h5
    have := numK_pos h5
    cases h
    omega
def unqL (s : ByteArray) : List Nat := (unq s).getD []
def UnqRet (s : ByteArray) (w : World) (e : Ending) (w' : World) : Prop :=
  ∃ v, e = .returned (.tuple #[v, .bool (unq s).isSome]) ∧ w'.ownsRow w.heap.size 5 1 v (unqL s).length (bytesV (unqL s)) ∧ Below w.heap.size w w'
theorem unq_none {s : ByteArray} {w w' : World} (h : unq s = none) (hb : Below w.heap.size w w') : UnqRet s w (.returned (.tuple #[.slice none 0 0, .bool false])) w' :=
  ⟨.slice none 0 0, by rw [h]; rfl, by rw [unqL, h]; exact own_nil _ _ _ _, hb⟩
theorem unq_some {s : ByteArray} {w w' : World} {out : List Nat} {v : Value} (h : unq s = some out) (ho : w'.ownsRow w.heap.size 5 1 v out.length (bytesV out)) (hb : Below w.heap.size w w') : UnqRet s w (.returned (.tuple #[v, .bool true])) w' :=
  ⟨v, by rw [h]; rfl, by rw [unqL, h]; exact ho, hb⟩
theorem unqF_stop {s : ByteArray} {f i : Nat} {out : List Nat} (h : s.size ≤ i ∨ at' s i = at' s 0) : unqF s (f + 1) i out = some (out, i) := by rw [unqF, if_pos h]
theorem unqF_fail {s : ByteArray} {f i : Nat} {out : List Nat} (h : ¬(s.size ≤ i ∨ at' s i = at' s 0)) (hr : readP s i = none) : unqF s (f + 1) i out = none := by rw [unqF, if_neg h, hr]
theorem unqF_step {s : ByteArray} {f i c n : Nat} {out : List Nat} (h : ¬(s.size ≤ i ∨ at' s i = at' s 0)) (hr : readP s i = some (c, n)) : unqF s (f + 1) i out = unqF s f n (out ++ [c]) := by rw [unqF, if_neg h, hr]
theorem unq_of_none {s : ByteArray} (h : unqF s (s.size + 1) 1 [] = none) : unq s = none := by unfold unq; split <;> simp [h]
theorem unq_of_some {s : ByteArray} {out : List Nat} {i : Nat} (h1 : ¬(s.size < 2 ∨ (at' s 0 ≠ 39 ∧ at' s 0 ≠ 34))) (h : unqF s (s.size + 1) 1 [] = some (out, i)) (hi : i + 1 = s.size) : unq s = some out := by
  unfold unq; rw [if_neg h1, h]; simp [hi]
theorem unq_of_bad {s : ByteArray} {out : List Nat} {i : Nat} (h : unqF s (s.size + 1) 1 [] = some (out, i)) (hi : i + 1 ≠ s.size) : unq s = none := by
  unfold unq; rw [h]; split <;> simp [hi]
theorem read_none (s : ByteArray) (hs : s.size ≤ 140737488355328) (i : Nat) (h : readP s i = none) (w : World) :
    Calls Try.prog 9 #[.string s, .int .i64 i] w fun e w' => e = .returned (.tuple #[.int .u8 0, .int .i64 0, .bool false]) ∧ w' = w := by
  have := read_any s hs i w; rwa [h] at this
theorem read_some (s : ByteArray) (hs : s.size ≤ 140737488355328) (i : Nat) {c n : Nat} (h : readP s i = some (c, n)) (w : World) :
    Calls Try.prog 9 #[.string s, .int .i64 i] w fun e w' => e = .returned (.tuple #[.int .u8 c, .int .i64 n, .bool true]) ∧ w' = w := by
  have := read_any s hs i w; rwa [h] at this
theorem refRead_none (s : ByteArray) (hs : s.size ≤ 140737488355328) (i : Nat) (h : readP s i = none) (w : World) :
    Calls Try.prog 10 #[.string s, .int .i64 i] w fun e w' => e = .returned (.tuple #[.int .i64 0, .int .i64 (-1)]) ∧ Below w.heap.size w w' := by
  have := refRead_any s hs i w; rwa [h] at this
theorem refRead_some (s : ByteArray) (hs : s.size ≤ 140737488355328) (i : Nat) {c n : Nat} (h : readP s i = some (c, n)) (w : World) :
    Calls Try.prog 10 #[.string s, .int .i64 i] w fun e w' => e = .returned (.tuple #[.int .i64 c, .int .i64 n]) ∧ Below w.heap.size w w' := by
  have := refRead_any s hs i w; rwa [h] at this
set_option maxRecDepth 20000 in
set_option maxHeartbeats 1600000 in
theorem unquote_any (s : ByteArray) (hs : s.size ≤ 1099511627776) (w : World) : Calls Try.prog 14 #[.string s] w (UnqRet s w) := by
  have hat : ∀ (i : Nat) (h : i < s.size), (s[i]).toNat = at' s i := fun i h => (at_lt h).symm
  by_cases c0 : s.size < 2
  · have HN := Lib.hid (show unq s = none by unfold unq; rw [if_pos (.inl c0)])
    go_enter Try.func14, Try.ntmps14
    go_wp2
    go_ret2
    exact unq_none HN.out (Below.refl _ _)
  · have c0' : 2 ≤ s.size := by omega
    have c0'' : 0 < s.size := by omega
    by_cases c1 : at' s 0 = 39 ∨ at' s 0 = 34
    · have HQ := Lib.hid (show ¬(s.size < 2 ∨ (at' s 0 ≠ 39 ∧ at' s 0 ≠ 34)) by omega)
      have c1' : ((at' s 0 : Int) != 39 && (at' s 0 : Int) != 34) = false := by rcases c1 with h | h <;> simp [h]
      clear c0
      go_enter Try.func14, Try.ntmps14
      rcases c1 with c1 | c1
      all_goals
        have C2 := Lib.hid c1
        go_wp2
        clear c1
        go_loopw [4, 5] (fun v j wr => ∃ (i f : Nat) (out : List Nat), i ≤ s.size ∧ 1 ≤ i ∧ s.size < f + i ∧ out.length + 1 ≤ i ∧ j = .int .i64 i ∧ Hid (unqF s f i out = unqF s (s.size + 1) 1 []) ∧ wr.ownsRow w.heap.size 5 1 v out.length (bytesV out) ∧ Below w.heap.size w wr) (fun _ j _ => s.size - (intOf j).toNat)
        case atStart => exact ⟨1, s.size + 1, [], by omega, by omega, by omega, by simp, rfl, rfl, own_nil _ _ _ _, Below.refl _ _⟩
        case round =>
          obtain ⟨i, f, out, hi1, hi2, hf, hol, rfl, HF, hown, hb⟩ := hrel
          obtain ⟨f, rfl⟩ : ∃ f', f = f' + 1 := ⟨f - 1, by omega⟩
          have HO := Lib.hid hown
          clear hown
          by_cases hlt : i < s.size
          · by_cases hq : at' s i = at' s 0
            · have hq' : ((at' s i : Int) != (at' s 0 : Int)) = false := by simp [hq]
              have HE := Lib.hid (HF.out.symm.trans (unqF_stop (.inr hq)))
              clear hq HF
              go_wp2_with (fail)
              go_quiet (fail)
              clear hq'
              by_cases he : i + 1 = s.size
              · have HS := Lib.hid (unq_of_some HQ.out HE.out he)
                have HI := Lib.hid he
                have he' : ((i : Int) != (s.size : Int) - 1) = false := by simp; omega
                clear he
                go_wp2
                go_ret2
                exact unq_some HS.out (own_below HO.out (below_drewN (Below.refl _ _) _)) (below_drewN hb _)
              · have HS := Lib.hid (unq_of_bad HE.out he)
                have he' : ((i : Int) != (s.size : Int) - 1) = true := by simp; omega
                clear he
                go_wp2
                go_ret2
                exact unq_none HS.out (below_drewN hb _)
            · have hq' : ((at' s i : Int) != (at' s 0 : Int)) = true := by simp; omega
              have hno : ¬(s.size ≤ i ∨ at' s i = at' s 0) := by omega
              cases hr : readP s i with
              | none =>
                have HS := Lib.hid (unq_of_none (HF.out.symm.trans (unqF_fail hno hr)))
                have R := Lib.hid (read_none s (by omega) i hr)
                clear hq hno HF hr
                go_wp2_with (fail)
                go_quiet (fail)
                clear hq'
                go_wp2_with (fail)
                refine (R.out _).mono ?_
                rintro e w1 ⟨rfl, rfl⟩
                go_wp2
                go_ret2
                exact unq_none HS.out (below_drewN hb _)
              | some p =>
                obtain ⟨x, n⟩ := p
                have hp := readP_some hr
                have HS := Lib.hid ((unqF_step hno hr).symm.trans HF.out)
                have R := Lib.hid (read_some s (by omega) i hr)
                clear hq hno HF hr
                go_wp2_with (fail)
                go_quiet (fail)
                clear hq'
                go_wp2_with (fail)
                refine (R.out _).mono ?_
                rintro e w1 ⟨rfl, rfl⟩
                have HO1 := fun q => Lib.hid (own_below HO.out (below_drewN (Below.refl _ _) q))
                have hb1 := below_drewN hb
                go_wp2_with (at_builtin; refine app1 w.heap.size rfl _ _ 30 5 (.int .u8 0) 1 1 rfl Try.underlying30 Try.info5 rfl (by omega) (by omega) _ _ _ (HO1 _).out (hb1 _) _ rfl rfl rfl (by simp [Value.oneCell']) hb.size (by omega) ?_; intro v1 w2 hown2 hb3)
                rw [bytesV_snoc] at hown2
                go_roundw
                case rel => exact ⟨n, f, out ++ [x], by omega, by omega, by omega, by simp; omega, rfl, HS, by simpa using hown2, hb3⟩
                case measure => simp [intOf]; omega
          · obtain rfl : i = s.size := by omega
            have HE := Lib.hid (HF.out.symm.trans (unqF_stop (.inl (Nat.le_refl _))))
            clear HF
            go_wp2_with (fail)
            go_quiet (fail)
            have HS := Lib.hid (unq_of_bad HE.out (by omega))
            have he' : ((s.size : Int) != (s.size : Int) - 1) = true := by rw [bne_iff_ne]; omega
            go_wp2
            go_ret2
            exact unq_none HS.out (below_drewN hb _)
    · have HN := Lib.hid (show unq s = none by unfold unq; rw [if_pos (.inr (by omega))])
      have d1 : ((at' s 0 : Int) == 39) = false := by simp; omega
      have d2 : ((at' s 0 : Int) == 34) = false := by simp; omega
      have d3 : ((at' s 0 : Int) != 39) = true := by simp; omega
      have d4 : ((at' s 0 : Int) != 34) = true := by simp; omega
      clear c1
      go_enter Try.func14, Try.ntmps14
      go_wp2
      go_ret2
      exact unq_none HN.out (Below.refl _ _)
set_option maxRecDepth 20000 in
set_option maxHeartbeats 1600000 in
theorem refUnquote_any (s : ByteArray) (hs : s.size ≤ 1099511627776) (w : World) : Calls Try.prog 16 #[.string s] w (UnqRet s w) := by
  have hat : ∀ (i : Nat) (h : i < s.size), (s[i]).toNat = at' s i := fun i h => (at_lt h).symm
  by_cases c0 : s.size = 0
  · obtain rfl : s = ⟨#[]⟩ := by apply ByteArray.ext; exact Array.eq_empty_of_size_eq_zero c0
    have HN := Lib.hid (show unq ⟨#[]⟩ = none by unfold unq; rw [if_pos (.inl (by decide))])
    clear hat
    go_enter Try.func16, Try.ntmps16
    go_wp2
    go_ret2
    exact unq_none HN.out (Below.refl _ _)
  · have c0'' : 0 < s.size := by omega
    have z1 : ¬ s.toList = [] := fun h => c0 (by have := congrArg List.length h; rw [ByteArray.toList_eq, Array.length_toList] at this; exact this)
    have z0 : s.toList.isEmpty = false := by rw [Bool.eq_false_iff]; intro h; exact z1 (List.isEmpty_iff.1 h)
    by_cases c1 : at' s 0 = 39 ∨ at' s 0 = 34
    · have HQ := Lib.hid (show ¬(at' s 0 ≠ 39 ∧ at' s 0 ≠ 34) by omega)
      have c1' : ((at' s 0 : Int) != 39 && (at' s 0 : Int) != 34) = false := by rcases c1 with h | h <;> simp [h]
      clear c0
      go_enter Try.func16, Try.ntmps16
      rcases c1 with c1 | c1
      all_goals
        have C2 := Lib.hid c1
        go_wp2
        clear c1
        go_loopw [4, 5] (fun v j wr => ∃ (i f : Nat) (out : List Nat), i ≤ s.size ∧ 1 ≤ i ∧ s.size < f + i ∧ out.length + 1 ≤ i ∧ j = .int .i64 i ∧ Hid (unqF s f i out = unqF s (s.size + 1) 1 []) ∧ wr.ownsRow w.heap.size 5 1 v out.length (bytesV out) ∧ Below w.heap.size w wr) (fun _ j _ => s.size - (intOf j).toNat)
        case atStart => exact ⟨1, s.size + 1, [], by omega, by omega, by omega, by simp, rfl, rfl, own_nil _ _ _ _, Below.refl _ _⟩
        case round =>
          obtain ⟨i, f, out, hi1, hi2, hf, hol, rfl, HF, hown, hb⟩ := hrel
          obtain ⟨f, rfl⟩ : ∃ f', f = f' + 1 := ⟨f - 1, by omega⟩
          have HO := Lib.hid hown
          clear hown
          by_cases hlt : i < s.size
          · by_cases hq : at' s i = at' s 0
            · have hq' : ((at' s i : Int) != (at' s 0 : Int)) = false := by simp [hq]
              have HE := Lib.hid (HF.out.symm.trans (unqF_stop (.inr hq)))
              clear hq HF
              go_wp2_with (fail)
              go_quiet (fail)
              clear hq'
              by_cases he : i + 1 = s.size
              · have HS := Lib.hid (unq_of_some (by have := HQ.out; omega) HE.out he)
                have HI := Lib.hid he
                have he' : ((i : Int) + 1 != (s.size : Int)) = false := by simp; omega
                clear he
                go_wp2
                go_ret2
                exact unq_some HS.out (own_below HO.out (below_drewN (Below.refl _ _) _)) (below_drewN hb _)
              · have HS := Lib.hid (unq_of_bad HE.out he)
                have he' : ((i : Int) + 1 != (s.size : Int)) = true := by simp; omega
                clear he
                go_wp2
                go_ret2
                exact unq_none HS.out (below_drewN hb _)
            · have hq' : ((at' s i : Int) != (at' s 0 : Int)) = true := by simp; omega
              have hno : ¬(s.size ≤ i ∨ at' s i = at' s 0) := by omega
              cases hr : readP s i with
              | none =>
                have HS := Lib.hid (unq_of_none (HF.out.symm.trans (unqF_fail hno hr)))
                have R := Lib.hid (refRead_none s (by omega) i hr)
                clear hq hno HF hr
                go_wp2_with (fail)
                go_quiet (fail)
                clear hq'
                go_wp2_with (fail)
                refine (R.out _).mono ?_
                rintro e w1 ⟨rfl, hbr⟩
                go_wp2
                go_ret2
                exact unq_none HS.out ((below_drewN hb _).trans (hbr.mono hb.size))
              | some p =>
                obtain ⟨x, n⟩ := p
                have hp := readP_some hr
                have HS := Lib.hid ((unqF_step hno hr).symm.trans HF.out)
                have R := Lib.hid (refRead_some s (by omega) i hr)
                clear hq hno HF hr
                go_wp2_with (fail)
                go_quiet (fail)
                clear hq'
                go_wp2_with (fail)
                refine (R.out _).mono ?_
                rintro e w1 ⟨rfl, hbr⟩
                have HO1 := Lib.hid (own_below (own_below HO.out (below_drewN (Below.refl _ _) _)) hbr)
                have hb1 := (below_drewN hb _).trans (hbr.mono hb.size)
                go_wp2_with (at_builtin; refine app1 w.heap.size rfl _ _ 30 5 (.int .u8 0) 1 1 rfl Try.underlying30 Try.info5 rfl (by omega) (by omega) _ _ _ HO1.out hb1 _ rfl rfl rfl (by simp [Value.oneCell']) hb1.size (by omega) ?_; intro v1 w2 hown2 hb3)
                rw [bytesV_snoc] at hown2
                go_roundw
                case rel => exact ⟨n, f, out ++ [x], by omega, by omega, by omega, by simp; omega, rfl, HS, by simpa using hown2, hb3⟩
                case measure => simp [intOf]; omega
          · obtain rfl : i = s.size := by omega
            have HE := Lib.hid (HF.out.symm.trans (unqF_stop (.inl (Nat.le_refl _))))
            clear HF
            go_wp2_with (fail)
            go_quiet (fail)
            have HS := Lib.hid (unq_of_bad HE.out (by omega))
            have he' : ((s.size : Int) + 1 != (s.size : Int)) = true := by rw [bne_iff_ne]; omega
            go_wp2
            go_ret2
            exact unq_none HS.out (below_drewN hb _)
    · have HN := Lib.hid (show unq s = none by unfold unq; rw [if_pos (.inr (by omega))])
      have d1 : ((at' s 0 : Int) == 39) = false := by simp; omega
      have d2 : ((at' s 0 : Int) == 34) = false := by simp; omega
      have d3 : ((at' s 0 : Int) != 39) = true := by simp; omega
      have d4 : ((at' s 0 : Int) != 34) = true := by simp; omega
      clear c1
      go_enter Try.func16, Try.ntmps16
      go_wp2
      go_ret2
      exact unq_none HN.out (Below.refl _ _)
end Go.Proofs.Ytdeidhehdhijgaa
