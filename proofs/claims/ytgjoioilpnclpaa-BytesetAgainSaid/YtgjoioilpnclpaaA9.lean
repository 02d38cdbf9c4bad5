import Derived.Test.YtgjoioilpnclpaaA8
namespace Go.Proofs.Ytgjoioilpnclpaa
open Go.RowKit
def addRun (l : List (Nat × Nat)) (k : Nat) : List (Nat × Nat) :=
  match l.getLast? with
  | some (a, b) => if b + 1 = k then l.dropLast ++ [(a, k)] else l ++ [(k, k)]
  | none => l ++ [(k, k)]
/-- the runs of the members below k. -/
def runsTo (f : Nat → Nat) : Nat → List (Nat × Nat)
  | 0 => []
  | k + 1 => if mem f k = true then addRun (runsTo f k) k else runsTo f k
theorem runsTo_yes {f : Nat → Nat} {k : Nat} (h : mem f k = true) : runsTo f (k + 1) = addRun (runsTo f k) k := by simp [runsTo, h]
theorem runsTo_no {f : Nat → Nat} {k : Nat} (h : mem f k = false) : runsTo f (k + 1) = runsTo f k := by simp [runsTo, h]
theorem addRun_len (l : List (Nat × Nat)) (k : Nat) : (addRun l k).length ≤ l.length + 1 := by
  unfold addRun; split
  · split
    · simp
    · simp
  · simp
theorem runsTo_len (f : Nat → Nat) : ∀ k, (runsTo f k).length ≤ k
  | 0 => by simp [runsTo]
  | k + 1 => by
    have ih := runsTo_len f k
    simp only [runsTo]; split
    · exact Nat.le_trans (addRun_len _ _) (by omega)
    · omega
theorem runsTo_hi (f : Nat → Nat) : ∀ k, ∀ p ∈ runsTo f k, p.1 ≤ p.2 ∧ p.2 < k
  | 0, p, h => by simp [runsTo] at h
  | k + 1, p, h => by
    have ih := runsTo_hi f k
    simp only [runsTo] at h
    split at h
    · unfold addRun at h
      split at h
      · rename_i a b hl
        have hab := ih (a, b) (List.mem_of_getLast? hl)
        split at h
        · rcases List.mem_append.1 h with h | h
          · have := ih p (List.dropLast_subset _ h); omega
          · simp at h; subst h; simp only at *; omega
        · rcases List.mem_append.1 h with h | h
          · have := ih p h; omega
          · simp at h; subst h; simp
      · rcases List.mem_append.1 h with h | h
        · have := ih p h; omega
        · simp at h; subst h; simp
    · have := ih p h; omega
/-- a run begins behind a byte that is no member. -/
theorem runsTo_run (f : Nat → Nat) (c : Nat) (hc : c = 0 ∨ mem f (c - 1) = false) : ∀ d, c < d → (∀ i, c ≤ i → i < d → mem f i = true) → runsTo f d = runsTo f c ++ [(c, d - 1)] := by
  intro d hd hm
  induction d with
  | zero => omega
  | succ d ih =>
    rw [runsTo_yes (hm d (by omega) (by omega))]
    by_cases h : c = d
    · subst h
      have hlow : ∀ p ∈ runsTo f c, p.2 + 1 ≠ c := by
        intro p hp
        rcases hc with rfl | hc
        · simp [runsTo] at hp
        · cases c with
          | zero => simp [runsTo] at hp
          | succ c => rw [runsTo_no (by simpa using hc)] at hp; have := runsTo_hi f c p hp; omega
      unfold addRun
      split
      · rename_i a b hl
        rw [if_neg (hlow (a, b) (List.mem_of_getLast? hl))]; simp
      · simp
    · rw [ih (by omega) (fun i h1 h2 => hm i h1 (by omega))]
      unfold addRun
      simp only [List.getLast?_append, List.getLast?_singleton, Option.some_or, List.dropLast_concat]
      rw [if_pos (by omega)]; simp
def pairsV (l : List (Nat × Nat)) : List Value := l.flatMap fun p => [.int .u8 (p.1 : Nat), .int .u8 (p.2 : Nat)]
theorem pairsV_snoc (l : List (Nat × Nat)) (x y : Nat) : pairsV l ++ #[Value.int .u8 (x : Nat), Value.int .u8 (y : Nat)].toList = pairsV (l ++ [(x, y)]) := by simp [pairsV]
def Stop (f : Nat → Nat) (c : Nat) : Prop := c = 257 ∨ (c ≤ 256 ∧ (c = 0 ∨ mem f (c - 1) = false))
def rc (f : Nat → Nat) (c : Nat) : List (Nat × Nat) := runsTo f (min c 256)
theorem rc_len (f : Nat → Nat) (c : Nat) : (rc f c).length ≤ 256 := Nat.le_trans (runsTo_len _ _) (Nat.min_le_right _ _)
/-- what a round of the reference's loop does. -/
theorem rc_step (f : Nat → Nat) (c d : Nat) (hs : Stop f c) (hc : c < 256) (hcd : c ≤ d) (hd : d ≤ 256) (hm : ∀ i, c ≤ i → i < d → mem f i = true) (he : d = 256 ∨ mem f d = false) :
    Stop f (d + 1) ∧ (c < d → rc f (d + 1) = rc f c ++ [(c, d - 1)]) ∧ (¬ c < d → rc f (d + 1) = rc f c) := by
  have h0 : c = 0 ∨ mem f (c - 1) = false := by rcases hs with h | h; omega; exact h.2
  refine ⟨?_, fun h => ?_, fun h => ?_⟩
  · rcases he with rfl | he
    · exact .inl rfl
    · by_cases h : d = 256
      · exact .inl (by omega)
      · exact .inr ⟨by omega, .inr (by simpa using he)⟩
  · unfold rc
    rw [Nat.min_eq_left (show c ≤ 256 by omega), ← runsTo_run f c h0 d h hm]
    by_cases h2 : d = 256
    · subst h2; rfl
    · rw [Nat.min_eq_left (by omega), runsTo_no (by rcases he with he | he; omega; exact he)]
  · obtain rfl : c = d := by omega
    unfold rc
    rw [Nat.min_eq_left (by omega), Nat.min_eq_left (by omega), runsTo_no (by rcases he with he | he; omega; exact he)]
set_option maxRecDepth 20000 in
set_option maxHeartbeats 1600000 in
theorem refRuns_any (f : Nat → Nat) (hf : Wf f) (w : World) :
    Calls Try.prog 15 #[.agg (sc f)] w (RetOwn 32 2 (runsTo f 256).length (pairsV (runsTo f 256)) w) := by
  have hs := sc_size f
  go_enter Try.func15, Try.ntmps15
  go_wp2
  have H00 := Lib.hid (heap_alloc_new w (.cells (sc f) 24))
  have HB0 : Hid (Below w.heap.size w (w.alloc (.cells (sc f) 24))) := (Below.refl _ _).alloc (Nat.le_refl _) _
  generalize hW : w.alloc (.cells (sc f) 24) = W0 at *
  have hz0 : w.heap.size < W0.heap.size := (Array.getElem?_eq_some_iff.1 H00.out).1
  clear hW
  go_loopw [3, 4] (fun v j wr => ∃ c : Nat, c ≤ 257 ∧ Stop f c ∧ j = .int .i64 c ∧ wr.ownsRow W0.heap.size 32 2 v (rc f c).length (pairsV (rc f c)) ∧ Below W0.heap.size W0 wr) (fun _ j _ => 257 - (intOf j).toNat)
  case atStart => exact ⟨0, by omega, .inr ⟨by omega, .inl rfl⟩, rfl, own_nil _ _ _ _, Below.refl _ _⟩
  case round =>
    obtain ⟨c, hc, hst, rfl, hown, hb⟩ := hrel
    have HS := Lib.hid hst
    have HO := Lib.hid hown
    have hz := hb.size
    clear hown hst
    have hl := rc_len f c
    obtain ⟨wo, rfl⟩ : ∃ wo : World, wo = wr := ⟨_, rfl⟩
    by_cases hlt : c < 256
    · have hdc : decide ((c : Int) < 256) = true := by simp; omega
      go_wp2
      clear hdc
      go_loopw [5] (fun z wr => ∃ d : Nat, c ≤ d ∧ d ≤ 256 ∧ z = .int .i64 d ∧ Hid (∀ i, c ≤ i → i < d → mem f i = true) ∧ Below wo.heap.size wo wr) (fun j _ => 257 - (intOf j).toNat)
      case atStart => exact ⟨c, by omega, by omega, rfl, fun i h1 h2 => by omega, Below.refl _ _⟩
      case round =>
        obtain ⟨d, hcd, hd, rfl, hm, hb1⟩ := hrel
        have hz1 := hb1.size
        have hb2 := hb.trans (hb1.mono hz)
        have HO1 := Lib.hid (own_below HO.out hb1)
        by_cases hlt2 : d < 256
        · obtain ⟨⟨a0, a1, a2, a3⟩, -⟩ := row4 ((hb2.block _ hz0).trans H00.out)
          cases hmd : mem f d
          · have hc1 := refHas_any f d hf (by omega)
            rw [hmd] at hc1
            have HC := Lib.hid hc1
            obtain ⟨s1, s2, s3⟩ := rc_step f c d HS.out hlt hcd hd hm.out (.inr hmd)
            have S2 := Lib.hid s2
            have S3 := Lib.hid s3
            clear hmd hc1 s2 s3
            by_cases hgt : c < d
            · go_wp2_with (first | (go_at_call 10; refine (HC.out _).mono ?_; rintro e w1 ⟨rfl, hb3⟩; have HO2 := Lib.hid (own_below HO1.out hb3); have hb4 := hb2.trans (hb3.mono (by omega)); have hz3 := hb3.size) | (at_builtin; refine app1 W0.heap.size rfl _ _ 30 32 (.agg #[.int .u8 0, .int .u8 0]) 2 2 rfl Try.underlying30 Try.info32 rfl (by omega) (by omega) _ _ _ HO2.out hb4 _ rfl rfl rfl (by simp [Value.oneCell']) (by omega) (by omega) ?_; intro v1 w2 hown2 hb5))
              rw [show ((d : Int) - 1) = ((d - 1 : Nat) : Int) from by omega, pairsV_snoc, ← S2.out hgt] at hown2
              go_roundw
              case rel => exact ⟨d + 1, by omega, s1, by go_num, by rw [show (rc f (d + 1)).length = (rc f c).length + 1 from by rw [S2.out hgt, List.length_append]; rfl]; exact hown2, hb5⟩
              case measure => simp [intOf]; omega
            · go_wp2_with (go_at_call 10; refine (HC.out _).mono ?_; rintro e w1 ⟨rfl, hb3⟩; have HO2 := Lib.hid (own_below HO1.out hb3); have hb4 := hb2.trans (hb3.mono (by omega)); have hz3 := hb3.size)
              go_roundw
              case rel => exact ⟨d + 1, by omega, s1, by go_num, by rw [S3.out hgt]; exact HO2.out, hb4⟩
              case measure => simp [intOf]; omega
          · have hc1 := refHas_any f d hf (by omega)
            rw [hmd] at hc1
            have HC := Lib.hid hc1
            have HMD := Lib.hid hmd
            clear hmd hc1
            go_wp2_with (go_at_call 10; refine (HC.out _).mono ?_; rintro e w1 ⟨rfl, hb3⟩; have HO2 := Lib.hid (own_below HO1.out hb3); have hb4 := hb2.trans (hb3.mono (by omega)); have hz3 := hb3.size)
            go_roundw
            case rel =>
              have hrel' : ∃ d_1 : Nat, c ≤ d_1 ∧ d_1 ≤ 256 ∧ Value.int IntKind.i64 ((d : Int) + 1) = .int .i64 d_1 ∧ Hid (∀ i, c ≤ i → i < d_1 → mem f i = true) ∧ Below wo.heap.size wo w1 :=
                ⟨d + 1, by omega, by omega, by go_num, fun i h1 h2 => by by_cases e : i = d; exact e ▸ HMD.out; exact hm.out i h1 (by omega), hb1.trans (hb3.mono hz1)⟩
              exact hrel'
            case measure => simp [intOf]; omega
        · obtain rfl : d = 256 := by omega
          obtain ⟨s1, s2, s3⟩ := rc_step f c 256 HS.out hlt hcd hd hm.out (.inl rfl)
          have S2 := Lib.hid (s2 hlt)
          clear s2 s3
          go_wp2_with (at_builtin; refine app1 W0.heap.size rfl _ _ 30 32 (.agg #[.int .u8 0, .int .u8 0]) 2 2 rfl Try.underlying30 Try.info32 rfl (by omega) (by omega) _ _ _ HO1.out hb2 _ rfl rfl rfl (by simp [Value.oneCell']) (by omega) (by omega) ?_; intro v1 w2 hown2 hb5)
          rw [show ((255 : Int)) = ((256 - 1 : Nat) : Int) from by omega, pairsV_snoc, ← S2.out] at hown2
          go_roundw
          case rel => exact ⟨257, by omega, s1, by go_num, by rw [show (rc f 257).length = (rc f c).length + 1 from by rw [show rc f 257 = _ from S2.out, List.length_append]; rfl]; exact hown2, hb5⟩
          case measure => simp [intOf]; omega
    · have hrc : rc f c = runsTo f 256 := by unfold rc; rw [Nat.min_eq_right (by omega)]
      have HRC := Lib.hid hrc
      clear hrc
      go_wp2
      go_ret
      exact ⟨_, rfl, own_mono (by rw [← HRC.out]; exact HO.out) (by omega), HB0.out.trans (hb.mono (by omega))⟩
end Go.Proofs.Ytgjoioilpnclpaa
