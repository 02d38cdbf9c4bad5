import Derived.Test.YtgjoioilpnclpaaA7
namespace Go.Proofs.Ytgjoioilpnclpaa
open Go.RowKit
/-- a call hands back a slice of its own. -/
def RetOwn (e : TypeId) (size n : Nat) (l : List Value) (w : World) (en : Ending) (w' : World) : Prop :=
  ∃ v, en = .returned v ∧ w'.ownsRow w.heap.size e size v n l ∧ Below w.heap.size w w'
def bytesV (l : List Nat) : List Value := l.map fun x => .int .u8 (x : Nat)
def memsTo (f : Nat → Nat) (k : Nat) : List Nat := (List.range k).filter (mem f)
theorem memsTo_yes {f : Nat → Nat} {k : Nat} (h : mem f k = true) : memsTo f (k + 1) = memsTo f k ++ [k] := by
  unfold memsTo; rw [List.range_succ, List.filter_append]; simp [h]
theorem memsTo_no {f : Nat → Nat} {k : Nat} (h : mem f k = false) : memsTo f (k + 1) = memsTo f k := by
  unfold memsTo; rw [List.range_succ, List.filter_append]; simp [h]
theorem memsTo_le (f : Nat → Nat) (k : Nat) : (memsTo f k).length ≤ k := by
  unfold memsTo; exact Nat.le_trans (List.length_filter_le _ _) (by simp)
theorem bytesV_snoc (l : List Nat) (x : Nat) : bytesV l ++ #[Value.int .u8 (x : Nat)].toList = bytesV (l ++ [x]) := by simp [bytesV]
theorem own_below {w w1 : World} {base : Nat} {e : TypeId} {size n : Nat} {v : Value} {xs : List Value} (h : w.ownsRow base e size v n xs) (hb : Below w.heap.size w w1) : w1.ownsRow base e size v n xs := by
  rcases h with ⟨h1, h2 | ⟨g, cap, cur, hv, hg, hh, r⟩⟩
  · exact ⟨h1, .inl h2⟩
  · exact ⟨h1, .inr ⟨g, cap, cur, hv, hg, (hb.block _ (Array.getElem?_eq_some_iff.1 hh).1).trans hh, r⟩⟩
theorem own_mono {w : World} {base base' : Nat} {e : TypeId} {size n : Nat} {v : Value} {xs : List Value} (h : w.ownsRow base e size v n xs) (hb : base' ≤ base) : w.ownsRow base' e size v n xs := by
  rcases h with ⟨h1, h2 | ⟨g, cap, cur, hv, hg, r⟩⟩
  · exact ⟨h1, .inl h2⟩
  · exact ⟨h1, .inr ⟨g, cap, cur, hv, by omega, r⟩⟩
set_option maxRecDepth 20000 in
set_option maxHeartbeats 800000 in
theorem refBytes_any (f : Nat → Nat) (hf : Wf f) (w : World) :
    Calls Try.prog 12 #[.agg (sc f)] w (RetOwn 5 1 (memsTo f 256).length (bytesV (memsTo f 256)) w) := by
  have hs := sc_size f
  go_enter Try.func12, Try.ntmps12
  go_wp2
  have H00 := Lib.hid (heap_alloc_new w (.cells (sc f) 24))
  have HB0 : Hid (Below w.heap.size w (w.alloc (.cells (sc f) 24))) := (Below.refl _ _).alloc (Nat.le_refl _) _
  generalize hW : w.alloc (.cells (sc f) 24) = W0 at *
  have hz0 : w.heap.size < W0.heap.size := (Array.getElem?_eq_some_iff.1 H00.out).1
  clear hW
  go_loopw [3, 4] (fun v j wr => ∃ k : Nat, k ≤ 256 ∧ j = .int .i64 k ∧ wr.ownsRow W0.heap.size 5 1 v (memsTo f k).length (bytesV (memsTo f k)) ∧ Below W0.heap.size W0 wr) (fun _ j _ => 256 - (intOf j).toNat)
  case atStart => exact ⟨0, by omega, rfl, own_nil _ _ _ _, Below.refl _ _⟩
  case round =>
    obtain ⟨k, hk, rfl, hown, hb⟩ := hrel
    have HO := Lib.hid hown
    have hz := hb.size
    clear hown
    have hl := memsTo_le f k
    by_cases hlt : k < 256
    · obtain ⟨⟨a0, a1, a2, a3⟩, -⟩ := row4 ((hb.block _ hz0).trans H00.out)
      by_cases hm : mem f k = true
      · have HM := Lib.hid hm
        have hc := refHas_any f k hf (by omega)
        rw [hm] at hc
        have HC := Lib.hid hc
        clear hm hc
        go_wp2_with (first | (go_at_call 10; refine (HC.out _).mono ?_; rintro e w1 ⟨rfl, hb1⟩; have HO1 := Lib.hid (own_below HO.out hb1); have hb2 := hb.trans (hb1.mono hz); have hz1 := hb1.size) | (at_builtin; refine app1 W0.heap.size rfl _ _ 27 5 (.int .u8 0) 1 1 rfl Try.underlying27 Try.info5 rfl (by omega) (by omega) _ _ _ HO1.out hb2 _ rfl rfl rfl (by simp [Value.oneCell']) (by omega) (by omega) ?_; intro v1 w2 hown2 hb3))
        rw [bytesV_snoc, ← memsTo_yes HM.out] at hown2
        go_roundw
        case rel => exact ⟨k + 1, by omega, by go_num, by rw [memsTo_yes HM.out, List.length_append, ← memsTo_yes HM.out]; exact hown2, hb3⟩
        case measure => simp [intOf]; omega
      · have hm' : mem f k = false := by simpa using hm
        have HM := Lib.hid hm'
        have hc := refHas_any f k hf (by omega)
        rw [hm'] at hc
        have HC := Lib.hid hc
        clear hm hm' hc
        go_wp2_with (go_at_call 10; refine (HC.out _).mono ?_; rintro e w1 ⟨rfl, hb1⟩; have HO1 := Lib.hid (own_below HO.out hb1); have hb2 := hb.trans (hb1.mono hz))
        go_roundw
        case rel => exact ⟨k + 1, by omega, by go_num, by rw [memsTo_no HM.out]; exact HO1.out, hb2⟩
        case measure => simp [intOf]; omega
    · obtain rfl : k = 256 := by omega
      go_wp2
      go_ret
      exact ⟨_, rfl, own_mono HO.out (by omega), HB0.out.trans (hb.mono (by omega))⟩
theorem mems_ones (f : Nat → Nat) (j n : Nat) (hn : n ≤ 64) : (memsTo f (64 * j + n)).length = (memsTo f (64 * j)).length + Pop.ones (f j) n := by
  induction n with
  | zero => simp [Pop.ones]
  | succ n ih =>
    have ih := ih (by omega)
    have hm : mem f (64 * j + n) = decide (f j / 2 ^ n % 2 = 1) := by
      unfold mem
      rw [show (64 * j + n) / 64 = j by omega, show (64 * j + n) % 64 = n by omega, Nat.testBit_eq_decide_div_mod_eq]
    simp only [Pop.ones]
    rw [show 64 * j + (n + 1) = (64 * j + n) + 1 from rfl]
    cases h : mem f (64 * j + n)
    · rw [memsTo_no h]; rw [h] at hm; have : ¬ f j / 2 ^ n % 2 = 1 := by simpa using hm.symm
      omega
    · rw [memsTo_yes h, List.length_append]; rw [h] at hm; have : f j / 2 ^ n % 2 = 1 := by simpa using hm.symm
      simp only [List.length_cons, List.length_nil]; omega
def cntTo (f : Nat → Nat) (k : Nat) : Nat := (memsTo f (64 * k)).length
theorem cntTo_succ (f : Nat → Nat) (k : Nat) : cntTo f (k + 1) = cntTo f k + Pop.ones (f k) 64 := by
  have := mems_ones f k 64 (by omega)
  unfold cntTo; rw [show 64 * (k + 1) = 64 * k + 64 by omega, this]
theorem cntTo_le (f : Nat → Nat) (k : Nat) : cntTo f k ≤ 64 * k := memsTo_le f _
set_option maxHeartbeats 800000 in
theorem count_any (f : Nat → Nat) (hf : Wf f) (w : World) :
    Calls Try.prog 13 #[.agg (sc f)] w fun e w' => e = .returned (.int .i64 ((memsTo f 256).length : Nat)) ∧ Below w.heap.size w w' := by
  have hs := sc_size f
  have H00 := Lib.hid (heap_alloc_new w (.cells (sc f) 24))
  have HB0 : Hid (Below w.heap.size w (w.alloc (.cells (sc f) 24))) := (Below.refl _ _).alloc (Nat.le_refl _) _
  obtain ⟨⟨a0, a1, a2, a3⟩, -⟩ := row4 H00.out
  go_enter Try.func13, Try.ntmps13
  go_wp2
  generalize hW : w.alloc (.cells (sc f) 24) = W0 at *
  clear hW
  go_loopw [3, 7] (fun n j wr => ∃ k c : Nat, k ≤ 4 ∧ j = .int .i64 k ∧ n = .int .i64 c ∧ Hid (c = cntTo f k) ∧ wr = W0) (fun _ j _ => 4 - (intOf j).toNat)
  case atStart => exact ⟨0, 0, by omega, rfl, rfl, rfl, rfl⟩
  case round =>
    obtain ⟨k, c, hk, rfl, rfl, hc, rfl⟩ := hrel
    have hcl : c ≤ 256 := by rw [hc.out]; exact Nat.le_trans (cntTo_le f k) (by omega)
    by_cases hlt : k < 4
    · have hi : ∀ W : World, (Instr.index 24 (.agg #[.int .u64 (f 0), .int .u64 (f 1), .int .u64 (f 2), .int .u64 (f 3)]) (.int .i64 (k : Int))).run Try.prog W = .ok (.int .u64 (f k)) W := by
        have h4 : k = 0 ∨ k = 1 ∨ k = 2 ∨ k = 3 := by omega
        rcases h4 with rfl | rfl | rfl | rfl <;> exact fun _ => by kernel_rfl
      have hn : Hid (c + Pop.ones (f k) 64 = cntTo f (k + 1)) := by rw [hc.out]; exact (cntTo_succ f k).symm
      have hn2 : Pop.ones (f k) 64 ≤ 256 := by have := cntTo_le f (k + 1); have := hn.out; omega
      generalize hq : Pop.ones (f k) 64 = q at *
      have HC := Lib.hid (ones_any (f k) (hf k hlt))
      rw [hq] at HC
      clear hq
      go_wp2_with (go_at_call 25; refine (HC.out _).mono ?_; rintro e w1 ⟨rfl, rfl⟩)
      go_roundw
      case rel => exact ⟨k + 1, c + q, by omega, by go_num, by go_num, hn, trivial⟩
      case measure => simp [intOf]; omega
    · obtain rfl : k = 4 := by omega
      go_wp2
      go_ret
      refine ⟨?_, HB0.out⟩
      show Ending.returned (Value.int .i64 (c : Int)) = _
      rw [hc.out]; rfl
end Go.Proofs.Ytgjoioilpnclpaa
