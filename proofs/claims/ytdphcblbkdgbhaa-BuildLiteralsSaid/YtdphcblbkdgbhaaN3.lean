import Derived.Test.YtdphcblbkdgbhaaN2
import Derived.Test.YtdphcblbkdgbhaaG3
namespace Go.Proofs.Ytdphcblbkdgbhaa
open Go.RowKit
attribute [local go_sem] Oper.semAt_some
set_option maxRecDepth 20000 in
set_option maxHeartbeats 6400000 in
theorem sameItems_any (l m : List It) (la ma : Option Addr) (lc mc : Nat) (w : World) (hl : l.length ≤ 100000) (hm : m.length ≤ 100000) (L : ItsAt w la l) (M : ItsAt w ma m) :
    Calls Try.prog 24 #[.slice la l.length lc, .slice ma m.length mc] w fun e w' => e = .returned (.bool (decide (l = m))) ∧ Below w.heap.size w w' := by
  have geq := guardIt
  have HL := Lib.hid L
  have HM := Lib.hid M
  clear L M
  have HB0 : Hid (Below w.heap.size w w) := Below.refl _ _
  by_cases c0 : l.length = m.length
  · have d0 : ((l.length : Int) != (m.length : Int)) = false := by simp; omega
    have C0 := Lib.hid c0
    clear c0
    go_enter Try.func24, Try.ntmps24
    go_wp2_with (fail)
    clear d0
    have HT0 : Hid (l.take 0 = m.take 0) := rfl
    go_loopw [5] (fun j wr => ∃ k : Nat, k ≤ l.length ∧ j = .int .i64 k ∧ Hid (l.take k = m.take k) ∧ Hid (Below w.heap.size w wr)) (fun j _ => l.length - (intOf j).toNat)
    case atStart => exact ⟨0, Nat.zero_le _, rfl, HT0, HB0⟩
    case round =>
      obtain ⟨k, hk, rfl, HP, HB⟩ := hrel
      clear HB0 HT0
      by_cases hlt : k < l.length
      · have hlt' : k < m.length := by have := C0.out; omega
        obtain ⟨b, off, rfl, hz0, h0, h1, h2, h3, h4, h5, h6⟩ := HL.out.get HB k hlt
        obtain ⟨b', off', rfl, hz1, g0, g1, g2, g3, g4, g5, g6⟩ := HM.out.get HB k hlt'
        by_cases he : l[k] = m[k]
        · have HN : Hid (l.take (k + 1) = m.take (k + 1)) := take_snoc_eq hlt hlt' he HP.out
          have er := fun W => (eqIt l[k] m[k] W).trans (by rw [decide_eq_true he])
          clear he
          generalize l[k] = x at *
          generalize m[k] = y at *
          go_wp2_with (fail)
          go_quiet (fail)
          clear er
          go_wp2
          go_roundw
          case rel => exact ⟨k + 1, by omega, by go_num, HN, below_drewN HB.out _⟩
          case measure => simp [intOf]; omega
        · have HN : Hid (decide (l = m) = false) := decide_eq_false fun e => ne_of_get hlt hlt' he e
          have er := fun W => (eqIt l[k] m[k] W).trans (by rw [decide_eq_false he])
          clear he
          generalize l[k] = x at *
          generalize m[k] = y at *
          go_wp2_with (fail)
          go_quiet (fail)
          clear er
          go_wp2
          go_ret
          exact ⟨ret_bool (by rw [HN.out]), below_drewN HB.out _⟩
      · obtain rfl : k = l.length := by omega
        have HX : Hid (decide (l = m) = true) := decide_eq_true (by
          have := HP.out
          rwa [List.take_length, C0.out, List.take_length] at this)
        clear HP
        go_wp2
        go_ret
        exact ⟨ret_bool (by rw [HX.out]), HB.out⟩
  · have HX : Hid (decide (l = m) = false) := decide_eq_false fun e => c0 (by rw [e])
    have d0 : ((l.length : Int) != (m.length : Int)) = true := by simp; omega
    go_enter Try.func24, Try.ntmps24
    go_wp2_with (fail)
    go_ret
    exact ⟨ret_bool (by rw [HX.out]), HB0.out⟩
set_option maxRecDepth 20000 in
set_option maxHeartbeats 6400000 in
theorem rsame_any (l m : List Rs) (la ma : Option Addr) (lc mc : Nat) (w : World) (hl : l.length ≤ 100000) (hm : m.length ≤ 100000) (hli : ∀ r ∈ l, r.items.length ≤ 100000) (hmi : ∀ r ∈ m, r.items.length ≤ 100000) (L : RsAt w la l) (M : RsAt w ma m) :
    Calls Try.prog 16 #[.slice la l.length lc, .slice ma m.length mc] w fun e w' => e = .returned (.bool (decide (l = m))) ∧ Below w.heap.size w w' := by
  have HL := Lib.hid L
  have HM := Lib.hid M
  have HLI := Lib.hid hli
  have HMI := Lib.hid hmi
  clear L M hli hmi
  have HB0 : Hid (Below w.heap.size w w) := Below.refl _ _
  by_cases c0 : l.length = m.length
  · have d0 : ((l.length : Int) != (m.length : Int)) = false := by simp; omega
    have C0 := Lib.hid c0
    clear c0
    go_enter Try.func16, Try.ntmps16
    go_wp2_with (fail)
    clear d0
    have HT0 : Hid (l.take 0 = m.take 0) := rfl
    go_loopw [5] (fun j wr => ∃ k : Nat, k ≤ l.length ∧ j = .int .i64 k ∧ Hid (l.take k = m.take k) ∧ Hid (Below w.heap.size w wr)) (fun j _ => l.length - (intOf j).toNat)
    case atStart => exact ⟨0, Nat.zero_le _, rfl, HT0, HB0⟩
    case round =>
      obtain ⟨k, hk, rfl, HP, HB⟩ := hrel
      clear HB0 HT0
      by_cases hlt : k < l.length
      · have hlt' : k < m.length := by have := C0.out; omega
        obtain ⟨b, off, ka, kc, rfl, hz0, h0, h1, HI⟩ := HL.out.get HB k hlt
        obtain ⟨b', off', ka', kc', rfl, hz1, g0, g1, HJ⟩ := HM.out.get HB k hlt'
        have hi1 := HLI.out _ (List.getElem_mem hlt)
        have hi2 := HMI.out _ (List.getElem_mem hlt')
        have HEQ : Hid (l[k] = m[k] → l.take (k + 1) = m.take (k + 1)) := fun he => take_snoc_eq hlt hlt' he HP.out
        have HNE : Hid (l[k] ≠ m[k] → decide (l = m) = false) := fun he => decide_eq_false fun e => ne_of_get hlt hlt' he e
        generalize l[k] = x at *
        generalize m[k] = y at *
        obtain ⟨nx, ix⟩ := x
        obtain ⟨ny, iy⟩ := y
        simp only at h0 h1 g0 g1 hi1 hi2 HI HJ
        by_cases hn : nx = ny
        · have dn : (nx.toList == ny.toList) = true := by rw [hn]; simp
          by_cases hi : ix = iy
          · have HN : Hid (l.take (k + 1) = m.take (k + 1)) := HEQ.out (by rw [hn, hi])
            have C := Lib.hid (fun W (hB : Below w.heap.size w W) => (sameItems_any ix iy ka ka' kc kc' W hi1 hi2 (HI.out.below hB) (HJ.out.below hB)).mono (fun e w' h => by rw [decide_eq_true hi] at h; exact h))
            clear hn hi HEQ HNE
            go_upto_region 6 with (fail)
            have x0 := fun e => ext_cell h0 e
            have x1 := fun e => ext_cell h1 e
            have x2 := fun e => ext_cell g0 e
            have x3 := fun e => ext_cell g1 e
            refine wp_region_ext (by kernel_rfl) (by kernel_rfl) ?_
            repeat (go_big_quiet_step (with_reducible rfl))
            go_big_quiet_step (exact ext_call (C.out _ (HB.out.trans ((ExtOf.ok _).mono HB.out.size))))
            repeat (go_big_quiet_step (with_reducible rfl))
            refine wpQuiet_nil ?_
            rintro w2 ⟨⟨w2, hb⟩, rfl⟩
            have B2 := Lib.hid (HB.out.trans (hb.mono HB.out.size))
            clear x0 x1 x2 x3 hb h0 h1 g0 g1
            go_wp2_with (fail)
            go_roundw
            case rel => exact ⟨k + 1, by omega, by go_num, HN, B2⟩
            case measure => simp [intOf]; omega
          · have HN : Hid (decide (l = m) = false) := HNE.out (fun e => hi (by injection e))
            have C := Lib.hid (fun W (hB : Below w.heap.size w W) => (sameItems_any ix iy ka ka' kc kc' W hi1 hi2 (HI.out.below hB) (HJ.out.below hB)).mono (fun e w' h => by rw [decide_eq_false hi] at h; exact h))
            clear hn hi HEQ HNE
            go_upto_region 6 with (fail)
            have x0 := fun e => ext_cell h0 e
            have x1 := fun e => ext_cell h1 e
            have x2 := fun e => ext_cell g0 e
            have x3 := fun e => ext_cell g1 e
            refine wp_region_ext (by kernel_rfl) (by kernel_rfl) ?_
            repeat (go_big_quiet_step (with_reducible rfl))
            go_big_quiet_step (exact ext_call (C.out _ (HB.out.trans ((ExtOf.ok _).mono HB.out.size))))
            repeat (go_big_quiet_step (with_reducible rfl))
            refine wpQuiet_nil ?_
            rintro w2 ⟨⟨w2, hb⟩, rfl⟩
            have B2 := Lib.hid (HB.out.trans (hb.mono HB.out.size))
            clear x0 x1 x2 x3 hb h0 h1 g0 g1
            go_wp2_with (fail)
            go_ret
            exact ⟨ret_bool (by rw [HN.out]), B2.out⟩
        · have dn : (nx.toList == ny.toList) = false := by rw [bytes_beq]; exact decide_eq_false hn
          have HN : Hid (decide (l = m) = false) := HNE.out (fun e => hn (by injection e))
          clear hn HEQ HNE
          go_upto_region 6 with (fail)
          go_quiet (fail)
          go_wp2
          go_ret
          exact ⟨ret_bool (by rw [HN.out]), below_drewN HB.out _⟩
      · obtain rfl : k = l.length := by omega
        have HX : Hid (decide (l = m) = true) := decide_eq_true (by
          have := HP.out
          rwa [List.take_length, C0.out, List.take_length] at this)
        clear HP
        go_wp2
        go_ret
        exact ⟨ret_bool (by rw [HX.out]), HB.out⟩
  · have HX : Hid (decide (l = m) = false) := decide_eq_false fun e => c0 (by rw [e])
    have d0 : ((l.length : Int) != (m.length : Int)) = true := by simp; omega
    go_enter Try.func16, Try.ntmps16
    go_wp2_with (fail)
    go_ret
    exact ⟨ret_bool (by rw [HX.out]), HB0.out⟩
end Go.Proofs.Ytdphcblbkdgbhaa
