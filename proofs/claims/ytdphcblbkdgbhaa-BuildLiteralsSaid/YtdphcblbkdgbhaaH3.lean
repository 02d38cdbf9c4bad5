import Derived.Test.YtdphcblbkdgbhaaH2
namespace Go.Proofs.Ytdphcblbkdgbhaa
open Go.RowKit
set_option maxRecDepth 20000 in
set_option maxHeartbeats 1600000 in
theorem valid_any (g : Gr) (ra na : Option Addr) (rc nc : Nat) (w : World) (hF : fewB g = true) (R : RlsAt w ra g.rules) (N : NdsAt w na g.nodes) :
    Calls Try.prog 19 #[.agg #[.slice ra g.rules.length rc, .slice na g.nodes.length nc]] w fun e w' => e = .returned (.bool (validB g)) ∧ Below w.heap.size w w' := by
  have HB0 : Hid (Below w.heap.size w (w.alloc (.cells #[.slice ra g.rules.length rc, .slice na g.nodes.length nc] 36))) := (Below.refl _ _).alloc (Nat.le_refl _) _
  have C := Lib.hid (check_any g ra na rc nc _ hF (R.below HB0.out) (N.below HB0.out))
  clear hF
  go_enter Try.func19, Try.ntmps19
  go_wp2_with (fail)
  refine (C.out).mono ?_
  rintro e w1 ⟨s, c, i, rfl, hc, hb⟩
  have B1 := Lib.hid (HB0.out.trans (hb.mono HB0.out.size))
  clear hb
  by_cases h0 : c = 0
  · have HV := Lib.hid (hc.1 h0)
    subst h0
    clear hc
    go_wp2
    go_ret
    exact ⟨ret_bool (by rw [HV.out]), B1.out⟩
  · have HV : Hid (validB g = false) := by
      show _ = _
      rw [Bool.eq_false_iff]; exact fun h => h0 (hc.2 h)
    have d0 : ((c : Int) == 0) = false := by simpa using h0
    clear hc h0
    go_wp2
    go_ret
    exact ⟨ret_bool (by rw [HV.out]), B1.out⟩
set_option maxRecDepth 20000 in
set_option maxHeartbeats 1600000 in
theorem small_any (g : Gr) (ra na : Option Addr) (rc nc : Nat) (w : World) (hr : g.rules.length ≤ 140737488355328) (hn : g.nodes.length ≤ 140737488355328) (R : RlsAt w ra g.rules) (N : NdsAt w na g.nodes) :
    Calls Try.prog 14 #[.agg #[.slice ra g.rules.length rc, .slice na g.nodes.length nc]] w fun e w' => e = .returned (.bool (smallB g)) ∧ Below w.heap.size w w' := by
  have HB0 : Hid (Below w.heap.size w (w.alloc (.cells #[.slice ra g.rules.length rc, .slice na g.nodes.length nc] 36))) := (Below.refl _ _).alloc (Nat.le_refl _) _
  have C := Lib.hid (few_any g ra na rc nc _ hr hn (R.below HB0.out) (N.below HB0.out))
  have hS : Hid (smallB g = (fewB g && validB g)) := rfl
  have v0 : (w.alloc (.cells #[.slice ra g.rules.length rc, .slice na g.nodes.length nc] 36)).cell? ⟨w.heap.size, 0, none⟩ = some (.slice ra g.rules.length rc) := by go_simp
  have v1 : (w.alloc (.cells #[.slice ra g.rules.length rc, .slice na g.nodes.length nc] 36)).cell? ⟨w.heap.size, 1, none⟩ = some (.slice na g.nodes.length nc) := by go_simp
  go_enter Try.func14, Try.ntmps14
  cases hq : fewB g
  · rw [hq] at C
    have HQ := Lib.hid hq
    clear hq
    go_wp2_with (fail)
    refine (C.out).mono ?_
    rintro e w1 ⟨rfl, hb⟩
    have B1 := Lib.hid (HB0.out.trans (hb.mono HB0.out.size))
    clear hb
    go_wp2
    go_ret
    exact ⟨ret_bool (by rw [hS.out, HQ.out]; rfl), B1.out⟩
  · rw [hq] at C
    have HQ := Lib.hid hq
    clear hq
    go_wp2_with (fail)
    refine (C.out).mono ?_
    rintro e w1 ⟨rfl, hb⟩
    have B1 := Lib.hid (HB0.out.trans (hb.mono HB0.out.size))
    have C2 := Lib.hid (valid_any g ra na rc nc w1 HQ.out (R.below B1.out) (N.below B1.out))
    have u0 := cell_keep hb v0
    have u1 := cell_keep hb v1
    clear hb v0 v1
    go_wp2_with (fail)
    refine (C2.out).mono ?_
    rintro e w2 ⟨rfl, hb⟩
    have B2 := Lib.hid (B1.out.trans (hb.mono B1.out.size))
    clear hb
    go_wp2
    go_ret
    exact ⟨ret_bool (by rw [hS.out, HQ.out]; rfl), B2.out⟩
end Go.Proofs.Ytdphcblbkdgbhaa
