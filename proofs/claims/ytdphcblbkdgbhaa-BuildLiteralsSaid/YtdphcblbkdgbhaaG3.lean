import Derived.Test.YtdphcblbkdgbhaaG2
namespace Go.Proofs.Ytdphcblbkdgbhaa
open Go.RowKit
def sameB (g h : Gr) : Bool := decide (g = h)
theorem take_snoc_eq {α : Type} {l m : List α} {k : Nat} (h1 : k < l.length) (h2 : k < m.length) (he : l[k] = m[k]) (ht : l.take k = m.take k) : l.take (k + 1) = m.take (k + 1) := by
  rw [List.take_succ_eq_append_getElem h1, List.take_succ_eq_append_getElem h2, ht, he]
theorem ne_of_get {α : Type} {l m : List α} {k : Nat} (h1 : k < l.length) (h2 : k < m.length) (he : l[k] ≠ m[k]) : l ≠ m := by
  intro e; subst e; exact he rfl
theorem wrap_in {i : Int} (h0 : -9223372036854775808 ≤ i) (h1 : i ≤ 9223372036854775807) : IntKind.i64.wrap i = i := IntWalk.i64_in _ ⟨h0, h1⟩
set_option maxRecDepth 20000 in
set_option maxHeartbeats 3200000 in
theorem same_any (g h : Gr) (ra na rb nb : Option Addr) (rc nc rd nd : Nat) (w : World) (hr : g.rules.length ≤ 140737488355328) (hn : g.nodes.length ≤ 140737488355328) (hkk : ∀ x ∈ g.nodes, x.kids.length ≤ 140737488355328)
    (R : RlsAt w ra g.rules) (N : NdsAt w na g.nodes) (R' : RlsAt w rb h.rules) (N' : NdsAt w nb h.nodes) :
    Calls Try.prog 13 #[.agg #[.slice ra g.rules.length rc, .slice na g.nodes.length nc], .agg #[.slice rb h.rules.length rd, .slice nb h.nodes.length nd]] w fun e w' => e = .returned (.bool (sameB g h)) ∧ Below w.heap.size w w' := by
  have geq := guardRl
  have geq2 := guardSet
  by_cases c0 : g.rules.length = h.rules.length
  · by_cases c1 : g.nodes.length = h.nodes.length
    · have d0 : ((g.rules.length : Int) != (h.rules.length : Int)) = false := by simp; omega
      have d1 : ((g.nodes.length : Int) != (h.nodes.length : Int)) = false := by simp; omega
      have C0 := Lib.hid c0
      have C1 := Lib.hid c1
      have hr' : h.rules.length ≤ 140737488355328 := by omega
      have hn' : h.nodes.length ≤ 140737488355328 := by omega
      clear c0 c1
      go_enter Try.func13, Try.ntmps13
      go_wp2
      have HB0 : Hid (Below w.heap.size w ((w.alloc (.cells #[.slice ra g.rules.length rc, .slice na g.nodes.length nc] 36)).alloc (.cells #[.slice rb h.rules.length rd, .slice nb h.nodes.length nd] 36))) := ((Below.refl _ _).alloc (Nat.le_refl _) _).alloc (by simp) _
      clear d0 d1
      go_loopw [5] (fun j wr => ∃ k : Nat, k ≤ g.rules.length ∧ j = .int .i64 k ∧ Hid (g.rules.take k = h.rules.take k) ∧ wr.cell? ⟨w.heap.size, 0, none⟩ = some (.slice ra g.rules.length rc) ∧ wr.cell? ⟨w.heap.size, 1, none⟩ = some (.slice na g.nodes.length nc) ∧ wr.cell? ⟨w.heap.size + 1, 0, none⟩ = some (.slice rb h.rules.length rd) ∧ wr.cell? ⟨w.heap.size + 1, 1, none⟩ = some (.slice nb h.nodes.length nd) ∧ Hid (Below w.heap.size w wr)) (fun j _ => g.rules.length - (intOf j).toNat)
      case atStart => exact ⟨0, by omega, rfl, rfl, by go_simp, by go_simp, by go_simp, by go_simp, HB0⟩
      case round =>
        obtain ⟨k, hk, rfl, HP, w0, w1, w2, w3, HB⟩ := hrel
        by_cases hlt : k < g.rules.length
        · have hlt' : k < h.rules.length := by have := C0.out; omega
          obtain ⟨b, off, rfl, h1, h2⟩ := R k hlt
          have h1' := cell_keep HB.out h1
          have h2' := cell_keep HB.out h2
          obtain ⟨b', off', rfl, h3, h4⟩ := R' k hlt'
          have h3' := cell_keep HB.out h3
          have h4' := cell_keep HB.out h4
          clear h1 h2 h3 h4
          by_cases he : g.rules[k] = h.rules[k]
          · have HN : Hid (g.rules.take (k + 1) = h.rules.take (k + 1)) := take_snoc_eq hlt hlt' he HP.out
            have er := fun W => (eqRl g.rules[k] h.rules[k] W).trans (by rw [decide_eq_true he])
            clear he
            go_wp2_with (fail)
            go_quiet (fail)
            clear er
            go_wp2
            go_roundw
            case rel => exact ⟨k + 1, by omega, by go_num, HN, by go_simp, by go_simp, by go_simp, by go_simp, below_drewN HB.out _⟩
            case measure => simp [intOf]; omega
          · have HN : Hid (sameB g h = false) := decide_eq_false fun e => ne_of_get hlt hlt' he (by rw [e])
            have er := fun W => (eqRl g.rules[k] h.rules[k] W).trans (by rw [decide_eq_false he])
            clear he
            go_wp2_with (fail)
            go_quiet (fail)
            clear er
            go_wp2
            go_ret
            exact ⟨ret_bool (by rw [HN.out]), below_drewN HB.out _⟩
        · obtain rfl : k = g.rules.length := by omega
          have HPR : Hid (g.rules = h.rules) := by
            have := HP.out
            rw [List.take_length, C0.out, List.take_length] at this
            exact this
          clear HP
          go_wp2
          go_loopw [6, 7, 8, 9] (fun j _ _ _ wr => ∃ k : Nat, k ≤ g.nodes.length ∧ j = .int .i64 k ∧ Hid (g.nodes.take k = h.nodes.take k) ∧ wr.cell? ⟨w.heap.size, 0, none⟩ = some (.slice ra g.rules.length rc) ∧ wr.cell? ⟨w.heap.size, 1, none⟩ = some (.slice na g.nodes.length nc) ∧ wr.cell? ⟨w.heap.size + 1, 0, none⟩ = some (.slice rb h.rules.length rd) ∧ wr.cell? ⟨w.heap.size + 1, 1, none⟩ = some (.slice nb h.nodes.length nd) ∧ Hid (Below w.heap.size w wr)) (fun j _ _ _ _ => g.nodes.length - (intOf j).toNat)
          case atStart => exact ⟨0, by omega, rfl, rfl, by go_simp, by go_simp, by go_simp, by go_simp, HB⟩
          case round =>
            obtain ⟨k, hk, rfl, HP, w0, w1, w2, w3, HB⟩ := hrel
            by_cases hlt : k < g.nodes.length
            · have hlt' : k < h.nodes.length := by have := C1.out; omega
              have hkl := hkk _ (List.getElem_mem hlt)
              obtain ⟨b, off, ka, kc, rfl, hz0, h0, h1, h2, h3, h4, h5, h6, H7⟩ := N.get HB k hlt
              obtain ⟨b', off', kb, kd, rfl, hz1, g0, g1, g2, g3, g4, g5, g6, G7⟩ := N'.get HB k hlt'
              have hz : w.heap.size + 1 < wr.heap.size := block_lt_of_cell w2
              generalize hX : g.nodes[k] = X at *
              generalize hY : h.nodes[k] = Y at *
              have HX := Lib.hid hX
              have HY := Lib.hid hY
              clear hX hY
              by_cases e0 : X.op = Y.op
              · have d0 : ((X.op : Int) != Y.op) = false := by simp [e0]
                by_cases e1 : X.rule = Y.rule
                · have d1 : ((X.rule : Int) != Y.rule) = false := by simp [e1]
                  by_cases e2 : X.set = Y.set
                  · have es := fun W => (eqW4 X.set Y.set W).trans (by rw [decide_eq_true e2])
                    by_cases e3 : X.kids.length = Y.kids.length
                    · have d3 : ((X.kids.length : Int) != (Y.kids.length : Int)) = false := by simp [e3]
                      have E := Lib.hid (And.intro e0 (And.intro e1 (And.intro e2 e3)))
                      clear e0 e1 e2 e3
                      go_wp2
                      have HBi : Hid (Below w.heap.size w ((wr.alloc (.cells #[.int .i64 X.op, .slice ka X.kids.length kc, .int .i64 X.rule, .int .u64 X.set.a, .int .u64 X.set.b, .int .u64 X.set.c, .int .u64 X.set.d] 55)).alloc (.cells #[.int .i64 Y.op, .slice kb Y.kids.length kd, .int .i64 Y.rule, .int .u64 Y.set.a, .int .u64 Y.set.b, .int .u64 Y.set.c, .int .u64 Y.set.d] 55))) :=
                        (HB.out.alloc HB.out.size _).alloc (by have := HB.out.size; simp; omega) _
                      have HBj : Hid (Below wr.heap.size wr ((wr.alloc (.cells #[.int .i64 X.op, .slice ka X.kids.length kc, .int .i64 X.rule, .int .u64 X.set.a, .int .u64 X.set.b, .int .u64 X.set.c, .int .u64 X.set.d] 55)).alloc (.cells #[.int .i64 Y.op, .slice kb Y.kids.length kd, .int .i64 Y.rule, .int .u64 Y.set.a, .int .u64 Y.set.b, .int .u64 Y.set.c, .int .u64 Y.set.d] 55))) :=
                        ((Below.refl _ _).alloc (Nat.le_refl _) _).alloc (by simp) _
                      have hky : Y.kids.length ≤ 140737488355328 := by have := E.out.2.2.2; omega
                      obtain ⟨wo, rfl⟩ : ∃ wo : World, wo = wr := ⟨_, rfl⟩
                      go_loopw [9] (fun j wi => ∃ m : Nat, m ≤ X.kids.length ∧ j = .int .i64 m ∧ Hid (X.kids.take m = Y.kids.take m) ∧ wi.cell? ⟨w.heap.size, 0, none⟩ = some (.slice ra g.rules.length rc) ∧ wi.cell? ⟨w.heap.size, 1, none⟩ = some (.slice (some ⟨b, off, none⟩) g.nodes.length nc) ∧ wi.cell? ⟨w.heap.size + 1, 0, none⟩ = some (.slice rb h.rules.length rd) ∧ wi.cell? ⟨w.heap.size + 1, 1, none⟩ = some (.slice (some ⟨b', off', none⟩) h.nodes.length nd) ∧ wi.cell? ⟨wo.heap.size, 1, none⟩ = some (.slice ka X.kids.length kc) ∧ wi.cell? ⟨wo.heap.size + 1, 1, none⟩ = some (.slice kb Y.kids.length kd) ∧ Hid (Below w.heap.size w wi) ∧ Hid (Below wo.heap.size wo wi)) (fun j _ => X.kids.length - (intOf j).toNat)
                      case atStart => exact ⟨0, by omega, rfl, rfl, cell_keep HBj.out w0, cell_keep HBj.out w1, cell_keep HBj.out w2, cell_keep HBj.out w3, by go_simp, by go_simp, HBi, HBj⟩
                      case round =>
                        obtain ⟨m, hm, rfl, HM, v0, v1, v2, v3, v4, v5, HB1, HB2⟩ := hrel
                        by_cases hml : m < X.kids.length
                        · have hml' : m < Y.kids.length := by have := E.out.2.2.2; omega
                          obtain ⟨bx, ox, rfl, hb1, q1⟩ := H7.out.get HB2 m hml
                          obtain ⟨bY, oY, rfl, hb2, q2⟩ := G7.out.get HB2 m hml'
                          by_cases hq : X.kids[m] = Y.kids[m]
                          · have dq : ((X.kids[m] : Int) != Y.kids[m]) = false := by simp [hq]
                            have HN : Hid (X.kids.take (m + 1) = Y.kids.take (m + 1)) := take_snoc_eq hml hml' hq HM.out
                            clear hq
                            go_wp2_with (fail)
                            go_quiet (fail)
                            clear dq
                            go_wp2
                            go_roundw
                            case rel => exact ⟨m + 1, by omega, by go_num, HN, by go_simp, by go_simp, by go_simp, by go_simp, by go_simp, by go_simp, below_drewN HB1.out _, below_drewN HB2.out _⟩
                            case measure => simp [intOf]; omega
                          · have dq : ((X.kids[m] : Int) != Y.kids[m]) = true := by simp [hq]
                            have HN : Hid (sameB g h = false) := decide_eq_false fun e => ne_of_get hlt hlt' (by rw [HX.out, HY.out]; intro e'; exact ne_of_get hml hml' hq (by rw [e'])) (by rw [e])
                            clear hq
                            go_wp2_with (fail)
                            go_quiet (fail)
                            clear dq
                            go_wp2
                            go_ret
                            exact ⟨ret_bool (by rw [HN.out]), below_drewN HB1.out _⟩
                        · obtain rfl : m = X.kids.length := by omega
                          have HK : Hid (g.nodes.take (k + 1) = h.nodes.take (k + 1)) := by
                            refine take_snoc_eq hlt hlt' ?_ HP.out
                            rw [HX.out, HY.out]
                            have hkk' := HM.out
                            obtain ⟨f0, f1, f2, f3⟩ := E.out
                            rw [List.take_length, f3, List.take_length] at hkk'
                            cases X; cases Y; simp_all
                          go_wp2
                          go_roundw
                          case rel => exact ⟨k + 1, by omega, by go_num, HK, by go_simp, by go_simp, by go_simp, by go_simp, HB1⟩
                          case measure => simp [intOf]; omega
                    · have HN : Hid (sameB g h = false) := decide_eq_false fun e => ne_of_get hlt hlt' (by rw [HX.out, HY.out]; intro e'; exact e3 (by rw [e'])) (by rw [e])
                      have d3 : ((X.kids.length : Int) != (Y.kids.length : Int)) = true := by simp; omega
                      clear e3 e0 e1 e2
                      go_wp2
                      go_ret
                      exact ⟨ret_bool (by rw [HN.out]), (HB.out.alloc HB.out.size _).alloc (by have := HB.out.size; simp; omega) _⟩
                  · have HN : Hid (sameB g h = false) := decide_eq_false fun e => ne_of_get hlt hlt' (by rw [HX.out, HY.out]; intro e'; exact e2 (by rw [e'])) (by rw [e])
                    have es := fun W => (eqW4 X.set Y.set W).trans (by rw [decide_eq_false e2])
                    clear e2
                    go_wp2
                    go_ret
                    exact ⟨ret_bool (by rw [HN.out]), (HB.out.alloc HB.out.size _).alloc (by have := HB.out.size; simp; omega) _⟩
                · have HN : Hid (sameB g h = false) := decide_eq_false fun e => ne_of_get hlt hlt' (by rw [HX.out, HY.out]; intro e'; exact e1 (by rw [e'])) (by rw [e])
                  have d1 : ((X.rule : Int) != Y.rule) = true := by simp [e1]
                  clear e1
                  go_wp2
                  go_ret
                  exact ⟨ret_bool (by rw [HN.out]), (HB.out.alloc HB.out.size _).alloc (by have := HB.out.size; simp; omega) _⟩
              · have HN : Hid (sameB g h = false) := decide_eq_false fun e => ne_of_get hlt hlt' (by rw [HX.out, HY.out]; intro e'; exact e0 (by rw [e'])) (by rw [e])
                have d0 : ((X.op : Int) != Y.op) = true := by simp [e0]
                clear e0
                go_wp2
                go_ret
                exact ⟨ret_bool (by rw [HN.out]), (HB.out.alloc HB.out.size _).alloc (by have := HB.out.size; simp; omega) _⟩
            · obtain rfl : k = g.nodes.length := by omega
              have HN : Hid (sameB g h = true) := by
                have := HP.out
                rw [List.take_length, C1.out, List.take_length] at this
                refine decide_eq_true ?_
                cases g; cases h; exact congr (congrArg Gr.mk HPR.out) this
              go_wp2
              go_ret
              exact ⟨ret_bool (by rw [HN.out]), HB.out⟩
    · have d0 : ((g.rules.length : Int) != (h.rules.length : Int)) = false := by simp; omega
      have d1 : ((g.nodes.length : Int) != (h.nodes.length : Int)) = true := by simp; omega
      have HN : Hid (sameB g h = false) := decide_eq_false fun e => c1 (by rw [e])
      clear c0 c1
      go_enter Try.func13, Try.ntmps13
      go_wp2
      go_ret
      exact ⟨ret_bool (by rw [HN.out]), ((Below.refl _ _).alloc (Nat.le_refl _) _).alloc (by simp) _⟩
  · have d0 : ((g.rules.length : Int) != (h.rules.length : Int)) = true := by simp; omega
    have HN : Hid (sameB g h = false) := decide_eq_false fun e => c0 (by rw [e])
    clear c0
    go_enter Try.func13, Try.ntmps13
    go_wp2
    go_ret
    exact ⟨ret_bool (by rw [HN.out]), ((Below.refl _ _).alloc (Nat.le_refl _) _).alloc (by simp) _⟩
end Go.Proofs.Ytdphcblbkdgbhaa
