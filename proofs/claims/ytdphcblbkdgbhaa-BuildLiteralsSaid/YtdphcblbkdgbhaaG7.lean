import Derived.Test.YtdphcblbkdgbhaaG6
namespace Go.Proofs.Ytdphcblbkdgbhaa
open Go.RowKit
theorem ret_int {a b : Int} (h : a = b) : Ending.returned (.int .i64 a) = .returned (.int .i64 b) := by rw [h]
theorem take_rev {l : List Int} {m : Nat} (h : m < l.length) : (l.take (m + 1)).reverse = l[m] :: (l.take m).reverse := by
  rw [List.take_succ_eq_append_getElem h, List.reverse_append]; rfl
set_option maxRecDepth 20000 in
set_option maxHeartbeats 1600000 in
theorem expression_any (nodes : List Nd) (ra : Option Addr) (rl rc : Nat) (na : Option Addr) (nc : Nat) (hn : nodes.length ≤ 140737488355328) (hkk : ∀ x ∈ nodes, x.kids.length ≤ 140737488355328) :
    ∀ (n : Nat) (i : Int) (w : World), i < n → -2 ≤ i → i < nodes.length → NdsAt w na nodes →
    Calls Try.prog 23 #[.agg #[.slice ra rl rc, .slice na nodes.length nc], .int .i64 i] w fun e w' => e = .returned (.int .i64 (expr nodes i)) ∧ Below w.heap.size w w'
  | 0, i, w, h0, h1, h2, N => by
    have HN := Lib.hid (expr_neg (nodes := nodes) (show i < 0 by omega))
    go_enter Try.func23, Try.ntmps23
    go_wp2
    go_ret
    exact ⟨ret_int HN.out.symm, (Below.refl _ _).alloc (Nat.le_refl _) _⟩
  | n + 1, i, w, h0, h1, h2, N => by
    by_cases hi : i < 0
    · have HN := Lib.hid (expr_neg (nodes := nodes) hi)
      go_enter Try.func23, Try.ntmps23
      go_wp2
      go_ret
      exact ⟨ret_int HN.out.symm, (Below.refl _ _).alloc (Nat.le_refl _) _⟩
    · obtain ⟨i, rfl⟩ : ∃ m : Nat, i = m := ⟨i.toNat, by omega⟩
      have hlt : i < nodes.length := by omega
      have HE := Lib.hid (expr_eq hlt)
      have hkl := hkk _ (List.getElem_mem hlt)
      have HB0 : Hid (Below w.heap.size w (w.alloc (.cells #[.slice ra rl rc, .slice na nodes.length nc] 36))) := (Below.refl _ _).alloc (Nat.le_refl _) _
      have IH := Lib.hid (expression_any nodes ra rl rc na nc hn hkk n)
      have NN := Lib.hid N
      clear hi
      obtain ⟨b, off, ka, kc, rfl, hz0, g0, g1, g2, g3, g4, g5, g6, H7⟩ := N.get HB0 i hlt
      clear N
      go_enter Try.func23, Try.ntmps23
      go_wp2
      go_loopw [5, 6] (fun a j wr => ∃ (m : Nat) (x : Int), m ≤ nodes[i].kids.length ∧ j = .int .i64 ((m : Int) - 1) ∧ a = .int .i64 x ∧ x < i ∧ -2 ≤ x ∧ Hid (exprK (expr nodes) (nodes[i].kids.take m).reverse x = expr nodes i) ∧ wr.cell? ⟨w.heap.size, 0, none⟩ = some (.slice ra rl rc) ∧ wr.cell? ⟨w.heap.size, 1, none⟩ = some (.slice (some ⟨b, off, none⟩) nodes.length nc) ∧ Hid (Below w.heap.size w wr)) (fun _ j _ => (intOf j + 1).toNat)
      case atStart => exact ⟨nodes[i].kids.length, (i : Int) - 1, Nat.le_refl _, rfl, rfl, by omega, by omega, by rw [List.take_length]; exact HE.out.symm, by go_simp, by go_simp, HB0⟩
      case round =>
        obtain ⟨m, x, hm, rfl, rfl, hx1, hx2, HK, v0, v1, HB⟩ := hrel
        cases m with
        | zero =>
          have HK' : Hid (x = expr nodes i) := HK.out
          clear HK
          go_wp2
          go_ret
          exact ⟨ret_int HK'.out, HB.out⟩
        | succ m =>
          have em : (((m + 1 : Nat) : Int) - 1) = m := by omega
          rw [em]
          clear em
          obtain ⟨b', off', ka', kc', ee, hz1, g0, g1, g2, g3, g4, g5, g6, H8⟩ := NN.out.get HB i hlt
          cases ee
          obtain ⟨bk, ok, rfl, hz2, q0⟩ := H8.out.get (Below.refl _ _) m (by omega)
          have ht := take_rev (l := nodes[i].kids) (m := m) (by omega)
          rw [ht] at HK
          have HT := Lib.hid ht
          clear ht
          generalize hy : nodes[i].kids[m] = y at *
          clear hy
          have HL := expr_lo nodes x
          by_cases hq : y = x
          · subst hq
            have R := Lib.hid (IH.out y wr (by omega) (by omega) (by omega) (NN.out.below HB.out))
            generalize hv : expr nodes y = v at *
            by_cases hv2 : v = -2
            · subst hv2
              have HK' : Hid (-2 = expr nodes i) := by
                have := HK.out
                rw [exprK, if_neg (by simp), if_pos hv] at this; exact this
              clear HK hv HL
              go_wp2_with (fail)
              refine (R.out).mono ?_
              rintro e w1 ⟨rfl, hb⟩
              have B1 := Lib.hid (HB.out.trans (hb.mono HB.out.size))
              clear hb
              go_wp2
              go_ret
              exact ⟨ret_int HK'.out, B1.out⟩
            · have HK' : Hid (exprK (expr nodes) (nodes[i].kids.take m).reverse v = expr nodes i) := by
                have := HK.out
                rw [exprK, if_neg (by simp), if_neg (by rw [hv]; exact hv2), hv] at this; exact this
              have dv : ((v : Int) == -2) = false := by simpa using hv2
              clear HK hv hv2
              go_wp2_with (fail)
              refine (R.out).mono ?_
              rintro e w1 ⟨rfl, hb⟩
              have B1 := Lib.hid (HB.out.trans (hb.mono HB.out.size))
              have u0 := cell_keep hb v0
              have u1 := cell_keep hb v1
              clear hb
              go_wp2
              go_roundw
              case rel => exact ⟨m, v, by omega, rfl, rfl, by omega, by omega, HK', u0, u1, B1⟩
              case measure => simp [intOf]
          · have dq : ((y : Int) != x) = true := by simpa using hq
            have HK' : Hid (-2 = expr nodes i) := by
              have := HK.out
              rw [exprK, if_pos hq] at this; exact this
            clear HK hq
            go_wp2
            go_ret
            exact ⟨ret_int HK'.out, HB.out⟩
end Go.Proofs.Ytdphcblbkdgbhaa
