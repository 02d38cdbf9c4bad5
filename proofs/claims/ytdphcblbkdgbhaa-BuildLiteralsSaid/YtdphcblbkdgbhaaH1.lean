import Derived.Test.YtdphcblbkdgbhaaG9
namespace Go.Proofs.Ytdphcblbkdgbhaa
open Go.RowKit
set_option maxRecDepth 20000 in
set_option maxHeartbeats 1600000 in
theorem depth_any (nodes : List Nd) (ra : Option Addr) (rl rc : Nat) (na : Option Addr) (nc : Nat) (hn : nodes.length ≤ 140737488355328) (hkk : ∀ x ∈ nodes, x.kids.length ≤ 140737488355328) (hok : KidsOk nodes) :
    ∀ (n : Nat) (i : Nat) (w : World), n ≤ 1000000 → i < nodes.length → NdsAt w na nodes →
    Calls Try.prog 45 #[.agg #[.slice ra rl rc, .slice na nodes.length nc], .int .i64 i, .int .i64 n] w fun e w' => e = .returned (.int .i64 (depF nodes n i)) ∧ Below w.heap.size w w'
  | 0, i, w, h0, h2, N => by
    have HB0 : Hid (Below w.heap.size w (w.alloc (.cells #[.slice ra rl rc, .slice na nodes.length nc] 36))) := (Below.refl _ _).alloc (Nat.le_refl _) _
    obtain ⟨b, off, ka, kc, rfl, hz0, g0, g1, g2, g3, g4, g5, g6, H7⟩ := N.get HB0 i h2
    have hkl := hkk _ (List.getElem_mem h2)
    clear N
    go_enter Try.func45, Try.ntmps45
    go_wp2
    go_loop [7, 8] (fun d j => d = .int .i64 0 ∧ j = .int .i64 0) (fun _ j => 0)
    case atStart => exact ⟨rfl, rfl⟩
    case round =>
      obtain ⟨rfl, rfl⟩ := hrel
      go_wp2
      all_goals go_ret
      all_goals exact ⟨ret_int rfl, HB0.out⟩
  | n + 1, i, w, h0, h2, N => by
    have HB0 : Hid (Below w.heap.size w (w.alloc (.cells #[.slice ra rl rc, .slice na nodes.length nc] 36))) := (Below.refl _ _).alloc (Nat.le_refl _) _
    have hkl := hkk _ (List.getElem_mem h2)
    have IH := Lib.hid (fun j w h => depth_any nodes ra rl rc na nc hn hkk hok n j w h)
    have HE : Hid (depF nodes (n + 1) i = (nodes[i].kids.foldl (fun d k => max d (depF nodes n k.toNat)) 0) + 1) := by
      show depF nodes (n + 1) i = _
      rw [depF, List.getD_eq_getElem?_getD, List.getElem?_eq_getElem h2]; rfl
    have HO := Lib.hid (hok i h2)
    have NN := Lib.hid N
    obtain ⟨b, off, ka, kc, rfl, hz0, g0, g1, g2, g3, g4, g5, g6, H7⟩ := N.get HB0 i h2
    clear N g0 g1 g2 g3 g4 g5 g6 H7
    go_enter Try.func45, Try.ntmps45
    go_wp2
    go_loopw [7, 8] (fun d j wr => ∃ (m : Nat) (x : Int), m ≤ nodes[i].kids.length ∧ j = .int .i64 m ∧ d = .int .i64 x ∧ 0 ≤ x ∧ x ≤ n + 1 ∧ Hid (((nodes[i].kids.drop m).foldl (fun d k => max d (depF nodes n k.toNat)) x) + 1 = depF nodes (n + 1) i) ∧ wr.cell? ⟨w.heap.size, 0, none⟩ = some (.slice ra rl rc) ∧ wr.cell? ⟨w.heap.size, 1, none⟩ = some (.slice (some ⟨b, off, none⟩) nodes.length nc) ∧ Hid (Below w.heap.size w wr)) (fun _ j _ => nodes[i].kids.length - (intOf j).toNat)
    case atStart => exact ⟨0, 0, by omega, rfl, rfl, by omega, by omega, HE.out.symm, by go_simp, by go_simp, HB0⟩
    case round =>
      obtain ⟨m, x, hm, rfl, rfl, hx1, hx2, HF, v0, v1, HB⟩ := hrel
      obtain ⟨b', off', ka', kc', ee, hz1, g0, g1, g2, g3, g4, g5, g6, H8⟩ := NN.out.get HB i h2
      cases ee
      by_cases hlt : m < nodes[i].kids.length
      · obtain ⟨bk, ok, rfl, hz2, q0⟩ := H8.out.get (Below.refl _ _) m hlt
        have hy2 := HO.out _ (List.getElem_mem hlt)
        have hd := drop_get hlt
        rw [hd, List.foldl_cons] at HF
        clear hd
        generalize nodes[i].kids[m] = y at *
        obtain ⟨y, rfl⟩ := Int.eq_ofNat_of_zero_le hy2.1
        rw [Int.toNat_natCast] at HF
        have hyl : y < nodes.length := by omega
        have hbd := depF_bd nodes n y
        have C := Lib.hid (fun W => IH.out y W (by omega) hyl)
        have NB := Lib.hid (NN.out.below HB.out)
        generalize hv : depF nodes n y = v at *
        clear hv
        go_wp2_with (fail)
        have x0 := fun e => ext_cell v0 e
        have x1 := fun e => ext_cell v1 e
        have x2 := fun e => ext_cell g1 e
        have x3 := fun e => ext_cell q0 e
        refine wp_region_ext (by kernel_rfl) (by kernel_rfl) ?_
        repeat (go_big_quiet_step (with_reducible rfl))
        go_big_quiet_step (exact ext_call (C.out _ (NB.out.below (ExtOf.ok _))))
        repeat (go_big_quiet_step (with_reducible rfl))
        refine wpQuiet_nil ?_
        rintro w2 ⟨⟨w2, hb⟩, rfl⟩
        have B2 := Lib.hid (HB.out.trans (hb.mono HB.out.size))
        have u0 := cell_keep hb v0
        have u1 := cell_keep hb v1
        clear x0 x1 x2 x3 hb
        go_wp2_with (fail)
        go_roundw
        case rel =>
          refine ⟨m + 1, max x v, by omega, by go_num, ?_, by omega, by omega, HF, u0, u1, B2⟩
          exact congrArg (Value.int .i64) (by omega)
        case measure => simp [intOf]; omega
      · obtain rfl : m = nodes[i].kids.length := by omega
        rw [List.drop_length, List.foldl_nil] at HF
        go_wp2
        go_ret
        exact ⟨ret_int HF.out, HB.out⟩
end Go.Proofs.Ytdphcblbkdgbhaa
