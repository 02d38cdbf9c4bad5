import Derived.Test.YtdphcblbkdgbhaaK6
import Derived.Deep.Cut
namespace Go.Proofs.Ytdphcblbkdgbhaa
open Go.RowKit
set_option maxRecDepth 20000 in
set_option maxHeartbeats 3200000 in
theorem copy_any (g : Gr) (ra na : Option Addr) (rc nc : Nat) (w : World) (hr : g.rules.length ≤ 1000000) (hn : g.nodes.length ≤ 1000000) (hkk : ∀ x ∈ g.nodes, x.kids.length ≤ 1000000)
    (hra : ra = none → rc = 0) (R : RlsAt w ra g.rules) (N : NdsAt w na g.nodes) :
    Calls Try.prog 21 #[.agg #[.slice ra g.rules.length rc, .slice na g.nodes.length nc]] w fun e w' => ∃ ra' rc' na' nc' la, e = .returned (.agg #[.slice ra' g.rules.length rc', .slice na' g.nodes.length nc']) ∧ nds la = g.nodes ∧ OwnG w' w.heap.size ra' rc' na' nc' g.rules la ∧ Below w.heap.size w w' := by
  have RC := Lib.hid (cells_of_rls R)
  go_enter Try.func21, Try.ntmps21
  go_upto_region 1 with (fail)
  have HB0 : Hid (Below w.heap.size w ((w.alloc (.cells #[.slice ra g.rules.length rc, .slice na g.nodes.length nc] 36)).alloc (.cells #[.slice none 0 0, .slice none 0 0] 36))) := ((Below.refl _ _).alloc (Nat.le_refl _) _).alloc (by simp) _
  have v0 : ((w.alloc (.cells #[.slice ra g.rules.length rc, .slice na g.nodes.length nc] 36)).alloc (.cells #[.slice none 0 0, .slice none 0 0] 36)).cell? ⟨w.heap.size, 0, none⟩ = some (.slice ra g.rules.length rc) := by go_simp
  have v1 : ((w.alloc (.cells #[.slice ra g.rules.length rc, .slice na g.nodes.length nc] 36)).alloc (.cells #[.slice none 0 0, .slice none 0 0] 36)).cell? ⟨w.heap.size, 1, none⟩ = some (.slice na g.nodes.length nc) := by go_simp
  have hRA : Hid (((w.alloc (.cells #[.slice ra g.rules.length rc, .slice na g.nodes.length nc] 36)).alloc (.cells #[.slice none 0 0, .slice none 0 0] 36)).heap[w.heap.size]? = some (.cells #[.slice ra g.rules.length rc, .slice na g.nodes.length nc] 36 (0, 0))) := heap_alloc2_old w _ _
  have hRB : Hid (((w.alloc (.cells #[.slice ra g.rules.length rc, .slice na g.nodes.length nc] 36)).alloc (.cells #[.slice none 0 0, .slice none 0 0] 36)).heap[w.heap.size + 1]? = some (.cells #[.slice none 0 0, .slice none 0 0] 36 (0, 0))) := heap_alloc2_new w _ _
  have hsz : w.heap.size + 2 = ((w.alloc (.cells #[.slice ra g.rules.length rc, .slice na g.nodes.length nc] 36)).alloc (.cells #[.slice none 0 0, .slice none 0 0] 36)).heap.size := by simp
  generalize hW : (w.alloc (.cells #[.slice ra g.rules.length rc, .slice na g.nodes.length nc] 36)).alloc (.cells #[.slice none 0 0, .slice none 0 0] 36) = W at *
  have hWz : w.heap.size < W.heap.size := block_lt_of_cell v0
  have HE := Lib.hid (own_empty W 70 2)
  have HBE : Hid (Below W.heap.size W (W.alloc (.cells #[] 70))) := (Below.refl _ _).alloc (Nat.le_refl _) _
  have HBW := Lib.hid (HB0.out.trans (HBE.out.mono HB0.out.size))
  have hrl := rowRl_len g.rules
  go_wp2_with (at_builtin; refine appN (P := Try.prog) W.heap.size rfl _ _ 33 70 (.agg #[.string ⟨#[]⟩, .int .i64 0]) 2 24 rfl Try.underlying33 infoRl rfl (by omega) (by omega) _ 0 [] HE.out HBE.out ra g.rules.length rc (rowRl g.rules) rfl rfl hrl (RC.out.below HBW.out) hra (rowRl_one _) HBE.out.size (by omega) ?_; intro vR w1 hownR hbR hgR hatR; rw [Nat.zero_add, List.nil_append] at hownR; obtain ⟨xR, cR, rfl, hnR⟩ := own_slice hownR)
  have HOR := Lib.hid hownR
  have HB1 := Lib.hid (HB0.out.trans (hbR.mono HB0.out.size))
  have hz1 : W.heap.size ≤ w1.heap.size := hbR.size
  have hRB1 := Lib.hid ((hbR.block _ (by omega)).trans hRB.out)
  have HC : Hid (CState w (w1.alloc (.cells #[.slice xR g.rules.length cR, .slice none 0 0] 36)) w1.heap.size xR cR none 0 g 0 []) :=
    ⟨by omega, (Below.heap_alloc _ _ _ (by omega)).trans hRB1.out, heap_alloc_new _ _, own_mono (own_alloc HOR.out _) (by omega), own_nil _ _ _ _, by simp [nds], by simp, by simp, HB1.out.alloc (by omega) _⟩
  have u1' : Hid ((w1.alloc (.cells #[.slice xR g.rules.length cR, .slice none 0 0] 36)).heap[w.heap.size]? = some (.cells #[.slice ra g.rules.length rc, .slice na g.nodes.length nc] 36 (0, 0))) := (Below.heap_alloc _ _ _ (by omega)).trans ((hbR.block _ (by omega)).trans hRA.out)
  clear hownR hbR hgR hatR v0 v1 hW HE HBE HBW hrl hRB hRB1 HB1 HOR RC hnR hRA
  generalize hbxx : w1.heap.size = bx at *
  clear hbxx
  generalize w1.alloc (.cells #[.slice xR g.rules.length cR, .slice none 0 0] 36) = WF at *
  go_loopw [4, 5] (fun j _ wr => ∃ (k : Nat) (la : List NdA) (xN : Option Addr) (cN : Nat), k ≤ g.nodes.length ∧ j = .int .i64 k ∧ Hid (CState w wr bx xR cR xN cN g k la) ∧ Hid (wr.heap[w.heap.size]? = some (.cells #[.slice ra g.rules.length rc, .slice na g.nodes.length nc] 36 (0, 0)))) (fun j _ _ => g.nodes.length - (intOf j).toNat)
  case atStart => exact ⟨0, [], none, 0, Nat.zero_le _, rfl, HC, u1'⟩
  case round =>
    obtain ⟨k, la, xN, cN, hk, rfl, HC, HA⟩ := hrel
    have v1 := cell_of_row wr w.heap.size 1 _ _ _ HA.out
    simp only [List.getElem?_toArray, List.getElem?_cons_zero, List.getElem?_cons_succ] at v1
    have HB := Lib.hid HC.out.2.2.2.2.2.2.2.2
    by_cases hlt : k < g.nodes.length
    · obtain ⟨b, off, rfl, hnd⟩ := N k hlt
      have hkl := hkk _ (List.getElem_mem hlt)
      have HST := Lib.hid (fun wf xN' cN' xk ck h1 h2 h3 h4 h5 => cstate_step (wf := wf) (xN' := xN') (cN' := cN') HC.out hlt xk ck h1 h2 h3 h4 h5)
      obtain ⟨ka, kc, g0, g1, g2, g3, g4, g5, g6, h7, h8⟩ := hnd.below HB.out
      clear hnd
      generalize g.nodes[k] = x at *
      have H7 := Lib.hid (cells_of_ints h7)
      have hzb : b < wr.heap.size := block_lt_of_cell g0
      have hz1 : w.heap.size < wr.heap.size := block_lt_of_cell v1
      have HX : Hid (Below wr.heap.size wr ((wr.alloc (.cells #[.int .i64 x.op, .slice ka x.kids.length kc, .int .i64 x.rule, .int .u64 x.set.a, .int .u64 x.set.b, .int .u64 x.set.c, .int .u64 x.set.d] 55)).alloc (.cells #[] 3))) := ((Below.refl _ _).alloc (Nat.le_refl _) _).alloc (by simp) _
      have HE : Hid (((wr.alloc (.cells #[.int .i64 x.op, .slice ka x.kids.length kc, .int .i64 x.rule, .int .u64 x.set.a, .int .u64 x.set.b, .int .u64 x.set.c, .int .u64 x.set.d] 55)).alloc (.cells #[] 3)).ownsRow wr.heap.size 3 1 (.slice (some ⟨wr.heap.size + 1, 0, none⟩) 0 0) 0 []) := by
        have := own_mono (own_empty (wr.alloc (.cells #[.int .i64 x.op, .slice ka x.kids.length kc, .int .i64 x.rule, .int .u64 x.set.a, .int .u64 x.set.b, .int .u64 x.set.c, .int .u64 x.set.d] 55)) 3 1) (base' := wr.heap.size) (by simp)
        have e : (wr.alloc (.cells #[.int .i64 x.op, .slice ka x.kids.length kc, .int .i64 x.rule, .int .u64 x.set.a, .int .u64 x.set.b, .int .u64 x.set.c, .int .u64 x.set.d] 55)).heap.size = wr.heap.size + 1 := by simp
        rw [e] at this
        exact this
      have hil : (intsV x.kids).length = x.kids.length * 1 := by simp [intsV]
      have p2 := HC.out.2.2.1
      have hbl := (Array.getElem?_eq_some_iff.1 p2).1
      have hne := Lib.hid (own_ne_blk HC.out.2.2.2.2.1 p2 (by decide))
      clear h7
      go_wp2_with (first | (at_builtin; refine appN (P := Try.prog) wr.heap.size rfl _ _ 53 3 (.int .i64 0) 1 8 rfl Try.underlying53 infoInt rfl (by omega) (by omega) _ 0 [] HE.out HX.out ka x.kids.length kc (intsV x.kids) rfl rfl hil (H7.out.below HX.out) h8 (intsV_one _) HX.out.size (by omega) ?_; intro vk w2 hownk hbk hgk hatk; rw [Nat.zero_add, List.nil_append] at hownk; obtain ⟨xk, ck, rfl, hnk⟩ := own_slice hownk; have hX2 := (hgk.block wr.heap.size (by simp <;> omega) (by simp [Value.ownBlock] <;> omega)).trans (heap_alloc2_old wr _ _); have hK2 := Lib.hid hownk; have hb2 := Lib.hid hbk; have hz2 : wr.heap.size + 1 < w2.heap.size := Nat.lt_of_lt_of_le (by simp <;> omega) hgk.size; have p3 := (hbk.block bx hbl).trans p2; have y0 := cell_of_row w2 wr.heap.size 0 _ _ _ hX2; have y1 := cell_of_row w2 wr.heap.size 1 _ _ _ hX2; have y2 := cell_of_row w2 wr.heap.size 2 _ _ _ hX2; have y3 := cell_of_row w2 wr.heap.size 3 _ _ _ hX2; have y4 := cell_of_row w2 wr.heap.size 4 _ _ _ hX2; have y5 := cell_of_row w2 wr.heap.size 5 _ _ _ hX2; have y6 := cell_of_row w2 wr.heap.size 6 _ _ _ hX2; have yf := frozen_of_row w2 wr.heap.size 1 _ _ hX2; have q1 := cell_of_row w2 bx 1 _ _ _ p3; have qf := frozen_of_row w2 bx 1 _ _ p3; simp only [List.getElem?_toArray, List.getElem?_cons_zero, List.getElem?_cons_succ] at y0 y1 y2 y3 y4 y5 y6 q1; have hX2 := Lib.hid hX2; have p3 := Lib.hid p3; have HN2 : Hid ((w2.setCell ⟨wr.heap.size, 1, none⟩ (.slice xk x.kids.length ck)).ownsRow w.heap.size 55 7 (.slice xN k cN) k (rowNd la)) := own_set (own_below HC.out.2.2.2.2.1 hbk) (fun e => by have := own_blk_lt HC.out.2.2.2.2.1 _ e; simp at this); have HBn : Hid (Below w.heap.size w (w2.setCell ⟨wr.heap.size, 1, none⟩ (.slice xk x.kids.length ck))) := (HB.out.trans (hbk.mono HB.out.size)).setCell HB.out.size _; clear hownk hbk hatk hgk) | (at_builtin; refine app1 (P := Try.prog) w.heap.size rfl _ _ 34 55 (.agg #[.int .i64 0, .slice none 0 0, .int .i64 0, .int .u64 0, .int .u64 0, .int .u64 0, .int .u64 0]) 7 72 rfl Try.underlying34 infoNd rfl (by omega) (by omega) _ k (rowNd la) HN2.out HBn.out _ rfl (by simp; rfl) rfl (by simp [Value.oneCell']) HBn.out.size (by omega) ?_; intro vn w4 hownn hbn hgn hatn; obtain ⟨xN', cN', rfl, hnn⟩ := own_slice hownn; have hp4 := (hgn.block bx (by simp <;> omega) (fun e => hne.out e.symm)).trans ((Below.heap_alloc _ _ _ (by simp <;> omega)).trans ((heap_setCell_other _ _ _ _ (by simp <;> omega)).trans p3.out)); have z1 := cell_of_row w4 bx 1 _ _ _ hp4; have zf := frozen_of_row w4 bx 1 _ _ hp4; simp only [List.getElem?_toArray, List.getElem?_cons_zero, List.getElem?_cons_succ] at z1; have hp4 := Lib.hid hp4; have hgn := Lib.hid hgn; have hownn := Lib.hid hownn; have hbn := Lib.hid hbn; clear y0 y1 y2 y3 y4 y5 y6 yf q1 qf hatn HE HX))
      have hOwnN := HC.out.2.2.2.2.1
      have hwz : w.heap.size ≤ wr.heap.size := HB.out.size
      have hb2z : wr.heap.size ≤ w2.heap.size := hb2.out.size
      have hbx2 : w.heap.size + 2 ≤ bx := HC.out.1
      have K1 : ∀ q, q < wr.heap.size → (Value.slice xN k cN).ownBlock ≠ some q → q ≠ bx → (w4.setCell ⟨bx, 1, none⟩ (.slice xN' (k + 1) cN')).heap[q]? = wr.heap[q]? := by
        intro q hq h1 h2
        rw [heap_setCell_other _ _ _ _ (by simpa using h2), hgn.out.block q (by simp <;> omega) (fun e => h1 e.symm), Below.heap_alloc _ _ _ (by simp <;> omega), heap_setCell_other _ _ _ _ (by simp <;> omega), hb2.out.block q hq]
      have K2 : (w4.setCell ⟨bx, 1, none⟩ (.slice xN' (k + 1) cN')).heap[bx]? = some (.cells #[.slice xR g.rules.length cR, .slice xN' (k + 1) cN'] 36 (0, 0)) := heap_setCell_same _ _ 1 _ _ _ hp4.out
      have K3 : (w4.setCell ⟨bx, 1, none⟩ (.slice xN' (k + 1) cN')).ownsRow w.heap.size 55 7 (.slice xN' (k + 1) cN') (k + 1) (rowNd (la ++ [⟨x, xk, ck⟩])) := by
        have h := hownn.out
        have e := rowNd_snoc la ⟨x, xk, ck⟩
        simp only [NdA.cells] at e
        have h' : w4.ownsRow w.heap.size 55 7 (.slice xN' (k + 1) cN') (k + 1) (rowNd (la ++ [⟨x, xk, ck⟩])) := by rw [← e]; exact h
        exact own_set h' (own_ne_blk h' hp4.out (by decide))
      have K4 : (w4.setCell ⟨bx, 1, none⟩ (.slice xN' (k + 1) cN')).ownsRow wr.heap.size 3 1 (.slice xk x.kids.length ck) x.kids.length (intsV x.kids) := by
        refine own_of_heap hK2.out fun q hq hv => ?_
        have hge := (own_blk_lt hK2.out q hv).1
        have hnx := own_ne_blk hK2.out hX2.out (by decide)
        have hq2 : q ≠ wr.heap.size := fun e => hnx (by rw [hv, e])
        have hqn : (Value.slice xN k cN).ownBlock ≠ some q := fun e => by have := (own_blk_lt hOwnN q e).2; omega
        rw [heap_setCell_other _ _ _ _ (by simp; omega), hgn.out.block q (by simp <;> omega) (fun e => hqn e.symm), Below.heap_alloc _ _ _ (by simp <;> omega), heap_setCell_other _ _ _ _ (by simp <;> omega)]
      have HC2 := Lib.hid (HST.out _ xN' cN' xk ck K1 K2 K3 K4 (hbn.out.setCell (by simp; omega) _))
      have HA2 : Hid ((w4.setCell ⟨bx, 1, none⟩ (.slice xN' (k + 1) cN')).heap[w.heap.size]? = some (.cells #[.slice ra g.rules.length rc, .slice (some ⟨b, off, none⟩) g.nodes.length nc] 36 (0, 0))) :=
        (K1 _ hz1 (own_ne_blk hOwnN HA.out (by decide)) (by omega)).trans HA.out
      go_roundw
      case rel => exact ⟨k + 1, _, xN', cN', by omega, by go_num, HC2, HA2⟩
      case measure => simp [intOf]; omega
    · obtain rfl : k = g.nodes.length := by omega
      have h1 := HC.out.2.1
      have h2 := HC.out.2.2.1
      have bc0 := cell_of_row wr bx 0 _ _ _ h2
      have bc1 := cell_of_row wr bx 1 _ _ _ h2
      have rc0 := cell_of_row wr (w.heap.size + 1) 0 _ _ _ h1
      have rc1 := cell_of_row wr (w.heap.size + 1) 1 _ _ _ h1
      have rf0 := frozen_of_row wr (w.heap.size + 1) 0 _ _ h1
      have rf1 := frozen_of_row wr (w.heap.size + 1) 1 _ _ h1
      simp only [List.getElem?_toArray, List.getElem?_cons_zero, List.getElem?_cons_succ] at bc0 bc1 rc0 rc1
      have H1 := Lib.hid h1
      clear h1 h2
      go_wp2
      refine bodyPost_ret (v := .agg #[.slice xR g.rules.length cR, .slice xN g.nodes.length cN]) (results_cell_row rfl _ _ (w.heap.size + 1) 36 #[.slice xR g.rules.length cR, .slice xN g.nodes.length cN] (0, 0) _ rfl (blk_set H1.out _ _) Try.underlying36 rfl (by kernel_rfl)) rfl ?_
      obtain ⟨p0, p1, p2, p3, p4, p5, p6, p7, p8⟩ := HC.out
      rw [List.take_length] at p5
      have hl := nds_len p5
      refine ⟨xR, cR, xN, cN, la, rfl, p5, ⟨own_set2 p3 p1 (by decide), by rw [hl]; exact own_set2 p4 p1 (by decide), fun x hx => own_set2 (p6 x hx) p1 (by decide), p7⟩, (p8.setCell (by simp) _).setCell (by simp) _⟩
end Go.Proofs.Ytdphcblbkdgbhaa
