import Derived.Test.YtdphcblbkdgbhaaK4
namespace Go.Proofs.Ytdphcblbkdgbhaa
open Go.RowKit
set_option maxRecDepth 20000 in
set_option maxHeartbeats 3200000 in
theorem gclone_any (g : Gr) (ra na : Option Addr) (rc nc : Nat) (w : World) (hr : g.rules.length ≤ 1000000) (hn : g.nodes.length ≤ 1000000) (hkk : ∀ x ∈ g.nodes, x.kids.length ≤ 1000000)
    (hra : ra = none → rc = 0) (hna : na = none → nc = 0) (R : RlsAt w ra g.rules) (N : NdsAt w na g.nodes) :
    Calls Try.prog 35 #[.agg #[.slice ra g.rules.length rc, .slice na g.nodes.length nc]] w fun e w' => ∃ ra' rc' na' nc' la, e = .returned (.agg #[.slice ra' g.rules.length rc', .slice na' g.nodes.length nc']) ∧ nds la = g.nodes ∧ OwnG w' w.heap.size ra' rc' na' nc' g.rules la ∧ Below w.heap.size w w' := by
  obtain ⟨la, hla, hcl, hkr⟩ := cells_of_nds N
  have hlen : la.length = g.nodes.length := by rw [← hla]; simp [nds]
  have CR := Lib.hid (fun W (hb : Below w.heap.size w W) => cloneRl_any ra g.rules.length rc (rowRl g.rules) W (by omega) (rowRl_len _) (cells_of_rls (R.below hb)) hra (rowRl_one _))
  have CN := Lib.hid (fun W (hb : Below w.heap.size w W) => cloneNd_any na g.nodes.length nc (rowNd la) W (by omega) (by rw [rowNd_len, hlen]) (hcl.below hb) hna (rowNd_one _))
  have HLA := Lib.hid hla
  have HKR := Lib.hid hkr
  have HLEN := Lib.hid hlen
  clear hla hkr hlen hcl R N
  go_enter Try.func35, Try.ntmps35
  go_wp2
  have HB0 : Hid (Below w.heap.size w ((w.alloc (.cells #[.slice ra g.rules.length rc, .slice na g.nodes.length nc] 36)).alloc (.cells #[.slice none 0 0, .slice none 0 0] 36))) := ((Below.refl _ _).alloc (Nat.le_refl _) _).alloc (by simp) _
  have v0 : ((w.alloc (.cells #[.slice ra g.rules.length rc, .slice na g.nodes.length nc] 36)).alloc (.cells #[.slice none 0 0, .slice none 0 0] 36)).cell? ⟨w.heap.size, 0, none⟩ = some (.slice ra g.rules.length rc) := by go_simp
  have v1 : ((w.alloc (.cells #[.slice ra g.rules.length rc, .slice na g.nodes.length nc] 36)).alloc (.cells #[.slice none 0 0, .slice none 0 0] 36)).cell? ⟨w.heap.size, 1, none⟩ = some (.slice na g.nodes.length nc) := by go_simp
  have hRB : Hid (((w.alloc (.cells #[.slice ra g.rules.length rc, .slice na g.nodes.length nc] 36)).alloc (.cells #[.slice none 0 0, .slice none 0 0] 36)).heap[w.heap.size + 1]? = some (.cells #[.slice none 0 0, .slice none 0 0] 36 (0, 0))) := heap_alloc2_new w _ _
  have hsz : w.heap.size + 2 = ((w.alloc (.cells #[.slice ra g.rules.length rc, .slice na g.nodes.length nc] 36)).alloc (.cells #[.slice none 0 0, .slice none 0 0] 36)).heap.size := by simp
  generalize hW : (w.alloc (.cells #[.slice ra g.rules.length rc, .slice na g.nodes.length nc] 36)).alloc (.cells #[.slice none 0 0, .slice none 0 0] 36) = W at *
  have hWz : w.heap.size < W.heap.size := block_lt_of_cell v0
  refine wp_region_ext_tail 8 (fun f _ v w' => (f = 46 ∧ ∃ a c, v = .slice a g.rules.length c ∧ (a = none → c = 0) ∧ w'.ownsRow W.heap.size 70 2 v g.rules.length (rowRl g.rules)) ∨ (f = 47 ∧ ∃ a c, v = .slice a g.nodes.length c ∧ (a = none → c = 0) ∧ w'.ownsRow W.heap.size 55 7 v g.nodes.length (rowNd la))) ?_ (by kernel_rfl) (by kernel_rfl) ?_
  · rintro f args v x x' hb (⟨h1, a, c, h2, h3, h4⟩ | ⟨h1, a, c, h2, h3, h4⟩)
    · exact .inl ⟨h1, a, c, h2, h3, own_below h4 hb⟩
    · exact .inr ⟨h1, a, c, h2, h3, own_below h4 hb⟩
  simp only [List.take_succ_cons, List.take_zero, List.drop_succ_cons, List.drop_zero]
  have x0 := fun e => ext_cell v0 e
  have x1 := fun e => ext_cell v1 e
  refine lex_quiet (fun _ _ _ h1 h2 w' hb hg => h2 w' hb (h1 w' hg)) [_, _] _ (by rfl) ?_
  repeat (go_big_quiet_step (with_reducible rfl))
  refine wpQuiet_nil ?_
  refine lex_call (fun _ _ _ h1 h2 w' hb hg => h2 w' hb (h1 w' hg)) 46 #[.slice ra g.rules.length rc] (by rfl) (fun _ => by go_simp) (fun w1 hb => (CR.out w1 (HB0.out.trans (hb.mono HB0.out.size))).mono ?_) ?_
  · rintro e w' ⟨v, rfl, ho, hb'⟩
    obtain ⟨a, c, rfl, hn⟩ := own_slice ho
    exact ⟨_, rfl, hb', .inl ⟨rfl, a, c, rfl, hn, own_mono ho hb.size⟩⟩
  rintro v ⟨wv, hv⟩
  obtain ⟨xR, cR, rfl, hnR⟩ : ∃ a c, v = .slice a g.rules.length c ∧ (a = none → c = 0) := by
    rcases hv with ⟨_, a, c, h2, h3, _⟩ | ⟨h, _⟩
    · exact ⟨a, c, h2, h3⟩
    · cases h
  clear hv
  simp only [Act.put, List.setIfInBounds_toArray, List.set_cons_succ, List.set_cons_zero]
  refine lex_quiet (fun _ _ _ h1 h2 w' hb hg => h2 w' hb (h1 w' hg)) [_, _] _ (by rfl) ?_
  repeat (go_big_quiet_step (with_reducible rfl))
  refine wpQuiet_nil ?_
  refine lex_call (fun _ _ _ h1 h2 w' hb hg => h2 w' hb (h1 w' hg)) 47 #[.slice na g.nodes.length nc] (by rfl) (fun _ => by go_simp) (fun w1 hb => (CN.out w1 (HB0.out.trans (hb.mono HB0.out.size))).mono ?_) ?_
  · rintro e w' ⟨v, rfl, ho, hb'⟩
    obtain ⟨a, c, rfl, hn⟩ := own_slice ho
    exact ⟨_, rfl, hb', .inr ⟨rfl, a, c, rfl, hn, own_mono ho hb.size⟩⟩
  rintro v ⟨wv, hv⟩
  obtain ⟨xN, cN, rfl, hnN⟩ : ∃ a c, v = .slice a g.nodes.length c ∧ (a = none → c = 0) := by
    rcases hv with ⟨h, _⟩ | ⟨_, a, c, h2, h3, _⟩
    · cases h
    · exact ⟨a, c, h2, h3⟩
  clear hv
  simp only [Act.put, List.setIfInBounds_toArray, List.set_cons_succ, List.set_cons_zero]
  refine lex_quiet (fun _ _ _ h1 h2 w' hb hg => h2 w' hb (h1 w' hg)) [_] _ (by rfl) ?_
  repeat (go_big_quiet_step (with_reducible rfl))
  refine wpQuiet_nil ?_
  refine lex_new (fun _ _ _ h1 h2 w' hb hg => h2 w' hb (h1 w' hg)) (fun b => .pointer (some ⟨b, 0, none⟩)) (.cells #[.slice none 0 0, .slice none 0 0] 36) (fun b b' h => by injection h with h; injection h with h; injection h) (by rfl) (fun _ => by go_simp) ?_
  intro bx hbx
  simp only [Act.put, List.setIfInBounds_toArray, List.set_cons_succ, List.set_cons_zero]
  refine lex_nil ?_
  rintro w2 hb ⟨⟨⟨-, s1⟩, s2⟩, s3⟩
  have OR2 : Hid (w2.ownsRow W.heap.size 70 2 (.slice xR g.rules.length cR) g.rules.length (rowRl g.rules)) := by
    rcases s1 with ⟨_, a, c, _, _, h⟩ | ⟨h, _⟩
    · exact h
    · cases h
  have ON2 : Hid (w2.ownsRow W.heap.size 55 7 (.slice xN g.nodes.length cN) g.nodes.length (rowNd la)) := by
    rcases s2 with ⟨h, _⟩ | ⟨_, a, c, _, _, h⟩
    · cases h
    · exact h
  have S3 := Lib.hid s3
  have bc0 := cell_of_row w2 bx 0 _ _ _ s3
  have bc1 := cell_of_row w2 bx 1 _ _ _ s3
  have bf0 := frozen_of_row w2 bx 0 _ _ s3
  have bf1 := frozen_of_row w2 bx 1 _ _ s3
  simp only [List.getElem?_toArray, List.getElem?_cons_zero, List.getElem?_cons_succ] at bc0 bc1
  have hz2 : w.heap.size ≤ W.heap.size := HB0.out.size
  have hRB2 := Lib.hid ((hb.block _ (Array.getElem?_eq_some_iff.1 hRB.out).1).trans hRB.out)
  have HB2 := Lib.hid (HB0.out.trans (hb.mono hz2))
  clear s1 s2 s3 x0 x1 hb v0 v1 CR CN
  go_wp2_with (fail)
  have HG : Hid (GState w ((w2.setCell ⟨bx, 0, none⟩ (.slice xR g.rules.length cR)).setCell ⟨bx, 1, none⟩ (.slice xN g.nodes.length cN)) bx xR cR xN cN g 0 la) :=
    gstate0 (by omega) ((heap_setCell_other _ _ _ _ (by simp; omega)).trans ((heap_setCell_other _ _ _ _ (by simp; omega)).trans hRB2.out)) (blk_set S3.out _ _) (own_mono (own_set2 OR2.out S3.out (by decide)) hz2) (own_mono (own_set2 ON2.out S3.out (by decide)) hz2) HLA.out ((HB2.out.setCell (by simp; omega) _).setCell (by simp; omega) _) HKR.out
  clear OR2 ON2 S3 hRB2 HB2 bc0 bc1 bf0 bf1 HLA HKR HLEN
  generalize (w2.setCell ⟨bx, 0, none⟩ (.slice xR g.rules.length cR)).setCell ⟨bx, 1, none⟩ (.slice xN g.nodes.length cN) = WF at HG ⊢
  go_loopw [15] (fun j wr => ∃ (k : Nat) (la' : List NdA), k ≤ g.nodes.length ∧ j = .int .i64 k ∧ Hid (GState w wr bx xR cR xN cN g k la')) (fun j _ => g.nodes.length - (intOf j).toNat)
  case atStart => exact ⟨0, la, Nat.zero_le _, rfl, HG⟩
  case round =>
    obtain ⟨k, la', hk, rfl, HG⟩ := hrel
    by_cases hlt : k < g.nodes.length
    · obtain ⟨gN, rfl, hl', hN1, hN2, b1, hk1, hzb, hzg, hgb⟩ := gstate_get HG.out hlt
      have hkl := hkk _ (List.getElem_mem hlt)
      rw [← hk1.2.2] at hkl
      have CI := Lib.hid (fun W (hb : Below w.heap.size w W) => cloneInt_any la'[k].a la'[k].nd.kids.length la'[k].c (intsV la'[k].nd.kids) W (by omega) (by simp [intsV]) ((cells_of_ints hk1.1).below hb) hk1.2.1 (intsV_one _))
      have HBW := Lib.hid HG.out.2.2.2.2.2.2.2.2.2
      have HSt := Lib.hid (fun w3 hb a c ho => gstate_step (w3 := w3) HG.out hl' hb a c ho)
      clear hk1
      generalize la'[k] = x at *
      go_wp2_with (fail)
      refine wp_region_ext_tail 12 (fun _ _ v w' => ∃ a c, v = .slice a x.nd.kids.length c ∧ w'.ownsRow wr.heap.size 3 1 v x.nd.kids.length (intsV x.nd.kids)) ?_ (by kernel_rfl) (by kernel_rfl) ?_
      · rintro f args v x x' hb ⟨a, c, h2, h4⟩
        exact ⟨a, c, h2, own_below h4 hb⟩
      simp only [List.take_succ_cons, List.take_zero, List.drop_succ_cons, List.drop_zero]
      have x0 := fun e => ext_cell b1 e
      have x1 := fun e => ext_cell hN1 e
      refine lex_quiet (fun _ _ _ h1 h2 w' hb hg => h2 w' hb (h1 w' hg)) [_, _, _, _, _, _, _, _, _] _ (by rfl) ?_
      repeat (go_big_quiet_step (with_reducible rfl))
      refine wpQuiet_nil ?_
      refine lex_call (fun _ _ _ h1 h2 w' hb hg => h2 w' hb (h1 w' hg)) 48 #[.slice x.a x.nd.kids.length x.c] (by rfl) (fun _ => by go_simp) (fun w1 hb => (CI.out w1 (HBW.out.trans (hb.mono HBW.out.size))).mono ?_) ?_
      · rintro e w' ⟨v, rfl, ho, hb'⟩
        obtain ⟨a, c, rfl, hn⟩ := own_slice ho
        exact ⟨_, rfl, hb', a, c, rfl, own_mono ho hb.size⟩
      rintro v ⟨wv, xI, cI, rfl, -⟩
      simp only [Act.put, List.setIfInBounds_toArray, List.set_cons_succ, List.set_cons_zero]
      refine lex_quiet (fun _ _ _ h1 h2 w' hb hg => h2 w' hb (h1 w' hg)) [_, _] _ (by rfl) ?_
      repeat (go_big_quiet_step (with_reducible rfl))
      refine wpQuiet_nil (lex_nil ?_)
      rintro w3 hb ⟨-, a, c, e, ho⟩
      injection e with e1 _ e2
      subst e1 e2
      have HG2 := Lib.hid (HSt.out w3 hb xI cI ho)
      have z1 := cell_keep hb hN1
      have z2 : w3.frozen? ⟨gN, k * 7 + 1, none⟩ = false := (hb.frozen (p := ⟨gN, k * 7 + 1, none⟩) hzg).trans hN2
      clear x0 x1 hb ho HSt HBW CI HG b1 hN1 hN2
      go_wp2
      go_roundw
      case rel => exact ⟨k + 1, _, by omega, by go_num, HG2⟩
      case measure => simp [intOf]; omega
    · obtain rfl : k = g.nodes.length := by omega
      have h1 := HG.out.2.1
      have h2 := HG.out.2.2.1
      have bc0 := cell_of_row wr bx 0 _ _ _ h2
      have bc1 := cell_of_row wr bx 1 _ _ _ h2
      have rc0 := cell_of_row wr (w.heap.size + 1) 0 _ _ _ h1
      have rc1 := cell_of_row wr (w.heap.size + 1) 1 _ _ _ h1
      have rf0 := frozen_of_row wr (w.heap.size + 1) 0 _ _ h1
      have rf1 := frozen_of_row wr (w.heap.size + 1) 1 _ _ h1
      simp only [List.getElem?_toArray, List.getElem?_cons_zero, List.getElem?_cons_succ] at bc0 bc1 rc0 rc1
      have H1 := Lib.hid h1
      clear h1 h2
      go_wp2
      refine bodyPost_ret (v := .agg #[.slice xR g.rules.length cR, .slice xN g.nodes.length cN]) (results_cell_row rfl _ _ (w.heap.size + 1) 36 #[.slice xR g.rules.length cR, .slice xN g.nodes.length cN] (0, 0) _ rfl (blk_set H1.out _ _) Try.underlying36 rfl (by kernel_rfl)) rfl ?_
      obtain ⟨p0, p1, p2, p3, p4, p5, p6, p7, p8, p9⟩ := HG.out
      have hl : la'.length = g.nodes.length := by rw [← p5]; simp [nds]
      refine ⟨xR, cR, xN, cN, la', rfl, p5, ⟨own_set2 p3 p1 (by decide), by rw [hl]; exact own_set2 p4 p1 (by decide), ?_, by rw [← hl, List.take_length] at p8; exact p8⟩, (p9.setCell (by simp) _).setCell (by simp) _⟩
      intro x hx
      obtain ⟨m, hm, rfl⟩ := List.mem_iff_getElem.1 hx
      have h6 := p6 m hm (by omega)
      exact own_set2 h6 p1 (by decide)
end Go.Proofs.Ytdphcblbkdgbhaa
