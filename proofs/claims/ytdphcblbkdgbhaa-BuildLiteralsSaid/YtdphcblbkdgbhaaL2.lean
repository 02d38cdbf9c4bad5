import Derived.Test.YtdphcblbkdgbhaaL1
namespace Go.Proofs.Ytdphcblbkdgbhaa
open Go.RowKit
theorem ownG_nds {w : World} {base : Nat} {ra : Option Addr} {rc : Nat} {na : Option Addr} {nc : Nat} {rl : List Rl} {la : List NdA} (h : OwnG w base ra rc na nc rl la) : RlsAt w ra rl ∧ NdsAt w na (nds la) :=
  ⟨rls_of_cells (own_cells h.1), nds_of_cells (own_cells h.2.1) fun x hx => (h.2.2.1 x hx).kidR⟩
theorem ownG_below {w w' : World} {base : Nat} {ra : Option Addr} {rc : Nat} {na : Option Addr} {nc : Nat} {rl : List Rl} {la : List NdA} (h : OwnG w base ra rc na nc rl la) (hb : Below w.heap.size w w') : OwnG w' base ra rc na nc rl la :=
  ⟨own_below h.1 hb, own_below h.2.1 hb, fun x hx => own_below (h.2.2.1 x hx) hb, h.2.2.2⟩
theorem ownG_mono {w : World} {base base' : Nat} {ra : Option Addr} {rc : Nat} {na : Option Addr} {nc : Nat} {rl : List Rl} {la : List NdA} (h : OwnG w base ra rc na nc rl la) (hb : base' ≤ base) : OwnG w base' ra rc na nc rl la :=
  ⟨own_mono h.1 hb, own_mono h.2.1 hb, fun x hx => own_mono (h.2.2.1 x hx) hb, h.2.2.2⟩
theorem own_pos {w : World} {base : Nat} {e : TypeId} {size n c : Nat} {a : Option Addr} {xs : List Value} (h : w.ownsRow base e size (.slice a n c) n xs) (hn : 0 < n) : ∃ g, a = some ⟨g, 0, none⟩ ∧ n ≤ c := by
  rcases h.2 with ⟨_, h0⟩ | ⟨g, cap, cur, hv, _, _, hc, _⟩
  · omega
  · cases hv; exact ⟨g, rfl, hc⟩
set_option maxRecDepth 20000 in
set_option maxHeartbeats 6400000 in
theorem append_any (g x : Gr) (i : Nat) (ra na : Option Addr) (rc nc : Nat) (xa ya : Option Addr) (xc yc : Nat) (w : World) (hr : g.rules.length ≤ 100000) (hn : g.nodes.length ≤ 100000) (hkk : ∀ x ∈ g.nodes, x.kids.length ≤ 100000) (hr' : x.rules.length ≤ 100000) (hn' : x.nodes.length ≤ 100000) (hkk' : ∀ y ∈ x.nodes, y.kids.length ≤ 100000)
    (hra : ra = none → rc = 0) (hna : na = none → nc = 0) (hxa : xa = none → xc = 0) (hya : ya = none → yc = 0) (R : RlsAt w ra g.rules) (N : NdsAt w na g.nodes) (R' : RlsAt w xa x.rules) (N' : NdsAt w ya x.nodes) (ho : orderedB x = true) (hi : i < x.nodes.length) :
    Calls Try.prog 22 #[.agg #[.slice ra g.rules.length rc, .slice na g.nodes.length nc], .agg #[.slice xa x.rules.length xc, .slice ya x.nodes.length yc], .int .i64 i] w fun e w' =>
      ∃ ra' rc' na' nc' la, e = .returned (.tuple #[.agg #[.slice ra' g.rules.length rc', .slice na' la.length nc'], .int .i64 ((i : Int) + ((g.nodes.length : Int) - (expr x.nodes i + 1)))]) ∧ nds la = (appendG g x i).nodes ∧ OwnG w' w.heap.size ra' rc' na' nc' g.rules la ∧ Below w.heap.size w w' := by
  have hex := ordered_all ho i hi
  have hel := (expr_lo x.nodes i).2
  obtain ⟨f, hf⟩ : ∃ f : Nat, expr x.nodes i + 1 = f := ⟨(expr x.nodes i + 1).toNat, by omega⟩
  have hfi : f ≤ i := by omega
  have F := Lib.hid (fun W (N : NdsAt W ya x.nodes) => first_any x.nodes xa x.rules.length xc ya yc W (by omega) (fun y hy => Nat.le_trans (hkk' y hy) (by decide)) (ordered_kids ho) N i hi hex.1)
  rw [hf] at F
  have HF := Lib.hid hf
  have HKO := Lib.hid (ordered_kids ho)
  have CG := Lib.hid (fun W R N => gclone_any g ra na rc nc W (by omega) (by omega) (fun y hy => Nat.le_trans (hkk y hy) (by decide)) hra hna R N)
  have CX := Lib.hid (fun W R N => gclone_any x xa ya xc yc W (by omega) (by omega) (fun y hy => Nat.le_trans (hkk' y hy) (by decide)) hxa hya R N)
  have RR := Lib.hid R
  have NN := Lib.hid N
  have RX := Lib.hid R'
  have NX := Lib.hid N'
  have HKX := Lib.hid hkk'
  clear hel hex hf ho R N R' N' hkk hkk'
  go_enter Try.func22, Try.ntmps22
  go_wp2_with (fail)
  have HB0 : Hid (Below w.heap.size w (((w.alloc (.cells #[.slice ra g.rules.length rc, .slice na g.nodes.length nc] 36)).alloc (.cells #[.slice xa x.rules.length xc, .slice ya x.nodes.length yc] 36)).alloc (.cells #[.slice none 0 0, .slice none 0 0] 36))) := (((Below.refl _ _).alloc (Nat.le_refl _) _).alloc (by simp) _).alloc (by simp <;> omega) _
  have hx0 : Hid ((((w.alloc (.cells #[.slice ra g.rules.length rc, .slice na g.nodes.length nc] 36)).alloc (.cells #[.slice xa x.rules.length xc, .slice ya x.nodes.length yc] 36)).alloc (.cells #[.slice none 0 0, .slice none 0 0] 36)).heap[w.heap.size + 1]? = some (.cells #[.slice xa x.rules.length xc, .slice ya x.nodes.length yc] 36 (0, 0))) := (Below.heap_alloc _ _ _ (by simp)).trans (heap_alloc2_new w _ _)
  have hx1 : Hid ((((w.alloc (.cells #[.slice ra g.rules.length rc, .slice na g.nodes.length nc] 36)).alloc (.cells #[.slice xa x.rules.length xc, .slice ya x.nodes.length yc] 36)).alloc (.cells #[.slice none 0 0, .slice none 0 0] 36)).heap[w.heap.size + 2]? = some (.cells #[.slice none 0 0, .slice none 0 0] 36 (0, 0))) := by
    have h := heap_alloc2_new (w.alloc (.cells #[.slice ra g.rules.length rc, .slice na g.nodes.length nc] 36)) (.cells #[.slice xa x.rules.length xc, .slice ya x.nodes.length yc] 36) (.cells #[.slice none 0 0, .slice none 0 0] 36)
    rw [show (w.alloc (.cells #[.slice ra g.rules.length rc, .slice na g.nodes.length nc] 36)).heap.size + 1 = w.heap.size + 2 by simp] at h
    exact h
  have hsz : w.heap.size + 3 = (((w.alloc (.cells #[.slice ra g.rules.length rc, .slice na g.nodes.length nc] 36)).alloc (.cells #[.slice xa x.rules.length xc, .slice ya x.nodes.length yc] 36)).alloc (.cells #[.slice none 0 0, .slice none 0 0] 36)).heap.size := by simp
  generalize hW : ((w.alloc (.cells #[.slice ra g.rules.length rc, .slice na g.nodes.length nc] 36)).alloc (.cells #[.slice xa x.rules.length xc, .slice ya x.nodes.length yc] 36)).alloc (.cells #[.slice none 0 0, .slice none 0 0] 36) = W at *
  clear hW
  refine (CG.out _ (RR.out.below HB0.out) (NN.out.below HB0.out)).mono ?_
  rintro e w1 ⟨xR, cR, xN, cN, lg, rfl, hlg, hog, hb⟩
  have hz1 : W.heap.size ≤ w1.heap.size := hb.size
  have hq1 : w.heap.size + 1 < w1.heap.size := by omega
  have hq2 : w.heap.size + 2 < w1.heap.size := by omega
  have B1 := Lib.hid (HB0.out.trans (hb.mono HB0.out.size))
  have hx2 := (hb.block _ (Array.getElem?_eq_some_iff.1 hx0.out).1).trans hx0.out
  have hx3 := Lib.hid ((hb.block _ (Array.getElem?_eq_some_iff.1 hx1.out).1).trans hx1.out)
  have y0 := cell_of_row w1 (w.heap.size + 1) 0 _ _ _ hx2
  have y1 := cell_of_row w1 (w.heap.size + 1) 1 _ _ _ hx2
  simp only [List.getElem?_toArray, List.getElem?_cons_zero, List.getElem?_cons_succ] at y0 y1
  have hx2 := Lib.hid hx2
  have HLG := Lib.hid hlg
  have hlgl := nds_len hlg
  have HOG := Lib.hid hog
  clear hb hlg hog hx0 hx1 HB0 CG
  have hA1 : Hid (Below w1.heap.size w1 (w1.alloc (.cells #[.slice xR g.rules.length cR, .slice xN g.nodes.length cN] 36))) := (Below.refl _ _).alloc (Nat.le_refl _) _
  go_wp2_with (fail)
  refine (F.out _ ((NX.out.below B1.out).below hA1.out)).mono ?_
  rintro e w2 ⟨rfl, hb⟩
  have hz2 : w1.heap.size < w2.heap.size := by have := hb.size; simp at this; omega
  have hbx := (hb.block w1.heap.size (by simp)).trans (heap_alloc_new w1 (.cells #[.slice xR g.rules.length cR, .slice xN g.nodes.length cN] 36))
  have hA2 : Below w1.heap.size w1 w2 := hA1.out.trans (hb.mono (by simp))
  have hx2b := (hA2.block _ hq1).trans hx2.out
  have y0 := cell_of_row w2 (w.heap.size + 1) 0 _ _ _ hx2b
  have y1 := cell_of_row w2 (w.heap.size + 1) 1 _ _ _ hx2b
  have q0 := cell_of_row w2 w1.heap.size 0 _ _ _ hbx
  have q1 := cell_of_row w2 w1.heap.size 1 _ _ _ hbx
  simp only [List.getElem?_toArray, List.getElem?_cons_zero, List.getElem?_cons_succ] at y0 y1 q0 q1
  have HA2 := Lib.hid hA2
  have hbx := Lib.hid hbx
  clear hb hA1 hx2b hA2
  go_wp2_with (fail)
  have B2 := Lib.hid (B1.out.trans (HA2.out.mono B1.out.size))
  refine (CX.out w2 (RX.out.below B2.out) (NX.out.below B2.out)).mono ?_
  rintro e w3 ⟨xS, cS, xC, cC, lx, rfl, hlx, hox, hb⟩
  have HB3 := Lib.hid hb
  have hlxl := nds_len hlx
  have HLX := Lib.hid hlx
  have HOX := Lib.hid hox
  have hbx3 := Lib.hid ((hb.block _ hz2).trans hbx.out)
  have hz3 : w2.heap.size ≤ w3.heap.size := hb.size
  obtain ⟨gC, rfl, hcap⟩ := own_pos (n := lx.length) hox.2.1 (by omega)
  clear hb hlx hox y0 y1 q0 q1 F CX
  have hfld : ∀ (a b : Value) (W : World), (Instr.field 36 (.agg #[a, b]) 1).run Try.prog W = .ok b W := fun _ _ _ => by kernel_rfl
  have hcap2 : i + 1 ≤ cC := by omega
  have hne : ¬ cC = f := by omega
  go_wp2_with (fail)
  have hgCl := own_blk_lt HOX.out.2.1 gC (by simp [Value.ownBlock])
  have HST : Hid (AState w w3 w1.heap.size xR cR xN cN (some ⟨gC, 0, none⟩) cC g.rules lg lx f 0 ((g.nodes.length : Int) - f)) := by
    have o1 := HOG.out.1
    have o2 := HOG.out.2.1
    have hzz : w.heap.size ≤ W.heap.size := by omega
    have k1 : ∀ {e : TypeId} {size n : Nat} {v : Value} {xs : List Value}, w1.ownsRow W.heap.size e size v n xs → w3.ownsRow w.heap.size e size v n xs := fun h => own_mono (own_below (own_below h HA2.out) HB3.out) hzz
    refine ⟨by omega, (HB3.out.block _ (by omega)).trans ((HA2.out.block _ hq2).trans hx3.out), by rw [Nat.add_zero, hlgl]; exact hbx3.out, k1 o1, ?_, own_mono HOX.out.2.1 (by omega), ?_, fun y hy => k1 (HOG.out.2.2.1 y hy), fun j hj h1 h2 => by omega, fun j hj _ => own_mono (HOX.out.2.2.1 _ (List.getElem_mem hj)) (by omega), ?_, B2.out.trans (HB3.out.mono B2.out.size)⟩
    · rw [Nat.add_zero, List.take_zero, List.map_nil, List.append_nil]; exact k1 o2
    · intro e
      have h1 := own_blk_lt o2 gC e
      omega
    · rw [List.pairwise_append]
      refine ⟨HOG.out.2.2.2, HOX.out.2.2.2, fun y hy z hz => ?_⟩
      rcases kid_lt (HOG.out.2.2.1 y hy) with h | ⟨q, h, hq⟩
      · exact .inl h
      · right; rw [h]; intro e
        have := own_blk_lt (HOX.out.2.2.1 z hz) q (by rw [blk_own]; exact e.symm)
        omega
  have hbxz : w1.heap.size < w3.heap.size := by omega
  clear hbx3 hbx hx3 hx2 HA2 HB3 B2 B1 HOG HOX hfld hz1 hq1 hq2 hz2 hz3 hgCl
  generalize w1.heap.size = bx at *
  have hlg2 : lg.length ≤ 100000 := by omega
  have hlx2 : lx.length ≤ 100000 := by omega
  have hlx3 : i + 1 ≤ lx.length := by omega
  have HLGL := Lib.hid hlgl
  have HLXL := Lib.hid hlxl
  clear hlgl hlxl
  go_loopw [32] (fun j wr => ∃ (k : Nat) (xN : Option Addr) (cN : Nat), k ≤ i + 1 - f ∧ j = .int .i64 k ∧ Hid (AState w wr bx xR cR xN cN (some ⟨gC, 0, none⟩) cC g.rules lg lx f k ((g.nodes.length : Int) - f))) (fun j _ => i + 1 - f - (intOf j).toNat)
  case atStart => exact ⟨0, xN, cN, Nat.zero_le _, rfl, HST⟩
  case round =>
    obtain ⟨k, xN, cN, hk, rfl, HS⟩ := hrel
    clear HST
    by_cases hlt : k < i + 1 - f
    · have hfk : f + k < lx.length := by omega
      obtain ⟨hgC, g0, g1, g2, g3, g4, g5, g6⟩ := own_nd_at HS.out.2.2.2.2.2.1 (f + k) hfk (f * 7 + k * 7) (by omega)
      have HK9 := Lib.hid (HS.out.2.2.2.2.2.2.2.2.2.1 (f + k) hfk (Nat.le_refl _))
      have hnd : lx[f + k].nd = x.nodes[f + k]'(by have := HLXL.out; omega) := by
        have : (nds lx)[f + k]'(by simpa [nds] using hfk) = lx[f + k].nd := by simp [nds]
        rw [← this]; simp only [HLX.out]
      have hkl : lx[f + k].nd.kids.length ≤ 100000 := by rw [hnd]; exact HKX.out _ (List.getElem_mem _)
      have hkb : Hid (∀ y ∈ lx[f + k].nd.kids, 0 ≤ y ∧ y < 100000) := fun y hy => by
        rw [hnd] at hy
        have := HKO.out (f + k) (by have := HLXL.out; omega) y hy
        omega
      have HSS := Lib.hid (fun wf xN' cN' h1 h2 h3 h4 h5 h6 => astate_step (wf := wf) (xN' := xN') (cN' := cN') HS.out hfk h1 h2 h3 h4 h5 h6)
      have HTD := Lib.hid (take_drop_snoc (l := lx) (f := f) (k := k) hfk)
      clear hnd
      generalize lx[f + k] = y at *
      have HB := Lib.hid HS.out.2.2.2.2.2.2.2.2.2.2.2
      have hbl : bx < wr.heap.size := (Array.getElem?_eq_some_iff.1 HS.out.2.2.1).1
      obtain ⟨wo, rfl⟩ : ∃ wo : World, wo = wr := ⟨_, rfl⟩
      go_wp2_with (fail)
      have HX0 := Lib.hid (heap_alloc_new wo (.cells #[.int .i64 y.nd.op, .slice y.a y.nd.kids.length y.c, .int .i64 y.nd.rule, .int .u64 y.nd.set.a, .int .u64 y.nd.set.b, .int .u64 y.nd.set.c, .int .u64 y.nd.set.d] 55))
      have hW1 : (wo.alloc (.cells #[.int .i64 y.nd.op, .slice y.a y.nd.kids.length y.c, .int .i64 y.nd.rule, .int .u64 y.nd.set.a, .int .u64 y.nd.set.b, .int .u64 y.nd.set.c, .int .u64 y.nd.set.d] 55)).heap.size = wo.heap.size + 1 := by simp
      have HW1 : Hid (∀ b, b < wo.heap.size → (wo.alloc (.cells #[.int .i64 y.nd.op, .slice y.a y.nd.kids.length y.c, .int .i64 y.nd.rule, .int .u64 y.nd.set.a, .int .u64 y.nd.set.b, .int .u64 y.nd.set.c, .int .u64 y.nd.set.d] 55)).heap[b]? = wo.heap[b]?) := fun b hb => Below.heap_alloc _ _ _ hb
      have HBW : Hid (Below w.heap.size w (wo.alloc (.cells #[.int .i64 y.nd.op, .slice y.a y.nd.kids.length y.c, .int .i64 y.nd.rule, .int .u64 y.nd.set.a, .int .u64 y.nd.set.b, .int .u64 y.nd.set.c, .int .u64 y.nd.set.d] 55))) := HB.out.alloc HB.out.size _
      have HKW : Hid (KidO (wo.alloc (.cells #[.int .i64 y.nd.op, .slice y.a y.nd.kids.length y.c, .int .i64 y.nd.rule, .int .u64 y.nd.set.a, .int .u64 y.nd.set.b, .int .u64 y.nd.set.c, .int .u64 y.nd.set.d] 55)) w.heap.size y) := own_alloc HK9.out _
      generalize wo.alloc (.cells #[.int .i64 y.nd.op, .slice y.a y.nd.kids.length y.c, .int .i64 y.nd.rule, .int .u64 y.nd.set.a, .int .u64 y.nd.set.b, .int .u64 y.nd.set.c, .int .u64 y.nd.set.d] 55) = W1 at *
      go_loopw [39] (fun j wi => ∃ m : Nat, m ≤ y.nd.kids.length ∧ j = .int .i64 m ∧ Hid (wi.ownsRow w.heap.size 3 1 (.slice y.a y.nd.kids.length y.c) y.nd.kids.length (intsV ((y.nd.kids.take m).map (· + ((g.nodes.length : Int) - f)) ++ y.nd.kids.drop m))) ∧ Hid (∀ b, b < W1.heap.size → blk y.a ≠ some b → wi.heap[b]? = W1.heap[b]?) ∧ Hid (Below w.heap.size w wi) ∧ W1.heap.size ≤ wi.heap.size) (fun j _ => y.nd.kids.length - (intOf j).toNat)
      case atStart => exact ⟨0, Nat.zero_le _, rfl, HKW.out, fun _ _ _ => rfl, HBW, Nat.le_refl _⟩
      case round =>
        obtain ⟨m, hm, rfl, HOK, HEQ, HBI, hzi⟩ := hrel
        have hnx : blk y.a ≠ some wo.heap.size := fun e => by have := own_blk_lt HK9.out wo.heap.size (by rw [blk_own]; exact e); omega
        have hxi := (HEQ.out wo.heap.size (by omega) hnx).trans HX0.out
        have c1 := cell_of_row wr wo.heap.size 1 _ _ _ hxi
        simp only [List.getElem?_toArray, List.getElem?_cons_zero, List.getElem?_cons_succ] at c1
        by_cases hml : m < y.nd.kids.length
        · obtain ⟨kb, hya2, hcy⟩ := own_pos HOK.out (by omega)
          have hlist : (intsV ((y.nd.kids.take m).map (· + ((g.nodes.length : Int) - f)) ++ y.nd.kids.drop m))[m]? = some (.int .i64 y.nd.kids[m]) := by
            simp only [intsV, List.getElem?_map]
            rw [List.getElem?_append_right (by simp; omega)]
            simp [Nat.min_eq_left hm, hml]
          have hcl := cells_get (own_cells HOK.out) m _ hlist
          have hky := hkb.out _ (List.getElem_mem hml)
          have hset := set_mid y.nd.kids ((g.nodes.length : Int) - f) m hml
          have HSE := Lib.hid hset
          have HYA := Lib.hid hya2
          rw [hya2] at HOK hcl c1
          obtain ⟨b1, o1, e1, hc1⟩ := hcl
          cases e1
          rw [Nat.zero_add] at hc1
          obtain ⟨cs, hh, hbk⟩ := own_heap HOK.out
          have hf1 := frozen_of_row wr kb m _ _ hh
          have hOK2 := Lib.hid (own_setAt (i := m) (u := .int .i64 (y.nd.kids[m] + ((g.nodes.length : Int) - f))) HOK.out (by simp [intsV]; omega))
          rw [hset] at hOK2
          clear hset hya2 hlist hh
          generalize y.nd.kids[m] = v at *
          go_wp2_with (fail)
          go_roundw
          case rel =>
            refine ⟨m + 1, by omega, by go_num, by rw [HYA.out]; exact hOK2, fun b hb hne => ?_, HBI.out.setCell hbk _, by simpa using hzi⟩
            rw [heap_setCell_other _ _ _ _ (fun e => hne (by rw [HYA.out, e]; rfl))]
            exact HEQ.out b hb hne
          case measure => simp [intOf]; omega
        · obtain rfl : m = y.nd.kids.length := by omega
          rw [List.take_length, List.drop_length, List.append_nil] at HOK
          have hnbx : blk y.a ≠ some bx := kid_ne HK9.out HS.out.2.2.1 (by decide)
          have hbi := (HEQ.out bx (by omega) hnbx).trans ((HW1.out bx hbl).trans HS.out.2.2.1)
          have hN4 := HS.out.2.2.2.2.1
          have hneN : (Value.slice xN (lg.length + k) cN).ownBlock ≠ some bx := own_ne_blk hN4 HS.out.2.2.1 (by decide)
          have HN2 : Hid (wr.ownsRow w.heap.size 55 7 (.slice xN (lg.length + k) cN) (lg.length + k) (rowNd (lg ++ ((lx.drop f).take k).map (mvA ((g.nodes.length : Int) - f))))) := by
            refine own_of_heap hN4 fun b hb hv => ?_
            rw [HEQ.out b (by omega) (fun e => ?_), HW1.out b hb]
            rcases HK9.out.2 with ⟨q, _⟩ | ⟨gk, cap, cur, q, _, hh, _⟩
            · injection q with q; rw [q] at e; simp [blk] at e
            · injection q with q; rw [q] at e
              have : gk = b := by simpa [blk] using e
              subst this
              exact own_ne_blk hN4 hh (by decide) hv
          have b1 := cell_of_row wr bx 1 _ _ _ hbi
          have bf := frozen_of_row wr bx 1 _ _ hbi
          have c0 := cell_of_row wr wo.heap.size 0 _ _ _ hxi
          have c2 := cell_of_row wr wo.heap.size 2 _ _ _ hxi
          have c3 := cell_of_row wr wo.heap.size 3 _ _ _ hxi
          have c4 := cell_of_row wr wo.heap.size 4 _ _ _ hxi
          have c5 := cell_of_row wr wo.heap.size 5 _ _ _ hxi
          have c6 := cell_of_row wr wo.heap.size 6 _ _ _ hxi
          simp only [List.getElem?_toArray, List.getElem?_cons_zero, List.getElem?_cons_succ] at b1 c0 c2 c3 c4 c5 c6
          have hxi := Lib.hid hxi
          have hbi := Lib.hid hbi
          have hlgk : lg.length + k + 1 ≤ 300000 := by omega
          have HBI' := HBI
          have hmvc := rowNd_snoc (lg ++ ((lx.drop f).take k).map (mvA ((g.nodes.length : Int) - f))) (mvA ((g.nodes.length : Int) - f) y)
          simp only [NdA.cells, mvA, mvN, List.length_map] at hmvc
          have HMV := Lib.hid hmvc
          have hneN := Lib.hid hneN
          clear hmvc hN4 hnx g0 g1 g2 g3 g4 g5 g6
          go_wp2_with (at_builtin; refine app1 (P := Try.prog) w.heap.size rfl _ _ 34 55 (.agg #[.int .i64 0, .slice none 0 0, .int .i64 0, .int .u64 0, .int .u64 0, .int .u64 0, .int .u64 0]) 7 72 rfl Try.underlying34 infoNd rfl (by omega) (by omega) _ (lg.length + k) _ HN2.out HBI.out _ rfl (by rfl) rfl (by simp [Value.oneCell']) HBI.out.size (by omega) ?_; intro vn w4 hownn hbn hgn hatn; obtain ⟨xN', cN', rfl, hnn⟩ := own_slice hownn; have hp4 := (hgn.block bx (by simp <;> omega) (fun e => hneN.out e.symm)).trans ((Below.heap_alloc _ _ _ (by omega)).trans hbi.out); have z1 := cell_of_row w4 bx 1 _ _ _ hp4; have zf := frozen_of_row w4 bx 1 _ _ hp4; simp only [List.getElem?_toArray, List.getElem?_cons_zero, List.getElem?_cons_succ] at z1; have hp4 := Lib.hid hp4; have hgn := Lib.hid hgn; have hownn := Lib.hid hownn; have hbn := Lib.hid hbn; have hatn := Lib.hid hatn; clear b1 bf c0 c1 c2 c3 c4 c5 c6)
          have hwz : w.heap.size ≤ wo.heap.size := HB.out.size
          have hbx2 : w.heap.size + 3 ≤ bx := HS.out.1
          have K1 : ∀ b, b < wo.heap.size → (Value.slice xN (lg.length + k) cN).ownBlock ≠ some b → b ≠ bx → blk y.a ≠ some b → (w4.setCell ⟨bx, 1, none⟩ (.slice xN' (lg.length + k + 1) cN')).heap[b]? = wo.heap[b]? := by
            intro q hq h1 h2 h3
            rw [heap_setCell_other _ _ _ _ (by simpa using h2), hgn.out.block q (by simp; omega) (fun e => h1 e.symm), Below.heap_alloc _ _ _ (by omega), HEQ.out q (by omega) h3, HW1.out q hq]
          have K2 : (w4.setCell ⟨bx, 1, none⟩ (.slice xN' (lg.length + k + 1) cN')).heap[bx]? = some (.cells #[.slice xR g.rules.length cR, .slice xN' (lg.length + k + 1) cN'] 36 (0, 0)) := heap_setCell_same _ _ 1 _ _ _ hp4.out
          have K3 : (Value.slice xN' (lg.length + k + 1) cN').ownBlock = (Value.slice xN (lg.length + k) cN).ownBlock ∨ ∃ q, (Value.slice xN' (lg.length + k + 1) cN').ownBlock = some q ∧ wo.heap.size ≤ q := by
            rcases hatn.out with h | h
            · exact .inl h
            · exact .inr ⟨_, h, by omega⟩
          have K4 : (w4.setCell ⟨bx, 1, none⟩ (.slice xN' (lg.length + k + 1) cN')).ownsRow w.heap.size 55 7 (.slice xN' (lg.length + k + 1) cN') (lg.length + k + 1) (rowNd (lg ++ ((lx.drop f).take (k + 1)).map (mvA ((g.nodes.length : Int) - f)))) := by
            have h := hownn.out
            rw [HTD.out, List.map_append, ← List.append_assoc]
            have h' : w4.ownsRow w.heap.size 55 7 (.slice xN' (lg.length + k + 1) cN') (lg.length + k + 1) (rowNd (lg ++ ((lx.drop f).take k).map (mvA ((g.nodes.length : Int) - f)) ++ [y].map (mvA ((g.nodes.length : Int) - f)))) := by
              have e := HMV.out
              simp only [List.map_cons, List.map_nil, mvA, mvN] at e ⊢
              rw [← e]; exact h
            exact own_set h' (own_ne_blk h' hp4.out (by decide))
          have K5 : KidO (w4.setCell ⟨bx, 1, none⟩ (.slice xN' (lg.length + k + 1) cN')) w.heap.size (mvA ((g.nodes.length : Int) - f) y) := by
            have h0 : KidO wr w.heap.size (mvA ((g.nodes.length : Int) - f) y) := by
              show wr.ownsRow _ _ _ _ _ _
              rw [mv_len]; exact HOK.out
            refine own_of_heap h0 fun q hq hv => ?_
            have hq2 : q ≠ bx := fun e => own_ne_blk h0 hbi.out (by decide) (by rw [hv, e])
            have hqn : (Value.slice xN (lg.length + k) cN).ownBlock ≠ some q := fun e => by
              rcases HN2.out.2 with ⟨p, _⟩ | ⟨gN, cap, cur, p, _, hh, _⟩
              · rw [p] at e; simp [Value.ownBlock] at e
              · rw [p] at e
                have : gN = q := by simpa [Value.ownBlock] using e
                subst this
                exact own_ne_blk h0 hh (by decide) hv
            rw [heap_setCell_other _ _ _ _ (by simpa using hq2), hgn.out.block q (by simp; omega) (fun e => hqn e.symm), Below.heap_alloc _ _ _ hq]
          have HS2 := Lib.hid (HSS.out _ xN' cN' K1 K2 K3 K4 K5 (hbn.out.setCell (by simp; omega) _))
          go_roundw
          case rel => exact ⟨k + 1, xN', cN', by omega, by go_num, HS2⟩
          case measure => simp [intOf]; omega
    · obtain rfl : k = i + 1 - f := by omega
      obtain ⟨p0, p1, p2, p3, p4, p5, p6, p7, p8, p9, p10, p11⟩ := HS.out
      have bc0 := cell_of_row wr bx 0 _ _ _ p2
      have bc1 := cell_of_row wr bx 1 _ _ _ p2
      have rc0 := cell_of_row wr (w.heap.size + 1 + 1) 0 _ _ _ p1
      have rc1 := cell_of_row wr (w.heap.size + 1 + 1) 1 _ _ _ p1
      have rf0 := frozen_of_row wr (w.heap.size + 1 + 1) 0 _ _ p1
      have rf1 := frozen_of_row wr (w.heap.size + 1 + 1) 1 _ _ p1
      simp only [List.getElem?_toArray, List.getElem?_cons_zero, List.getElem?_cons_succ] at bc0 bc1 rc0 rc1
      have P1 := Lib.hid p1
      have P2 := Lib.hid p2
      have P3 := Lib.hid p3
      have P4 := Lib.hid p4
      have P7 := Lib.hid p7
      have P8 := Lib.hid p8
      have P10 := Lib.hid p10
      have P11 := Lib.hid p11
      clear p1 p2 p3 p4 p5 p6 p7 p8 p9 p10 p11 HS
      go_wp2
      go_outline
      have e1 : lg.length + (i + 1 - f) = (lg ++ ((lx.drop f).take (i + 1 - f)).map (mvA ((g.nodes.length : Int) - f))).length := by
        simp only [List.length_append, List.length_map, List.length_take, List.length_drop]; omega
      have PW := blk_set P1.out (.slice xR g.rules.length cR) (.slice xN (lg.length + (i + 1 - f)) cN)
      have o3 := own_set2 (u1 := .slice xR g.rules.length cR) (u2 := .slice xN (lg.length + (i + 1 - f)) cN) P3.out P1.out (by decide)
      have o4 := own_set2 (u1 := .slice xR g.rules.length cR) (u2 := .slice xN (lg.length + (i + 1 - f)) cN) P4.out P1.out (by decide)
      have o7 : ∀ y ∈ lg, KidO _ w.heap.size y := fun y hy => own_set2 (u1 := .slice xR g.rules.length cR) (u2 := .slice xN (lg.length + (i + 1 - f)) cN) (P7.out y hy) P1.out (by decide)
      have o8 : ∀ j (h : j < lx.length), f ≤ j → j < f + (i + 1 - f) → KidO _ w.heap.size (mvA ((g.nodes.length : Int) - f) lx[j]) := fun j h h1 h2 => own_set2 (u1 := .slice xR g.rules.length cR) (u2 := .slice xN (lg.length + (i + 1 - f)) cN) (P8.out j h h1 h2) P1.out (by decide)
      have oB : Below w.heap.size w ((wr.setCell ⟨w.heap.size + 1 + 1, 0, none⟩ (.slice xR g.rules.length cR)).setCell ⟨w.heap.size + 1 + 1, 1, none⟩ (.slice xN (lg.length + (i + 1 - f)) cN)) := (P11.out.setCell (by simp; omega) _).setCell (by simp; omega) _
      generalize ((wr.setCell ⟨w.heap.size + 1 + 1, 0, none⟩ (.slice xR g.rules.length cR)).setCell ⟨w.heap.size + 1 + 1, 1, none⟩ (.slice xN (lg.length + (i + 1 - f)) cN)) = wz at *
      have z0 := cell_of_row wz (w.heap.size + 1 + 1) 0 _ _ _ PW
      have z1 := cell_of_row wz (w.heap.size + 1 + 1) 1 _ _ _ PW
      simp only [List.getElem?_toArray, List.getElem?_cons_zero, List.getElem?_cons_succ] at z0 z1
      have htl : (((lx.drop f).take (i + 1 - f)).map (mvA ((g.nodes.length : Int) - f))).length = i + 1 - f := by
        simp only [List.length_map, List.length_take, List.length_drop]; omega
      have htm : ∀ z ∈ ((lx.drop f).take (i + 1 - f)).map (mvA ((g.nodes.length : Int) - f)), KidO wz w.heap.size z := fun z hz => by
        obtain ⟨y, hy, rfl⟩ := List.mem_map.1 hz
        obtain ⟨j, hj, rfl⟩ := List.getElem_of_mem hy
        simp only [List.length_take, List.length_drop] at hj
        simp only [List.getElem_take, List.getElem_drop]
        exact o8 (f + j) (by omega) (by omega) (by omega)
      refine bodyPost_ret (v := .tuple #[.agg #[.slice xR g.rules.length cR, .slice xN (lg.length + (i + 1 - f)) cN], .int .i64 (i + (g.nodes.length - f))]) (by simp [results, Try.results22, go_sem, z0, z1]) rfl ⟨xR, cR, xN, cN, lg ++ ((lx.drop f).take (i + 1 - f)).map (mvA ((g.nodes.length : Int) - f)), ?_, ?_, ⟨o3, ?_, ?_, ?_⟩, oB⟩
      · rw [List.length_append, htl, HF.out]
      · unfold appendG
        simp only [HF.out, Int.toNat_natCast]
        rw [← HLX.out, ← HLG.out]
        simp [nds, mvA, Function.comp_def]
      · rw [List.length_append, htl]; exact o4
      · intro z hz
        rcases List.mem_append.1 hz with h | h
        · exact o7 z h
        · exact htm z h
      · have hp := P10.out
        rw [List.pairwise_append] at hp ⊢
        have hsub : ((lx.drop f).take (i + 1 - f)).Sublist lx := (List.take_sublist _ _).trans (List.drop_sublist _ _)
        refine ⟨hp.1, ?_, ?_⟩
        · rw [List.pairwise_map]; exact hp.2.1.sublist hsub
        · intro a ha b hb
          obtain ⟨y, hy, rfl⟩ := List.mem_map.1 hb
          exact hp.2.2 a ha y (hsub.subset hy)
end Go.Proofs.Ytdphcblbkdgbhaa
