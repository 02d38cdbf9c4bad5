import Derived.Test.YtdphcblbkdgbhaaM8
namespace Go.Proofs.Ytdphcblbkdgbhaa
open Go.RowKit
theorem take_snoc' {α : Type} {l : List α} {k : Nat} (h : k < l.length) : l.take (k + 1) = l.take k ++ [l[k]] := List.take_succ_eq_append_getElem h
set_option maxRecDepth 20000 in
set_option maxHeartbeats 6400000 in
theorem litems_any (its : List It) (ia : Option Addr) (ic : Nat) (w : World) (hl : its.length ≤ 100000) (hI : ItsAt w ia its) :
    Calls Try.prog 25 #[.slice ia its.length ic] w (RetIts 32 its w) := by
  have HI := Lib.hid hI
  clear hI
  have HB0 : Hid (Below w.heap.size w w) := Below.refl _ _
  have HO0 : Hid (w.ownsRow w.heap.size 32 7 (.slice none 0 0) 0 (rowIt (its.take 0))) := own_nil _ _ _ _
  go_enter Try.func25, Try.ntmps25
  go_wp2_with (fail)
  go_loopw [3, 4] (fun v j wr => ∃ (k : Nat) (xa : Option Addr) (xc : Nat), k ≤ its.length ∧ j = .int .i64 k ∧ v = .slice xa k xc ∧ Hid (wr.ownsRow w.heap.size 32 7 (.slice xa k xc) k (rowIt (its.take k))) ∧ Hid (Below w.heap.size w wr)) (fun _ j _ => its.length - (intOf j).toNat)
  case atStart => exact ⟨0, none, 0, Nat.zero_le _, rfl, rfl, HO0, HB0⟩
  case round =>
    obtain ⟨k, xa, xc, hk, rfl, rfl, HO, HB⟩ := hrel
    clear HO0 HB0
    by_cases hlt : k < its.length
    · obtain ⟨b, off, rfl, hbz, i0, i1, i2, i3, i4, i5, i6⟩ := HI.out.get HB k hlt
      have HSN : Hid (rowIt (its.take k) ++ its[k].cells = rowIt (its.take (k + 1))) := Lib.hid (by rw [take_snoc' hlt, rowIt_snoc])
      have hwz : w.heap.size ≤ wr.heap.size := HB.out.size
      generalize its[k] = x at *
      go_wp2_with (at_builtin; refine app1 (P := Try.prog) (w0 := w) w.heap.size rfl _ _ 25 32 (.agg #[.int .i64 0, .int .i64 0, .int .i64 0, .int .u64 0, .int .u64 0, .int .u64 0, .int .u64 0]) 7 56 rfl Try.underlying25 infoVIt rfl (by omega) (by omega) _ k _ HO.out HB.out _ rfl (by rfl) rfl (by simp [Value.oneCell']) (by omega) (by omega) ?_; intro vn w4 hown hbn hgn hatn; obtain ⟨xN', cN', rfl, hnn2⟩ := own_slice hown; have hown := Lib.hid hown; have hbn := Lib.hid hbn; clear hatn hgn)
      have HO4 : Hid (w4.ownsRow w.heap.size 32 7 (.slice xN' (k + 1) cN') (k + 1) (rowIt (its.take (k + 1)))) := Lib.hid (by rw [← HSN.out]; exact hown.out)
      go_roundw
      case rel => exact ⟨k + 1, xN', cN', by omega, by go_num, rfl, HO4, hbn⟩
      case measure => simp [intOf]; omega
    · obtain rfl : k = its.length := by omega
      have HO4 : Hid (wr.ownsRow w.heap.size 32 7 (.slice xa its.length xc) its.length (rowIt its)) := Lib.hid (by have h := HO.out; rwa [List.take_length] at h)
      clear HO
      go_wp2
      go_ret
      obtain ⟨a2, c2, e2, hnil⟩ := own_slice HO4.out
      exact ⟨xa, xc, by simp, fun h => by injection e2 with e3 _ e4; rw [e4]; exact hnil (e3.symm.trans h), HO4.out, HB.out⟩
set_option maxRecDepth 20000 in
set_option maxHeartbeats 6400000 in
theorem back_any (l : List Rs) (la : Option Addr) (lc : Nat) (w : World) (hl : l.length ≤ 100000) (hs : ∀ r ∈ l, r.items.length ≤ 100000) (R : RsAt w la l) :
    Calls Try.prog 17 #[.slice la l.length lc] w fun e w' => ∃ a c lr, e = .returned (.slice a l.length c) ∧ (a = none → c = 0) ∧ lr.length = l.length ∧ rss lr = l ∧ OwnRs w' w.heap.size 27 32 a c lr ∧ Below w.heap.size w w' := by
  have HR := Lib.hid R
  have HS := Lib.hid hs
  clear R hs
  have HB0 : Hid (Below w.heap.size w w) := Below.refl _ _
  have HO0 : Hid (OwnRs w w.heap.size 27 32 none 0 []) := Lib.hid ⟨own_nil _ _ _ _, fun _ h => by cases h⟩
  have HL0 : Hid (([] : List RsA).length = 0) := rfl
  have HT0 : Hid (rss [] = l.take 0) := rfl
  go_enter Try.func17, Try.ntmps17
  go_wp2_with (fail)
  go_loopw [3, 4] (fun v j wr => ∃ (k : Nat) (lr : List RsA) (xa : Option Addr) (xc : Nat), k ≤ l.length ∧ j = .int .i64 k ∧ v = .slice xa k xc ∧ Hid (lr.length = k) ∧ Hid (rss lr = l.take k) ∧ Hid (OwnRs wr w.heap.size 27 32 xa xc lr) ∧ Hid (Below w.heap.size w wr)) (fun _ j _ => l.length - (intOf j).toNat)
  case atStart => exact ⟨0, [], none, 0, Nat.zero_le _, rfl, rfl, HL0, HT0, HO0, HB0⟩
  case round =>
    obtain ⟨k, lr, xa, xc, hk, rfl, rfl, hlk, ht, HO, HB⟩ := hrel
    clear HO0 HB0 HL0 HT0
    by_cases hlt : k < l.length
    · obtain ⟨b, off, ka, kc, rfl, hbz, n0, n1, HI⟩ := HR.out.get HB k hlt
      have hil := HS.out _ (List.getElem_mem hlt)
      have htk : Hid (l.take (k + 1) = l.take k ++ [l[k]]) := Lib.hid (take_snoc' hlt)
      generalize l[k] = r at *
      obtain ⟨nm, L⟩ := r
      have C := Lib.hid (fun W (hB : Below w.heap.size w W) => litems_any L ka kc W hil (HI.out.below hB))
      have hwz : w.heap.size ≤ wr.heap.size := HB.out.size
      have HR2 : Hid (wr.ownsRow w.heap.size 27 2 (.slice xa k xc) k (rowRs lr)) := Lib.hid (by have h := HO.out.1; rw [hlk.out] at h; exact h)
      simp only at n0 n1
      go_upto_region 5 with (fail)
      refine wp_region_ext_tail 14 (fun _ _ v w' => ∃ a c, v = .slice a L.length c ∧ (a = none → c = 0) ∧ w'.ownsRow w.heap.size 32 7 v L.length (rowIt L)) ?_ (by kernel_rfl) (by kernel_rfl) ?_
      · rintro f args v x x' hb ⟨a, c, h2, h3, h4⟩
        exact ⟨a, c, h2, h3, own_below h4 hb⟩
      simp only [List.take_succ_cons, List.take_zero, List.drop_succ_cons, List.drop_zero]
      have x0 := fun e => ext_cell n0 e
      have x1 := fun e => ext_cell n1 e
      refine lex_quiet (fun _ _ _ h1 h2 w' hb hg => h2 w' hb (h1 w' hg)) [_, _, _, _, _, _, _, _, _, _, _] _ (by rfl) ?_
      repeat (go_big_quiet_step (with_reducible rfl))
      refine wpQuiet_nil ?_
      refine lex_call (fun _ _ _ h1 h2 w' hb hg => h2 w' hb (h1 w' hg)) 25 #[.slice ka L.length kc] (by rfl) (fun _ => by go_simp) (fun w1 hb => (C.out w1 (HB.out.trans (hb.mono HB.out.size))).mono ?_) ?_
      · rintro e w' ⟨a, c, rfl, hnil, ho, hb'⟩
        exact ⟨_, rfl, hb', a, c, rfl, hnil, own_mono ho (Nat.le_trans hwz hb.size)⟩
      rintro v ⟨wv, xI, cI, rfl, hnI, -⟩
      simp only [Act.put, List.setIfInBounds_toArray, List.set_cons_succ, List.set_cons_zero]
      refine lex_quiet (fun _ _ _ h1 h2 w' hb hg => h2 w' hb (h1 w' hg)) [_] _ (by rfl) ?_
      repeat (go_big_quiet_step (with_reducible rfl))
      refine wpQuiet_nil ?_
      refine lex_new (fun _ _ _ h1 h2 w' hb hg => h2 w' hb (h1 w' hg)) (fun b => .slice (some ⟨b, 0, none⟩) 1 1) (.cells #[.string nm, .slice xI L.length cI] 27) (fun b b' h => by injection h with h; injection h with h; injection h) (by rfl) (fun _ => by go_simp) ?_
      intro bx hbx
      simp only [Act.put, List.setIfInBounds_toArray, List.set_cons_succ, List.set_cons_zero]
      refine lex_nil ?_
      rintro w2 hb ⟨⟨-, a, c, e, -, ho⟩, s3⟩
      injection e with e1 _ e2
      subst e1 e2
      have HO2 : Hid (OwnRs w2 w.heap.size 27 32 xa xc lr) := Lib.hid ⟨own_below HO.out.1 hb, fun x hx => own_below (HO.out.2 x hx) hb⟩
      have HB2 := Lib.hid (HB.out.trans (hb.mono HB.out.size))
      have HR3 := Lib.hid (own_below HR2.out hb)
      have HI2 := Lib.hid ho
      have hwz2 : w.heap.size ≤ w2.heap.size := HB2.out.size
      have HSN := Lib.hid (rowRs_snoc lr ⟨⟨nm, L⟩, xI, cI⟩)
      have HC3 : Hid (CellsAt w2 (some ⟨bx, 0, none⟩) [.string nm, .slice xI L.length cI]) := Lib.hid (fun j hj => ⟨bx, 0, rfl, by
        rw [Nat.zero_add]
        exact (cell_of_row w2 bx j _ _ _ s3).trans (by simp [hj])⟩)
      clear x0 x1 ho hb s3 n0 n1 HR2
      refine appN (P := Try.prog) (w0 := w) w.heap.size rfl _ _ 22 27 (.agg #[.string ⟨#[]⟩, .slice none 0 0]) 2 40 rfl Try.underlying22 infoVRs rfl (by omega) (by omega) _ k _ HR3.out HB2.out (some ⟨bx, 0, none⟩) 1 1 [.string nm, .slice xI L.length cI] (by rfl) (by rfl) rfl HC3.out (fun h => by cases h) (by simp [Value.oneCell']) hwz2 (by omega) ?_
      intro vn w4 hown hbn hgn hatn
      obtain ⟨xN', cN', rfl, hnn2⟩ := own_slice hown
      have hown := Lib.hid hown
      have hbn := Lib.hid hbn
      have hgn := Lib.hid hgn
      clear hatn
      have hL2 : Hid ((lr ++ [(⟨⟨nm, L⟩, xI, cI⟩ : RsA)]).length = k + 1) := Lib.hid (by rw [List.length_append, hlk.out]; rfl)
      have hT2 : Hid (rss (lr ++ [(⟨⟨nm, L⟩, xI, cI⟩ : RsA)]) = l.take (k + 1)) := Lib.hid (by rw [htk.out, ← ht.out]; simp [rss])
      have HO4 : Hid (OwnRs w4 w.heap.size 27 32 xN' cN' (lr ++ [(⟨⟨nm, L⟩, xI, cI⟩ : RsA)])) := Lib.hid (by
        refine ⟨by rw [hL2.out, ← HSN.out]; exact hown.out, fun x hx => ?_⟩
        have key : ∀ {v : Value} {n : Nat} {xs : List Value}, w2.ownsRow w.heap.size 32 7 v n xs → w4.ownsRow w.heap.size 32 7 v n xs := fun h =>
          own_of_heap h fun b hb hv => hgn.out.block b hb (fun e => own_apart h HR3.out (by decide) b hv e.symm)
        rcases List.mem_append.1 hx with h | h
        · exact key (HO2.out.2 x h)
        · rw [List.mem_singleton.1 h]; exact key HI2.out)
      clear HO2 HR3 HO HSN HC3 htk
      go_wp2
      go_roundw
      case rel => exact ⟨k + 1, _, xN', cN', by omega, by go_num, rfl, hL2, hT2, HO4, hbn⟩
      case measure => simp [intOf]; omega
    · obtain rfl : k = l.length := by omega
      have hT : Hid (rss lr = l) := Lib.hid (by rw [ht.out, List.take_length])
      clear ht
      go_wp2
      go_ret
      obtain ⟨a2, c2, e2, hnil⟩ := own_slice HO.out.1
      refine ⟨xa, xc, lr, by simp, ?_, hlk.out, hT.out, HO.out, HB.out⟩
      intro h
      injection e2 with e3 _ e4
      rw [e4]; exact hnil (e3.symm.trans h)
end Go.Proofs.Ytdphcblbkdgbhaa
