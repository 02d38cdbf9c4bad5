import Derived.Test.YtgjoioilpnclpaaC4
import Derived.Test.YtgjoioilpnclpaaC3
import Derived.Test.YtgjoioilpnclpaaD1
import Derived.Deep.CutRange
import Derived.Deep.RegionWith
namespace Go.Proofs.Ytgjoioilpnclpaa
open Go.RowKit
theorem own_RowN {w : World} {base n c : Nat} {a : Option Addr} {l : List Nat} (h : w.ownsRow base 5 1 (.slice a n c) n (bytesV l)) : RowN .u8 w a l := fun j hj => by
  have hn : l.length = n := by have := h.1; simpa [bytesV] using this
  obtain ⟨g, cap, e, _, _, _, hc, _⟩ := own_row h (by omega)
  cases e
  refine ⟨g, 0, rfl, ?_⟩
  rw [Nat.zero_add]
  exact hc j _ (by simp [bytesV, hj])
/-- two boxes that hold the same set. -/
abbrev SetAt2 (W : World) (F U : Nat) (f : Nat → Nat) (w : World) : Prop :=
  w.cell? ⟨F, 0, none⟩ = some (.int .u64 (f 0)) ∧ w.cell? ⟨F, 1, none⟩ = some (.int .u64 (f 1)) ∧ w.cell? ⟨F, 2, none⟩ = some (.int .u64 (f 2)) ∧ w.cell? ⟨F, 3, none⟩ = some (.int .u64 (f 3)) ∧ w.cell? ⟨U, 0, none⟩ = some (.int .u64 (f 0)) ∧ w.cell? ⟨U, 1, none⟩ = some (.int .u64 (f 1)) ∧ w.cell? ⟨U, 2, none⟩ = some (.int .u64 (f 2)) ∧ w.cell? ⟨U, 3, none⟩ = some (.int .u64 (f 3)) ∧ Hid (w.heap[F]? = some (.cells (sc f) 24 (0, 0))) ∧ Hid (w.heap[U]? = some (.cells (sc f) 24 (0, 0))) ∧ Hid (Below W.heap.size W w)
theorem setAt2_mk {W : World} {F U : Nat} {f : Nat → Nat} {w : World} (h : w.heap[F]? = some (.cells (sc f) 24 (0, 0))) (h' : w.heap[U]? = some (.cells (sc f) 24 (0, 0))) (hb : Below W.heap.size W w) : SetAt2 W F U f w :=
  ⟨(row4 h).1.1, (row4 h).1.2.1, (row4 h).1.2.2.1, (row4 h).1.2.2.2, (row4 h').1.1, (row4 h').1.2.1, (row4 h').1.2.2.1, (row4 h').1.2.2.2, h, h', hb⟩
theorem setAt2_step {W : World} {F U : Nat} {f : Nat → Nat} {w w' : World} (h : SetAt2 W F U f w) (hb : Below w.heap.size w w') : SetAt2 W F U f w' := by
  obtain ⟨-, -, -, -, -, -, -, -, h1, h2, h3⟩ := h
  exact setAt2_mk ((hb.block _ (Array.getElem?_eq_some_iff.1 h1.out).1).trans h1.out) ((hb.block _ (Array.getElem?_eq_some_iff.1 h2.out).1).trans h2.out) (h3.out.trans (hb.mono h3.out.size))
theorem store4_other {w : World} {g k : Nat} (h : k ≠ g) (x y z u : Value) :
    ((((w.setCell ⟨g, 0, none⟩ x).setCell ⟨g, 1, none⟩ y).setCell ⟨g, 2, none⟩ z).setCell ⟨g, 3, none⟩ u).heap[k]? = w.heap[k]? :=
  (((heap_setCell_other _ _ _ _ h).trans (heap_setCell_other _ _ _ _ h)).trans (heap_setCell_other _ _ _ _ h)).trans (heap_setCell_other _ _ _ _ h)
theorem own_store4 {w : World} {base g : Nat} {e : TypeId} {size n : Nat} {v : Value} {xs : List Value} (h : w.ownsRow base e size v n xs) (hg : g < base) (x y z u : Value) :
    ((((w.setCell ⟨g, 0, none⟩ x).setCell ⟨g, 1, none⟩ y).setCell ⟨g, 2, none⟩ z).setCell ⟨g, 3, none⟩ u).ownsRow base e size v n xs := by
  rcases h with ⟨h1, h2 | ⟨b, cap, cur, hv, hb, hh, r⟩⟩
  · exact ⟨h1, .inl h2⟩
  · exact ⟨h1, .inr ⟨b, cap, cur, hv, hb, (store4_other (by omega) x y z u).trans hh, r⟩⟩
theorem below_store4 {w w' : World} {B g : Nat} (h : Below B w w') (hg : B ≤ g) (x y z u : Value) :
    Below B w ((((w'.setCell ⟨g, 0, none⟩ x).setCell ⟨g, 1, none⟩ y).setCell ⟨g, 2, none⟩ z).setCell ⟨g, 3, none⟩ u) :=
  (((h.setCell hg _).setCell hg _).setCell hg _).setCell hg _
set_option maxRecDepth 20000 in
set_option maxHeartbeats 4000000 in
theorem again_any {w : World} (f : Nat → Nat) (hf : Wf f) :
    Calls Try.prog 5 #[.agg (sc f)] w fun e w' => e = .returned (.bool true) ∧ Below w.heap.size w w' := by
  have hs := sc_size f
  have F0 := Lib.hid (heap_alloc_new w (.cells (sc f) 24))
  have HB0 : Hid (Below w.heap.size w (w.alloc (.cells (sc f) 24))) := (Below.refl _ _).alloc (Nat.le_refl _) _
  go_enter Try.func5, Try.ntmps5
  go_wp2_with (fail)
  generalize hW : w.alloc (.cells (sc f) 24) = W at *
  clear hW
  refine (awake_any W).mono ?_
  rintro e w1 ⟨rfl, hb⟩
  have B1 := Lib.hid (HB0.out.trans (hb.mono HB0.out.size))
  have F1 := Lib.hid ((hb.block _ (Array.getElem?_eq_some_iff.1 F0.out).1).trans F0.out)
  have hz1 : w.heap.size < w1.heap.size := (Array.getElem?_eq_some_iff.1 F1.out).1
  clear hb F0 HB0
  have F2 := Lib.hid (heap_alloc_lt _ (.cells (sc zF) 24) _ _ F1.out)
  have U2 := Lib.hid (heap_alloc_new w1 (.cells (sc zF) 24))
  have B2 : Hid (Below w.heap.size w (w1.alloc (.cells (sc zF) 24))) := B1.out.alloc B1.out.size _
  obtain ⟨a0, a1, a2, a3⟩ := allocFacts F1.out (.int .u64 0) (.int .u64 0) (.int .u64 0) (.int .u64 0)
  go_wp2_with (fail)
  clear a0 a1 a2 a3 F1 B1
  generalize hW : w1.alloc (.cells (sc zF) 24) = w2 at *
  have hW' : w1.alloc (.cells #[.int .u64 0, .int .u64 0, .int .u64 0, .int .u64 0] 24) = w2 := hW
  rw [hW']
  clear hW hW'
  generalize hnU : w1.heap.size = U at *
  clear hnU
  refine (runs_any f hf _).mono ?_
  rintro e w3 ⟨v, rfl, ho, hb⟩
  obtain ⟨x, c, rfl⟩ := own_slice ho
  have hzU : U < w2.heap.size := (Array.getElem?_eq_some_iff.1 U2.out).1
  have F3 := Lib.hid ((hb.block _ (Array.getElem?_eq_some_iff.1 F2.out).1).trans F2.out)
  have U3 := Lib.hid ((hb.block _ (Array.getElem?_eq_some_iff.1 U2.out).1).trans U2.out)
  have B3 := Lib.hid (B2.out.trans (hb.mono B2.out.size))
  have hzw : w.heap.size ≤ U := Nat.le_of_lt hz1
  have HO := Lib.hid ho
  have hlen := runsTo_len f 256
  have hhi := Lib.hid (runsTo_hi f 256)
  have hgap := Lib.hid (gap_all f 256)
  have hend := Lib.hid (cov_end hf)
  clear hb ho F2 U2 B2
  generalize runsTo f 256 = l at *
  generalize hm : l.length = m at *
  have HM := Lib.hid hm
  clear hm
  go_wp2_with (fail)
  go_loopw [5] (fun j wr => ∃ k : Nat, k ≤ m ∧ j = .int .i64 k ∧ Hid (wr.heap[w.heap.size]? = some (.cells (sc f) 24 (0, 0))) ∧ Hid (wr.heap[U]? = some (.cells (sc (setF (cov (l.take k)))) 24 (0, 0))) ∧ Hid (wr.ownsRow w2.heap.size 32 2 (.slice x m c) m (pairsV l)) ∧ Hid (Below w.heap.size w wr)) (fun j _ => m - (intOf j).toNat)
  case atStart => exact ⟨0, by omega, rfl, F3, by rw [List.take_zero, cov_nil]; exact U3, HO, B3⟩
  case round =>
    obtain ⟨k, hk, rfl, F4, U4, O4, B4⟩ := hrel
    clear F3 U3 B3 HO
    by_cases hlt : k < m
    · have hdc : decide ((k : Int) < m) = true := by simp; omega
      obtain ⟨g, cp, eA, hg1, hg2, lA, cells, -⟩ := own_row O4.out (by omega)
      cases eA
      obtain ⟨⟨p, q⟩, hpq⟩ : ∃ q, l[k]? = some q := ⟨_, List.getElem?_eq_getElem (by rw [HM.out]; exact hlt)⟩
      have hpb := hhi.out _ (List.mem_of_getElem? hpq)
      simp only at hpb
      have p0 := cells _ _ (pairsV_at l k p q hpq).1
      have p1 := cells _ _ (pairsV_at l k p q hpq).2
      have hst := cov_step hpq
      have CELLS := Lib.hid cells
      have HPQ := Lib.hid hpq
      have HST := Lib.hid hst
      clear cells hpq hst
      go_wp2_with (fail)
      go_cut [5] from 10 to 47 (fun v wx => v = .int .i64 k ∧ Hid (wx.heap[w.heap.size]? = some (.cells (sc f) 24 (0, 0))) ∧ Hid (wx.heap[U]? = some (.cells (sc (setF (cov (l.take (k + 1))))) 24 (0, 0))) ∧ Hid (wx.ownsRow w2.heap.size 32 2 (.slice (some ⟨g, 0, none⟩) m c) m (pairsV l)) ∧ Hid (Below w.heap.size w wx))
      case first =>
        have i1 : (0 : Int) ≤ (k : Int) := by omega
        have i2 : (k : Int) < (m : Int) := by omega
        have i3 : (k : Int).toNat = k := rfl
        obtain ⟨⟨a0, a1, a2, a3⟩, -⟩ := row4 U4.out
        go_region_with (first
          | (go_at_call 18; refine (range_any p q (by omega) (by omega) _).mono ?_; rintro e w4 ⟨rfl, hb1⟩; have U5 := Lib.hid ((hb1.block _ (Array.getElem?_eq_some_iff.1 U4.out).1).trans U4.out); obtain ⟨⟨b0, b1, b2, b3⟩, -⟩ := row4 U5.out)
          | (go_at_call 21; refine (union_any (setF (cov (l.take k))) (setF (between p (q + 1))) (setF_wf _) (setF_wf _) _).mono ?_; rintro e w5 ⟨rfl, hb2⟩; simp only [sc]; have U6 := Lib.hid ((hb2.block _ (Array.getElem?_eq_some_iff.1 U5.out).1).trans U5.out); obtain ⟨⟨c0, c1, c2, c3⟩, d0, d1, d2, d3⟩ := row4 U6.out))
        all_goals
          go_wp2_with (fail)
          go_meet
          have hbb := hb1.trans (hb2.mono hb1.size)
          refine ⟨rfl, ?_, ?_, ?_, ?_⟩
          · exact (store4_other (by omega) _ _ _ _).trans ((hbb.block _ (Array.getElem?_eq_some_iff.1 F4.out).1).trans F4.out)
          · exact (store4 U6.out _ _ _ _).trans (by rw [← HST.out]; rfl)
          · exact own_store4 (own_below (show wr.drew.ownsRow w2.heap.size 32 2 (.slice (some ⟨g, 0, none⟩) m c) m (pairsV l) from O4.out) hbb) hzU _ _ _ _
          · exact below_store4 (B4.out.drew.trans (hbb.mono B4.out.size)) hzw _ _ _ _
      case rest =>
        clear p0 p1 U4 B4 F4 O4 CELLS HST
        obtain ⟨rfl, F5, U5, O5, B5⟩ := hcut
        obtain ⟨g', cp, eA, -, -, -, cells, -⟩ := own_row O5.out (by omega)
        cases eA
        have p0 := cells _ _ (pairsV_at l k p q HPQ.out).1
        have p1 := cells _ _ (pairsV_at l k p q HPQ.out).2
        by_cases h0 : k = 0
        · have hd0 : decide (0 < k) = false := by simp; omega
          clear cells
          go_wp2_with (fail)
          go_quiet (fail)
          go_wp2_with (fail)
          go_roundw
          case rel => exact ⟨k + 1, by omega, by go_num, F5, U5, O5, below_drewN B5.out _⟩
          case measure => simp [intOf]; omega
        · obtain ⟨⟨p', q'⟩, hpq⟩ : ∃ q, l[k - 1]? = some q := ⟨_, List.getElem?_eq_getElem (by rw [HM.out]; omega)⟩
          have hg := hgap.out (k - 1) _ _ hpq (by rw [Nat.sub_add_cancel (by omega)]; exact HPQ.out)
          simp only at hg
          have r0 := cells _ _ (pairsV_at l (k - 1) p' q' hpq).1
          have r1 := cells _ _ (pairsV_at l (k - 1) p' q' hpq).2
          have hd0 : decide (0 < k) = true := by simp; omega
          have hd1 : decide ((p : Int) ≤ (q' : Int) + 1) = false := by simp; omega
          have i1 : (0 : Int) ≤ (k : Int) := by omega
          have i2 : (k : Int) < (m : Int) := by omega
          have i4 : (0 : Int) ≤ (k : Int) - 1 := by omega
          have i5 : (k : Int) - 1 < (m : Int) := by omega
          have i6 : ((k : Int) - 1).toNat = k - 1 := by omega
          clear cells hpq
          go_wp2_with (fail)
          go_quiet (fail)
          go_wp2_with (fail)
          go_roundw
          case rel => exact ⟨k + 1, by omega, by go_num, F5, U5, O5, below_drewN B5.out _⟩
          case measure => simp [intOf]; omega
    · obtain rfl : k = m := by omega
      have hU := U4
      rw [List.take_of_length_le (Nat.le_of_eq HM.out), hend.out] at hU
      clear U4 O4
      go_wp2_with (fail)
      obtain ⟨⟨a0, a1, a2, a3⟩, -⟩ := row4 F4.out
      obtain ⟨⟨b0, b1, b2, b3⟩, -⟩ := row4 hU
      have hnF := notF_wf hf
      have q0 : ∀ W : World, (Op.equalIn 10000 24 (.agg #[.int .u64 (f 0), .int .u64 (f 1), .int .u64 (f 2), .int .u64 (f 3)]) (.agg #[.int .u64 (f 0), .int .u64 (f 1), .int .u64 (f 2), .int .u64 (f 3)])).run Try.prog W = .ok true W := eqSelf f
      have q1 : ∀ W : World, (Op.equalIn 10000 24 (.agg (sc (setF (inL (memsTo f 256))))) (.agg #[.int .u64 (f 0), .int .u64 (f 1), .int .u64 (f 2), .int .u64 (f 3)])).run Try.prog W = .ok true W := eqTrue (of_mems hf)
      have q2 : ∀ W : World, (Op.equalIn 10000 24 (.agg (sc (notF (notF f)))) (.agg #[.int .u64 (f 0), .int .u64 (f 1), .int .u64 (f 2), .int .u64 (f 3)])).run Try.prog W = .ok true W := eqTrue (not_not hf)
      have hge := guard24
      have hcn := mems_not hf 256
      have hof := Lib.hid (of_any (memsTo f 256) (fun x hx => by have : x < 256 := by simpa [memsTo] using (List.mem_filter.1 hx).1
                                                                 omega) (by omega))
      have hc1 := Lib.hid (count_any f hf)
      have hc2 := Lib.hid (count_any (notF f) hnF)
      have hby := Lib.hid (bytes_any f hf)
      generalize hn : (memsTo f 256).length = n at *
      generalize hn' : (memsTo (notF f) 256).length = n' at *
      have hsum : IntKind.i64.wrap ((n : Int) + (n' : Int)) = 256 := by rw [IntWalk.i64_in _ (by omega)]; omega
      have hN := Lib.hid hn
      clear hn hn'
      have hS0 : SetAt2 w w.heap.size U f wr.drew := setAt2_mk F4.out hU B4.out.drew
      go_region_held (fun w' => w'.cell? ⟨w.heap.size, 0, none⟩ = some (.int .u64 (f 0)) ∧ w'.cell? ⟨w.heap.size, 1, none⟩ = some (.int .u64 (f 1)) ∧ w'.cell? ⟨w.heap.size, 2, none⟩ = some (.int .u64 (f 2)) ∧ w'.cell? ⟨w.heap.size, 3, none⟩ = some (.int .u64 (f 3)) ∧ w'.cell? ⟨U, 0, none⟩ = some (.int .u64 (f 0)) ∧ w'.cell? ⟨U, 1, none⟩ = some (.int .u64 (f 1)) ∧ w'.cell? ⟨U, 2, none⟩ = some (.int .u64 (f 2)) ∧ w'.cell? ⟨U, 3, none⟩ = some (.int .u64 (f 3)) ∧ Hid (w'.heap[w.heap.size]? = some (.cells (sc f) 24 (0, 0))) ∧ Hid (w'.heap[U]? = some (.cells (sc f) 24 (0, 0))) ∧ Hid (Below w.heap.size w w')) (first | assumption | exact setAt2_step (by assumption) hb) (first
        | (go_at_call 11; refine (hby.out _).mono ?_; rintro e w4 ⟨v, rfl, hownA, hb⟩; obtain ⟨xA, cA, rfl⟩ := own_slice hownA; have hRN := Lib.hid (own_RowN hownA); clear hownA)
        | (go_at_call 16; refine (hof.out _ _ _ hRN.out).mono ?_; rintro e w4 ⟨rfl, hb⟩; clear hRN)
        | (go_at_call 22; with_reducible refine (not_any (notF f) hnF _).mono ?_; rintro e w4 ⟨rfl, hb⟩)
        | (go_at_call 22; refine (not_any f hf _).mono ?_; rintro e w4 ⟨rfl, hb⟩)
        | (go_at_call 13; with_reducible refine (hc2.out _).mono ?_; rintro e w4 ⟨rfl, hb⟩)
        | (go_at_call 13; refine (hc1.out _).mono ?_; rintro e w4 ⟨rfl, hb⟩))
      rename_i hh
      have BE := Lib.hid hh.2.2.2.2.2.2.2.2.2.2.out
      clear hh q0 q1 q2 a0 a1 a2 a3 b0 b1 b2 b3 hsum hcn hge
      go_wp2
      go_ret
      exact ⟨rfl, BE.out⟩
end Go.Proofs.Ytgjoioilpnclpaa
