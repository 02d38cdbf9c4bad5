import Derived.Test.YtdphcblbkdgbhaaM7
import Derived.Laws.EntriesVeiled
namespace Go.Proofs.Ytdphcblbkdgbhaa
open Go.RowKit
set_option maxRecDepth 20000 in
set_option maxHeartbeats 6400000 in
theorem bitems_any (g : Gr) (ra : Option Addr) (rc : Nat) (na : Option Addr) (nc : Nat) (w : World) (hr : g.rules.length ≤ 100000) (hn : g.nodes.length ≤ 100000) (hK : KidsOk g.nodes) (hroot : ∀ r ∈ g.rules, 0 ≤ r.root ∧ r.root < g.nodes.length) (hb : ∀ r ∈ g.rules, (itsF g.nodes g.nodes.length r.root.toNat).length ≤ 50000) (hkk : ∀ x ∈ g.nodes, x.kids.length ≤ 100000)
    (R : RlsAt w ra g.rules) (N : NdsAt w na g.nodes) :
    Calls Try.prog 15 #[.agg #[.slice ra g.rules.length rc, .slice na g.nodes.length nc]] w fun e w' => ∃ a c lr, e = .returned (.slice a g.rules.length c) ∧ (a = none → c = 0) ∧ lr.length = g.rules.length ∧ rss lr = itemsG g ∧ OwnRs w' w.heap.size 66 64 a c lr ∧ Below w.heap.size w w' := by
  have CM := Lib.hid (fun W (hB : Below w.heap.size w W) hg hib => mapped_any g w.heap.size (w.heap.size + 1) (.slice ra g.rules.length rc) na nc ra rc W hr hn hK hroot hb hkk (R.below hB) (N.below hB) hg hib)
  have HB0 : Hid (Below w.heap.size w ((w.alloc (.cells #[.slice ra g.rules.length rc, .slice na g.nodes.length nc] 36)).alloc (.cells #[.nilFunc] 73))) := ((Below.refl _ _).alloc (Nat.le_refl _) _).alloc (by simp) _
  have hx0 : Hid (((w.alloc (.cells #[.slice ra g.rules.length rc, .slice na g.nodes.length nc] 36)).alloc (.cells #[.nilFunc] 73)).heap[w.heap.size]? = some (.cells #[.slice ra g.rules.length rc, .slice na g.nodes.length nc] 36 (0, 0))) := (Below.heap_alloc _ _ _ (by simp)).trans (heap_alloc_new w _)
  have hx1 : Hid (((w.alloc (.cells #[.slice ra g.rules.length rc, .slice na g.nodes.length nc] 36)).alloc (.cells #[.nilFunc] 73)).heap[w.heap.size + 1]? = some (.cells #[.nilFunc] 73 (0, 0))) := heap_alloc2_new w _ _
  clear R N hb hkk hroot
  go_enter Try.func15, Try.ntmps15
  go_upto_region 2 with (fail)
  generalize (w.alloc (.cells #[.slice ra g.rules.length rc, .slice na g.nodes.length nc] 36)).alloc (.cells #[.nilFunc] 73) = W at *
  have hWz : w.heap.size + 1 < W.heap.size := (Array.getElem?_eq_some_iff.1 hx1.out).1
  have c1 := cell_of_row W (w.heap.size + 1) 0 _ _ _ hx1.out
  have f1 := frozen_of_row W (w.heap.size + 1) 0 _ _ hx1.out
  have c0 := cell_of_row W w.heap.size 0 _ _ _ hx0.out
  simp only [List.getElem?_toArray, List.getElem?_cons_zero, List.getElem?_cons_succ] at c0 c1
  have hg := Lib.hid ((heap_setCell_other W ⟨w.heap.size + 1, 0, none⟩ w.heap.size (.func (.func 30) #[] #[.pointer (some ⟨w.heap.size, 0, none⟩), .pointer (some ⟨w.heap.size + 1, 0, none⟩)]) (by simp)).trans hx0.out)
  have hi := heap_setCell_same W (w.heap.size + 1) 0 _ _ (.func (.func 30) #[] #[.pointer (some ⟨w.heap.size, 0, none⟩), .pointer (some ⟨w.heap.size + 1, 0, none⟩)]) hx1.out
  simp only [List.setIfInBounds_toArray, List.set_cons_zero] at hi
  have hi := Lib.hid hi
  have HB1 := Lib.hid (HB0.out.setCell (p := ⟨w.heap.size + 1, 0, none⟩) (by simp) (.func (.func 30) #[] #[.pointer (some ⟨w.heap.size, 0, none⟩), .pointer (some ⟨w.heap.size + 1, 0, none⟩)]))
  go_wp2_with (fail)
  refine (CM.out _ HB1.out hg.out hi.out).mono ?_
  rintro e w2 ⟨a, c, lr, rfl, h1, h2, h3, h4, hb2⟩
  have HP := Lib.hid h4
  have HZ := Lib.hid hb2
  have HT := Lib.hid h3
  have HL := Lib.hid h2
  clear h4 h3 h2 hb2
  go_wp2
  go_ret
  refine ⟨a, c, lr, by simp, h1, HL.out, HT.out, ⟨own_mono HP.out.1 ?_, fun x hx => own_mono (HP.out.2 x hx) ?_⟩, HB1.out.trans (HZ.out.mono HB1.out.size)⟩
  · exact HB1.out.size
  · exact HB1.out.size
end Go.Proofs.Ytdphcblbkdgbhaa
