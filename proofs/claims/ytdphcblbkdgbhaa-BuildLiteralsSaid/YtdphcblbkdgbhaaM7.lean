import Derived.Test.YtdphcblbkdgbhaaM6
namespace Go.Proofs.Ytdphcblbkdgbhaa
open Go.RowKit
def itemsR (nodes : List Nd) (r : Rl) : Rs := ⟨r.name, itsF nodes nodes.length r.root.toNat⟩
def itemsG (g : Gr) : List Rs := g.rules.map (itemsR g.nodes)
theorem own_mk {W : World} {base : Nat} {e : TypeId} {size n : Nat} {v : Value} {xs : List Value} (h : W.ownsRow base e size v n xs) : W.ownsRow base e size v n xs := h
set_option maxRecDepth 20000 in
set_option maxHeartbeats 6400000 in
theorem mapped_any (g : Gr) (gb ib : Nat) (rv : Value) (na : Option Addr) (nc : Nat) (ra : Option Addr) (rc : Nat) (w : World) (hr : g.rules.length ≤ 100000) (hn : g.nodes.length ≤ 100000) (hK : KidsOk g.nodes) (hroot : ∀ r ∈ g.rules, 0 ≤ r.root ∧ r.root < g.nodes.length) (hb : ∀ r ∈ g.rules, (itsF g.nodes g.nodes.length r.root.toNat).length ≤ 50000) (hkk : ∀ x ∈ g.nodes, x.kids.length ≤ 100000)
    (R : RlsAt w ra g.rules) (N : NdsAt w na g.nodes) (hg : w.heap[gb]? = some (.cells #[rv, .slice na g.nodes.length nc] 36 (0, 0))) (hib : w.heap[ib]? = some (.cells #[.func (.func 30) #[] #[.pointer (some ⟨gb, 0, none⟩), .pointer (some ⟨ib, 0, none⟩)]] 73 (0, 0))) :
    Calls Try.prog 31 #[.slice ra g.rules.length rc, .func (.func 32) #[] #[.pointer (some ⟨ib, 0, none⟩)]] w fun e w' => ∃ a c lr, e = .returned (.slice a g.rules.length c) ∧ (a = none → c = 0) ∧ lr.length = g.rules.length ∧ rss lr = itemsG g ∧ OwnRs w' w.heap.size 66 64 a c lr ∧ Below w.heap.size w w' := by
  have hgl := (Array.getElem?_eq_some_iff.1 hg).1
  have hil := (Array.getElem?_eq_some_iff.1 hib).1
  have CI := Lib.hid (fun (r : Rl) (hr : r ∈ g.rules) (i : Nat) (hi : r.root = i) W (hB : Below w.heap.size w W) => items2_any g.nodes gb ib rv na nc r.name i W hn hK (by have := hroot r hr; omega) (by have := hb r hr; rwa [hi] at this) hkk (N.below hB) ((hB.block gb hgl).trans hg) ((hB.block ib hil).trans hib))
  have HR := Lib.hid R
  have HRO := Lib.hid hroot
  have HBI := Lib.hid hb
  obtain ⟨i0, hi0, hz0, hz1, hz2⟩ := info_parts infoBRs
  clear N hg hib hb hkk R hroot hgl hil
  have hi0 := Lib.hid hi0
  have hz0 := Lib.hid hz0
  have hz1 := Lib.hid hz1
  have hz2 := Lib.hid hz2
  go_enter Try.func31, Try.ntmps31
  go_wp2_with (at_make; refine wpList_make_own w rfl _ _ 39 rfl w.heap.size 66 i0 _ 2 Try.underlying39 hi0.out hz0.out hz1.out .i64 .i64 _ g.rules.length (by rfl) (by rfl) (by rfl) (by rw [hz2.out]; omega) (by simp only [maxLen]; omega) (Nat.le_refl _) ?_; intro w1 hown hg1; have HOW := Lib.hid hown; have HG1 := Lib.hid hg1; clear hown hg1)
  have HB1 : Hid (Below w.heap.size w w1) := Lib.hid ((Below.refl _ _).grown HG1.out (Nat.le_refl _) (fun k h => by cases h))
  have HO1 : Hid (OwnRs w1 w.heap.size 66 64 (some ⟨w.heap.size, 0, none⟩) g.rules.length []) := Lib.hid ⟨HOW.out, fun _ h => by cases h⟩
  have HL0 : Hid (([] : List RsA).length = 0) := rfl
  have HT0 : Hid (rss [] = (itemsG g).take 0) := rfl
  clear HOW HG1
  go_loopw [5, 13] (fun v j wr => ∃ (k : Nat) (lr : List RsA) (xa : Option Addr) (xc : Nat), k ≤ g.rules.length ∧ j = .int .i64 k ∧ v = .slice xa k xc ∧ Hid (lr.length = k) ∧ Hid (rss lr = (itemsG g).take k) ∧ Hid (OwnRs wr w.heap.size 66 64 xa xc lr) ∧ Hid (Below w.heap.size w wr)) (fun _ j _ => g.rules.length - (intOf j).toNat)
  case atStart => exact ⟨0, [], some ⟨w.heap.size, 0, none⟩, g.rules.length, Nat.zero_le _, rfl, rfl, HL0, HT0, HO1, HB1⟩
  case round =>
    obtain ⟨k, lr, xa, xc, hk, rfl, rfl, hlk, ht, HO, HB⟩ := hrel
    clear HO1 HB1 HL0 HT0
    by_cases hlt : k < g.rules.length
    · obtain ⟨br, or, rfl, hbr, r0, r1⟩ := HR.out.get HB k hlt
      have hro := HRO.out _ (List.getElem_mem hlt)
      obtain ⟨i, hi⟩ : ∃ i : Nat, g.rules[k].root = i := ⟨g.rules[k].root.toNat, by omega⟩
      have hib := HBI.out _ (List.getElem_mem hlt)
      have hmem : g.rules[k] ∈ g.rules := List.getElem_mem hlt
      have htk : Hid ((itemsG g).take (k + 1) = (itemsG g).take k ++ [itemsR g.nodes g.rules[k]]) := Lib.hid (by
        rw [List.take_succ_eq_append_getElem (by simpa [itemsG] using hlt)]
        simp [itemsG])
      rw [hi] at r1
      have hir : itemsR g.nodes g.rules[k] = ⟨g.rules[k].name, itsF g.nodes g.nodes.length i⟩ := by rw [itemsR, hi]; rfl
      rw [hir] at htk
      have C := Lib.hid (CI.out g.rules[k] hmem i hi)
      have hib2 : (itsF g.nodes g.nodes.length i).length ≤ 50000 := by rw [hi] at hib; exact hib
      clear hro hi hib hmem hir
      generalize g.rules[k].name = nm at *
      generalize itsF g.nodes g.nodes.length i = L at *
      have hwz : w.heap.size ≤ wr.heap.size := HB.out.size
      have HBA : Hid (Below w.heap.size w (wr.alloc (.cells #[.string nm, .int .i64 i] 70))) := HB.out.alloc HB.out.size _
      have HOA : Hid (OwnRs (wr.alloc (.cells #[.string nm, .int .i64 i] 70)) w.heap.size 66 64 xa xc lr) := Lib.hid ⟨own_alloc HO.out.1 _, fun x hx => own_alloc (HO.out.2 x hx) _⟩
      have hx := heap_alloc_new wr (.cells #[.string nm, .int .i64 i] 70)
      go_upto_region 5 with (fail)
      have c0 := cell_of_row _ wr.heap.size 0 _ _ _ hx
      have c1 := cell_of_row _ wr.heap.size 1 _ _ _ hx
      simp only [List.getElem?_toArray, List.getElem?_cons_zero, List.getElem?_cons_succ] at c0 c1
      clear hx r0 r1
      generalize wr.alloc (.cells #[.string nm, .int .i64 i] 70) = W at *
      go_wp2_with (fail)
      refine (C.out W HBA.out).mono ?_
      rintro e w2 ⟨a2, c2, rfl, hnil, ho2, hb2⟩
      have HO2 : Hid (OwnRs w2 w.heap.size 66 64 xa xc lr) := Lib.hid ⟨own_below HOA.out.1 hb2, fun x hx => own_below (HOA.out.2 x hx) hb2⟩
      have HB2 := Lib.hid (HBA.out.trans (hb2.mono HBA.out.size))
      have HI2 := Lib.hid (own_mono ho2 HBA.out.size)
      have HR2 : Hid (w2.ownsRow w.heap.size 66 2 (.slice xa k xc) k (rowRs lr)) := Lib.hid (by have h := HO2.out.1; rw [hlk.out] at h; exact h)
      have hwz2 : w.heap.size ≤ w2.heap.size := HB2.out.size
      have HSN := Lib.hid (rowRs_snoc lr ⟨⟨nm, L⟩, a2, c2⟩)
      clear hb2 ho2 HOA HO
      go_wp2_with (at_builtin; refine app1 (P := Try.prog) (w0 := w) w.heap.size rfl _ _ 39 66 (.agg #[.string ⟨#[]⟩, .slice none 0 0]) 2 40 rfl Try.underlying39 infoBRs rfl (by omega) (by omega) _ k _ HR2.out HB2.out _ rfl (by rfl) rfl (by simp [Value.oneCell']) (by omega) (by omega) ?_; intro vn w4 hown hbn hgn hatn; obtain ⟨xN', cN', rfl, hnn2⟩ := own_slice hown; have hown := Lib.hid hown; have hbn := Lib.hid hbn; have hgn := Lib.hid hgn; clear hatn)
      have hL2 : Hid ((lr ++ [(⟨⟨nm, L⟩, a2, c2⟩ : RsA)]).length = k + 1) := Lib.hid (by rw [List.length_append, hlk.out]; rfl)
      have hT2 : Hid (rss (lr ++ [(⟨⟨nm, L⟩, a2, c2⟩ : RsA)]) = (itemsG g).take (k + 1)) := Lib.hid (by rw [htk.out, ← ht.out]; simp [rss])
      have HO4 : Hid (OwnRs w4 w.heap.size 66 64 xN' cN' (lr ++ [(⟨⟨nm, L⟩, a2, c2⟩ : RsA)])) := Lib.hid (by
        refine ⟨by rw [hL2.out, ← HSN.out]; exact hown.out, fun x hx => ?_⟩
        have key : ∀ {v : Value} {n : Nat} {xs : List Value}, w2.ownsRow w.heap.size 64 7 v n xs → w4.ownsRow w.heap.size 64 7 v n xs := fun h =>
          own_of_heap h fun b hb hv => (hgn.out.block b (by simp; omega) (fun e => own_apart h HR2.out (by decide) b hv e.symm)).trans (Below.heap_alloc _ _ _ hb)
        rcases List.mem_append.1 hx with h | h
        · exact key (HO2.out.2 x h)
        · rw [List.mem_singleton.1 h]; exact key HI2.out)
      go_roundw
      case rel => exact ⟨k + 1, _, xN', cN', by omega, by go_num, rfl, hL2, hT2, HO4, hbn⟩
      case measure => simp [intOf]; omega
    · obtain rfl : k = g.rules.length := by omega
      have hT : Hid (rss lr = itemsG g) := Lib.hid (by rw [ht.out, List.take_of_length_le (by simp [itemsG])])
      clear ht
      go_wp2
      go_ret
      obtain ⟨a2, c2, e2, hnil⟩ := own_slice HO.out.1
      refine ⟨xa, xc, lr, by simp, ?_, hlk.out, hT.out, HO.out, HB.out⟩
      intro h
      injection e2 with e3 _ e4
      rw [e4]; exact hnil (e3.symm.trans h)
end Go.Proofs.Ytdphcblbkdgbhaa
