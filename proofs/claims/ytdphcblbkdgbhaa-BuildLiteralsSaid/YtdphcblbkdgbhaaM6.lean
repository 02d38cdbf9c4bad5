import Derived.Test.YtdphcblbkdgbhaaM5
import Derived.Test.YtdphcblbkdgbhaaR3
namespace Go.Proofs.Ytdphcblbkdgbhaa
open Go.RowKit
/-- a rule's cells: its name, where its items lie. -/
structure RsA where
  r : Rs
  a : Option Addr
  c : Nat
def RsA.cells (x : RsA) : List Value := [.string x.r.name, .slice x.a x.r.items.length x.c]
theorem RsA.len (x : RsA) : x.cells.length = 2 := rfl
def rowRs (l : List RsA) : List Value := l.flatMap RsA.cells
def rss (l : List RsA) : List Rs := l.map RsA.r
theorem rowRs_len (l : List RsA) : (rowRs l).length = l.length * 2 := flat_len RsA.len l
theorem rowRs_snoc (l : List RsA) (x : RsA) : rowRs l ++ x.cells = rowRs (l ++ [x]) := by simp [rowRs]
/-- an own row of rules, with own items. -/
def OwnRs (w : World) (base : Nat) (e ei : TypeId) (a : Option Addr) (c : Nat) (l : List RsA) : Prop :=
  w.ownsRow base e 2 (.slice a l.length c) l.length (rowRs l) ∧ ∀ x ∈ l, w.ownsRow base ei 7 (.slice x.a x.r.items.length x.c) x.r.items.length (rowIt x.r.items)
theorem OwnRs.rs {w : World} {base : Nat} {e ei : TypeId} {a : Option Addr} {c : Nat} {l : List RsA} (h : OwnRs w base e ei a c l) : RsAt w a (rss l) := fun j hj => by
  have hj' : j < l.length := by simpa [rss] using hj
  have hg : (rss l)[j] = l[j].r := by simp [rss]
  have hc := own_cells h.1
  obtain ⟨b, off, e1, h0⟩ := cells_get hc (j * 2 + 0) _ (flat_get RsA.len l j 0 hj' (by omega))
  subst e1
  have h1 : w.cell? ⟨b, off + j * 2 + 1, none⟩ = some (.slice l[j].a l[j].r.items.length l[j].c) := by
    obtain ⟨b', off', e2, h2⟩ := cells_get hc (j * 2 + 1) (.slice l[j].a l[j].r.items.length l[j].c) (flat_get RsA.len l j 1 hj' (by omega))
    cases e2
    rwa [Nat.add_assoc]
  have ho := h.2 l[j] (List.getElem_mem hj')
  rw [hg]
  refine ⟨b, off, rfl, ?_, l[j].a, l[j].c, h1, its_of_cells (own_cells ho), fun hn => ?_⟩
  · exact h0
  · obtain ⟨a2, c2, e2, h3⟩ := own_slice ho
    injection e2 with e3 _ e4
    rw [e4]; exact h3 (e3.symm.trans hn)
theorem infoBRs : (Try.prog.info? 66).map (fun i => (i.zero, i.size, i.bytes)) = some (some (.agg #[.string ⟨#[]⟩, .slice none 0 0]), 2, 40) := by kernel_rfl
theorem infoVRs : (Try.prog.info? 27).map (fun i => (i.zero, i.size, i.bytes)) = some (some (.agg #[.string ⟨#[]⟩, .slice none 0 0]), 2, 40) := by kernel_rfl
set_option maxRecDepth 20000 in
set_option maxHeartbeats 6400000 in
theorem items2_any (nodes : List Nd) (gb ib : Nat) (rv : Value) (na : Option Addr) (nc : Nat) (nm : ByteArray) (i : Nat) (w : World) (hn : nodes.length ≤ 100000) (hK : KidsOk nodes) (hin : i < nodes.length) (hb : (itsF nodes nodes.length i).length ≤ 50000) (hkk : ∀ x ∈ nodes, x.kids.length ≤ 100000)
    (N : NdsAt w na nodes) (hg : w.heap[gb]? = some (.cells #[rv, .slice na nodes.length nc] 36 (0, 0))) (hib : w.heap[ib]? = some (.cells #[.func (.func 30) #[] #[.pointer (some ⟨gb, 0, none⟩), .pointer (some ⟨ib, 0, none⟩)]] 73 (0, 0))) :
    Calls Try.prog 32 #[.agg #[.string nm, .int .i64 i], .pointer (some ⟨ib, 0, none⟩)] w fun e w' => ∃ a c, e = .returned (.agg #[.string nm, .slice a (itsF nodes nodes.length i).length c]) ∧ (a = none → c = 0) ∧ w'.ownsRow w.heap.size 64 7 (.slice a (itsF nodes nodes.length i).length c) (itsF nodes nodes.length i).length (rowIt (itsF nodes nodes.length i)) ∧ Below w.heap.size w w' := by
  have hgl := (Array.getElem?_eq_some_iff.1 hg).1
  have hil := (Array.getElem?_eq_some_iff.1 hib).1
  have CI := Lib.hid (fun W (hB : Below w.heap.size w W) => items1_any nodes gb ib rv na nc hn hK nodes.length i W hin hin hb hkk (N.below hB) ((hB.block gb hgl).trans hg) ((hB.block ib hil).trans hib))
  have HIB := Lib.hid hib
  clear N hg hib hb hkk
  go_enter Try.func32, Try.ntmps32
  go_wp2_with (fail)
  have HB0 : Hid (Below w.heap.size w ((w.alloc (.cells #[.string nm, .int .i64 i] 70)).alloc (.cells #[.string ⟨#[]⟩, .slice none 0 0] 66))) := ((Below.refl _ _).alloc (Nat.le_refl _) _).alloc (by simp) _
  have hx0 := (Below.heap_alloc (w.alloc (.cells #[.string nm, .int .i64 i] 70)) (.cells #[.string ⟨#[]⟩, .slice none 0 0] 66) w.heap.size (by simp)).trans (heap_alloc_new w (.cells #[.string nm, .int .i64 i] 70))
  have hx1 : Hid (((w.alloc (.cells #[.string nm, .int .i64 i] 70)).alloc (.cells #[.string ⟨#[]⟩, .slice none 0 0] 66)).heap[w.heap.size + 1]? = some (.cells #[.string ⟨#[]⟩, .slice none 0 0] 66 (0, 0))) := heap_alloc2_new w _ _
  have v0 := cell_of_row _ w.heap.size 0 _ _ _ hx0
  have v1 := cell_of_row _ w.heap.size 1 _ _ _ hx0
  have vi := cell_of_row _ ib 0 _ _ _ ((HB0.out.block ib hil).trans HIB.out)
  simp only [List.getElem?_toArray, List.getElem?_cons_zero, List.getElem?_cons_succ] at v0 v1 vi
  clear hx0
  generalize (w.alloc (.cells #[.string nm, .int .i64 i] 70)).alloc (.cells #[.string ⟨#[]⟩, .slice none 0 0] 66) = W at *
  have hWz : w.heap.size + 1 < W.heap.size := (Array.getElem?_eq_some_iff.1 hx1.out).1
  refine wp_region_ext_tail 7 (fun _ _ v w' => ∃ a c, v = .slice a (itsF nodes nodes.length i).length c ∧ (a = none → c = 0) ∧ w'.ownsRow W.heap.size 64 7 v (itsF nodes nodes.length i).length (rowIt (itsF nodes nodes.length i))) ?_ (by kernel_rfl) (by kernel_rfl) ?_
  · rintro f args v x x' hb ⟨a, c, h2, h3, h4⟩
    exact ⟨a, c, h2, h3, own_below h4 hb⟩
  simp only [List.take_succ_cons, List.take_zero, List.drop_succ_cons, List.drop_zero]
  have x0 := fun e => ext_cell v0 e
  have x1 := fun e => ext_cell v1 e
  have xi := fun e => ext_cell vi e
  refine lex_quiet (fun _ _ _ h1 h2 w' hb hg => h2 w' hb (h1 w' hg)) [_, _, _, _, _] _ (by rfl) ?_
  repeat (go_big_quiet_step (with_reducible rfl))
  refine wpQuiet_nil ?_
  refine lex_call (fun _ _ _ h1 h2 w' hb hg => h2 w' hb (h1 w' hg)) 30 #[.int .i64 i, .pointer (some ⟨gb, 0, none⟩), .pointer (some ⟨ib, 0, none⟩)] (by rfl) (fun _ => by go_simp) (fun w1 hb => (CI.out w1 (HB0.out.trans (hb.mono HB0.out.size))).mono ?_) ?_
  · rintro e w' ⟨a, c, rfl, hnil, ho, hb'⟩
    exact ⟨_, rfl, hb', a, c, rfl, hnil, own_mono ho hb.size⟩
  rintro v ⟨wv, xI, cI, rfl, hnI, -⟩
  simp only [Act.put, List.setIfInBounds_toArray, List.set_cons_succ, List.set_cons_zero]
  refine lex_quiet (fun _ _ _ h1 h2 w' hb hg => h2 w' hb (h1 w' hg)) [_] _ (by rfl) ?_
  repeat (go_big_quiet_step (with_reducible rfl))
  refine wpQuiet_nil (lex_nil ?_)
  rintro w2 hb ⟨-, a, c, e, -, ho⟩
  injection e with e1 _ e2
  subst e1 e2
  have hx2 := (hb.block _ hWz).trans hx1.out
  have f0 := frozen_of_row w2 (w.heap.size + 1) 0 _ _ hx2
  have f1 := frozen_of_row w2 (w.heap.size + 1) 1 _ _ hx2
  have c0 := cell_of_row w2 (w.heap.size + 1) 0 _ _ _ hx2
  have c1 := cell_of_row w2 (w.heap.size + 1) 1 _ _ _ hx2
  simp only [List.getElem?_toArray, List.getElem?_cons_zero, List.getElem?_cons_succ] at c0 c1
  have PW := Lib.hid (blk_set hx2 (.string nm) (.slice xI (itsF nodes nodes.length i).length cI))
  have OW := Lib.hid (own_set2 (u1 := .string nm) (u2 := .slice xI (itsF nodes nodes.length i).length cI) ho hx2 (by decide))
  have HB2 := Lib.hid (HB0.out.trans (hb.mono HB0.out.size))
  clear x0 x1 xi v0 v1 vi hx2 ho hb CI
  go_wp2
  refine bodyPost_ret (v := .agg #[.string nm, .slice xI (itsF nodes nodes.length i).length cI]) (results_cell_row rfl _ _ (w.heap.size + 1) 66 #[.string nm, .slice xI (itsF nodes nodes.length i).length cI] (0, 0) _ rfl PW.out Try.underlying66 rfl (by kernel_rfl)) rfl ?_
  exact ⟨xI, cI, rfl, hnI, own_mono OW.out (by omega), (HB2.out.setCell (by simp) _).setCell (by simp) _⟩
end Go.Proofs.Ytdphcblbkdgbhaa
