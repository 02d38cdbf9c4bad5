import Derived.Test.YtdphcblbkdgbhaaL2
import Derived.Test.YtdphcblbkdgbhaaR5
namespace Go.Proofs.Ytdphcblbkdgbhaa
open Go.RowKit
/-- an open expression of build.add: its node, where its kids lie, how many kids it wants. -/
structure St where
  x : NdA
  need : Int
def St.cells (s : St) : List Value := [.int .i64 s.x.nd.op, .int .i64 s.need, .int .i64 s.x.nd.rule, .int .u64 s.x.nd.set.a, .int .u64 s.x.nd.set.b, .int .u64 s.x.nd.set.c, .int .u64 s.x.nd.set.d, .slice s.x.a s.x.nd.kids.length s.x.c]
theorem St.len (s : St) : s.cells.length = 8 := rfl
def rowSt (l : List St) : List Value := l.flatMap St.cells
theorem rowSt_len (l : List St) : (rowSt l).length = l.length * 8 := flat_len St.len l
theorem rowSt_snoc (l : List St) (s : St) : rowSt l ++ s.cells = rowSt (l ++ [s]) := by simp [rowSt]
theorem infoSt : (Try.prog.info? 85).map (fun i => (i.zero, i.size, i.bytes)) = some (some (.agg #[.int .i64 0, .int .i64 0, .int .i64 0, .int .u64 0, .int .u64 0, .int .u64 0, .int .u64 0, .slice none 0 0]), 8, 80) := by kernel_rfl
/-- what the closure of add does to the grammar's nodes: one more node. -/
def Puts (w0 w : World) (gb : Nat) (rv : Value) (xN : Option Addr) (cN : Nat) (ln : List NdA) (x : NdA) (w' : World) : Prop :=
  ∃ xN' cN', w'.heap[gb]? = some (.cells #[rv, .slice xN' (ln.length + 1) cN'] 36 (0, 0)) ∧ w'.ownsRow w0.heap.size 55 7 (.slice xN' (ln.length + 1) cN') (ln.length + 1) (rowNd (ln ++ [x])) ∧
    (∀ b, b < w.heap.size → b ≠ gb → (Value.slice xN ln.length cN).ownBlock ≠ some b → w'.heap[b]? = w.heap[b]?) ∧ Below w0.heap.size w0 w' ∧ w.heap.size ≤ w'.heap.size ∧
    ((Value.slice xN' (ln.length + 1) cN').ownBlock = (Value.slice xN ln.length cN).ownBlock ∨ ∃ q, (Value.slice xN' (ln.length + 1) cN').ownBlock = some q ∧ w.heap.size ≤ q)
set_option maxRecDepth 20000 in
set_option maxHeartbeats 3200000 in
theorem put_any (w0 w : World) (pb gb : Nat) (rv : Value) (xN : Option Addr) (cN : Nat) (ln : List NdA) (s : St)
    (hp : w.heap[pb]? = some (.cells #[.pointer (some ⟨gb, 1, none⟩)] 68 (0, 0))) (hg : w.heap[gb]? = some (.cells #[rv, .slice xN ln.length cN] 36 (0, 0)))
    (hN : w.ownsRow w0.heap.size 55 7 (.slice xN ln.length cN) ln.length (rowNd ln)) (hB : Below w0.heap.size w0 w) (hgb : w0.heap.size ≤ gb) (hl : ln.length ≤ 100000) :
    Calls Try.prog 41 #[.agg s.cells.toArray, .pointer (some ⟨pb, 0, none⟩)] w fun e w' => e = .returned (.int .i64 ln.length) ∧ Puts w0 w gb rv xN cN ln s.x w' := by
  have hpb := (Array.getElem?_eq_some_iff.1 hp).1
  have hgl := (Array.getElem?_eq_some_iff.1 hg).1
  have HN := Lib.hid hN
  have HG := Lib.hid hg
  have HB := Lib.hid hB
  have HP := Lib.hid hp
  have hwz := hB.size
  clear hN hB hg hp
  simp only [St.cells]
  have HSC := Lib.hid (rowNd_snoc ln s.x)
  obtain ⟨⟨⟨op, kids, rule, ⟨sa, sb, sc, sd⟩⟩, ka, kc⟩, need⟩ := s
  go_enter Try.func41, Try.ntmps41
  go_wp2_with (fail)
  have HB0 : Hid (Below w.heap.size w (w.alloc (.cells #[.int .i64 op, .int .i64 need, .int .i64 rule, .int .u64 sa, .int .u64 sb, .int .u64 sc, .int .u64 sd, .slice ka kids.length kc] 85))) := (Below.refl _ _).alloc (Nat.le_refl _) _
  have HBB : Hid (Below w0.heap.size w0 (w.alloc (.cells #[.int .i64 op, .int .i64 need, .int .i64 rule, .int .u64 sa, .int .u64 sb, .int .u64 sc, .int .u64 sd, .slice ka kids.length kc] 85))) := HB.out.alloc hwz _
  have hx := heap_alloc_new w (.cells #[.int .i64 op, .int .i64 need, .int .i64 rule, .int .u64 sa, .int .u64 sb, .int .u64 sc, .int .u64 sd, .slice ka kids.length kc] 85)
  have hq0 := cell_of_row _ w.heap.size 0 _ _ _ hx
  have hq2 := cell_of_row _ w.heap.size 2 _ _ _ hx
  have hq3 := cell_of_row _ w.heap.size 3 _ _ _ hx
  have hq4 := cell_of_row _ w.heap.size 4 _ _ _ hx
  have hq5 := cell_of_row _ w.heap.size 5 _ _ _ hx
  have hq6 := cell_of_row _ w.heap.size 6 _ _ _ hx
  have hq7 := cell_of_row _ w.heap.size 7 _ _ _ hx
  have hp0 := cell_of_row _ pb 0 _ _ _ ((Below.heap_alloc w (.cells #[.int .i64 op, .int .i64 need, .int .i64 rule, .int .u64 sa, .int .u64 sb, .int .u64 sc, .int .u64 sd, .slice ka kids.length kc] 85) pb hpb).trans HP.out)
  have hg1 := cell_of_row _ gb 1 _ _ _ ((Below.heap_alloc w (.cells #[.int .i64 op, .int .i64 need, .int .i64 rule, .int .u64 sa, .int .u64 sb, .int .u64 sc, .int .u64 sd, .slice ka kids.length kc] 85) gb hgl).trans HG.out)
  simp only [List.getElem?_toArray, List.getElem?_cons_zero, List.getElem?_cons_succ] at hq0 hq2 hq3 hq4 hq5 hq6 hq7 hp0 hg1
  have hGW := Lib.hid ((Below.heap_alloc w (.cells #[.int .i64 op, .int .i64 need, .int .i64 rule, .int .u64 sa, .int .u64 sb, .int .u64 sc, .int .u64 sd, .slice ka kids.length kc] 85) gb hgl).trans HG.out)
  have hPW := Lib.hid ((Below.heap_alloc w (.cells #[.int .i64 op, .int .i64 need, .int .i64 rule, .int .u64 sa, .int .u64 sb, .int .u64 sc, .int .u64 sd, .slice ka kids.length kc] 85) pb hpb).trans HP.out)
  have hNW := Lib.hid (own_alloc HN.out (.cells #[.int .i64 op, .int .i64 need, .int .i64 rule, .int .u64 sa, .int .u64 sb, .int .u64 sc, .int .u64 sd, .slice ka kids.length kc] 85))
  have hzW : (w.alloc (.cells #[.int .i64 op, .int .i64 need, .int .i64 rule, .int .u64 sa, .int .u64 sb, .int .u64 sc, .int .u64 sd, .slice ka kids.length kc] 85)).heap.size = w.heap.size + 1 := by simp
  have hOW := Lib.hid hx
  clear hx HB
  generalize w.alloc (.cells #[.int .i64 op, .int .i64 need, .int .i64 rule, .int .u64 sa, .int .u64 sb, .int .u64 sc, .int .u64 sd, .slice ka kids.length kc] 85) = W at *
  have hwl : w.heap.size < W.heap.size := by omega
  have hpl' : pb < W.heap.size := by omega
  have hgl' : gb < W.heap.size := by omega
  have hwz' : w0.heap.size ≤ W.heap.size := by omega
  have HZW := Lib.hid hzW
  clear hzW
  have nep : (Value.slice xN ln.length cN).ownBlock ≠ some pb := own_ne_blk hNW.out hPW.out (by decide)
  have neg : (Value.slice xN ln.length cN).ownBlock ≠ some gb := own_ne_blk hNW.out hGW.out (by decide)
  have neo : (Value.slice xN ln.length cN).ownBlock ≠ some w.heap.size := own_ne_blk hNW.out hOW.out (by decide)
  refine wp_region_late 19 [0, 1, 2, 3, 4, 5, 6, 7, 8, 9, 10, 11, 12, 13, 14, 15] [16, 17, 18, 19] (Stays W (.slice xN ln.length cN)) (by kernel_rfl) (by kernel_rfl) (by rfl) (stay_drew _ _) ?_
  simp only [pick, List.filterMap_cons, List.filterMap_nil, List.getElem?_cons_succ, List.getElem?_cons_zero]
  have ep := fun e : InW (Stays W (.slice xN ln.length cN)) => (stay_cell e.ok hpl' nep).trans hp0
  have eg := fun e : InW (Stays W (.slice xN ln.length cN)) => (stay_cell e.ok hgl' neg).trans hg1
  have e0 := fun e : InW (Stays W (.slice xN ln.length cN)) => (stay_cell e.ok hwl neo).trans hq0
  have e2 := fun e : InW (Stays W (.slice xN ln.length cN)) => (stay_cell e.ok hwl neo).trans hq2
  have e3 := fun e : InW (Stays W (.slice xN ln.length cN)) => (stay_cell e.ok hwl neo).trans hq3
  have e4 := fun e : InW (Stays W (.slice xN ln.length cN)) => (stay_cell e.ok hwl neo).trans hq4
  have e5 := fun e : InW (Stays W (.slice xN ln.length cN)) => (stay_cell e.ok hwl neo).trans hq5
  have e6 := fun e : InW (Stays W (.slice xN ln.length cN)) => (stay_cell e.ok hwl neo).trans hq6
  have e7 := fun e : InW (Stays W (.slice xN ln.length cN)) => (stay_cell e.ok hwl neo).trans hq7
  change wpQuiet _ _ _ _ [_, _, _, _, _, _, _, _, _, _, _, _, _, _, _, _] _
  repeat (go_big_quiet_step (with_reducible rfl))
  refine wpQuiet_nil ?_
  clear ep eg e0 e2 e3 e4 e5 e6 e7 hp0 hg1 hq0 hq2 hq3 hq4 hq5 hq6 hq7
  refine chain_run (v := .slice (some ⟨W.heap.size, 0, none⟩) 1 1) (w1 := W.drew.alloc (.cells #[.int .i64 op, .slice ka kids.length kc, .int .i64 rule, .int .u64 sa, .int .u64 sb, .int .u64 sc, .int .u64 sd] 55)) (by rfl) (by go_simp) (fun _ => stay_alloc (stay_drew _ _) _) ?_
  simp only [Act.put, List.setIfInBounds_toArray, List.set_cons_succ, List.set_cons_zero]
  refine chain_list (app1 (P := Try.prog) (W := W.drew) w0.heap.size rfl _ _ 34 55 (.agg #[.int .i64 0, .slice none 0 0, .int .i64 0, .int .u64 0, .int .u64 0, .int .u64 0, .int .u64 0]) 7 72 rfl Try.underlying34 infoNd rfl (by omega) (by omega) _ ln.length _ hNW.out.drew HBB.out.drew _ (by rfl) (by rfl) rfl (by simp [Value.oneCell']) hwz' (by omega) ?_)
  intro vn w4 hownn hbn hgn hatn
  obtain ⟨xN', cN', rfl, hnn⟩ := own_slice hownn
  have hz4 : W.heap.size < w4.heap.size := by have := hgn.size; simp at this; omega
  have hS4 : Stays W (.slice xN ln.length cN) w4 := stay_grown (stay_alloc (stay_drew _ _) _) hgn.size hgn
  have hgw := (stay_heap hS4 hgl' neg).trans hGW.out
  have hpw := (stay_heap hS4 hpl' nep).trans hPW.out
  have zf := frozen_of_row w4 gb 1 _ _ hgw
  have zc := cell_of_row w4 gb 1 _ _ _ hgw
  simp only [List.getElem?_toArray, List.getElem?_cons_zero, List.getElem?_cons_succ] at zc
  refine ⟨rfl, fun _ => hS4, ?_⟩
  simp only [Act.put, List.setIfInBounds_toArray, List.set_cons_succ, List.set_cons_zero]
  refine chain_run (v := .pointer (some ⟨gb, 1, none⟩)) (w1 := w4) (by rfl) (by go_simp) (fun _ => hS4) ?_
  simp only [Act.put, List.setIfInBounds_toArray, List.set_cons_succ, List.set_cons_zero]
  refine chain_skip (w1 := w4.setCell ⟨gb, 1, none⟩ (.slice xN' (ln.length + 1) cN')) (by rfl) (by go_simp) (fun h => absurd rfl h) ?_
  have hne : pb ≠ gb := fun e => by subst e; rw [hgw] at hpw; injection hpw with h; injection h with _ h; exact absurd h (by decide)
  have HFP := Lib.hid ((heap_setCell_other w4 ⟨gb, 1, none⟩ pb (.slice xN' (ln.length + 1) cN') (by simpa using hne)).trans hpw)
  have HFG := Lib.hid (heap_setCell_same w4 gb 1 _ _ (.slice xN' (ln.length + 1) cN') hgw)
  have HOW := Lib.hid (own_set (p := ⟨gb, 1, none⟩) (u := .slice xN' (ln.length + 1) cN') hownn (own_ne_blk hownn hgw (by decide)))
  have HBF : Below w0.heap.size w0 (w4.setCell ⟨gb, 1, none⟩ (.slice xN' (ln.length + 1) cN')) := hbn.setCell (by simpa using hgb) _
  have HKEEP : ∀ b, b < w.heap.size → b ≠ gb → (Value.slice xN ln.length cN).ownBlock ≠ some b → (w4.setCell ⟨gb, 1, none⟩ (.slice xN' (ln.length + 1) cN')).heap[b]? = w.heap[b]? := fun b h1 h2 h3 => by
    rw [heap_setCell_other _ _ _ _ (by simpa using h2), stay_heap hS4 (by omega) h3]
    exact HB0.out.block b h1
  have hzf : (w4.setCell ⟨gb, 1, none⟩ (.slice xN' (ln.length + 1) cN')).heap.size = w4.heap.size := by simp
  have HP1 : Puts w0 w gb rv xN cN ln ⟨⟨op, kids, rule, ⟨sa, sb, sc, sd⟩⟩, ka, kc⟩ (w4.setCell ⟨gb, 1, none⟩ (.slice xN' (ln.length + 1) cN')) := by
    refine ⟨xN', cN', HFG.out, ?_, HKEEP, HBF, by rw [hzf]; omega, ?_⟩
    · have h := HOW.out
      rw [← HSC.out]; exact h
    · rcases hatn with h | h
      · exact .inl h
      · exact .inr ⟨_, h, by have : W.drew.heap.size = W.heap.size := rfl; omega⟩
  have hpf := cell_of_row _ pb 0 _ _ _ HFP.out
  have hgf := cell_of_row _ gb 1 _ _ _ HFG.out
  generalize w4.setCell ⟨gb, 1, none⟩ (.slice xN' (ln.length + 1) cN') = wz at *
  simp only [List.getElem?_toArray, List.getElem?_cons_zero, List.getElem?_cons_succ, List.setIfInBounds_toArray, List.set_cons_succ, List.set_cons_zero] at hpf hgf
  have HP1 := Lib.hid HP1
  clear HSC hatn hownn hgn hS4 hgw hpw zf zc HOW HBF HKEEP HFP HFG hzf hbn
  refine chain_end ?_
  go_wp2
  go_ret
  exact ⟨by simp, HP1.out⟩
end Go.Proofs.Ytdphcblbkdgbhaa
