import Derived.Test.YtdphcblbkdgbhaaM3
namespace Go.Proofs.Ytdphcblbkdgbhaa
open Go.RowKit
/-- a rule in prefix order. -/
structure Rs where
  name : ByteArray
  items : List It
  deriving DecidableEq
def RsAt (w : World) (a : Option Addr) (l : List Rs) : Prop :=
  ∀ j (h : j < l.length), ∃ b off, a = some ⟨b, off, none⟩ ∧ w.cell? ⟨b, off + j * 2, none⟩ = some (.string l[j].name) ∧ ∃ ka kc, w.cell? ⟨b, off + j * 2 + 1, none⟩ = some (.slice ka l[j].items.length kc) ∧ ItsAt w ka l[j].items ∧ (ka = none → kc = 0)
theorem RsAt.below {w w' : World} {a : Option Addr} {l : List Rs} (h : RsAt w a l) (hb : Below w.heap.size w w') : RsAt w' a l := fun j hj => by
  obtain ⟨b, off, e, h1, ka, kc, h2, h3, h4⟩ := h j hj
  exact ⟨b, off, e, cell_keep hb h1, ka, kc, cell_keep hb h2, h3.below hb, h4⟩
theorem RsAt.get {w wr : World} {a : Option Addr} {l : List Rs} (N : RsAt w a l) (hb : Hid (Below w.heap.size w wr)) (j : Nat) (hj : j < l.length) :
    ∃ b off ka kc, a = some ⟨b, off, none⟩ ∧ b < wr.heap.size ∧ wr.cell? ⟨b, off + j * 2, none⟩ = some (.string l[j].name) ∧ wr.cell? ⟨b, off + j * 2 + 1, none⟩ = some (.slice ka l[j].items.length kc) ∧ Hid (ItsAt w ka l[j].items) := by
  obtain ⟨b, off, rfl, h1, ka, kc, h2, h3, h4⟩ := N j hj
  have h1' := cell_keep hb.out h1
  exact ⟨b, off, ka, kc, rfl, block_lt_of_cell h1', h1', cell_keep hb.out h2, h3⟩
/-- build.Of. -/
def ofL (rl : List Rl) (ns : List Nd) : List Rs → Option Gr
  | [] => some ⟨rl, ns⟩
  | r :: l => if (addL true ns [] r.items).2 then ofL (rl ++ [⟨r.name, ((addL true ns [] r.items).1.length : Int) - 1⟩]) (addL true ns [] r.items).1 l else none
theorem pops_len (ns : List Nd) (st : List (Nd × Int)) : (pops ns st).1.length + (pops ns st).2.length = ns.length + st.length := by
  induction ns, st using pops.induct with
  | case1 ns => simp [pops]
  | case2 ns x m h => simp [pops, h]
  | case3 ns x m h => simp [pops, h]
  | case4 ns x m y k r h => simp [pops, h]
  | case5 ns x m y k r h ih => rw [pops, if_neg h]; simp at ih ⊢; omega
theorem addL_len : ∀ (l : List It) (first : Bool) (ns : List Nd) (st : List (Nd × Int)), (addL first ns st l).1.length ≤ ns.length + st.length + l.length
  | [], first, ns, st => by simp [addL] <;> omega
  | it :: l, first, ns, st => by
    rw [addL]
    split
    · simp; omega
    · have h1 := addL_len l false (pops ns ((⟨it.op, [], it.rule, it.set⟩, it.kids) :: st)).1 (pops ns ((⟨it.op, [], it.rule, it.set⟩, it.kids) :: st)).2
      have h2 := pops_len ns ((⟨it.op, [], it.rule, it.set⟩, it.kids) :: st)
      simp at h2 ⊢; omega
def itSum (l : List Rs) : Nat := (l.map (·.items.length)).sum
/-- where build.Of's loop stands. -/
structure OfS (w wr : World) (xR : Option Addr) (cR : Nat) (xN : Option Addr) (cN : Nat) (rl : List Rl) (ln : List NdA) : Prop where
  h0 : wr.heap[w.heap.size]? = some (.cells #[.slice none 0 0, .slice none 0 0] 36 (0, 0))
  h1 : wr.heap[w.heap.size + 1]? = some (.cells #[.slice xR rl.length cR, .slice xN ln.length cN] 36 (0, 0))
  hR : wr.ownsRow w.heap.size 70 2 (.slice xR rl.length cR) rl.length (rowRl rl)
  hN : wr.ownsRow w.heap.size 55 7 (.slice xN ln.length cN) ln.length (rowNd ln)
  hk : ∀ y ∈ ln, KidO wr w.heap.size y
  hd : ln.Pairwise KDis
  hB : Below w.heap.size w wr
theorem OfS.alloc {w wr : World} {xR : Option Addr} {cR : Nat} {xN : Option Addr} {cN : Nat} {rl : List Rl} {ln : List NdA} (H : OfS w wr xR cR xN cN rl ln) (o : Obj) : OfS w (wr.alloc o) xR cR xN cN rl ln := by
  have l0 := (Array.getElem?_eq_some_iff.1 H.h0).1
  have l1 := (Array.getElem?_eq_some_iff.1 H.h1).1
  exact ⟨(Below.heap_alloc _ _ _ l0).trans H.h0, (Below.heap_alloc _ _ _ l1).trans H.h1, own_alloc H.hR o, own_alloc H.hN o, fun y hy => own_alloc (H.hk y hy) o, H.hd, H.hB.alloc (by omega) o⟩
/-- behind a call of add. -/
theorem OfS.add {w wr wf : World} {xR : Option Addr} {cR : Nat} {xN : Option Addr} {cN : Nat} {rl : List Rl} {ln : List NdA} {ns : List Nd} (H : OfS w wr xR cR xN cN rl ln) (P : AddPost w wr (w.heap.size + 1) (.slice xR rl.length cR) (blk xN) ns wf) :
    ∃ xN' cN' ln', nds ln' = ns ∧ OfS w wf xR cR xN' cN' rl ln' := by
  obtain ⟨xN', cN', ln', q1, q2, q3, q4, q5, q6, q7, q8, q9⟩ := P
  have l0 := (Array.getElem?_eq_some_iff.1 H.h0).1
  refine ⟨xN', cN', ln', q1, (q8 _ l0 (by omega) (fun e => own_ne_blk H.hN H.h0 (by decide) (by rw [blk_own]; exact e))).trans H.h0, q2, ?_, q3, q4, q5, q6⟩
  exact own_of_heap H.hR fun b hb hv => q8 b hb (fun e => own_ne_blk H.hR H.h1 (by decide) (by rw [hv, e])) (fun e => own_apart H.hR H.hN (by decide) b hv (by rw [blk_own]; exact e))
/-- what build.Of returns. -/
def OfPost (w : World) (o : Option Gr) (e : Ending) (w' : World) : Prop :=
  (∃ g, o = some g ∧ ∃ ra rc na nc la, e = .returned (.tuple #[.agg #[.slice ra g.rules.length rc, .slice na la.length nc], .bool true]) ∧ nds la = g.nodes ∧ OwnG w' w.heap.size ra rc na nc g.rules la ∧ Below w.heap.size w w') ∨
  (o = none ∧ e = .returned (.tuple #[.agg #[.slice none 0 0, .slice none 0 0], .bool false]) ∧ Below w.heap.size w w')
set_option maxRecDepth 20000 in
set_option maxHeartbeats 6400000 in
theorem of_any (l : List Rs) (la : Option Addr) (lc : Nat) (w : World) (hl : l.length ≤ 50000) (hs : itSum l ≤ 50000) (R : RsAt w la l) :
    Calls Try.prog 10 #[.slice la l.length lc] w (OfPost w (ofL [] [] l)) := by
  have HS0 : Hid (OfS w ((w.alloc (.cells #[.slice none 0 0, .slice none 0 0] 36)).alloc (.cells #[.slice none 0 0, .slice none 0 0] 36)) none 0 none 0 [] []) :=
    Lib.hid ⟨(Below.heap_alloc _ _ _ (by simp)).trans (heap_alloc_new w _), heap_alloc2_new w _ _, own_nil _ _ _ _, own_nil _ _ _ _, fun _ h => (by cases h), List.Pairwise.nil, ((Below.refl _ _).alloc (Nat.le_refl _) _).alloc (by simp) _⟩
  have HR := Lib.hid R
  have HSUM := Lib.hid hs
  clear R hs
  go_enter Try.func10, Try.ntmps10
  go_wp2_with (fail)
  generalize ((w.alloc (.cells #[.slice none 0 0, .slice none 0 0] 36)).alloc (.cells #[.slice none 0 0, .slice none 0 0] 36)) = W at *
  have HO : Hid (ofL [] (nds []) (l.drop 0) = ofL [] [] l) := rfl
  generalize hres : ofL [] [] l = res at *
  have HRES := Lib.hid hres
  clear hres
  have HQ : Hid (([] : List NdA).length + itSum (l.drop 0) ≤ 50000) := Lib.hid (by simpa using HSUM.out)
  go_loopw [9] (fun j wr => ∃ (k : Nat) (rl : List Rl) (ln : List NdA) (xR : Option Addr) (cR : Nat) (xN : Option Addr) (cN : Nat), k ≤ l.length ∧ j = .int .i64 k ∧ Hid (rl.length = k) ∧ Hid (OfS w wr xR cR xN cN rl ln) ∧ Hid (ofL rl (nds ln) (l.drop k) = res) ∧ Hid (ln.length + itSum (l.drop k) ≤ 50000)) (fun j _ => l.length - (intOf j).toNat)
  case atStart => exact ⟨0, [], [], none, 0, none, 0, Nat.zero_le _, rfl, rfl, HS0, HO, HQ⟩
  case round =>
    obtain ⟨k, rl, ln, xR, cR, xN, cN, hk, rfl, hrk, HS, HO, HQ⟩ := hrel
    clear HS0
    by_cases hlt : k < l.length
    · obtain ⟨bI, oI, ka, kc, rfl, hbI, i0, i1, HI⟩ := HR.out.get (Lib.hid HS.out.hB) k hlt
      have hd := drop_get hlt
      rw [hd] at HO HQ
      clear hd
      generalize l[k] = r at *
      have hsum : ln.length + r.items.length ≤ 50000 := by have := HQ.out; simp [itSum] at this; omega
      have HSB := Lib.hid (HS.out.alloc (.cells #[.string r.name, .slice ka r.items.length kc] 66))
      have hx := heap_alloc_new wr (.cells #[.string r.name, .slice ka r.items.length kc] 66)
      have hwr : w.heap.size + 1 < wr.heap.size := (Array.getElem?_eq_some_iff.1 HS.out.h1).1
      have CA := Lib.hid (add_any w _ (w.heap.size + 1) (.slice xR rl.length cR) xN cN ln ka kc r.items HSB.out.h1 HSB.out.hN HSB.out.hk HSB.out.hd HSB.out.hB (by omega) HI.out hsum)
      have HXX := Lib.hid hx
      clear hx
      go_wp2_with (fail)
      refine CA.out.mono ?_
      rintro e w2 ⟨rfl, hP⟩
      obtain ⟨y1, y2, y3, y4, y5, y6, y7, y8, y9, hz2, hframe, -⟩ := id hP
      have hx2 := (hframe wr.heap.size (by simp) (by omega) (fun e => own_ne_blk HSB.out.hN HXX.out (by decide) (by rw [blk_own]; exact e))).trans HXX.out
      clear y1 y2 y3 y4 y5 y6 y7 y8 y9 hframe
      obtain ⟨xN', cN', ln', hln', HS2⟩ := HSB.out.add hP
      have hrz : wr.heap.size < w2.heap.size := by simp at hz2; omega
      have HLN := Lib.hid hln'
      have HS2 := Lib.hid HS2
      have b0 := cell_of_row w2 wr.heap.size 0 _ _ _ hx2
      have t0 := cell_of_row w2 (w.heap.size + 1) 0 _ _ _ HS2.out.h1
      have t1 := cell_of_row w2 (w.heap.size + 1) 1 _ _ _ HS2.out.h1
      have r0 := cell_of_row w2 w.heap.size 0 _ _ _ HS2.out.h0
      have r1 := cell_of_row w2 w.heap.size 1 _ _ _ HS2.out.h0
      have f0 := frozen_of_row w2 w.heap.size 0 _ _ HS2.out.h0
      have f1 := frozen_of_row w2 w.heap.size 1 _ _ HS2.out.h0
      simp only [List.getElem?_toArray, List.getElem?_cons_zero, List.getElem?_cons_succ] at b0 t0 t1 r0 r1
      have hz0 : w.heap.size < w2.heap.size := by omega
      clear hP HSB HS hx2 CA hln' HXX
      obtain ⟨ok, hok⟩ : ∃ ok, (addL true (nds ln) [] r.items).2 = ok := ⟨_, rfl⟩
      rw [hok]
      cases ok with
      | false =>
        have HX : Hid (none = res) := Lib.hid (by have := HO.out; rw [ofL, hok] at this; simpa using this)
        clear hok HO t0 t1 b0
        go_wp2
        have P1' := blk_set HS2.out.h0 (.slice none 0 0) (.slice none 0 0)
        have oB : Below w.heap.size w ((w2.setCell ⟨w.heap.size, 0, none⟩ (.slice none 0 0)).setCell ⟨w.heap.size, 1, none⟩ (.slice none 0 0)) := (HS2.out.hB.setCell (by simp) _).setCell (by simp) _
        generalize ((w2.setCell ⟨w.heap.size, 0, none⟩ (.slice none 0 0)).setCell ⟨w.heap.size, 1, none⟩ (.slice none 0 0)) = wz at *
        have z0 := cell_of_row wz w.heap.size 0 _ _ _ P1'
        have z1 := cell_of_row wz w.heap.size 1 _ _ _ P1'
        simp only [List.getElem?_toArray, List.getElem?_cons_zero, List.getElem?_cons_succ] at z0 z1
        refine bodyPost_ret (v := .tuple #[.agg #[.slice none 0 0, .slice none 0 0], .bool false]) (by simp [results, Try.results10, go_sem, z0, z1]) rfl ?_
        exact .inr ⟨HX.out.symm, rfl, oB⟩
      | true =>
        have HX : Hid (ofL (rl ++ [⟨r.name, (ln'.length : Int) - 1⟩]) (nds ln') (l.drop (k + 1)) = res) := Lib.hid (by
          have := HO.out
          rw [ofL, hok] at this
          have hl : ln'.length = (addL true (nds ln) [] r.items).1.length := by rw [← HLN.out]; simp [nds]
          rw [hl, HLN.out]; simpa using this)
        have HQ2 : Hid (ln'.length + itSum (l.drop (k + 1)) ≤ 50000) := Lib.hid (by
          have h1 := HQ.out
          have h2 := addL_len r.items true (nds ln) []
          have hl : ln'.length = (addL true (nds ln) [] r.items).1.length := by rw [← HLN.out]; simp [nds]
          have hl2 : (nds ln).length = ln.length := by simp [nds]
          simp [itSum] at h1 h2 ⊢; omega)
        have hrk2 : rl.length ≤ 50000 := by have := hrk.out; omega
        have hln5 : ln'.length ≤ 50000 := by have := HQ2.out; omega
        have HRR := Lib.hid HS2.out.hR
        have hsn := rowRl_snoc rl ⟨r.name, (ln'.length : Int) - 1⟩
        simp only [rlCells] at hsn
        have HSN := Lib.hid hsn
        clear hok HO HQ HLN r0 r1 f0 f1 hsn
        go_wp2_with (at_builtin; refine app1 (P := Try.prog) (w0 := w) w.heap.size rfl _ _ 33 70 (.agg #[.string ⟨#[]⟩, .int .i64 0]) 2 24 rfl Try.underlying33 infoRl rfl (by omega) (by omega) _ rl.length _ HRR.out HS2.out.hB _ rfl (by rfl) rfl (by simp [Value.oneCell']) (by omega) (by omega) ?_; intro vn w4 hown hbn hgn hatn; obtain ⟨xR', cR', rfl, hnn⟩ := own_slice hown; have hp4 := (hgn.block (w.heap.size + 1) (by simp; omega) (fun e => own_ne_blk HRR.out HS2.out.h1 (by decide) e.symm)).trans ((Below.heap_alloc _ _ _ (by omega)).trans HS2.out.h1); have z0 := cell_of_row w4 (w.heap.size + 1) 0 _ _ _ hp4; have zf := frozen_of_row w4 (w.heap.size + 1) 0 _ _ hp4; simp only [List.getElem?_toArray, List.getElem?_cons_zero, List.getElem?_cons_succ] at z0; have hp4 := Lib.hid hp4; have hown := Lib.hid hown; have hbn := Lib.hid hbn; have hgn := Lib.hid hgn; have hatn := Lib.hid hatn)
        have KEEP : ∀ b, b < w2.heap.size → b ≠ w.heap.size + 1 → (Value.slice xR rl.length cR).ownBlock ≠ some b → (w4.setCell ⟨w.heap.size + 1, 0, none⟩ (.slice xR' (rl.length + 1) cR')).heap[b]? = w2.heap[b]? := fun b h1 h2 h3 => by
          rw [heap_setCell_other _ _ _ _ (by simpa using h2)]
          exact (hgn.out.block b (by simp; omega) (fun e => h3 e.symm)).trans (Below.heap_alloc _ _ _ h1)
        have HS4 : Hid (OfS w (w4.setCell ⟨w.heap.size + 1, 0, none⟩ (.slice xR' (rl.length + 1) cR')) xR' cR' xN' cN' (rl ++ [⟨r.name, (ln'.length : Int) - 1⟩]) ln') := Lib.hid (by
          refine ⟨(KEEP _ hz0 (by omega) (own_ne_blk HS2.out.hR HS2.out.h0 (by decide))).trans HS2.out.h0, ?_, ?_, own_of_heap HS2.out.hN (fun b hb hv => KEEP b hb (fun e => own_ne_blk HS2.out.hN HS2.out.h1 (by decide) (by rw [hv, e])) (own_apart HS2.out.hN HS2.out.hR (by decide) b hv)), fun y hy => own_of_heap (HS2.out.hk y hy) (fun b hb hv => KEEP b hb (fun e => own_ne_blk (HS2.out.hk y hy) HS2.out.h1 (by decide) (by rw [hv, e])) (own_apart (HS2.out.hk y hy) HS2.out.hR (by decide) b hv)), HS2.out.hd, hbn.out.setCell (by simp) _⟩
          · rw [List.length_append]; exact heap_setCell_same _ _ 0 _ _ _ hp4.out
          · rw [List.length_append, ← HSN.out]; exact own_set hown.out (own_ne_blk hown.out hp4.out (by decide)))
        have HRK2 : Hid ((rl ++ [(⟨r.name, (ln'.length : Int) - 1⟩ : Rl)]).length = k + 1) := Lib.hid (by rw [List.length_append, hrk.out]; rfl)
        go_roundw
        case rel => exact ⟨k + 1, _, ln', xR', cR', xN', cN', by omega, by go_num, HRK2, HS4, HX, HQ2⟩
        case measure => simp [intOf]; omega
    · obtain rfl : k = l.length := by omega
      have HX : Hid (some ⟨rl, nds ln⟩ = res) := Lib.hid (by have := HO.out; rwa [List.drop_length, ofL] at this)
      have t0 := cell_of_row wr (w.heap.size + 1) 0 _ _ _ HS.out.h1
      have t1 := cell_of_row wr (w.heap.size + 1) 1 _ _ _ HS.out.h1
      have r0 := cell_of_row wr w.heap.size 0 _ _ _ HS.out.h0
      have r1 := cell_of_row wr w.heap.size 1 _ _ _ HS.out.h0
      have f0 := frozen_of_row wr w.heap.size 0 _ _ HS.out.h0
      have f1 := frozen_of_row wr w.heap.size 1 _ _ HS.out.h0
      simp only [List.getElem?_toArray, List.getElem?_cons_zero, List.getElem?_cons_succ] at t0 t1 r0 r1
      clear HO HQ
      go_wp2
      have PW := blk_set HS.out.h0 (.slice xR rl.length cR) (.slice xN ln.length cN)
      have oB : Below w.heap.size w ((wr.setCell ⟨w.heap.size, 0, none⟩ (.slice xR rl.length cR)).setCell ⟨w.heap.size, 1, none⟩ (.slice xN ln.length cN)) := (HS.out.hB.setCell (by simp) _).setCell (by simp) _
      have o3 := own_set2 (u1 := .slice xR rl.length cR) (u2 := .slice xN ln.length cN) HS.out.hR HS.out.h0 (by decide)
      have o4 := own_set2 (u1 := .slice xR rl.length cR) (u2 := .slice xN ln.length cN) HS.out.hN HS.out.h0 (by decide)
      have o7 : ∀ y ∈ ln, KidO _ w.heap.size y := fun y hy => own_set2 (u1 := .slice xR rl.length cR) (u2 := .slice xN ln.length cN) (HS.out.hk y hy) HS.out.h0 (by decide)
      generalize ((wr.setCell ⟨w.heap.size, 0, none⟩ (.slice xR rl.length cR)).setCell ⟨w.heap.size, 1, none⟩ (.slice xN ln.length cN)) = wz at *
      have z0 := cell_of_row wz w.heap.size 0 _ _ _ PW
      have z1 := cell_of_row wz w.heap.size 1 _ _ _ PW
      simp only [List.getElem?_toArray, List.getElem?_cons_zero, List.getElem?_cons_succ] at z0 z1
      refine bodyPost_ret (v := .tuple #[.agg #[.slice xR rl.length cR, .slice xN ln.length cN], .bool true]) (by simp [results, Try.results10, go_sem, z0, z1]) rfl ?_
      exact .inl ⟨⟨rl, nds ln⟩, HX.out.symm, xR, cR, xN, cN, ln, rfl, rfl, ⟨o3, o4, o7, HS.out.hd⟩, oB⟩
end Go.Proofs.Ytdphcblbkdgbhaa
