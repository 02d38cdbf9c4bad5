import Derived.Test.YtdphcblbkdgbhaaM4
namespace Go.Proofs.Ytdphcblbkdgbhaa
open Go.RowKit
def It.cells (x : It) : List Value := [.int .i64 x.op, .int .i64 x.kids, .int .i64 x.rule, .int .u64 x.set.a, .int .u64 x.set.b, .int .u64 x.set.c, .int .u64 x.set.d]
theorem It.len (x : It) : x.cells.length = 7 := rfl
def rowIt (l : List It) : List Value := l.flatMap It.cells
theorem rowIt_len (l : List It) : (rowIt l).length = l.length * 7 := flat_len It.len l
theorem rowIt_snoc (l : List It) (x : It) : rowIt l ++ x.cells = rowIt (l ++ [x]) := by simp [rowIt]
theorem rowIt_app (l m : List It) : rowIt l ++ rowIt m = rowIt (l ++ m) := by simp [rowIt]
theorem rowIt_one (l : List It) : ∀ u ∈ rowIt l, u.oneCell' = true := by
  intro u hu
  obtain ⟨x, _, h⟩ := List.mem_flatMap.1 hu
  simp only [It.cells, List.mem_cons, List.not_mem_nil, or_false] at h
  rcases h with rfl | rfl | rfl | rfl | rfl | rfl | rfl <;> rfl
theorem its_of_cells {w : World} {a : Option Addr} {l : List It} (h : CellsAt w a (rowIt l)) : ItsAt w a l := fun j hj => by
  have key : ∀ q u, q < 7 → (l[j].cells)[q]? = some u → ∃ b off, a = some ⟨b, off, none⟩ ∧ w.cell? ⟨b, off + (j * 7 + q), none⟩ = some u := fun q u hq hu => cells_get h (j * 7 + q) u ((flat_get It.len l j q hj hq).trans hu)
  obtain ⟨b, off, e, h0⟩ := key 0 _ (by omega) rfl
  subst e
  have k2 : ∀ q u, q < 7 → (l[j].cells)[q]? = some u → w.cell? ⟨b, off + j * 7 + q, none⟩ = some u := fun q u hq hu => by
    obtain ⟨b', off', e, h1⟩ := key q u hq hu
    cases e
    rwa [Nat.add_assoc]
  exact ⟨b, off, rfl, k2 0 _ (by omega) rfl, k2 1 _ (by omega) rfl, k2 2 _ (by omega) rfl, k2 3 _ (by omega) rfl, k2 4 _ (by omega) rfl, k2 5 _ (by omega) rfl, k2 6 _ (by omega) rfl⟩
theorem cells_of_its {w : World} {a : Option Addr} {l : List It} (h : ItsAt w a l) : CellsAt w a (rowIt l) := fun j hj => by
  rw [rowIt_len] at hj
  have h7 : j / 7 < l.length := by omega
  obtain ⟨b, off, e, h0, h1, h2, h3, h4, h5, h6⟩ := h (j / 7) h7
  refine ⟨b, off, e, ?_⟩
  have hx : (rowIt l)[j]? = (l[j / 7].cells)[j % 7]? := by
    have := flat_get It.len l (j / 7) (j % 7) h7 (Nat.mod_lt _ (by omega))
    rwa [show j / 7 * 7 + j % 7 = j by omega] at this
  have hj' : j < (rowIt l).length := by rw [rowIt_len]; omega
  have hy : (rowIt l)[j]? = some (rowIt l)[j] := List.getElem?_eq_getElem hj'
  rw [hx] at hy
  have e7 : off + j = off + j / 7 * 7 + j % 7 := by omega
  rw [e7]
  have hm : j % 7 < 7 := Nat.mod_lt _ (by omega)
  generalize j % 7 = q at *
  generalize hz : (rowIt l)[j] = z at *
  match q, hm with
  | 0, _ => injection hy with hy; rw [← hy]; exact h0
  | 1, _ => injection hy with hy; rw [← hy]; exact h1
  | 2, _ => injection hy with hy; rw [← hy]; exact h2
  | 3, _ => injection hy with hy; rw [← hy]; exact h3
  | 4, _ => injection hy with hy; rw [← hy]; exact h4
  | 5, _ => injection hy with hy; rw [← hy]; exact h5
  | 6, _ => injection hy with hy; rw [← hy]; exact h6
theorem infoBIt : (Try.prog.info? 64).map (fun i => (i.zero, i.size, i.bytes)) = some (some (.agg #[.int .i64 0, .int .i64 0, .int .i64 0, .int .u64 0, .int .u64 0, .int .u64 0, .int .u64 0]), 7, 56) := by kernel_rfl
theorem infoVIt : (Try.prog.info? 32).map (fun i => (i.zero, i.size, i.bytes)) = some (some (.agg #[.int .i64 0, .int .i64 0, .int .i64 0, .int .u64 0, .int .u64 0, .int .u64 0, .int .u64 0]), 7, 56) := by kernel_rfl
/-- the items of an expression, with fuel. -/
def itsF (nodes : List Nd) : Nat → Nat → List It
  | 0, _ => []
  | f + 1, i => match nodes[i]? with
    | none => []
    | some x => ⟨x.op, x.kids.length, x.rule, x.set⟩ :: x.kids.flatMap fun k => itsF nodes f k.toNat
/-- a row of items of the callee's own. -/
def RetIts (e : TypeId) (L : List It) (w : World) (en : Ending) (w' : World) : Prop :=
  ∃ a c, en = .returned (.slice a L.length c) ∧ (a = none → c = 0) ∧ w'.ownsRow w.heap.size e 7 (.slice a L.length c) L.length (rowIt L) ∧ Below w.heap.size w w'
theorem own_lit {W : World} {base : Nat} (e : TypeId) {size : Nat} (cs : Array Value) (hs : cs.size = size) (hb : base ≤ W.heap.size) : (W.alloc (.cells cs e)).ownsRow base e size (.slice (some ⟨W.heap.size, 0, none⟩) 1 1) 1 cs.toList :=
  ⟨by simp [hs], .inr ⟨W.heap.size, 1, cs, rfl, hb, heap_alloc_new W _, Nat.le_refl _, by decide, by simp [hs], by simp [← hs, List.take_of_length_le]⟩⟩
set_option maxRecDepth 20000 in
set_option maxHeartbeats 6400000 in
theorem items1_any (nodes : List Nd) (gb ib : Nat) (rv : Value) (na : Option Addr) (nc : Nat) (hn : nodes.length ≤ 100000) (hK : KidsOk nodes) : ∀ (f i : Nat) (w : World) (hi : i < f) (hin : i < nodes.length) (hb : (itsF nodes f i).length ≤ 50000) (hkk : ∀ x ∈ nodes, x.kids.length ≤ 100000)
    (N : NdsAt w na nodes) (hg : w.heap[gb]? = some (.cells #[rv, .slice na nodes.length nc] 36 (0, 0))) (hib : w.heap[ib]? = some (.cells #[.func (.func 30) #[] #[.pointer (some ⟨gb, 0, none⟩), .pointer (some ⟨ib, 0, none⟩)]] 73 (0, 0))),
    Calls Try.prog 30 #[.int .i64 i, .pointer (some ⟨gb, 0, none⟩), .pointer (some ⟨ib, 0, none⟩)] w (RetIts 64 (itsF nodes f i) w)
  | 0, i, w, hi, _, _, _, _, _, _ => by omega
  | f + 1, i, w, hi, hin, hb, hkk, N, hg, hib => by
    have IH := Lib.hid (items1_any nodes gb ib rv na nc hn hK f)
    obtain ⟨b, off, ka, kc, rfl, hbz, n0, n1, n2, n3, n4, n5, n6, HKA⟩ := N.get (Lib.hid (Below.refl _ _)) i hin
    have hx : nodes[i]? = some nodes[i] := List.getElem?_eq_getElem hin
    have HITS : Hid (itsF nodes (f + 1) i = ⟨nodes[i].op, nodes[i].kids.length, nodes[i].rule, nodes[i].set⟩ :: nodes[i].kids.flatMap fun k => itsF nodes f k.toNat) := Lib.hid (by rw [itsF, hx])
    have hkl := hkk _ (List.getElem_mem hin)
    have HKO := Lib.hid (hK i hin)
    have g1 := cell_of_row w gb 1 _ _ _ hg
    simp only [List.getElem?_toArray, List.getElem?_cons_zero, List.getElem?_cons_succ] at g1
    have HG := Lib.hid hg
    have HIB := Lib.hid hib
    have HN := Lib.hid N
    have HKK := Lib.hid hkk
    have HBB := Lib.hid hb
    clear hx hg hib N hkk hb
    generalize nodes[i] = x at *
    go_enter Try.func30, Try.ntmps30
    go_wp2_with (fail)
    have HB0 : Hid (Below w.heap.size w ((w.alloc (.cells #[.int .i64 x.op, .slice ka x.kids.length kc, .int .i64 x.rule, .int .u64 x.set.a, .int .u64 x.set.b, .int .u64 x.set.c, .int .u64 x.set.d] 55)).alloc (.cells #[.int .i64 x.op, .int .i64 x.kids.length, .int .i64 x.rule, .int .u64 x.set.a, .int .u64 x.set.b, .int .u64 x.set.c, .int .u64 x.set.d] 64))) := ((Below.refl _ _).alloc (Nat.le_refl _) _).alloc (by simp) _
    have HOW : Hid (((w.alloc (.cells #[.int .i64 x.op, .slice ka x.kids.length kc, .int .i64 x.rule, .int .u64 x.set.a, .int .u64 x.set.b, .int .u64 x.set.c, .int .u64 x.set.d] 55)).alloc (.cells #[.int .i64 x.op, .int .i64 x.kids.length, .int .i64 x.rule, .int .u64 x.set.a, .int .u64 x.set.b, .int .u64 x.set.c, .int .u64 x.set.d] 64)).ownsRow w.heap.size 64 7 (.slice (some ⟨w.heap.size + 1, 0, none⟩) 1 1) 1 (rowIt (⟨x.op, x.kids.length, x.rule, x.set⟩ :: (x.kids.take 0).flatMap fun k => itsF nodes f k.toNat))) := Lib.hid (by
      have h := own_lit (W := w.alloc (.cells #[.int .i64 x.op, .slice ka x.kids.length kc, .int .i64 x.rule, .int .u64 x.set.a, .int .u64 x.set.b, .int .u64 x.set.c, .int .u64 x.set.d] 55)) (base := w.heap.size) (size := 7) 64 #[.int .i64 x.op, .int .i64 x.kids.length, .int .i64 x.rule, .int .u64 x.set.a, .int .u64 x.set.b, .int .u64 x.set.c, .int .u64 x.set.d] rfl (by simp)
      rw [show (w.alloc (.cells #[.int .i64 x.op, .slice ka x.kids.length kc, .int .i64 x.rule, .int .u64 x.set.a, .int .u64 x.set.b, .int .u64 x.set.c, .int .u64 x.set.d] 55)).heap.size = w.heap.size + 1 by simp] at h
      exact h)
    generalize (w.alloc (.cells #[.int .i64 x.op, .slice ka x.kids.length kc, .int .i64 x.rule, .int .u64 x.set.a, .int .u64 x.set.b, .int .u64 x.set.c, .int .u64 x.set.d] 55)).alloc (.cells #[.int .i64 x.op, .int .i64 x.kids.length, .int .i64 x.rule, .int .u64 x.set.a, .int .u64 x.set.b, .int .u64 x.set.c, .int .u64 x.set.d] 64) = W at *
    clear n0 n1 n2 n3 n4 n5 n6 g1
    go_loopw [6, 28] (fun v j wr => ∃ (m n : Nat) (xa : Option Addr) (xc : Nat), m ≤ x.kids.length ∧ j = .int .i64 m ∧ v = .slice xa n xc ∧ Hid (n = (⟨x.op, x.kids.length, x.rule, x.set⟩ :: (x.kids.take m).flatMap fun k => itsF nodes f k.toNat : List It).length) ∧ Hid (wr.ownsRow w.heap.size 64 7 (.slice xa n xc) n (rowIt (⟨x.op, x.kids.length, x.rule, x.set⟩ :: (x.kids.take m).flatMap fun k => itsF nodes f k.toNat))) ∧ Hid (Below w.heap.size w wr)) (fun _ j _ => x.kids.length - (intOf j).toNat)
    case atStart => exact ⟨0, 1, _, 1, Nat.zero_le _, rfl, rfl, rfl, HOW, HB0⟩
    case round =>
      obtain ⟨m, n, xa, xc, hm, rfl, rfl, hnn, HO, HB⟩ := hrel
      clear HOW HB0
      by_cases hlt : m < x.kids.length
      · obtain ⟨bk, ok, rfl, hbk, k0⟩ := HKA.out.get HB m hlt
        have hko := HKO.out _ (List.getElem_mem hlt)
        have hsn : x.kids.take (m + 1) = x.kids.take m ++ [x.kids[m]] := List.take_succ_eq_append_getElem hlt
        obtain ⟨kn, hkn⟩ : ∃ kn : Nat, x.kids[m] = kn := ⟨x.kids[m].toNat, by omega⟩
        have hkn1 : kn < f := by omega
        have hkn2 : kn < nodes.length := by omega
        rw [hkn] at k0 hsn
        have hib2 := (HB.out.block ib (Array.getElem?_eq_some_iff.1 HIB.out).1).trans HIB.out
        have hg2 := (HB.out.block gb (Array.getElem?_eq_some_iff.1 HG.out).1).trans HG.out
        have i0 := cell_of_row wr ib 0 _ _ _ hib2
        simp only [List.getElem?_toArray, List.getElem?_cons_zero, List.getElem?_cons_succ] at i0
        have hlen : Hid (n + (itsF nodes f kn).length = (⟨x.op, x.kids.length, x.rule, x.set⟩ :: (x.kids.take (m + 1)).flatMap fun k => itsF nodes f k.toNat : List It).length) := Lib.hid (by rw [hnn.out, hsn]; simp; omega)
        have htot : n + (itsF nodes f kn).length ≤ 50000 := by
          have h1 := HBB.out
          rw [HITS.out] at h1
          have h2 : (x.kids.take (m + 1)).flatMap (fun k => itsF nodes f k.toNat) ++ (x.kids.drop (m + 1)).flatMap (fun k => itsF nodes f k.toNat) = x.kids.flatMap (fun k => itsF nodes f k.toNat) := by rw [← List.flatMap_append, List.take_append_drop]
          rw [hlen.out]
          rw [← h2] at h1
          simp at h1 ⊢; omega
        have CI := Lib.hid (IH.out kn wr hkn1 hkn2 (by omega) HKK.out (HN.out.below HB.out) hg2 hib2)
        have HROW : Hid (rowIt (⟨x.op, x.kids.length, x.rule, x.set⟩ :: (x.kids.take m).flatMap fun k => itsF nodes f k.toNat) ++ rowIt (itsF nodes f kn) = rowIt (⟨x.op, x.kids.length, x.rule, x.set⟩ :: (x.kids.take (m + 1)).flatMap fun k => itsF nodes f k.toNat)) := Lib.hid (by rw [rowIt_app, hsn]; simp)
        clear hkn hsn hib2 hg2
        go_wp2_with (fail)
        refine CI.out.mono ?_
        rintro e w2 ⟨ra, rc, rfl, hnil, hown2, hb2⟩
        have HO2 := Lib.hid (own_below HO.out hb2)
        have HB2 := Lib.hid (HB.out.trans (hb2.mono HB.out.size))
        have HC2 := Lib.hid (own_cells hown2)
        have hwz : w.heap.size ≤ w2.heap.size := HB2.out.size
        have HL := Lib.hid (rowIt_len (itsF nodes f kn))
        clear hown2 hb2 CI
        go_wp2_with (at_builtin; refine appN (P := Try.prog) (w0 := w) w.heap.size rfl _ _ 60 64 (.agg #[.int .i64 0, .int .i64 0, .int .i64 0, .int .u64 0, .int .u64 0, .int .u64 0, .int .u64 0]) 7 56 rfl Try.underlying60 infoBIt rfl (by omega) (by omega) _ n _ HO2.out HB2.out ra (itsF nodes f kn).length rc _ rfl (by rfl) HL.out HC2.out hnil (rowIt_one _) hwz (by omega) ?_; intro vn w4 hown hbn hgn hatn; obtain ⟨xN', cN', rfl, hnn2⟩ := own_slice hown; rw [HROW.out] at hown; have hown := Lib.hid hown; have hbn := Lib.hid hbn; clear hgn hatn)
        go_roundw
        case rel => exact ⟨m + 1, n + (itsF nodes f kn).length, xN', cN', by omega, by go_num, rfl, hlen, hown, hbn⟩
        case measure => simp [intOf]; omega
      · obtain rfl : m = x.kids.length := by omega
        have HX : Hid (itsF nodes (f + 1) i = ⟨x.op, x.kids.length, x.rule, x.set⟩ :: (x.kids.take x.kids.length).flatMap fun k => itsF nodes f k.toNat) := Lib.hid (by rw [List.take_length]; exact HITS.out)
        go_wp2
        go_ret
        obtain ⟨a2, c2, e2, hnil⟩ := own_slice HO.out
        refine ⟨xa, xc, ?_, ?_, ?_, HB.out⟩
        · rw [HX.out, ← hnn.out]; simp
        · intro h; subst h; cases e2; exact hnil rfl
        · rw [HX.out, ← hnn.out]; exact HO.out
end Go.Proofs.Ytdphcblbkdgbhaa
