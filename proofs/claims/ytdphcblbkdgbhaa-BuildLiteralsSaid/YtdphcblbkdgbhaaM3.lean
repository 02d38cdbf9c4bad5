import Derived.Test.YtdphcblbkdgbhaaM2
import Derived.Deep.Cut
namespace Go.Proofs.Ytdphcblbkdgbhaa
open Go.RowKit
theorem ItsAt.get {w wr : World} {a : Option Addr} {l : List It} (N : ItsAt w a l) (hb : Hid (Below w.heap.size w wr)) (j : Nat) (hj : j < l.length) :
    ∃ b off, a = some ⟨b, off, none⟩ ∧ b < wr.heap.size ∧ wr.cell? ⟨b, off + j * 7, none⟩ = some (.int .i64 l[j].op) ∧ wr.cell? ⟨b, off + j * 7 + 1, none⟩ = some (.int .i64 l[j].kids) ∧ wr.cell? ⟨b, off + j * 7 + 2, none⟩ = some (.int .i64 l[j].rule) ∧
      wr.cell? ⟨b, off + j * 7 + 3, none⟩ = some (.int .u64 l[j].set.a) ∧ wr.cell? ⟨b, off + j * 7 + 4, none⟩ = some (.int .u64 l[j].set.b) ∧ wr.cell? ⟨b, off + j * 7 + 5, none⟩ = some (.int .u64 l[j].set.c) ∧ wr.cell? ⟨b, off + j * 7 + 6, none⟩ = some (.int .u64 l[j].set.d) := by
  obtain ⟨b, off, rfl, h⟩ := N j hj
  obtain ⟨h0, h1, h2, h3, h4, h5, h6⟩ := h.below hb.out
  exact ⟨b, off, rfl, block_lt_of_cell h0, h0, h1, h2, h3, h4, h5, h6⟩
theorem own_st_top {w : World} {base n c g m : Nat} {lt : List St} {s : St} (h : w.ownsRow base 85 8 (.slice (some ⟨g, 0, none⟩) n c) n (rowSt (s :: lt).reverse)) (hm : m = lt.length) :
    g < w.heap.size ∧ w.cell? ⟨g, m * 8, none⟩ = some (.int .i64 s.x.nd.op) ∧ w.cell? ⟨g, m * 8 + 1, none⟩ = some (.int .i64 s.need) ∧ w.cell? ⟨g, m * 8 + 2, none⟩ = some (.int .i64 s.x.nd.rule) ∧ w.cell? ⟨g, m * 8 + 3, none⟩ = some (.int .u64 s.x.nd.set.a) ∧ w.cell? ⟨g, m * 8 + 4, none⟩ = some (.int .u64 s.x.nd.set.b) ∧ w.cell? ⟨g, m * 8 + 5, none⟩ = some (.int .u64 s.x.nd.set.c) ∧ w.cell? ⟨g, m * 8 + 6, none⟩ = some (.int .u64 s.x.nd.set.d) ∧ w.cell? ⟨g, m * 8 + 7, none⟩ = some (.slice s.x.a s.x.nd.kids.length s.x.c) := by
  have hc := own_cells h
  have hl : m < (s :: lt).reverse.length := by simp; omega
  have hx : (s :: lt).reverse[m] = s := by simp [hm]
  have key : ∀ q u, q < 8 → (s.cells)[q]? = some u → w.cell? ⟨g, m * 8 + q, none⟩ = some u := fun q u hq hu => by
    obtain ⟨b, off, e, h1⟩ := cells_get hc (m * 8 + q) u ((flat_get St.len _ m q hl hq).trans (by rw [hx]; exact hu))
    cases e
    rwa [Nat.zero_add] at h1
  have h0 := key 0 _ (by omega) rfl
  exact ⟨block_lt_of_cell h0, h0, key 1 _ (by omega) rfl, key 2 _ (by omega) rfl, key 3 _ (by omega) rfl, key 4 _ (by omega) rfl, key 5 _ (by omega) rfl, key 6 _ (by omega) rfl, key 7 _ (by omega) rfl⟩
theorem rowSt_set (lt : List St) (u : St) (m : Nat) (hm : m = lt.length) (i : Int) (a : Option Addr) (c : Nat) :
    (rowSt (u :: lt).reverse).set (m * 8 + 7) (.slice a (u.x.nd.kids.length + 1) c) = rowSt (lt.reverse ++ [⟨⟨{ u.x.nd with kids := u.x.nd.kids ++ [i] }, a, c⟩, u.need⟩]) := by
  have hl : m < (u :: lt).reverse.length := by simp; omega
  have hx : (u :: lt).reverse[m] = u := by simp [hm]
  have h := flat_set St.len (u :: lt).reverse m 7 ⟨⟨{ u.x.nd with kids := u.x.nd.kids ++ [i] }, a, c⟩, u.need⟩ (.slice a (u.x.nd.kids.length + 1) c) hl (by omega) (by rw [hx]; simp [St.cells])
  refine h.trans ?_
  congr 1
  rw [List.reverse_cons, List.set_append_right _ _ (by simp; omega)]
  simp [hm]
def lenOf : Value → Nat
  | .slice _ n _ => n
  | _ => 0
theorem pops_stop {ns : List Nd} {x : Nd} {m : Int} {r : List (Nd × Int)} (h : (x.kids.length : Int) < m) : pops ns ((x, m) :: r) = (ns, (x, m) :: r) := by
  cases r with
  | nil => rw [pops, if_pos h]
  | cons y r => rw [pops, if_pos h]
/-- what build.add leaves. -/
def AddPost (w0 w : World) (gb : Nat) (rv : Value) (row0 : Option Nat) (ns : List Nd) (w' : World) : Prop :=
  ∃ xN cN ln, nds ln = ns ∧ w'.heap[gb]? = some (.cells #[rv, .slice xN ln.length cN] 36 (0, 0)) ∧ w'.ownsRow w0.heap.size 55 7 (.slice xN ln.length cN) ln.length (rowNd ln) ∧ (∀ y ∈ ln, KidO w' w0.heap.size y) ∧ ln.Pairwise KDis ∧
    Below w0.heap.size w0 w' ∧ w.heap.size ≤ w'.heap.size ∧ (∀ b, b < w.heap.size → b ≠ gb → row0 ≠ some b → w'.heap[b]? = w.heap[b]?) ∧ (blk xN = row0 ∨ ∃ q, blk xN = some q ∧ w.heap.size ≤ q)
theorem AddS.post {w0 w wr : World} {gb : Nat} {rv : Value} {row0 : Option Nat} {xN : Option Addr} {cN : Nat} {xS : Option Addr} {cS : Nat} {ln : List NdA} {ls : List St} (H : AddS w0 w wr gb rv row0 xN cN xS cS ln ls) : AddPost w0 w gb rv row0 (nds ln) wr :=
  ⟨xN, cN, ln, rfl, H.hg, H.hN, H.hk, (List.pairwise_append.1 H.hd).1, H.hB, Nat.le_of_lt H.hz, H.hf, H.hr⟩
set_option maxRecDepth 20000 in
set_option maxHeartbeats 6400000 in
theorem add_any (w0 w : World) (gb : Nat) (rv : Value) (xN : Option Addr) (cN : Nat) (ln : List NdA) (ia : Option Addr) (ic : Nat) (its : List It)
    (hg : w.heap[gb]? = some (.cells #[rv, .slice xN ln.length cN] 36 (0, 0))) (hN : w.ownsRow w0.heap.size 55 7 (.slice xN ln.length cN) ln.length (rowNd ln)) (hk : ∀ y ∈ ln, KidO w w0.heap.size y) (hd : ln.Pairwise KDis)
    (hB : Below w0.heap.size w0 w) (hgb : w0.heap.size ≤ gb) (hI : ItsAt w0 ia its) (hb : ln.length + its.length ≤ 50000) :
    Calls Try.prog 28 #[.pointer (some ⟨gb, 1, none⟩), .slice ia its.length ic] w fun e w' => e = .returned (.bool (addL true (nds ln) [] its).2) ∧ AddPost w0 w gb rv (blk xN) (addL true (nds ln) [] its).1 w' := by
  have hgl := (Array.getElem?_eq_some_iff.1 hg).1
  have hwz := hB.size
  have HA0 : Hid (AddS w0 w (w.alloc (.cells #[.pointer (some ⟨gb, 1, none⟩)] 68)) gb rv (blk xN) xN cN none 0 ln []) :=
    ⟨heap_alloc_new w _, (Below.heap_alloc _ _ _ hgl).trans hg, own_alloc hN _, own_nil _ _ _ _, fun y hy => own_alloc (hk y hy) _, fun _ h => (by cases h), (by simpa using hd), fun _ h => (by cases h), hB.alloc hwz _, by simp, ⟨hgb, hgl⟩, hwz, fun b h1 _ _ => Below.heap_alloc _ _ _ h1, .inl rfl⟩
  have HI := Lib.hid hI
  have HR : Hid (addL (decide (0 = 0)) (nds ln) (stk []) (its.drop 0) = addL true (nds ln) [] its) := rfl
  clear hg hN hk hd hB hI
  go_enter Try.func28, Try.ntmps28
  go_wp2_with (fail)
  generalize w.alloc (.cells #[.pointer (some ⟨gb, 1, none⟩)] 68) = W at *
  generalize hRes : addL true (nds ln) [] its = res at *
  have HRES := Lib.hid hRes
  clear hRes
  go_loopw [5, 15] (fun s j wr => ∃ (k n : Nat) (lm : List NdA) (ls : List St) (yN : Option Addr) (dN : Nat) (yS : Option Addr) (dS : Nat), k ≤ its.length ∧ j = .int .i64 k ∧ s = .slice yS n dS ∧ Hid (n = ls.length) ∧ lm.length + n ≤ ln.length + k ∧ Hid (AddS w0 w wr gb rv (blk xN) yN dN yS dS lm ls) ∧ Hid (addL (decide (k = 0)) (nds lm) (stk ls) (its.drop k) = res)) (fun _ j _ => its.length - (intOf j).toNat)
  case atStart => exact ⟨0, 0, ln, [], xN, cN, none, 0, Nat.zero_le _, rfl, rfl, rfl, by omega, HA0, HR⟩
  case round =>
    obtain ⟨k, n, lm, ls, yN, dN, yS, dS, hk, rfl, rfl, hn, hlm, HA, HR⟩ := hrel
    clear HA0
    by_cases hlt : k < its.length
    · obtain ⟨bI, oI, rfl, hbI, i0, i1, i2, i3, i4, i5, i6⟩ := HI.out.get (Lib.hid HA.out.hB) k hlt
      have hd := drop_get hlt
      rw [hd] at HR
      clear hd
      generalize its[k] = it at *
      by_cases c1 : it.kids < 0
      · have HX : Hid ((nds lm, false) = res) := by have := HR.out; rwa [addL, if_pos (.inl c1)] at this
        have HP := Lib.hid (HA.out.alloc (.cells #[.int .i64 it.op, .int .i64 it.kids, .int .i64 it.rule, .int .u64 it.set.a, .int .u64 it.set.b, .int .u64 it.set.c, .int .u64 it.set.d] 64)).post
        clear HR
        go_wp2
        go_ret
        rw [HRES.out, ← HX.out]
        exact ⟨by simp, HP.out⟩
      by_cases c2 : 0 < k ∧ n = 0
      · obtain ⟨c2, c3⟩ := c2
        have HX : Hid ((nds lm, false) = res) := by
          have := HR.out
          rwa [addL, if_pos (.inr ⟨by simp; omega, by have := hn.out; cases ls with | nil => rfl | cons _ _ => simp at this; omega⟩)] at this
        have HP := Lib.hid (HA.out.alloc (.cells #[.int .i64 it.op, .int .i64 it.kids, .int .i64 it.rule, .int .u64 it.set.a, .int .u64 it.set.b, .int .u64 it.set.c, .int .u64 it.set.d] 64)).post
        subst c3
        clear HR
        go_wp2
        go_ret
        rw [HRES.out, ← HX.out]
        exact ⟨by simp, HP.out⟩
      have HX : Hid (addL false (pops (nds lm) ((⟨it.op, [], it.rule, it.set⟩, it.kids) :: stk ls)).1 (pops (nds lm) ((⟨it.op, [], it.rule, it.set⟩, it.kids) :: stk ls)).2 (its.drop (k + 1)) = res) := by
        have := HR.out
        rwa [addL, if_neg (by
          rintro (h | ⟨h1, h2⟩)
          · exact c1 h
          · apply c2
            refine ⟨?_, ?_⟩
            · simp at h1; omega
            · rw [hn.out]; cases ls with
              | nil => rfl
              | cons _ _ => simp [stk] at h2)] at this
      clear HR
      have HA1 := Lib.hid (HA.out.alloc (.cells #[.int .i64 it.op, .int .i64 it.kids, .int .i64 it.rule, .int .u64 it.set.a, .int .u64 it.set.b, .int .u64 it.set.c, .int .u64 it.set.d] 64))
      have hx := heap_alloc_new wr (.cells #[.int .i64 it.op, .int .i64 it.kids, .int .i64 it.rule, .int .u64 it.set.a, .int .u64 it.set.b, .int .u64 it.set.c, .int .u64 it.set.d] 64)
      have c0 := cell_of_row _ wr.heap.size 0 _ _ _ hx
      have c1' := cell_of_row _ wr.heap.size 1 _ _ _ hx
      have c2' := cell_of_row _ wr.heap.size 2 _ _ _ hx
      have c3 := cell_of_row _ wr.heap.size 3 _ _ _ hx
      have c4 := cell_of_row _ wr.heap.size 4 _ _ _ hx
      have c5 := cell_of_row _ wr.heap.size 5 _ _ _ hx
      have c6 := cell_of_row _ wr.heap.size 6 _ _ _ hx
      simp only [List.getElem?_toArray, List.getElem?_cons_zero, List.getElem?_cons_succ] at c0 c1' c2' c3 c4 c5 c6
      have hzW : wr.heap.size < (wr.alloc (.cells #[.int .i64 it.op, .int .i64 it.kids, .int .i64 it.rule, .int .u64 it.set.a, .int .u64 it.set.b, .int .u64 it.set.c, .int .u64 it.set.d] 64)).heap.size := by simp
      have hn5 : n ≤ 100000 := by omega
      have hwr : w.heap.size < wr.heap.size := HA.out.hz
      clear hx
      rcases (show k ≤ 0 ∨ (0 < k ∧ 0 < n) by omega) with hc | ⟨hc, hc'⟩
      all_goals
        go_upto_region 8 with (fail)
        generalize wr.alloc (.cells #[.int .i64 it.op, .int .i64 it.kids, .int .i64 it.rule, .int .u64 it.set.a, .int .u64 it.set.b, .int .u64 it.set.c, .int .u64 it.set.d] 64) = W1 at *
        have HSO : Hid (W1.ownsRow w.heap.size 85 8 (.slice yS n dS) n (rowSt ls.reverse)) := by have h := HA1.out.hS; rw [← hn.out] at h; exact h
        go_wp2_with (at_builtin; refine app1 (P := Try.prog) (w0 := W1) w.heap.size rfl _ _ 83 85 (.agg #[.int .i64 0, .int .i64 0, .int .i64 0, .int .u64 0, .int .u64 0, .int .u64 0, .int .u64 0, .slice none 0 0]) 8 80 rfl Try.underlying83 infoSt rfl (by omega) (by omega) _ n _ HSO.out (Below.refl _ _) _ rfl (by rfl) rfl (by simp [Value.oneCell']) (by omega) (by omega) ?_; intro vn w4 hown hbn hgn hatn; obtain ⟨xS', cS', rfl, hnn⟩ := own_slice hown)
        have HA2 := Lib.hid (HA1.out.push (wf := w4) (xS' := xS') (cS' := cS') ⟨it.op, [], it.rule, it.set⟩ it.kids rfl (fun b hb hne => (hgn.block b (by simp; omega) (fun e => hne (by rw [blk_own] at e; exact e.symm))).trans (Below.heap_alloc _ _ _ hb)) (by have := hgn.size; simp at this; omega) (HA1.out.hB.trans (hbn.mono hwz)) (by rw [← hn.out, ← rowSt_snoc]; exact hown))
        have HPOP : Hid (pops (nds lm) (stk (⟨⟨⟨it.op, [], it.rule, it.set⟩, none, 0⟩, it.kids⟩ :: ls)) = pops (nds lm) ((⟨it.op, [], it.rule, it.set⟩, it.kids) :: stk ls)) := rfl
        have HN2 : Hid (n + 1 = (⟨⟨⟨it.op, [], it.rule, it.set⟩, none, 0⟩, it.kids⟩ :: ls : List St).length) := by show _ = ls.length + 1; rw [hn.out]
        generalize pops (nds lm) ((⟨it.op, [], it.rule, it.set⟩, it.kids) :: stk ls) = pr at *
        generalize (⟨⟨⟨it.op, [], it.rule, it.set⟩, none, 0⟩, it.kids⟩ :: ls : List St) = ls0 at *
        clear HA HA1 HSO hown hbn hgn hatn hnn c0 c1' c2' c3 c4 c5 c6 i0 i1 i2 i3 i4 i5 i6 hzW hbI
        go_loopw [5] (fun v wi => ∃ (m : Nat) (lm' : List NdA) (ls' : List St) (zN : Option Addr) (eN : Nat) (zS : Option Addr) (eS : Nat), v = .slice zS m eS ∧ Hid (m = ls'.length) ∧ lm'.length + m ≤ ln.length + (k + 1) ∧ Hid (AddS w0 w wi gb rv (blk xN) zN eN zS eS lm' ls') ∧ Hid (pops (nds lm') (stk ls') = pr)) (fun v _ => lenOf v)
        case atStart => exact ⟨n + 1, lm, ls0, yN, dN, xS', cS', rfl, HN2, by omega, HA2, HPOP⟩
        case round =>
          obtain ⟨m, lm', ls', zN, eN, zS, eS, rfl, hm, hlm', HA, HPOP⟩ := hrel
          clear HA2 HN2
          rcases Nat.eq_zero_or_pos m with hm0 | hm0
          · have HY : Hid (addL (decide (k + 1 = 0)) (nds lm') (stk ls') (its.drop (k + 1)) = res) := Lib.hid (by
              have h1 := hm.out
              have h2 := HPOP.out
              have h3 := HX.out
              cases ls' with
              | nil => rw [← h2] at h3; simpa [stk, pops] using h3
              | cons _ _ => simp at h1; omega)
            subst hm0
            clear HPOP HX
            go_wp2
            go_roundw
            case rel => exact ⟨k + 1, 0, lm', ls', zN, eN, zS, eS, by omega, by go_num, rfl, hm, by omega, HA, HY⟩
            case measure => simp [intOf]; omega
          · obtain ⟨m, rfl⟩ : ∃ m', m = m' + 1 := ⟨m - 1, by omega⟩
            clear hm0
            cases ls' with
            | nil => have := hm.out; simp at this
            | cons s lt =>
              have hm1 : Hid (m = lt.length) := Lib.hid (by have := hm.out; simpa using this)
              have hSx : Hid (wr.ownsRow w.heap.size 85 8 (.slice zS (m + 1) eS) (m + 1) (rowSt (s :: lt).reverse)) := Lib.hid (by have h := HA.out.hS; rw [← hm.out] at h; exact h)
              obtain ⟨gS, rfl, hcS⟩ := own_pos hSx.out (by omega)
              obtain ⟨hgS, s0, s1, s2, s3, s4, s5, s6, s7⟩ := own_st_top hSx.out hm1.out
              have hsl := Lib.hid (HA.out.hl)
              have HAB := Lib.hid (HA.out.alloc (.cells #[.int .i64 s.x.nd.op, .int .i64 s.need, .int .i64 s.x.nd.rule, .int .u64 s.x.nd.set.a, .int .u64 s.x.nd.set.b, .int .u64 s.x.nd.set.c, .int .u64 s.x.nd.set.d, .slice s.x.a s.x.nd.kids.length s.x.c] 85))
              by_cases hfull : (s.x.nd.kids.length : Int) < s.need
              · have HY : Hid (addL (decide (k + 1 = 0)) (nds lm') (stk (s :: lt)) (its.drop (k + 1)) = res) := Lib.hid (by
                  have h2 := HPOP.out
                  have h3 := HX.out
                  rw [show stk (s :: lt) = (s.x.nd, s.need) :: stk lt from rfl, pops_stop hfull] at h2
                  rw [← h2] at h3
                  simpa [stk] using h3)
                clear HPOP HX
                go_wp2
                go_roundw
                case rel => exact ⟨k + 1, m + 1, lm', s :: lt, zN, eN, some ⟨gS, 0, none⟩, eS, by omega, by go_num, rfl, hm, by omega, HAB, HY⟩
                case measure => simp [intOf]; omega
              · go_wp2_with (fail)
                refine (put_any w0 _ w.heap.size gb rv zN eN lm' s HAB.out.hp HAB.out.hg HAB.out.hN HAB.out.hB hgb (by omega)).mono ?_
                rintro e w5 ⟨rfl, hP⟩
                obtain ⟨zN', eN', HA5⟩ := HAB.out.put hP
                have HA5 := Lib.hid HA5
                clear hP HAB HA hSx s0 s1 s2 s3 s4 s5 s6 s7 hgS
                cases lt with
                | nil =>
                  have HY : Hid (pops (nds (lm' ++ [s.x])) (stk []) = pr) := Lib.hid (by
                    rw [← HPOP.out, show stk [s] = [(s.x.nd, s.need)] from rfl, pops, if_neg (by omega)]
                    simp [stk, pops, nds])
                  obtain rfl : m = 0 := hm1.out
                  clear HPOP HX hm
                  go_wp2
                  go_roundw
                  case rel => exact ⟨0, lm' ++ [s.x], [], zN', eN', some ⟨gS, 0, none⟩, eS, by simp, rfl, by simp; omega, HA5, HY⟩
                  case measure => simp [lenOf]
                | cons u lt =>
                  obtain ⟨m, rfl⟩ : ∃ m2, m = m2 + 1 := ⟨m - 1, by have := hm1.out; simp at this; omega⟩
                  have hm2 : Hid (m = lt.length) := Lib.hid (by have := hm1.out; simpa using this)
                  clear hm1 hm
                  have HY : Hid (pops (nds (lm' ++ [s.x])) (({ u.x.nd with kids := u.x.nd.kids ++ [(lm'.length : Int)] }, u.need) :: stk lt) = pr) := Lib.hid (by
                    rw [← HPOP.out, show stk (s :: u :: lt) = (s.x.nd, s.need) :: (u.x.nd, u.need) :: stk lt from rfl, pops, if_neg (by omega)]
                    simp [nds])
                  have hSx : Hid (w5.ownsRow w.heap.size 85 8 (.slice (some ⟨gS, 0, none⟩) (m + 1) eS) (m + 1) (rowSt (u :: lt).reverse)) := Lib.hid (by have h := HA5.out.hS; rw [List.length_cons, ← hm2.out] at h; exact h)
                  obtain ⟨hgS, -, -, -, -, -, -, -, s7⟩ := own_st_top hSx.out hm2.out
                  have HKU := Lib.hid (HA5.out.hs u (by simp))
                  have hul := HA5.out.hl u (by simp)
                  have hul2 : u.x.nd.kids.length ≤ 100000 := by simp at hul; omega
                  have hz5 : w.heap.size < w5.heap.size := HA5.out.hz
                  have hul3 : Hid (u.x.nd.kids.length < (lm' ++ [s.x]).length) := Lib.hid (by
                    have h1 := hsl.out u (by simp)
                    simp; omega)
                  clear HPOP HX hul
                  go_wp2_with (at_builtin; refine app1 (P := Try.prog) (w0 := w5) w.heap.size rfl _ _ 53 3 (.int .i64 0) 1 8 rfl Try.underlying53 infoInt rfl (by omega) (by omega) _ u.x.nd.kids.length _ HKU.out (Below.refl _ _) _ rfl (by rfl) rfl (by simp [Value.oneCell']) (by omega) (by omega) ?_; intro vn w6 hown hbn hgn hatn; obtain ⟨xK, cK, rfl, hnn⟩ := own_slice hown; have hS6 := own_of_heap hSx.out (fun b hb hv => (hgn.block b (by simp; omega) (fun e => own_apart hSx.out HKU.out (by decide) b hv e.symm)).trans (Below.heap_alloc _ _ _ hb)); obtain ⟨-, -, -, -, -, -, -, -, z7⟩ := own_st_top hS6 hm2.out; obtain ⟨csS, hhS, -⟩ := own_heap hS6; have zf := frozen_of_row w6 gS (m * 8 + 7) _ _ hhS; have hhS := Lib.hid hhS; have hS6 := Lib.hid hS6; have hown := Lib.hid hown; have hbn := Lib.hid hbn; have hgn := Lib.hid hgn; have hatn := Lib.hid hatn)
                  have h6z : w5.heap.size ≤ w6.heap.size := by have := hgn.out.size; simp at this; omega
                  have K1 : ∀ b, b < w5.heap.size → blk (some ⟨gS, 0, none⟩) ≠ some b → blk u.x.a ≠ some b → (w6.setCell ⟨gS, m * 8 + 7, none⟩ (.slice xK (u.x.nd.kids.length + 1) cK)).heap[b]? = w5.heap[b]? := fun b hb h1 h2 => by
                    rw [heap_setCell_other _ _ _ _ (fun e => h1 (by rw [e]; rfl))]
                    exact (hgn.out.block b (by simp; omega) (fun e => h2 (by rw [blk_own] at e; exact e.symm))).trans (Below.heap_alloc _ _ _ hb)
                  have KS : (w6.setCell ⟨gS, m * 8 + 7, none⟩ (.slice xK (u.x.nd.kids.length + 1) cK)).ownsRow w.heap.size 85 8 (.slice (some ⟨gS, 0, none⟩) (lt.length + 1) eS) (lt.length + 1) (rowSt (lt.reverse ++ [⟨⟨{ u.x.nd with kids := u.x.nd.kids ++ [(lm'.length : Int)] }, xK, cK⟩, u.need⟩])) := by
                    rw [← rowSt_set lt u m hm2.out, ← hm2.out]
                    exact own_setAt hS6.out (by rw [rowSt_len]; simp; have := hm2.out; omega)
                  have KK : KidO (w6.setCell ⟨gS, m * 8 + 7, none⟩ (.slice xK (u.x.nd.kids.length + 1) cK)) w.heap.size ⟨{ u.x.nd with kids := u.x.nd.kids ++ [(lm'.length : Int)] }, xK, cK⟩ := by
                    show World.ownsRow _ _ _ _ (.slice xK (u.x.nd.kids ++ [(lm'.length : Int)]).length cK) (u.x.nd.kids ++ [(lm'.length : Int)]).length (intsV (u.x.nd.kids ++ [(lm'.length : Int)]))
                    rw [← intsV_snoc, List.length_append]
                    exact own_set hown.out (own_ne_blk hown.out hhS.out (by decide))
                  have KA : blk xK = blk u.x.a ∨ ∃ q, blk xK = some q ∧ w5.heap.size ≤ q := by
                    rcases hatn.out with h | h
                    · rw [blk_own, blk_own] at h; exact .inl h
                    · rw [blk_own] at h; exact .inr ⟨_, h, by omega⟩
                  have HA6 := Lib.hid (HA5.out.up (lm'.length : Int) hul3.out K1 (by simpa using h6z) (HA5.out.hB.trans ((hbn.out.setCell (by have := own_base' hS6.out gS rfl; simpa using this) _).mono hwz)) KS KK KA)
                  go_roundw
                  case rel => exact ⟨m + 1, lm' ++ [s.x], _, zN', eN', some ⟨gS, 0, none⟩, eS, by simp, by have := hm2.out; exact Lib.hid (by simp; omega), by simp; omega, HA6, HY⟩
                  case measure => simp [lenOf]
    · obtain rfl : k = its.length := by omega
      have HX : Hid ((nds lm, (stk ls).isEmpty && !(decide (its.length = 0))) = res) := by have := HR.out; rwa [List.drop_length, addL] at this
      have HP := Lib.hid HA.out.post
      have he : Hid ((stk ls).isEmpty = decide (n = 0)) := Lib.hid (by rw [hn.out]; cases ls <;> simp [stk])
      clear HR
      by_cases n0 : n = 0
      · subst n0
        by_cases n1 : its.length = 0
        · go_wp2
          go_ret
          rw [HRES.out, ← HX.out, he.out]
          exact ⟨by simp [n1], HP.out⟩
        · go_wp2
          go_ret
          rw [HRES.out, ← HX.out, he.out]
          exact ⟨by rw [show decide (its.length = 0) = false from decide_eq_false (by omega)]; simp; omega, HP.out⟩
      · go_wp2
        go_ret
        rw [HRES.out, ← HX.out, he.out]
        exact ⟨by simp [n0], HP.out⟩
end Go.Proofs.Ytdphcblbkdgbhaa
