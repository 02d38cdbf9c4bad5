import Derived.Test.YtgjoioilpnclpaaB1
namespace Go.Proofs.Ytgjoioilpnclpaa
open Go.RowKit Go.Shelf
attribute [local go_sem] Oper.semAt_some
def runsL (pre : List (Fin 256)) : List (Nat × Nat) := pre.foldl (fun l x => addRun l x.val) []
theorem runsL_snoc (pre : List (Fin 256)) (x : Fin 256) : runsL (pre ++ [x]) = addRun (runsL pre) x.val := by simp [runsL]
theorem runsL_memF (f : Nat → Nat) : ∀ k, k ≤ 256 → runsL (memF f k) = runsTo f k
  | 0, _ => rfl
  | k + 1, hk => by
    have ih := runsL_memF f k (by omega)
    cases h : mem f k
    · rw [memF_no h, runsTo_no h, ih]
    · rw [memF_yes (by omega) h, runsTo_yes h, runsL_snoc, ih]
theorem foldl_len (l : List (Fin 256)) : ∀ a : List (Nat × Nat), (l.foldl (fun l x => addRun l x.val) a).length ≤ a.length + l.length := by
  induction l with
  | nil => intro a; simp
  | cons x l ih => intro a; have := ih (addRun a x.val); have := addRun_len a x.val; simp only [List.foldl_cons, List.length_cons]; omega
theorem runsL_len (pre : List (Fin 256)) : (runsL pre).length ≤ pre.length := by have := foldl_len pre []; simpa [runsL] using this
theorem foldl_hi (l : List (Fin 256)) : ∀ a : List (Nat × Nat), (∀ p ∈ a, p.2 < 256) → ∀ p ∈ l.foldl (fun l x => addRun l x.val) a, p.2 < 256 := by
  induction l with
  | nil => intro a h; exact h
  | cons x l ih =>
    intro a h
    refine ih _ fun p hp => ?_
    change p ∈ addRun a x.val at hp
    unfold addRun at hp
    split at hp
    · split at hp
      · rcases List.mem_append.1 hp with hp | hp
        · exact h p (List.dropLast_subset _ hp)
        · simp at hp; subst hp; exact x.isLt
      · rcases List.mem_append.1 hp with hp | hp
        · exact h p hp
        · simp at hp; subst hp; exact x.isLt
    · rcases List.mem_append.1 hp with hp | hp
      · exact h p hp
      · simp at hp; subst hp; exact x.isLt
theorem runsL_hi (pre : List (Fin 256)) : ∀ p ∈ runsL pre, p.2 < 256 := foldl_hi pre [] (by simp)
theorem own_slice {w : World} {base n : Nat} {e : TypeId} {size : Nat} {v : Value} {xs : List Value} (h : w.ownsRow base e size v n xs) : ∃ A c, v = .slice A n c := by
  rcases h.2 with ⟨rfl, rfl⟩ | ⟨g, cap, cur, rfl, _⟩
  · exact ⟨none, 0, rfl⟩
  · exact ⟨_, cap, rfl⟩
theorem addRun_nil (k : Nat) : addRun [] k = [(k, k)] := rfl
theorem addRun_on (l : List (Nat × Nat)) (a b k : Nat) (h : b + 1 = k) : addRun (l ++ [(a, b)]) k = l ++ [(a, k)] := by
  unfold addRun; simp only [List.getLast?_append, List.getLast?_singleton, Option.some_or, List.dropLast_concat]; rw [if_pos h]
theorem addRun_off (l : List (Nat × Nat)) (a b k : Nat) (h : ¬ b + 1 = k) : addRun (l ++ [(a, b)]) k = l ++ [(a, b)] ++ [(k, k)] := by
  unfold addRun; simp only [List.getLast?_append, List.getLast?_singleton, Option.some_or]; rw [if_neg h]
theorem pairsV_len (l : List (Nat × Nat)) : (pairsV l).length = l.length * 2 := by
  unfold pairsV; induction l with
  | nil => rfl
  | cons p l ih => simp only [List.flatMap_cons, List.length_append, ih, List.length_cons, List.length_nil]; omega
theorem pairsV_last (l : List (Nat × Nat)) (a b : Nat) : (pairsV (l ++ [(a, b)]))[l.length * 2 + 1]? = some (.int .u8 (b : Nat)) := by
  have : pairsV (l ++ [(a, b)]) = pairsV l ++ [.int .u8 (a : Nat), .int .u8 (b : Nat)] := by simp [pairsV]
  rw [this, List.getElem?_append_right (by rw [pairsV_len]; omega), pairsV_len]
  simp [show l.length * 2 + 1 - l.length * 2 = 1 by omega]
theorem pairsV_set (l : List (Nat × Nat)) (a b c : Nat) : (pairsV (l ++ [(a, b)])).set (l.length * 2 + 1) (.int .u8 (c : Nat)) = pairsV (l ++ [(a, c)]) := by
  have h : ∀ b : Nat, pairsV (l ++ [(a, b)]) = pairsV l ++ [.int .u8 (a : Nat), .int .u8 (b : Nat)] := fun b => by simp [pairsV]
  rw [h, h, List.set_append_right _ _ (by rw [pairsV_len]; omega), pairsV_len, show l.length * 2 + 1 - l.length * 2 = 1 by omega]
  rfl
set_option maxRecDepth 100000 in
set_option maxHeartbeats 4000000 in
theorem runs_any (f : Nat → Nat) (hf : Wf f) (w : World) :
    Calls Try.prog 14 #[.agg (sc f)] w (RetOwn 32 2 (runsTo f 256).length (pairsV (runsTo f 256)) w) := by
  have hs := sc_size f
  have hfin : Hid (runsTo f 256 = runsL (memF f 256)) := (runsL_memF f 256 (by omega)).symm
  obtain ⟨i0, hi, hz0, hz1, hz2⟩ := info_parts Try.info32
  refine (callsIn_wide (n := 3)).1 ?_
  refine callsIn_of_wp_marks Try.func14 rfl trivial ?_ rfl
  simp only [Try.ntmps14, List.size_toArray, List.length_cons, List.length_nil, Nat.reduceAdd, Nat.reduceSub, Array.replicate_succ, Array.replicate_zero, List.push_toArray, List.append_toArray, List.nil_append, List.cons_append]
  have H00 := Lib.hid (heap_alloc_new w (.cells (sc f) 24))
  have bO := Boxed.new (w.alloc (.cells (sc f) 24)) 30 (.slice none 0 0)
  rw [World.size_alloc] at bO
  have HB0 : Hid (Below w.heap.size w (((w.alloc (.cells (sc f) 24)).alloc (.cells #[.slice none 0 0] 30)).alloc (.cells (sc f) 24))) := (((Below.refl _ w).alloc (Nat.le_refl _) _).alloc (by simp) _).alloc (by simp; omega) _
  obtain ⟨⟨a0, a1, a2, a3⟩, -⟩ := row4 (heap_alloc_lt _ (.cells #[.slice none 0 0] 30) _ _ H00.out)
  gi_wp2_with (refine ⟨trivial, ?_⟩; gi_at_call 24; refine (members_in _ f _).mono ?_; rintro e w' ⟨rfl, rfl⟩)
  clear a0 a1 a2 a3
  have HX := Lib.hid (heap_new ((w.alloc (.cells (sc f) 24)).alloc (.cells #[.slice none 0 0] 30)) (.cells (sc f) 24) (w.heap.size + 1 + 1) (by simp))
  refine wpIn_rangeFunc_ownG rfl (by omega) (gf := 31) (lb := #[.pointer (some ⟨w.heap.size + 1 + 1, 0, none⟩)]) (by simp [Act.eval]) trivial (enters_of Try.func31 (by kernel_rfl) rfl)
    (members_stops 2 f hf (by omega) (w.heap.size + 1 + 1) _ (by simp) HX.out) keepB_t (keepB_b (by simp)) (Below.refl _ _) (fun _ => rfl)
    (fun pre W => (∃ v, Boxed W (w.heap.size + 1) 30 v ∧ W.ownsRow w.heap.size 32 2 v (runsL pre).length (pairsV (runsL pre)) ∧ True) ∧ Below w.heap.size w W ∧ W.heap[w.heap.size + 1 + 1]? = some (.cells (sc f) 24 (0, 0)))
    (fun _ _ _ => False)
    (OwnFrom.and (Own.from (holdsRow_own w.heap.size (w.heap.size + 1) 30 32 2 (fun pre : List (Fin 256) => (runsL pre).length) (fun pre => pairsV (runsL pre)) (fun _ _ => True)) _) (OwnFrom.and (ownFrom_below (Nat.le_refl _) (by simp; omega)) (row_ownFrom _ _ _ _)))
    (fun _ _ _ _ _ hs _ _ => hs)
    ⟨⟨_, bO.alloc _, World.ownsRow_nil _ _ _ _, trivial⟩, HB0.out, HX.out⟩
    (fun x => { tmps := #[.agg (sc f), .pointer (some ⟨w.heap.size, 0, none⟩), .slice none 0 0, .pointer (some ⟨w.heap.size + 1, 0, none⟩), .int .u8 (x.val : Nat), undef, .agg #[.int .u64 (f 0), .int .u64 (f 1), .int .u64 (f 2), .int .u64 (f 3)], .func (.func 31) #[] #[.pointer (some ⟨w.heap.size + 1 + 1, 0, none⟩)], .int .u8 (x.val : Nat), undef, undef, undef, undef, undef, undef, undef, undef, undef, undef, undef, undef, undef, undef, undef, undef, undef, undef, undef, undef, undef, undef, undef, undef, undef, undef, undef, undef, undef, undef], defers := [] }) ?assign ?body ?done ?stop
  case assign =>
    intro l x W K hK
    dsimp only [encB]
    gi_wp2
    exact hK
  case body =>
    rintro l pre x W ⟨⟨v, hv, hrow, -⟩, hB, hX⟩ hlt
    have hne : Hid (some (w.heap.size + 1 + 1) ≠ v.ownBlock) := own_ne_row hrow hX (by decide)
    have HX2 := Lib.hid hX
    have hc := hv.cell
    clear hX
    have hll := runsL_len pre
    have hhi := runsL_hi pre
    obtain ⟨A, cc, rfl⟩ := own_slice hrow
    rcases List.eq_nil_or_concat (runsL pre) with hnil | ⟨L, ⟨a, b⟩, hcon⟩
    · have HS : Hid (runsL (pre ++ [x]) = [(x.val, x.val)]) := by rw [runsL_snoc, hnil]; rfl
      rw [hnil] at hrow hv hc hne
      simp only [List.length_nil] at hrow hv hc hne
      clear hnil hhi hll
      gi_wp2_with (gi_at_builtin; refine wpListIn_append_own _ rfl _ _ 30 rfl w.heap.size 32 i0 (.agg #[.int .u8 0, .int .u8 0]) 2 2 Try.underlying30 hi hz0 hz1 hz2 rfl (by decide) _ _ _ rfl (hrow.alloc _) ⟨W.heap.size, 0, none⟩ 1 1 [.int .u8 (x.val : Nat), .int .u8 (x.val : Nat)] rfl rfl (news_lit W #[.int .u8 (x.val : Nat), .int .u8 (x.val : Nat)] 32) (by simp [Value.oneCell']) (by simp only [maxLen]; omega) (by omega) (by have := hB.size; simp; omega) ?_; intro v' w1 hown' hgrow _; obtain ⟨g', cap', rfl⟩ := ownsRow_succ hown'; obtain ⟨hv1, hv2, hr2, hk2, hb2⟩ := hv.appended (by decide) hrow hB.size (by omega) hown' hgrow; have hc1 := hv1.cell; have hf1 := hv1.frozen)
      have hkeep : KeepB (w.heap.size + 1 + 1) W (w1.setCell ⟨w.heap.size + 1, 0, none⟩ (.slice (some ⟨g', 0, none⟩) (0 + 1) cap')) := by
        have hl := (Array.getElem?_eq_some_iff.1 HX2.out).1
        exact (heap_setCell_other _ _ _ _ (by simp)).trans ((hgrow.block _ (by simp; omega) hne.out).trans (Below.heap_alloc _ _ _ hl))
      refine ⟨hk2.from _, hkeep, ⟨_, hv2, ?_, trivial⟩, hB.trans hb2, hkeep.trans HX2.out⟩
      rw [HS.out]; exact hr2
    · rw [List.concat_eq_append] at hcon
      have hb : b < 256 := hhi (a, b) (by rw [hcon]; simp)
      have hS : runsL (pre ++ [x]) = addRun (L ++ [(a, b)]) x.val := by rw [runsL_snoc, hcon]
      rw [hcon] at hrow hv hc hne hll
      simp only [List.length_append, List.length_cons, List.length_nil, Nat.zero_add] at hrow hv hc hne hll
      clear hhi hcon
      obtain ⟨g, cap, e, hge, hgl, hcap, hcells, hfrz⟩ := own_row hrow (by omega)
      injection e with e1 e2 e3
      subst e1; subst e3
      have hcell := hcells _ _ (pairsV_last L a b)
      have hfr := hfrz (L.length * 2 + 1)
      have hxl := x.isLt
      clear hcells hfrz e2
      by_cases hbx : b + 1 = x.val
      · have hT : (((b : Int) + 1) == (x.val : Int)) = true := by rw [beq_iff_eq]; omega
        have HS : Hid (runsL (pre ++ [x]) = L ++ [(a, x.val)]) := by rw [hS, addRun_on _ _ _ _ hbx]; rfl
        clear hS hbx
        gi_wp2
        have hst := hrow.stored (L.length * 2 + 1) (.int .u8 (x.val : Nat))
        rw [pairsV_set] at hst
        have hgB : g ≠ w.heap.size + 1 := fun e => by
          have h1 := hv.not_row (by decide) hrow
          exact h1 (by simp [Value.ownBlock, e])
        have hgX : g ≠ w.heap.size + 1 + 1 := fun e => hne.out (by simp [Value.ownBlock, e])
        have hkeep : KeepB (w.heap.size + 1 + 1) W (W.setCell ⟨g, L.length * 2 + 1, none⟩ (.int .u8 (x.val : Nat))) := heap_setCell_other _ _ _ _ (fun e => hgX e.symm)
        refine ⟨(KeepsOthers.setCell _ _ _).from _, hkeep, ⟨_, hv.kept hst.2 (by simp; omega), ?_, trivial⟩, hB.setCell hge _, hkeep.trans HX2.out⟩
        rw [HS.out, List.length_append]; exact hst.1
      · have hT : (((b : Int) + 1) == (x.val : Int)) = false := by rw [beq_eq_false_iff_ne]; omega
        have HS : Hid (runsL (pre ++ [x]) = L ++ [(a, b)] ++ [(x.val, x.val)]) := by rw [hS, addRun_off _ _ _ _ hbx]; rfl
        clear hS hbx
        gi_wp2_with (gi_at_builtin; refine wpListIn_append_own _ rfl _ _ 30 rfl w.heap.size 32 i0 (.agg #[.int .u8 0, .int .u8 0]) 2 2 Try.underlying30 hi hz0 hz1 hz2 rfl (by decide) _ _ _ rfl (hrow.alloc _) ⟨W.heap.size, 0, none⟩ 1 1 [.int .u8 (x.val : Nat), .int .u8 (x.val : Nat)] rfl rfl (news_lit W #[.int .u8 (x.val : Nat), .int .u8 (x.val : Nat)] 32) (by simp [Value.oneCell']) (by simp only [maxLen]; omega) (by omega) (by have := hB.size; simp; omega) ?_; intro v' w1 hown' hgrow _; obtain ⟨g', cap', rfl⟩ := ownsRow_succ hown'; obtain ⟨hv1, hv2, hr2, hk2, hb2⟩ := hv.appended (by decide) hrow hB.size (by omega) hown' hgrow; have hc1 := hv1.cell; have hf1 := hv1.frozen)
        have hkeep : KeepB (w.heap.size + 1 + 1) W (w1.setCell ⟨w.heap.size + 1, 0, none⟩ (.slice (some ⟨g', 0, none⟩) ((L.length + 1) + 1) cap')) := by
          have hl := (Array.getElem?_eq_some_iff.1 HX2.out).1
          exact (heap_setCell_other _ _ _ _ (by simp)).trans ((hgrow.block _ (by simp; omega) hne.out).trans (Below.heap_alloc _ _ _ hl))
        refine ⟨hk2.from _, hkeep, ⟨_, hv2, ?_, trivial⟩, hB.trans hb2, hkeep.trans HX2.out⟩
        rw [HS.out, List.length_append, List.length_append]
        have := pairsV_snoc (L ++ [(a, b)]) x.val x.val
        rw [show (#[Value.int IntKind.u8 (x.val : Nat), Value.int IntKind.u8 (x.val : Nat)].toList) = [Value.int IntKind.u8 (x.val : Nat), Value.int IntKind.u8 (x.val : Nat)] from rfl] at this
        rw [← this]; exact hr2
  case done =>
    rintro D ys W hD rfl ⟨⟨v, hv, hrow, -⟩, hB, -⟩ hK
    have hc := hv.cell
    gi_wp2
    refine ⟨by simp, .inl ⟨_, _, rfl, run_takeDeferred hK, ?_⟩⟩
    refine ⟨_, results_tmp rfl _ _ _, v, rfl, ?_, hB.trans (belowK_b (w := w) (Nat.le_refl _) W D _ _ (by simp at hD; omega) hK rfl rfl)⟩
    rw [hfin.out]
    exact ownsRow_putObj hrow (.deferred none) hK rfl
  case stop =>
    rintro D c pre W _ _ h _
    exact h.elim
end Go.Proofs.Ytgjoioilpnclpaa
