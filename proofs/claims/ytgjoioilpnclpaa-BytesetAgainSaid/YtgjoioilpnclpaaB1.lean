import Derived.Test.YtgjoioilpnclpaaA9
import Derived.RangeFuncBox
import Derived.RangeFuncLeaves
import Derived.Shelf.Abstract
import Derived.OwnWalkIn
import Derived.TacticsInMore
import Derived.LoopNIn
import Derived.LoopIn
namespace Go.Proofs.Ytgjoioilpnclpaa
open Go.RowKit Go.Shelf
attribute [local go_sem] Oper.semAt_some
theorem size22 (W : World) : (sizeOf 22).run Try.prog W = .ok 1 W := by kernel_rfl
theorem eqSetD (e : Nat) (key : ∀ (p q : Int) (W : World), (Op.equalIn e 22 (.int .u64 p) (.int .u64 q)).run Try.prog W = .ok (p == q) W) (a b c d a' b' c' d' : Int) (W : World) : (Op.equalIn (e + 1) 24 (.agg #[.int .u64 a, .int .u64 b, .int .u64 c, .int .u64 d]) (.agg #[.int .u64 a', .int .u64 b', .int .u64 c', .int .u64 d'])).run Try.prog W = .ok (a == a' && (b == b' && (c == c' && d == d'))) W := by
  have p0 : ∀ (x y z u : Value) W, (_root_.Go.part 22 #[x, y, z, u] 0).run Try.prog W = Result.ok x W := fun _ _ _ _ _ => by kernel_rfl
  have p1 : ∀ (x y z u : Value) W, (_root_.Go.part 22 #[x, y, z, u] 1).run Try.prog W = Result.ok y W := fun _ _ _ _ _ => by kernel_rfl
  have p2 : ∀ (x y z u : Value) W, (_root_.Go.part 22 #[x, y, z, u] 2).run Try.prog W = Result.ok z W := fun _ _ _ _ _ => by kernel_rfl
  have p3 : ∀ (x y z u : Value) W, (_root_.Go.part 22 #[x, y, z, u] 3).run Try.prog W = Result.ok u W := fun _ _ _ _ _ => by kernel_rfl
  unfold Op.equalIn
  simp only [Sem.run_bind, run_underlying Try.underlying24, Result.andThen_ok, size22]
  simp only [Std.Legacy.Range.forIn_eq_forIn_range', Std.Legacy.Range.size, Nat.sub_zero, Nat.reduceAdd, Nat.reduceSub, Nat.reduceDiv, List.range', List.forIn_cons, List.forIn_nil, Sem.run_bind, p0, key, Result.andThen_ok, Nat.mul_one]
  by_cases e0 : a = a' <;> by_cases e1 : b = b' <;> by_cases e2 : c = c' <;> by_cases e3 : d = d' <;> simp [Sem.run_bind, key, p1, p2, p3, e0, e1, e2, e3]
theorem eqSet (a b c d a' b' c' d' : Int) (W : World) : (Op.equalIn 10000 24 (.agg #[.int .u64 a, .int .u64 b, .int .u64 c, .int .u64 d]) (.agg #[.int .u64 a', .int .u64 b', .int .u64 c', .int .u64 d'])).run Try.prog W = .ok (a == a' && (b == b' && (c == c' && d == d'))) W :=
  eqSetD 9999 (fun p q W => run_equalIn_int W 9998 22 .u64 .u64 p q Try.underlying22) a b c d a' b' c' d' W

theorem size5 (W : World) : (sizeOf 5).run Try.prog W = .ok 1 W := by kernel_rfl
theorem eqPair (a b a' b' : Int) (W : World) : (Op.equalIn 10000 32 (.agg #[.int .u8 a, .int .u8 b]) (.agg #[.int .u8 a', .int .u8 b'])).run Try.prog W = .ok (a == a' && b == b') W := by
  have key : ∀ (p q : Int) (W : World), (Op.equalIn 9999 5 (.int .u8 p) (.int .u8 q)).run Try.prog W = .ok (p == q) W := fun p q W => run_equalIn_int W 9998 5 .u8 .u8 p q Try.underlying5
  have key2 : ∀ e, (∀ (p q : Int) (W : World), (Op.equalIn e 5 (.int .u8 p) (.int .u8 q)).run Try.prog W = .ok (p == q) W) → (Op.equalIn (e + 1) 32 (.agg #[.int .u8 a, .int .u8 b]) (.agg #[.int .u8 a', .int .u8 b'])).run Try.prog W = .ok (a == a' && b == b') W := by
    intro e key
    have p0 : ∀ (x y : Value) W, (_root_.Go.part 5 #[x, y] 0).run Try.prog W = Result.ok x W := fun _ _ _ => by kernel_rfl
    have p1 : ∀ (x y : Value) W, (_root_.Go.part 5 #[x, y] 1).run Try.prog W = Result.ok y W := fun _ _ _ => by kernel_rfl
    unfold Op.equalIn
    simp only [Sem.run_bind, run_underlying Try.underlying32, Result.andThen_ok, size5]
    simp only [Std.Legacy.Range.forIn_eq_forIn_range', Std.Legacy.Range.size, Nat.sub_zero, Nat.reduceAdd, Nat.reduceSub, Nat.reduceDiv, List.range', List.forIn_cons, List.forIn_nil, Sem.run_bind, p0, key, Result.andThen_ok, Nat.mul_one]
    by_cases e0 : a = a' <;> by_cases e1 : b = b' <;> simp [Sem.run_bind, key, p1, e0, e1]
  exact key2 9999 key
theorem guard24 : Try.prog.eqGuardType Try.prog.depth 24 = false := by kernel_rfl
theorem guard32 : Try.prog.eqGuardType Try.prog.depth 32 = false := by kernel_rfl
set_option maxHeartbeats 800000 in
theorem members_in (n : Nat) (f : Nat → Nat) (w : World) :
    CallsIn Fence.wide n Try.prog 24 #[.agg (sc f)] w fun e w' => e = .returned (.func (.func 31) #[] #[.pointer (some ⟨w.heap.size, 0, none⟩)]) ∧ w' = w.alloc (.cells (sc f) 24) := by
  have hs := sc_size f
  refine callsIn_of_wp Try.func24 rfl trivial ?_ rfl
  simp only [Try.ntmps24, List.size_toArray, List.length_cons, List.length_nil, Nat.reduceAdd, Nat.reduceSub, Array.replicate_succ, Array.replicate_zero, List.push_toArray, List.append_toArray, List.nil_append, List.cons_append]
  gi_wp2
  go_ret
  exact ⟨rfl, rfl⟩
/-- the members below k, as bytes. -/
def memF (f : Nat → Nat) : Nat → List (Fin 256)
  | 0 => []
  | k + 1 => if h : k < 256 then (if mem f k = true then memF f k ++ [⟨k, h⟩] else memF f k) else memF f k
theorem memF_zero (f : Nat → Nat) : memF f 0 = [] := rfl
theorem memF_yes {f : Nat → Nat} {k : Nat} (hk : k < 256) (h : mem f k = true) : memF f (k + 1) = memF f k ++ [⟨k, hk⟩] := by
  simp [memF, hk, h]
theorem memF_no {f : Nat → Nat} {k : Nat} (h : mem f k = false) : memF f (k + 1) = memF f k := by
  simp [memF, h]
theorem memF_none {f : Nat → Nat} (h : ∀ i, i < 256 → mem f i = false) : ∀ k, k ≤ 256 → memF f k = []
  | 0, _ => rfl
  | k + 1, hk => by rw [memF_no (h k (by omega))]; exact memF_none h k (by omega)
theorem memF_pre (f : Nat → Nat) (k : Nat) : ∀ d, memF f k <+: memF f (k + d)
  | 0 => List.prefix_refl _
  | d + 1 => by
    refine (memF_pre f k d).trans ?_
    show memF f (k + d) <+: memF f (k + d + 1)
    simp only [memF]
    split
    · split
      · exact List.prefix_append _ _
      · exact List.prefix_refl _
    · exact List.prefix_refl _
theorem memF_map (f : Nat → Nat) : ∀ k, k ≤ 256 → (memF f k).map Fin.val = memsTo f k
  | 0, _ => by rw [memF_zero]; rfl
  | k + 1, hk => by
    have ih := memF_map f k (by omega)
    cases h : mem f k
    · rw [memF_no h, memsTo_no h, ih]
    · rw [memF_yes (by omega) h, memsTo_yes h, List.map_append, ih]; rfl
/-- block b reads as it did. -/
def KeepB (b : Nat) (W W' : World) : Prop := W'.heap[b]? = W.heap[b]?
theorem keepB_t {b : Nat} {A B C : World} (h : KeepB b A B) (k : KeepB b B C) : KeepB b A C := k.trans h
theorem keepB_b {b : Nat} {w : World} (hb : b < w.heap.size) (W : World) (l : Nat) (o o' : Obj) (hl : w.heap.size ≤ l) (_ : W.heap[l]? = some o) (_ : o.isCells = false) (_ : o.isWalk = false) : KeepB b W (W.putObj l o') :=
  World.putObj_heap_other (by omega)
def encB (x : Fin 256) : Array Value := #[.int .u8 (x.val : Nat)]
set_option maxRecDepth 100000 in
set_option maxHeartbeats 1000000 in
theorem members1_in (n : Nat) (f : Nat → Nat) (hf : Wf f) (hn : 1 ≤ n) (l Bn : Nat) (J Jx : List (Fin 256) → World → Prop)
    (hY : ∀ pre x W, J pre W → pre.length < 256 → YieldAt Fence.wide (n - 1) Try.prog l (encB x) W fun e W' =>
      (e = .returned (.bool true) ∧ J (pre ++ [x]) W' ∧ KeepB Bn W W') ∨ (e = .returned (.bool false) ∧ Jx (pre ++ [x]) W'))
    (W : World) (hBn : W.heap[Bn]? = some (.cells (sc f) 24 (0, 0))) (h0 : J [] W)
    (hJ : ∀ pre W W', J pre W → Below W.heap.size W W' → J pre W') :
    CallsIn Fence.wide n Try.prog 31 #[.func (.yield l) #[] #[], .pointer (some ⟨Bn, 0, none⟩)] W fun e W' => (∃ v, e = .returned v) ∧
      ((∃ ys, ys = memF f 256 ∧ J ys W') ∨ (∃ pre, pre <+: memF f 256 ∧ Jx pre W')) := by
  have hge := guard24
  obtain ⟨⟨a0, a1, a2, a3⟩, -⟩ := row4 hBn
  have heq := eqSet (f 0) (f 1) (f 2) (f 3) 0 0 0 0
  refine callsIn_of_wp Try.func31 rfl trivial ?_ rfl
  simp only [Try.ntmps31, List.size_toArray, List.length_cons, List.length_nil, Nat.reduceAdd, Nat.reduceSub, Array.replicate_succ, Array.replicate_zero, List.push_toArray, List.append_toArray, List.nil_append, List.cons_append]
  gi_wp2
  · have hz : ((f 0 : Int) == 0) = true ∧ ((f 1 : Int) == 0) = true ∧ ((f 2 : Int) == 0) = true ∧ ((f 3 : Int) == 0) = true := by assumption
    refine bodyPost_ret (results_none rfl _ _ _) rfl ⟨⟨_, rfl⟩, .inl ⟨[], ?_, h0⟩⟩
    have hm : ∀ i, i < 256 → mem f i = false := fun i hi => by
      simp only [beq_iff_eq] at hz
      have h4 : i / 64 = 0 ∨ i / 64 = 1 ∨ i / 64 = 2 ∨ i / 64 = 3 := by omega
      have hq : f (i / 64) = 0 := by rcases h4 with e | e | e | e <;> rw [e] <;> omega
      unfold mem; rw [hq]; simp
    exact (memF_none hm 256 (by omega)).symm
  · have HBn := Lib.hid hBn
    clear hBn a0 a1 a2 a3 heq
    gi_loopw [7] (fun j wr => ∃ k : Nat, k ≤ 256 ∧ j = .int .i64 k ∧ J (memF f k) wr ∧ wr.heap[Bn]? = some (.cells (sc f) 24 (0, 0))) (fun j _ => 256 - (intOf j).toNat)
    case atStart => exact ⟨0, by omega, rfl, by rw [memF_zero]; exact h0, HBn.out⟩
    case round =>
      obtain ⟨k, hk, rfl, hJ0, hrow⟩ := hrel
      have HR := Lib.hid hrow
      have HJ := Lib.hid hJ0
      obtain ⟨⟨a0, a1, a2, a3⟩, -⟩ := row4 hrow
      clear hJ0 hrow
      by_cases hlt : k < 256
      · cases hm : mem f k
        · have hc := has_any f k hf (by omega)
          rw [hm] at hc
          have HC := Lib.hid hc
          have HM := Lib.hid hm
          clear hc hm
          gi_wp2_with (refine ⟨trivial, ?_⟩; gi_at_call 9; refine (callsIn_wide.2 (HC.out _)).mono ?_; rintro e w1 ⟨rfl, hb1⟩)
          all_goals
            refine ⟨fun _ h => (by cases h), ?_⟩
            gi_wp2
            go_roundw
            case rel => exact ⟨k + 1, by omega, by go_num, by rw [memF_no HM.out]; exact hJ _ _ _ HJ.out hb1, (hb1.block _ (Array.getElem?_eq_some_iff.1 HR.out).1).trans HR.out⟩
            case measure => simp [intOf]; omega
        · have hc := has_any f k hf (by omega)
          rw [hm] at hc
          have HC := Lib.hid hc
          have HM := Lib.hid hm
          clear hc hm
          have hlen : (memF f k).length < 256 := by
            have := congrArg List.length (memF_map f k hk); rw [List.length_map] at this
            have := memsTo_le f k; omega
          gi_wp2_with (refine ⟨trivial, ?_⟩; gi_at_call 9; refine (callsIn_wide.2 (HC.out _)).mono ?_; rintro e w1 ⟨rfl, hb1⟩; obtain ⟨fn, tmps, assign, body, hy, hR⟩ := hY (memF f k) ⟨k, hlt⟩ w1 (hJ _ _ _ HJ.out hb1) hlen; dsimp only [encB] at hy)
          refine hR.mono ?_
          rintro e W3 (⟨rfl, hJ3, hk3⟩ | ⟨rfl, hJx3⟩)
          · have HR1 := Lib.hid (hk3.trans ((hb1.block _ (Array.getElem?_eq_some_iff.1 HR.out).1).trans HR.out))
            have HJ3 := Lib.hid hJ3
            clear hJ3
            gi_wp2
            go_roundw
            case rel => exact ⟨k + 1, by omega, by go_num, by rw [memF_yes hlt HM.out]; exact HJ3.out, HR1.out⟩
            case measure => simp [intOf]; omega
          · have HJ3 := Lib.hid hJx3
            clear hJx3
            gi_wp2
            refine bodyPost_ret (results_none rfl _ _ _) rfl ⟨⟨_, rfl⟩, .inr ⟨_, ?_, HJ3.out⟩⟩
            rw [← memF_yes hlt HM.out]
            have hp := memF_pre f (k + 1) (256 - (k + 1))
            rwa [show k + 1 + (256 - (k + 1)) = 256 from by omega] at hp
      · gi_wp2
        go_end0
        obtain rfl : k = 256 := by omega
        exact ⟨⟨_, rfl⟩, .inl ⟨_, rfl, HJ.out⟩⟩
theorem members_stops (n : Nat) (f : Nat → Nat) (hf : Wf f) (hn : 1 ≤ n) (Bn : Nat) (w : World) (hlt : Bn < w.heap.size) (hc : w.heap[Bn]? = some (.cells (sc f) 24 (0, 0))) :
    SeqStopsK Fence.wide n Try.prog 31 #[.pointer (some ⟨Bn, 0, none⟩)] encB (KeepB Bn) (fun ys => ys = memF f 256) (fun pre => pre <+: memF f 256) 256 w := fun l J Jx W hW hJ _ hY h0 =>
  members1_in n f hf hn l Bn J Jx hY W ((hW.block _ hlt).trans hc) h0 (fun pre A B hA hb => hJ pre A B none hA ⟨hb.os, hb.tape, hb.output, hb.size, fun k hk _ => hb.block k hk⟩ (fun r e => by cases e))
theorem row_ownFrom {β : Type} (B b : Nat) (c : Array Value) (t : TypeId) : OwnFrom B (fun (_ : β) (W : World) => W.heap[b]? = some (.cells c t (0, 0))) := fun _ W W' row h hg hr =>
  (hg.block b (Array.getElem?_eq_some_iff.1 h).1 (fun e => by
    obtain ⟨_, o, ho, hc⟩ := hr b e.symm
    rw [h] at ho; cases ho; cases hc)).trans h
theorem own_ne_row {W : World} {base : Nat} {e t : TypeId} {size n b : Nat} {v : Value} {xs : List Value} {c : Array Value} (h : W.ownsRow base e size v n xs) (hb : W.heap[b]? = some (.cells c t (0, 0))) (hne : e ≠ t) : some b ≠ v.ownBlock := by
  rcases h.2 with ⟨rfl, _⟩ | ⟨g, cap, cur, rfl, _, hh, _⟩
  · simp [Value.ownBlock]
  · intro e1
    have e2 : b = g := by simpa [Value.ownBlock] using e1
    subst e2
    rw [hb] at hh
    injection hh with hh; injection hh with _ h2
    exact hne h2.symm
def bytesF (l : List (Fin 256)) : List Value := l.map fun x => .int .u8 (x.val : Nat)
theorem bytesF_snoc (l : List (Fin 256)) (x : Fin 256) : bytesF l ++ [Value.int .u8 (x.val : Nat)] = bytesF (l ++ [x]) := by simp [bytesF]
set_option maxRecDepth 100000 in
set_option maxHeartbeats 2000000 in
theorem bytes_any (f : Nat → Nat) (hf : Wf f) (w : World) :
    Calls Try.prog 11 #[.agg (sc f)] w (RetOwn 5 1 (memsTo f 256).length (bytesV (memsTo f 256)) w) := by
  have hs := sc_size f
  have hfin : Hid (memsTo f 256 = (memF f 256).map Fin.val) := (memF_map f 256 (by omega)).symm
  obtain ⟨i0, hi, hz0, hz1, hz2⟩ := info_parts Try.info5
  refine (callsIn_wide (n := 3)).1 ?_
  refine callsIn_of_wp_marks Try.func11 rfl trivial ?_ rfl
  simp only [Try.ntmps11, List.size_toArray, List.length_cons, List.length_nil, Nat.reduceAdd, Nat.reduceSub, Array.replicate_succ, Array.replicate_zero, List.push_toArray, List.append_toArray, List.nil_append, List.cons_append]
  have H00 := Lib.hid (heap_alloc_new w (.cells (sc f) 24))
  have bO := Boxed.new (w.alloc (.cells (sc f) 24)) 27 (.slice none 0 0)
  rw [World.size_alloc] at bO
  have HB0 : Hid (Below w.heap.size w (((w.alloc (.cells (sc f) 24)).alloc (.cells #[.slice none 0 0] 27)).alloc (.cells (sc f) 24))) := (((Below.refl _ w).alloc (Nat.le_refl _) _).alloc (by simp) _).alloc (by simp; omega) _
  obtain ⟨⟨a0, a1, a2, a3⟩, -⟩ := row4 (heap_alloc_lt _ (.cells #[.slice none 0 0] 27) _ _ H00.out)
  gi_wp2_with (refine ⟨trivial, ?_⟩; gi_at_call 24; refine (members_in _ f _).mono ?_; rintro e w' ⟨rfl, rfl⟩)
  clear a0 a1 a2 a3
  have HX := Lib.hid (heap_new ((w.alloc (.cells (sc f) 24)).alloc (.cells #[.slice none 0 0] 27)) (.cells (sc f) 24) (w.heap.size + 1 + 1) (by simp))
  refine wpIn_rangeFunc_ownG rfl (by omega) (gf := 31) (lb := #[.pointer (some ⟨w.heap.size + 1 + 1, 0, none⟩)]) (by simp [Act.eval]) trivial (enters_of Try.func31 (by kernel_rfl) rfl)
    (members_stops 2 f hf (by omega) (w.heap.size + 1 + 1) _ (by simp) HX.out) keepB_t (keepB_b (by simp)) (Below.refl _ _) (fun _ => rfl)
    (fun pre W => (∃ v, Boxed W (w.heap.size + 1) 27 v ∧ W.ownsRow w.heap.size 5 1 v pre.length (bytesF pre) ∧ True) ∧ Below w.heap.size w W ∧ W.heap[w.heap.size + 1 + 1]? = some (.cells (sc f) 24 (0, 0)))
    (fun _ _ _ => False)
    (OwnFrom.and (Own.from (holdsRow_own w.heap.size (w.heap.size + 1) 27 5 1 (fun pre : List (Fin 256) => pre.length) (fun pre => bytesF pre) (fun _ _ => True)) _) (OwnFrom.and (ownFrom_below (Nat.le_refl _) (by simp; omega)) (row_ownFrom _ _ _ _)))
    (fun _ _ _ _ _ hs _ _ => hs)
    ⟨⟨_, bO.alloc _, World.ownsRow_nil _ _ _ _, trivial⟩, HB0.out, HX.out⟩
    (fun x => { tmps := #[.agg (sc f), .pointer (some ⟨w.heap.size, 0, none⟩), .slice none 0 0, .pointer (some ⟨w.heap.size + 1, 0, none⟩), .int .u8 (x.val : Nat), .agg #[.int .u64 (f 0), .int .u64 (f 1), .int .u64 (f 2), .int .u64 (f 3)], .func (.func 31) #[] #[.pointer (some ⟨w.heap.size + 1 + 1, 0, none⟩)], .int .u8 (x.val : Nat), undef, undef, undef, undef, undef], defers := [] }) ?assign ?body ?done ?stop
  case assign =>
    intro l x W K hK
    dsimp only [encB]
    gi_wp2
    exact hK
  case body =>
    rintro l pre x W ⟨⟨v, hv, hrow, -⟩, hB, hX⟩ hlt
    have hne : Hid (some (w.heap.size + 1 + 1) ≠ v.ownBlock) := own_ne_row hrow hX (by decide)
    have HX2 := Lib.hid hX
    have hc := hv.cell
    clear hX
    gi_wp2_with (gi_at_builtin; refine wpListIn_append_own _ rfl _ _ 27 rfl w.heap.size 5 i0 (.int .u8 0) 1 1 Try.underlying27 hi hz0 hz1 hz2 rfl (by decide) _ _ _ rfl (hrow.alloc _) ⟨W.heap.size, 0, none⟩ 1 1 [.int .u8 (x.val : Nat)] rfl rfl (cell_one_new _ _ _) (by simp [Value.oneCell']) (by simp only [maxLen]; omega) (by omega) (by have := hB.size; simp; omega) ?_; intro v' w1 hown' hgrow _; obtain ⟨g', cap', rfl⟩ := ownsRow_succ hown'; obtain ⟨hv1, hv2, hr2, hk2, hb2⟩ := hv.appended (by decide) hrow hB.size (by omega) hown' hgrow; have hc1 := hv1.cell; have hf1 := hv1.frozen)
    have hkeep : KeepB (w.heap.size + 1 + 1) W (w1.setCell ⟨w.heap.size + 1, 0, none⟩ (.slice (some ⟨g', 0, none⟩) (pre.length + 1) cap')) := by
      have hl := (Array.getElem?_eq_some_iff.1 HX2.out).1
      exact (heap_setCell_other _ _ _ _ (by simp)).trans ((hgrow.block _ (by simp; omega) hne.out).trans (Below.heap_alloc _ _ _ hl))
    refine ⟨hk2.from _, hkeep, ⟨_, hv2, ?_, trivial⟩, hB.trans hb2, hkeep.trans HX2.out⟩
    rw [← bytesF_snoc, List.length_append]; exact hr2
  case done =>
    rintro D ys W hD rfl ⟨⟨v, hv, hrow, -⟩, hB, -⟩ hK
    have hc := hv.cell
    gi_wp2
    refine ⟨by simp, .inl ⟨_, _, rfl, run_takeDeferred hK, ?_⟩⟩
    refine ⟨_, results_tmp rfl _ _ _, v, rfl, ?_, hB.trans (belowK_b (w := w) (Nat.le_refl _) W D _ _ (by simp at hD; omega) hK rfl rfl)⟩
    have ho := ownsRow_putObj hrow (.deferred none) hK rfl
    rw [hfin.out, List.length_map, show bytesV ((memF f 256).map Fin.val) = bytesF (memF f 256) from by simp [bytesV, bytesF]]
    exact ho
  case stop =>
    rintro D c pre W _ _ h _
    exact h.elim
end Go.Proofs.Ytgjoioilpnclpaa
