import Derived.Test.YtgjoioilpnclpaaC1
import Derived.Deep.QuietTactic
import Derived.BigQuiet
namespace Go.Proofs.Ytgjoioilpnclpaa
open Go.RowKit
/-- a world in which all that lay in W lies as it lay. -/
structure ExtOf (W : World) where
  w : World
  ok : Below W.heap.size W w
theorem ext_call {P : Program} {W : World} {f : FuncId} {args : Array Value} {e : ExtOf W} {v : Value}
    (h : Calls P f args e.w fun en w' => en = .returned v ∧ Below e.w.heap.size e.w w') : Calls P f args e.w fun en w'' => en = .returned v ∧ ∃ e' : ExtOf W, w'' = e'.w :=
  h.mono fun _ w' ⟨he, hb⟩ => ⟨he, ⟨w', e.ok.trans (hb.mono e.ok.size)⟩, rfl⟩
theorem wp_region_ext {P : Program} {id : Nat} {Q : Exit → Act → World → Prop} {a : Act} {w : World} {l : List Oper} (hm : P.follows .mixedOrders = true) (hB : Region.lexB .any l.toArray = true)
    (h : wpQuiet P l.toArray (fun w' => ∃ e : ExtOf w, w' = e.w) (fun a' => ∀ w', (∃ e : ExtOf w, w' = e.w) → Q .normal a' w') l a) : (Code.region id l.toArray true).wp P Q a w :=
  wp_region_quiet (C := fun w' => ∃ e : ExtOf w, w' = e.w) hm hB ⟨⟨{ w with drawn := w.drawn + 1 }, (Below.refl _ _).drew⟩, rfl⟩ (by simpa using h)
theorem row4E {W : World} {g : Nat} {f : Nat → Nat} (h : W.heap[g]? = some (.cells (sc f) 24 (0, 0))) (e : ExtOf W) :
    e.w.cell? ⟨g, 0, none⟩ = some (.int .u64 (f 0)) ∧ e.w.cell? ⟨g, 1, none⟩ = some (.int .u64 (f 1)) ∧ e.w.cell? ⟨g, 2, none⟩ = some (.int .u64 (f 2)) ∧ e.w.cell? ⟨g, 3, none⟩ = some (.int .u64 (f 3)) :=
  (row4 ((e.ok.block _ (Array.getElem?_eq_some_iff.1 h).1).trans h)).1
theorem eqTrue {f g : Nat → Nat} (h : sc f = sc g) (W : World) : (Op.equalIn 10000 24 (.agg (sc f)) (.agg (sc g))).run Try.prog W = .ok true W := by
  rw [h]; exact eqSelf g W
theorem orF_comm (f g : Nat → Nat) : sc (orF f g) = sc (orF g f) := by simp [sc, orF, Nat.or_comm]
theorem andF_comm (f g : Nat → Nat) : sc (andF f g) = sc (andF g f) := by simp [sc, andF, Nat.and_comm]
theorem orF_assoc (f g h : Nat → Nat) : sc (orF (orF f g) h) = sc (orF f (orF g h)) := by simp [sc, orF, Nat.or_assoc]
theorem orF_mem (f g : Nat → Nat) (i : Nat) : mem (orF f g) i = (mem f i || mem g i) := by simp [mem, orF]
theorem andF_mem (f g : Nat → Nat) (i : Nat) : mem (andF f g) i = (mem f i && mem g i) := by simp [mem, andF]
theorem notF_mem {f : Nat → Nat} (_hf : Wf f) (i : Nat) : mem (notF f) i = !mem f i := by
  unfold mem notF
  rw [Nat.testBit_xor, show (18446744073709551615 : Nat) = 2 ^ 64 - 1 from rfl, Nat.testBit_two_pow_sub_one]
  simp [Nat.mod_lt]
theorem union_zero (f : Nat → Nat) (hf : Wf f) (w : World) :
    Calls Try.prog 21 #[.agg (sc f), .agg #[.int .u64 0, .int .u64 0, .int .u64 0, .int .u64 0]] w fun e w' => e = .returned (.agg (sc (orF f zF))) ∧ Below w.heap.size w w' := union_any f zF hf zF_wf w
theorem eqZero (f : Nat → Nat) (W : World) : (Op.equalIn 10000 24 (.agg (sc (orF f zF))) (.agg #[.int .u64 (f 0), .int .u64 (f 1), .int .u64 (f 2), .int .u64 (f 3)])).run Try.prog W = .ok true W :=
  eqTrue (f := orF f zF) (g := f) (by simp [sc, orF, zF]) W
theorem eqFull {f : Nat → Nat} (hf : Wf f) (W : World) : (Op.equalIn 10000 24 (.agg (sc (andF f fullF))) (.agg #[.int .u64 (f 0), .int .u64 (f 1), .int .u64 (f 2), .int .u64 (f 3)])).run Try.prog W = .ok true W := by
  have key : ∀ j, j < 4 → f j &&& 18446744073709551615 = f j := fun j hj => by
    rw [show (18446744073709551615 : Nat) = 2 ^ 64 - 1 from rfl, Nat.and_two_pow_sub_one_eq_mod, Nat.mod_eq_of_lt (hf j hj)]
  exact eqTrue (f := andF f fullF) (g := f) (by simp [sc, andF, fullF, key]) W
theorem notF_orF {f g : Nat → Nat} (hf : Wf f) (hg : Wf g) : sc (notF (orF f g)) = sc (andF (notF f) (notF g)) := by
  refine sc_ext (notF_wf (orF_wf hf hg)) (andF_wf (notF_wf hf)) fun i _ => ?_
  rw [notF_mem (orF_wf hf hg), orF_mem, andF_mem, notF_mem hf, notF_mem hg]
  cases mem f i <;> cases mem g i <;> rfl
set_option maxRecDepth 20000 in
set_option maxHeartbeats 2000000 in
theorem laws_any {w : World} (f g h : Nat → Nat) (hf : Wf f) (hg : Wf g) (hh : Wf h) :
    Calls Try.prog 7 #[.agg (sc f), .agg (sc g), .agg (sc h)] w fun e w' => e = .returned (.bool true) ∧ Below w.heap.size w w' := by
  have hge := guard24
  have hs := sc_size f
  have hs' := sc_size g
  have hs'' := sc_size h
  have R1 := Lib.hid (heap_alloc_lt _ (.cells (sc h) 24) _ _ (heap_alloc2_old w (.cells (sc f) 24) (.cells (sc g) 24)))
  have R2 := Lib.hid (heap_alloc_lt _ (.cells (sc h) 24) _ _ (heap_alloc2_new w (.cells (sc f) 24) (.cells (sc g) 24)))
  have R3 := Lib.hid (heap_new ((w.alloc (.cells (sc f) 24)).alloc (.cells (sc g) 24)) (.cells (sc h) 24) (w.heap.size + 1 + 1) (by simp))
  have HB : Hid (Below w.heap.size w (((w.alloc (.cells (sc f) 24)).alloc (.cells (sc g) 24)).alloc (.cells (sc h) 24))) := (((Below.refl _ _).alloc (Nat.le_refl _) _).alloc (by simp) _).alloc (by simp; omega) _
  go_enter Try.func7, Try.ntmps7
  go_wp2_with (fail)
  generalize hW : ((w.alloc (.cells (sc f) 24)).alloc (.cells (sc g) 24)).alloc (.cells (sc h) 24) = W at *
  clear hW
  refine (awake_any W).mono ?_
  rintro e w1 ⟨rfl, hb⟩
  have B1 := Lib.hid (HB.out.trans (hb.mono HB.out.size))
  have S1 := Lib.hid ((hb.block _ (Array.getElem?_eq_some_iff.1 R1.out).1).trans R1.out)
  have S2 := Lib.hid ((hb.block _ (Array.getElem?_eq_some_iff.1 R2.out).1).trans R2.out)
  have S3 := Lib.hid ((hb.block _ (Array.getElem?_eq_some_iff.1 R3.out).1).trans R3.out)
  clear hb R1 R2 R3 HB
  go_wp2_with (fail)
  have x0 := fun e => (row4E S1.out e).1
  have x1 := fun e => (row4E S1.out e).2.1
  have x2 := fun e => (row4E S1.out e).2.2.1
  have x3 := fun e => (row4E S1.out e).2.2.2
  have y0 := fun e => (row4E S2.out e).1
  have y1 := fun e => (row4E S2.out e).2.1
  have y2 := fun e => (row4E S2.out e).2.2.1
  have y3 := fun e => (row4E S2.out e).2.2.2
  have z0 := fun e => (row4E S3.out e).1
  have z1 := fun e => (row4E S3.out e).2.1
  have z2 := fun e => (row4E S3.out e).2.2.1
  have z3 := fun e => (row4E S3.out e).2.2.2
  have w1' : Wf (orF f g) := orF_wf hf hg
  have w2' : Wf (orF g h) := orF_wf hg hh
  have q1 := eqTrue (orF_comm f g)
  have q2 := eqTrue (andF_comm f g)
  have q3 := eqTrue (orF_assoc f g h)
  refine wp_region_ext (by kernel_rfl) (by kernel_rfl) ?_
  repeat (go_big_quiet_step (with_reducible rfl))
  go_big_quiet_step (exact ext_call (union_any f g hf hg _))
  repeat (go_big_quiet_step (with_reducible rfl))
  go_big_quiet_step (exact ext_call (union_any g f hg hf _))
  repeat (go_big_quiet_step (with_reducible rfl))
  go_big_quiet_step (exact ext_call (meet_any f g hf hg _))
  repeat (go_big_quiet_step (with_reducible rfl))
  go_big_quiet_step (exact ext_call (meet_any g f hg hf _))
  repeat (go_big_quiet_step (with_reducible rfl))
  go_big_quiet_step (exact ext_call (union_any f g hf hg _))
  repeat (go_big_quiet_step (with_reducible rfl))
  go_big_quiet_step (exact ext_call (union_any (orF f g) h w1' hh _))
  repeat (go_big_quiet_step (with_reducible rfl))
  go_big_quiet_step (exact ext_call (union_any g h hg hh _))
  repeat (go_big_quiet_step (with_reducible rfl))
  go_big_quiet_step (exact ext_call (union_any f (orF g h) hf w2' _))
  repeat (go_big_quiet_step (with_reducible rfl))
  refine wpQuiet_nil ?_
  rintro w2 ⟨⟨w2, hb⟩, rfl⟩
  have B2 := Lib.hid (B1.out.trans (hb.mono B1.out.size))
  have T1 := Lib.hid ((hb.block _ (Array.getElem?_eq_some_iff.1 S1.out).1).trans S1.out)
  have T2 := Lib.hid ((hb.block _ (Array.getElem?_eq_some_iff.1 S2.out).1).trans S2.out)
  clear x0 x1 x2 x3 y0 y1 y2 y3 z0 z1 z2 z3 q1 q2 q3 S1 S2 S3 B1 hb w2'
  go_wp2_with (fail)
  have x0 := fun e => (row4E T1.out e).1
  have x1 := fun e => (row4E T1.out e).2.1
  have x2 := fun e => (row4E T1.out e).2.2.1
  have x3 := fun e => (row4E T1.out e).2.2.2
  have y0 := fun e => (row4E T2.out e).1
  have y1 := fun e => (row4E T2.out e).2.1
  have y2 := fun e => (row4E T2.out e).2.2.1
  have y3 := fun e => (row4E T2.out e).2.2.2
  have w3' := notF_wf hf
  have w4' := notF_wf hg
  have w5' := fullF_wf
  have w6' := zF_wf
  have hbd : ∀ W : World, (Instr.build 24 #[]).run Try.prog W = .ok (.agg (sc zF)) W := fun _ => by kernel_rfl
  have q4 := eqTrue (notF_orF hf hg)
  have q5 := eqZero f
  have q6 := eqFull hf
  refine wp_region_ext (by kernel_rfl) (by kernel_rfl) ?_
  repeat (go_big_quiet_step (with_reducible rfl))
  go_big_quiet_step (exact ext_call (union_any f g hf hg _))
  repeat (go_big_quiet_step (with_reducible rfl))
  go_big_quiet_step (exact ext_call (not_any (orF f g) w1' _))
  repeat (go_big_quiet_step (with_reducible rfl))
  go_big_quiet_step (exact ext_call (not_any f hf _))
  repeat (go_big_quiet_step (with_reducible rfl))
  go_big_quiet_step (exact ext_call (not_any g hg _))
  repeat (go_big_quiet_step (with_reducible rfl))
  go_big_quiet_step (exact ext_call (meet_any (notF f) (notF g) w3' w4' _))
  repeat (go_big_quiet_step (with_reducible rfl))
  go_big_quiet_step (exact ext_call (union_any f zF hf w6' _))
  repeat (go_big_quiet_step (with_reducible rfl))
  go_big_quiet_step (exact ext_call (full_any _))
  repeat (go_big_quiet_step (with_reducible rfl))
  go_big_quiet_step (exact ext_call (meet_any f fullF hf w5' _))
  repeat (go_big_quiet_step (with_reducible rfl))
  refine wpQuiet_nil ?_
  rintro w3 ⟨⟨w3, hb⟩, rfl⟩
  have B3 := Lib.hid (B2.out.trans (hb.mono B2.out.size))
  clear x0 x1 x2 x3 y0 y1 y2 y3 q4 q5 q6 T1 T2 B2 hb w3' w4' w5' w1' w6' hbd
  go_wp2
  go_ret
  exact ⟨rfl, B3.out⟩
end Go.Proofs.Ytgjoioilpnclpaa
