import Derived.Test.YtgjoioilpnclpaaC2
namespace Go.Proofs.Ytgjoioilpnclpaa
open Go.RowKit
theorem allocFacts {w : World} {b : Nat} {f : Nat → Nat} (h : w.heap[b]? = some (.cells (sc f) 24 (0, 0))) (x0 x1 x2 x3 : Value) :
    (w.alloc (.cells #[x0, x1, x2, x3] 24)).cell? ⟨b, 0, none⟩ = some (.int .u64 (f 0)) ∧ (w.alloc (.cells #[x0, x1, x2, x3] 24)).cell? ⟨b, 1, none⟩ = some (.int .u64 (f 1)) ∧ (w.alloc (.cells #[x0, x1, x2, x3] 24)).cell? ⟨b, 2, none⟩ = some (.int .u64 (f 2)) ∧ (w.alloc (.cells #[x0, x1, x2, x3] 24)).cell? ⟨b, 3, none⟩ = some (.int .u64 (f 3)) :=
  (row4 (heap_alloc_lt _ _ _ _ h)).1
set_option maxRecDepth 20000 in
set_option maxHeartbeats 4000000 in
theorem combines_any {w : World} (f g : Nat → Nat) (hf : Wf f) (hg : Wf g) :
    Calls Try.prog 6 #[.agg (sc f), .agg (sc g)] w fun e w' => e = .returned (.bool true) ∧ Below w.heap.size w w' := by
  have hs := sc_size f
  have hs' := sc_size g
  have R1 := Lib.hid (heap_alloc2_old w (.cells (sc f) 24) (.cells (sc g) 24))
  have R2 := Lib.hid (heap_alloc2_new w (.cells (sc f) 24) (.cells (sc g) 24))
  have HB : Hid (Below w.heap.size w ((w.alloc (.cells (sc f) 24)).alloc (.cells (sc g) 24))) := ((Below.refl _ _).alloc (Nat.le_refl _) _).alloc (by simp) _
  go_enter Try.func6, Try.ntmps6
  go_wp2_with (fail)
  generalize hW : (w.alloc (.cells (sc f) 24)).alloc (.cells (sc g) 24) = W at *
  clear hW
  refine (awake_any W).mono ?_
  rintro e w1 ⟨rfl, hb⟩
  have B1 := Lib.hid (HB.out.trans (hb.mono HB.out.size))
  have F1 := Lib.hid ((hb.block _ (Array.getElem?_eq_some_iff.1 R1.out).1).trans R1.out)
  have G1 := Lib.hid ((hb.block _ (Array.getElem?_eq_some_iff.1 R2.out).1).trans R2.out)
  clear hb R1 R2 HB
  obtain ⟨⟨a0, a1, a2, a3⟩, -⟩ := row4 F1.out
  obtain ⟨⟨b0, b1, b2, b3⟩, -⟩ := row4 G1.out
  go_wp2_with (fail)
  refine (union_any f g hf hg w1).mono ?_
  rintro e w2' ⟨rfl, hb⟩
  clear a0 a1 a2 a3 b0 b1 b2 b3
  simp only [sc]
  have B := Lib.hid (B1.out.trans (hb.mono B1.out.size))
  have B2 : Hid (Below w.heap.size w (w2'.alloc (.cells (sc (orF f g)) 24))) := B.out.alloc B.out.size _
  have F := Lib.hid ((hb.block _ (Array.getElem?_eq_some_iff.1 F1.out).1).trans F1.out)
  have F2 := Lib.hid (heap_alloc_lt _ (.cells (sc (orF f g)) 24) _ _ F.out)
  have G := Lib.hid ((hb.block _ (Array.getElem?_eq_some_iff.1 G1.out).1).trans G1.out)
  have G2 := Lib.hid (heap_alloc_lt _ (.cells (sc (orF f g)) 24) _ _ G.out)
  have U2 := Lib.hid (heap_alloc_new w2' (.cells (sc (orF f g)) 24))
  obtain ⟨a0, a1, a2, a3⟩ := allocFacts F.out (.int .u64 ((orF f g) 0)) (.int .u64 ((orF f g) 1)) (.int .u64 ((orF f g) 2)) (.int .u64 ((orF f g) 3))
  obtain ⟨b0, b1, b2, b3⟩ := allocFacts G.out (.int .u64 ((orF f g) 0)) (.int .u64 ((orF f g) 1)) (.int .u64 ((orF f g) 2)) (.int .u64 ((orF f g) 3))
  clear hb B B1 F1 G1 F G
  go_wp2_with (fail)
  clear a0 a1 a2 a3 b0 b1 b2 b3
  generalize hW : w2'.alloc (.cells (sc (orF f g)) 24) = w2 at *
  have hW' : w2'.alloc (.cells #[.int .u64 (orF f g 0), .int .u64 (orF f g 1), .int .u64 (orF f g 2), .int .u64 (orF f g 3)] 24) = w2 := hW
  rw [hW'] at *
  clear hW hW'
  generalize w2'.heap.size = nU at *
  obtain ⟨⟨a0, a1, a2, a3⟩, -⟩ := row4 F2.out
  obtain ⟨⟨b0, b1, b2, b3⟩, -⟩ := row4 G2.out
  refine (meet_any f g hf hg w2).mono ?_
  rintro e w3' ⟨rfl, hb⟩
  clear a0 a1 a2 a3 b0 b1 b2 b3
  simp only [sc]
  have B := Lib.hid (B2.out.trans (hb.mono B2.out.size))
  have B3 : Hid (Below w.heap.size w (w3'.alloc (.cells (sc (andF f g)) 24))) := B.out.alloc B.out.size _
  have F := Lib.hid ((hb.block _ (Array.getElem?_eq_some_iff.1 F2.out).1).trans F2.out)
  have F3 := Lib.hid (heap_alloc_lt _ (.cells (sc (andF f g)) 24) _ _ F.out)
  have G := Lib.hid ((hb.block _ (Array.getElem?_eq_some_iff.1 G2.out).1).trans G2.out)
  have G3 := Lib.hid (heap_alloc_lt _ (.cells (sc (andF f g)) 24) _ _ G.out)
  have U := Lib.hid ((hb.block _ (Array.getElem?_eq_some_iff.1 U2.out).1).trans U2.out)
  have U3 := Lib.hid (heap_alloc_lt _ (.cells (sc (andF f g)) 24) _ _ U.out)
  have V3 := Lib.hid (heap_alloc_new w3' (.cells (sc (andF f g)) 24))
  obtain ⟨a0, a1, a2, a3⟩ := allocFacts F.out (.int .u64 ((andF f g) 0)) (.int .u64 ((andF f g) 1)) (.int .u64 ((andF f g) 2)) (.int .u64 ((andF f g) 3))
  obtain ⟨b0, b1, b2, b3⟩ := allocFacts G.out (.int .u64 ((andF f g) 0)) (.int .u64 ((andF f g) 1)) (.int .u64 ((andF f g) 2)) (.int .u64 ((andF f g) 3))
  clear hb B B2 F2 G2 U2 F G U
  go_wp2_with (fail)
  clear a0 a1 a2 a3 b0 b1 b2 b3
  generalize hW : w3'.alloc (.cells (sc (andF f g)) 24) = w3 at *
  have hW' : w3'.alloc (.cells #[.int .u64 (andF f g 0), .int .u64 (andF f g 1), .int .u64 (andF f g 2), .int .u64 (andF f g 3)] 24) = w3 := hW
  rw [hW'] at *
  clear hW hW'
  generalize w3'.heap.size = nV at *
  obtain ⟨⟨a0, a1, a2, a3⟩, -⟩ := row4 F3.out
  obtain ⟨⟨b0, b1, b2, b3⟩, -⟩ := row4 G3.out
  refine (not_any f hf w3).mono ?_
  rintro e w4' ⟨rfl, hb⟩
  clear a0 a1 a2 a3 b0 b1 b2 b3
  simp only [sc]
  have B := Lib.hid (B3.out.trans (hb.mono B3.out.size))
  have B4 : Hid (Below w.heap.size w (w4'.alloc (.cells (sc (notF f)) 24))) := B.out.alloc B.out.size _
  have F := Lib.hid ((hb.block _ (Array.getElem?_eq_some_iff.1 F3.out).1).trans F3.out)
  have F4 := Lib.hid (heap_alloc_lt _ (.cells (sc (notF f)) 24) _ _ F.out)
  have G := Lib.hid ((hb.block _ (Array.getElem?_eq_some_iff.1 G3.out).1).trans G3.out)
  have G4 := Lib.hid (heap_alloc_lt _ (.cells (sc (notF f)) 24) _ _ G.out)
  have U := Lib.hid ((hb.block _ (Array.getElem?_eq_some_iff.1 U3.out).1).trans U3.out)
  have U4 := Lib.hid (heap_alloc_lt _ (.cells (sc (notF f)) 24) _ _ U.out)
  have V := Lib.hid ((hb.block _ (Array.getElem?_eq_some_iff.1 V3.out).1).trans V3.out)
  have V4 := Lib.hid (heap_alloc_lt _ (.cells (sc (notF f)) 24) _ _ V.out)
  have N4 := Lib.hid (heap_alloc_new w4' (.cells (sc (notF f)) 24))
  obtain ⟨a0, a1, a2, a3⟩ := allocFacts F.out (.int .u64 ((notF f) 0)) (.int .u64 ((notF f) 1)) (.int .u64 ((notF f) 2)) (.int .u64 ((notF f) 3))
  obtain ⟨b0, b1, b2, b3⟩ := allocFacts G.out (.int .u64 ((notF f) 0)) (.int .u64 ((notF f) 1)) (.int .u64 ((notF f) 2)) (.int .u64 ((notF f) 3))
  clear hb B B3 F3 G3 U3 V3 F G U V
  go_wp2_with (fail)
  clear a0 a1 a2 a3 b0 b1 b2 b3
  generalize hW : w4'.alloc (.cells (sc (notF f)) 24) = w4 at *
  have hW' : w4'.alloc (.cells #[.int .u64 (notF f 0), .int .u64 (notF f 1), .int .u64 (notF f 2), .int .u64 (notF f 3)] 24) = w4 := hW
  rw [hW'] at *
  clear hW hW'
  generalize w4'.heap.size = nN at *
  obtain ⟨⟨a0, a1, a2, a3⟩, -⟩ := row4 F4.out
  obtain ⟨⟨b0, b1, b2, b3⟩, -⟩ := row4 G4.out
  clear a0 a1 a2 a3 b0 b1 b2 b3
  go_loopw [8, 9, 10] (fun n _ _ wr => ∃ k : Nat, k ≤ 256 ∧ n = .int .i64 k ∧ Below w4.heap.size w4 wr) (fun n _ _ _ => 256 - (intOf n).toNat)
  case atStart => exact ⟨0, by omega, rfl, Below.refl _ _⟩
  case round =>
    obtain ⟨k, hk, rfl, hb⟩ := hrel
    by_cases hlt : k < 256
    · have C1 := Lib.hid (refHas_any f k hf (by omega))
      have C2 := Lib.hid (refHas_any g k hg (by omega))
      have C3 := Lib.hid (refHas_any (orF f g) k (orF_wf hf hg) (by omega))
      have C4 := Lib.hid (refHas_any (andF f g) k (andF_wf hf) (by omega))
      have C5 := Lib.hid (refHas_any (notF f) k (notF_wf hf) (by omega))
      rw [orF_mem] at C3
      rw [andF_mem] at C4
      rw [notF_mem hf] at C5
      generalize mem f k = p at *
      generalize mem g k = q at *
      have X : ∀ {b : Nat} {h : Nat → Nat} {wr wr' : World}, Below wr.heap.size wr wr' → Hid (wr.heap[b]? = some (.cells (sc h) 24 (0, 0))) → Hid (wr'.heap[b]? = some (.cells (sc h) 24 (0, 0))) :=
        fun hb H => Lib.hid ((hb.block _ (Array.getElem?_eq_some_iff.1 H.out).1).trans H.out)
      have F5 := X hb F4
      have G5 := X hb G4
      have U5 := X hb U4
      have V5 := X hb V4
      have N5 := X hb N4
      obtain ⟨⟨a0, a1, a2, a3⟩, -⟩ := row4 F5.out
      have hz := hb.size
      have B5 := Lib.hid hb
      clear hb
      go_wp2_with (fail)
      clear a0 a1 a2 a3
      refine (C1.out _).mono ?_
      rintro e w1 ⟨rfl, hb⟩
      have G6 := X hb G5
      have U6 := X hb U5
      have V6 := X hb V5
      have N6 := X hb N5
      have B6 := Lib.hid (B5.out.trans (hb.mono hz))
      have hz := B6.out.size
      obtain ⟨⟨a0, a1, a2, a3⟩, -⟩ := row4 G6.out
      clear hb G5 U5 V5 N5 F5 B5
      go_wp2_with (fail)
      clear a0 a1 a2 a3
      refine (C2.out _).mono ?_
      rintro e w2 ⟨rfl, hb⟩
      have U7 := X hb U6
      have V7 := X hb V6
      have N7 := X hb N6
      have B7 := Lib.hid (B6.out.trans (hb.mono hz))
      have hz := B7.out.size
      obtain ⟨⟨a0, a1, a2, a3⟩, -⟩ := row4 U7.out
      clear hb U6 V6 N6 G6 B6
      go_wp2_with (fail)
      clear a0 a1 a2 a3
      refine (C3.out _).mono ?_
      rintro e w3 ⟨rfl, hb⟩
      have V8 := X hb V7
      have N8 := X hb N7
      have B8 := Lib.hid (B7.out.trans (hb.mono hz))
      have hz := B8.out.size
      obtain ⟨⟨a0, a1, a2, a3⟩, -⟩ := row4 V8.out
      clear hb V7 N7 U7 B7 C1 C2 C3
      cases p <;> cases q
      all_goals
        go_wp2_with (fail)
        clear a0 a1 a2 a3
        refine (C4.out _).mono ?_
        rintro e w5 ⟨rfl, hb⟩
        have N9 := X hb N8
        have B9 := Lib.hid (B8.out.trans (hb.mono hz))
        have hz := B9.out.size
        obtain ⟨⟨a0, a1, a2, a3⟩, -⟩ := row4 N9.out
        clear hb N8 V8 B8 C4
        go_wp2_with (fail)
        clear a0 a1 a2 a3
        refine (C5.out _).mono ?_
        rintro e w6 ⟨rfl, hb⟩
        have B10 := Lib.hid (B9.out.trans (hb.mono hz))
        clear hb N9 B9
        go_wp2
        go_roundw
        case rel => exact ⟨k + 1, by omega, by go_num, B10.out⟩
        case measure => simp [intOf]; omega
    · obtain rfl : k = 256 := by omega
      go_wp2
      go_ret
      exact ⟨rfl, B4.out.trans (hb.mono B4.out.size)⟩
end Go.Proofs.Ytgjoioilpnclpaa
