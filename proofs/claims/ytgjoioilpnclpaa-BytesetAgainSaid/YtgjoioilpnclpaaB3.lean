import Derived.Test.YtgjoioilpnclpaaB2
namespace Go.Proofs.Ytgjoioilpnclpaa
open Go.RowKit
def strN (l : List Nat) : ByteArray := strOfNums (l.map fun x : Nat => (x : Int))
theorem conv_own {w : World} {base n : Nat} {v : Value} {l : List Nat} (h : w.ownsRow base 5 1 v n (bytesV l)) : (convert 27 9 v).run Try.prog w = .ok (.string (strN l)) w := by
  have hn : l.length = n := by have := h.1; simpa [bytesV] using this
  rcases Nat.eq_zero_or_pos n with h0 | h0
  · obtain rfl : l = [] := List.eq_nil_of_length_eq_zero (by omega)
    rcases h.2 with ⟨rfl, _⟩ | ⟨g, cap, cur, rfl, _⟩
    · exact run_convert_bytes_nil w 27 5 Try.underlying27 Try.underlying5 0 0 9 Try.underlying9
    · subst h0
      exact run_convert_bytes_arg w 27 5 Try.underlying27 Try.underlying5 g 0 0 cap [] rfl (fun i hi => by omega) 9 Try.underlying9
  · obtain ⟨g, cap, rfl, _, _, _, hc, _⟩ := own_row h h0
    refine run_convert_bytes_arg w 27 5 Try.underlying27 Try.underlying5 g 0 n cap _ (by simpa using hn) (fun i hi => ?_) 9 Try.underlying9
    rw [Nat.zero_add]
    refine hc i _ ?_
    have hi' : i < l.length := by omega
    simp [bytesV, List.getD_eq_getElem?_getD, hi']
def fA (j : Nat) : Nat := if j = 1 then 72057654167470080 else 0
theorem fA_wf : Wf fA := fun j _ => by unfold fA; split <;> omega
theorem fA_eq : sc (setF (inL [98, 97, 99, 120])) = sc fA := by
  have h : setF (inL [98, 97, 99, 120]) 0 = 0 ∧ setF (inL [98, 97, 99, 120]) 1 = 72057654167470080 ∧ setF (inL [98, 97, 99, 120]) 2 = 0 ∧ setF (inL [98, 97, 99, 120]) 3 = 0 := by decide +kernel
  simp only [sc, fA, h.1, h.2.1, h.2.2.1, h.2.2.2]; rfl
theorem fA_runs : runsTo fA 256 = [(97, 99), (120, 120)] := by decide +kernel
theorem fA_mems : memsTo fA 256 = [97, 98, 99, 120] := by decide +kernel
theorem full_cnt : (memsTo fullF 256).length = 256 := by decide +kernel
theorem fullF_wf : Wf fullF := fun _ _ => by unfold fullF; omega
theorem empty_range : sc (setF (between 98 98)) = sc zF := sc_ext (setF_wf _) zF_wf fun i _ => by rw [setF_mem]; simp [between, mem, zF]
set_option maxRecDepth 20000 in
set_option maxHeartbeats 2000000 in
theorem awake_any (w : World) : Calls Try.prog 8 #[] w fun e w' => e = .returned (.bool true) ∧ Below w.heap.size w w' := by
  have hge := guard24
  have hge2 := guard32
  have e1 : ∀ W, _ = Result.ok true W := eqPair 97 99 97 99
  have e2 : ∀ W, _ = Result.ok true W := eqPair 120 120 120 120
  have e3 : ∀ W, _ = Result.ok true W := eqSet 0 0 0 0 0 0 0 0
  go_enter Try.func8, Try.ntmps8
  go_wp2_with (fail)
  have hb0 : Below w.heap.size w (w.alloc (.cells #[.int .u8 98, .int .u8 97, .int .u8 99, .int .u8 120] 5)) := (Below.refl _ _).alloc (Nat.le_refl _) _
  have hA := of_any [98, 97, 99, 120] (by decide) (by decide) (some ⟨w.heap.size, 0, none⟩) 4 (w.alloc (.cells #[.int .u8 98, .int .u8 97, .int .u8 99, .int .u8 120] 5)) (fun j hj => ⟨_, _, rfl, by
    rw [cell_of_row _ _ _ _ _ (0, 0) (heap_alloc_new w _)]
    have h4 : j = 0 ∨ j = 1 ∨ j = 2 ∨ j = 3 := by simp at hj; omega
    rcases h4 with rfl | rfl | rfl | rfl <;> rfl⟩)
  rw [fA_eq] at hA
  refine hA.mono ?_
  rintro e w1 ⟨rfl, hb1⟩
  have B1 := Lib.hid (hb0.trans (hb1.mono hb0.size))
  clear hA hb0 hb1
  simp only [sc]
  go_wp2_with (fail)
  have R1 := Lib.hid (heap_alloc_new w1 (.cells (sc fA) 24))
  have B2 : Hid (Below w.heap.size w (w1.alloc (.cells (sc fA) 24))) := B1.out.alloc B1.out.size _
  have hr := runs_any fA fA_wf (w1.alloc (.cells (sc fA) 24))
  rw [fA_runs] at hr
  generalize hW : w1.alloc (.cells (sc fA) 24) = W1 at *
  have hW' : w1.alloc (.cells #[.int .u64 (fA 0), .int .u64 (fA 1), .int .u64 (fA 2), .int .u64 (fA 3)] 24) = W1 := hW
  rw [hW']
  have hz : w1.heap.size < W1.heap.size := (Array.getElem?_eq_some_iff.1 R1.out).1
  clear hW hW' B1
  refine hr.mono ?_
  rintro e w2 ⟨v, rfl, hown, hb⟩
  clear hr
  obtain ⟨g, cap, rfl, hg1, hg2, -, hcells, -⟩ := own_row hown (by decide)
  have p0 := hcells 0 _ rfl
  have p1 := hcells 1 _ rfl
  have p2 := hcells 2 _ rfl
  have p3 := hcells 3 _ rfl
  clear hcells hown
  have B3 := Lib.hid (B2.out.trans (hb.mono B2.out.size))
  have R2 := Lib.hid ((hb.block _ hz).trans R1.out)
  have hz2 : w1.heap.size < w2.heap.size := (Array.getElem?_eq_some_iff.1 R2.out).1
  clear hb hg1 B2
  obtain ⟨⟨a0, a1, a2, a3⟩, -⟩ := row4 R2.out
  go_wp2_with (fail)
  have hc := count_any fA fA_wf w2
  rw [fA_mems] at hc
  refine hc.mono ?_
  clear hc
  rintro e w3 ⟨rfl, hb⟩
  clear a0 a1 a2 a3
  have q0 := (hb.cell (p := ⟨g, 0, none⟩) hg2).trans p0
  have q1 := (hb.cell (p := ⟨g, 1, none⟩) hg2).trans p1
  have q2 := (hb.cell (p := ⟨g, 2, none⟩) hg2).trans p2
  have q3 := (hb.cell (p := ⟨g, 3, none⟩) hg2).trans p3
  clear p0 p1 p2 p3
  have B4 := Lib.hid (B3.out.trans (hb.mono B3.out.size))
  have R3 := Lib.hid ((hb.block _ hz2).trans R2.out)
  have hz3 : w1.heap.size < w3.heap.size := (Array.getElem?_eq_some_iff.1 R3.out).1
  clear hb
  obtain ⟨⟨a0, a1, a2, a3⟩, -⟩ := row4 R3.out
  go_wp2_with (fail)
  clear q0 q1 q2 q3
  have hc := has_any fA 98 fA_wf (by decide) w3
  rw [show mem fA 98 = true from by decide +kernel] at hc
  refine hc.mono ?_
  clear hc
  rintro e w4 ⟨rfl, hb⟩
  clear a0 a1 a2 a3
  have B5 := Lib.hid (B4.out.trans (hb.mono B4.out.size))
  have R4 := Lib.hid ((hb.block _ hz3).trans R3.out)
  have hz4 : w1.heap.size < w4.heap.size := (Array.getElem?_eq_some_iff.1 R4.out).1
  clear hb
  obtain ⟨⟨a0, a1, a2, a3⟩, -⟩ := row4 R4.out
  go_wp2_with (fail)
  have hc := has_any fA 100 fA_wf (by decide) w4
  rw [show mem fA 100 = false from by decide +kernel] at hc
  refine hc.mono ?_
  clear hc
  rintro e w5 ⟨rfl, hb⟩
  clear a0 a1 a2 a3
  have B6 := Lib.hid (B5.out.trans (hb.mono B5.out.size))
  have R5 := Lib.hid ((hb.block _ hz4).trans R4.out)
  have hz5 : w1.heap.size < w5.heap.size := (Array.getElem?_eq_some_iff.1 R5.out).1
  clear hb
  obtain ⟨⟨a0, a1, a2, a3⟩, -⟩ := row4 R5.out
  go_wp2_with (fail)
  have hc := bytes_any fA fA_wf w5
  rw [fA_mems] at hc
  refine hc.mono ?_
  clear hc
  rintro e w6 ⟨v, rfl, hown, hb⟩
  clear a0 a1 a2 a3
  have B7 := Lib.hid (B6.out.trans (hb.mono B6.out.size))
  have R6 := Lib.hid ((hb.block _ hz5).trans R5.out)
  have hz6 : w1.heap.size < w6.heap.size := (Array.getElem?_eq_some_iff.1 R6.out).1
  have hcv := conv_own hown
  have hstr : strN [97, 98, 99, 120] = ⟨#[97, 98, 99, 120]⟩ := by decide +kernel
  rw [hstr] at hcv
  clear hown hstr
  clear hb
  obtain ⟨⟨a0, a1, a2, a3⟩, -⟩ := row4 R6.out
  go_wp2_with (fail)
  have hc := full_any w6
  refine hc.mono ?_
  clear hc
  rintro e w7 ⟨rfl, hb⟩
  clear a0 a1 a2 a3
  have B8 := Lib.hid (B7.out.trans (hb.mono B7.out.size))
  clear hb
  go_wp2_with (fail)
  have hc := count_any fullF fullF_wf w7
  rw [full_cnt] at hc
  refine hc.mono ?_
  clear hc
  rintro e w8 ⟨rfl, hb⟩
  have B9 := Lib.hid (B8.out.trans (hb.mono B8.out.size))
  clear hb
  go_wp2_with (fail)
  have hc := range_any 98 97 (by decide) (by decide) w8
  rw [empty_range, sc_zero] at hc
  refine hc.mono ?_
  clear hc
  rintro e w9 ⟨rfl, hb⟩
  have B10 := Lib.hid (B9.out.trans (hb.mono B9.out.size))
  clear hb
  go_wp2
  go_ret
  exact ⟨rfl, B10.out⟩
end Go.Proofs.Ytgjoioilpnclpaa
