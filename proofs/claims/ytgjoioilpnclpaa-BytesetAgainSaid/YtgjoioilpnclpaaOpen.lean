import Derived.Test.YtgjoioilpnclpaaC1
import Derived.ProofKit
import Derived.OpenShut
import Derived.ShutString
import Derived.ChangeOld
import Derived.Laws.IdiomArrays
namespace Go.Proofs.Ytgjoioilpnclpaa
open Go.ChangeShapes Go.WideShapes Go.ChangeAt Go.RowKit
theorem own : ownKnob Try.prog.godebug = none := by kernel_rfl
theorem laidOut : laidOutB Try.prog = true := by kernel_rfl
theorem Try.cells22 : Try.prog.cellsOf 22 = 1 := by kernel_rfl
theorem Try.cells24 : Try.prog.cellsOf 24 = 4 := by kernel_rfl
theorem list4 {α : Type} (l : List α) (h : (⟨l⟩ : Array α).size = 4) : ∃ a b c d, l = [a, b, c, d] := by
  match l, h with
  | [a, b, c, d], _ => exact ⟨a, b, c, d, rfl⟩
theorem open_set {H : Type} {enc : TypeId × Value → H} {W : World} {base : Nat} {b0 : Nat} {spare : Nat → Bool} {held : Bool} {v : Value} {d : DataW H} {p : List MemPlace} (hv : Value.okWide Try.prog W .any base 24 v) (h : DataW.Trod enc Try.prog W b0 spare held 24 v d p) :
    ∃ f, Wf f ∧ v = .agg (sc f) := by
  obtain ⟨cs, rfl, hsz, _⟩ : ∃ cs, v = .agg cs ∧ cs.size = Try.prog.cellsOf 24 ∧ Row.okWide Try.prog W .any base 24 cs := by
    simpa [Value.okWide, Try.underlying24] using hv
  rw [Try.cells24] at hsz
  obtain ⟨l⟩ := cs
  obtain ⟨c0, c1, c2, c3, rfl⟩ := list4 l hsz
  obtain ⟨fuel, hf⟩ := h
  obtain ⟨y0, y1, y2, y3, m, hx, hy0, hy1, hy2, hy3⟩ := trod_array4 Try.underlying24 Try.cells22 hf
  obtain ⟨x0, e0, rfl, w0⟩ := DataW.trod_int Try.underlying22 hy0
  obtain ⟨x1, e1, rfl, w1⟩ := DataW.trod_int Try.underlying22 hy1
  obtain ⟨x2, e2, rfl, w2⟩ := DataW.trod_int Try.underlying22 hy2
  obtain ⟨x3, e3, rfl, w3⟩ := DataW.trod_int Try.underlying22 hy3
  simp at e0 e1 e2 e3
  subst e0 e1 e2 e3
  have hb : ∀ x : Int, (Lit.int .u64 x).wf = true → ∃ n : Nat, x = n ∧ n < 18446744073709551616 := by
    intro x hx
    simp [Lit.wf, IntKind.min, IntKind.max, IntKind.signed, IntKind.bits] at hx
    exact ⟨x.toNat, by omega, by omega⟩
  obtain ⟨n0, rfl, b0⟩ := hb _ w0
  obtain ⟨n1, rfl, b1⟩ := hb _ w1
  obtain ⟨n2, rfl, b2⟩ := hb _ w2
  obtain ⟨n3, rfl, b3⟩ := hb _ w3
  refine ⟨fun j => if j = 0 then n0 else if j = 1 then n1 else if j = 2 then n2 else n3, fun j _ => ?_, rfl⟩
  dsimp only
  split
  · exact b0
  · split
    · exact b1
    · split
      · exact b2
      · exact b3
theorem open_byte {x : Int} (h : (Lit.int .u8 x).wf = true) : ∃ n : Nat, x = n ∧ n ≤ 255 := by
  simp [Lit.wf, IntKind.min, IntKind.max, IntKind.signed, IntKind.bits] at h
  exact ⟨x.toNat, by omega, by omega⟩
theorem open_bytes {H : Type} {enc : TypeId × Value → H} {W : World} {base : Nat} {b0 : Nat} {spare : Nat → Bool} {held : Bool} {v : Value} {d : DataW H} {p : List MemPlace} (hv : Value.okWide Try.prog W .any base 27 v) (h : DataW.Trod enc Try.prog W b0 spare held 27 v d p) :
    ∃ (a : Option Addr) (l : List Nat) (c : Nat), v = .slice a l.length c ∧ (∀ x ∈ l, x ≤ 255) ∧ RowN .u8 W a l := by
  obtain ⟨a0, len0, cap0, rfl⟩ := okWide_slice Try.underlying27 hv
  obtain ⟨fuel, hf⟩ := h
  rcases open_ints Try.underlying27 Try.underlying5 (by kernel_rfl) hf with ⟨hcs, _⟩ | ⟨x, l, c, zs, hcs, _, hl, hm, hz, _, hcell, hwz⟩
  · simp [Value.cells] at hcs
    obtain ⟨rfl, rfl, rfl⟩ := hcs
    exact ⟨none, [], 0, rfl, by simp, fun j hj => by simp at hj⟩
  · simp [Value.cells] at hcs
    obtain ⟨rfl, rfl, rfl⟩ := hcs
    have hz' : len0 ≤ zs.length := by rw [hz]; split <;> omega
    have hn : ((zs.take len0).map Int.toNat).length = len0 := by simp; omega
    refine ⟨some x, (zs.take len0).map Int.toNat, cap0, by rw [hn], fun y hy => ?_, fun j hj => ?_⟩
    · obtain ⟨z, hz1, rfl⟩ := List.mem_map.1 hy
      obtain ⟨n, rfl, hn⟩ := open_byte (hwz z (List.mem_of_mem_take hz1))
      simpa using hn
    · rw [hn] at hj
      obtain ⟨b, off, sp⟩ := x
      have h0 := hcell 0 (by omega)
      have hsp : sp = none := by
        cases sp with
        | none => rfl
        | some q => simp [Addr.add, World.cell?] at h0; split at h0 <;> simp at h0
      subst hsp
      refine ⟨b, off, rfl, ?_⟩
      have hc := hcell j (by omega)
      rw [Addr.add_lit] at hc
      rw [hc]
      have hg : zs[j]? = some zs[j] := List.getElem?_eq_getElem (by omega)
      obtain ⟨n, hn1, _⟩ := open_byte (hwz zs[j] (List.getElem_mem _))
      simp [List.getD_eq_getElem?_getD, hg, hn1]
end Go.Proofs.Ytgjoioilpnclpaa
