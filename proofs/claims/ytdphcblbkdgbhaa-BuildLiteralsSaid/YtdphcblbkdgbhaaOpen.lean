import Derived.Test.YtdphcblbkdgbhaaQ4
import Derived.ProofKit
import Derived.OpenShut
import Derived.ShutString
import Derived.ChangeOld
import Derived.Laws.IdiomArrays
namespace Go.Proofs.Ytdphcblbkdgbhaa
open Go.ChangeShapes Go.WideShapes Go.ChangeAt Go.RowKit
open BS (RowN)
theorem own : ownKnob Try.prog.godebug = none := by kernel_rfl
theorem laidOut : laidOutB Try.prog = true := by kernel_rfl
theorem open_byte {x : Int} (h : (Lit.int .u8 x).wf = true) : ∃ n : Nat, x = n ∧ n ≤ 255 := by
  simp [Lit.wf, IntKind.min, IntKind.max, IntKind.signed, IntKind.bits] at h
  exact ⟨x.toNat, by omega, by omega⟩
theorem open_bytes {H : Type} {enc : TypeId × Value → H} {W : World} {base : Nat} {b0 : Nat} {spare : Nat → Bool} {held : Bool} {v : Value} {d : DataW H} {p : List MemPlace} (hv : Value.okWide Try.prog W .any base 57 v) (h : DataW.Trod enc Try.prog W b0 spare held 57 v d p) :
    ∃ (a : Option Addr) (l : List Nat) (c : Nat), v = .slice a l.length c ∧ (∀ x ∈ l, x ≤ 255) ∧ l.length ≤ c ∧ RowN .u8 W a l := by
  obtain ⟨a0, len0, cap0, rfl⟩ := okWide_slice Try.underlying57 hv
  obtain ⟨fuel, hf⟩ := h
  rcases open_ints Try.underlying57 Try.underlying5 (by kernel_rfl) hf with ⟨hcs, _⟩ | ⟨x, l, c, zs, hcs, _, hl, hm, hz, _, hcell, hwz⟩
  · simp [Value.cells] at hcs
    obtain ⟨rfl, rfl, rfl⟩ := hcs
    exact ⟨none, [], 0, rfl, by simp, Nat.le_refl _, fun j hj => by simp at hj⟩
  · simp [Value.cells] at hcs
    obtain ⟨rfl, rfl, rfl⟩ := hcs
    have hz' : len0 ≤ zs.length := by rw [hz]; split <;> omega
    have hn : ((zs.take len0).map Int.toNat).length = len0 := by simp; omega
    refine ⟨some x, (zs.take len0).map Int.toNat, cap0, by rw [hn], fun y hy => ?_, by rw [hn]; exact hl, fun j hj => ?_⟩
    · obtain ⟨z, hz1, rfl⟩ := List.mem_map.1 hy
      obtain ⟨n, rfl, hn⟩ := open_byte (hwz z (List.mem_of_mem_take hz1))
      simpa using hn
    · rw [hn] at hj
      obtain ⟨b, off, sp⟩ := x
      have h0 := hcell 0 (by omega)
      have hsp : sp = none := by
        cases sp with
        | none => rfl
        | some q => simp [Addr.add, World.cell?] at h0; split at h0 <;> simp at h0
      subst hsp
      refine ⟨b, off, rfl, ?_⟩
      have hc := hcell j (by omega)
      rw [Addr.add_lit] at hc
      rw [hc]
      have hg : zs[j]? = some zs[j] := List.getElem?_eq_getElem (by omega)
      obtain ⟨n, hn1, _⟩ := open_byte (hwz zs[j] (List.getElem_mem _))
      simp [List.getD_eq_getElem?_getD, hg, hn1]
theorem literals_r {w : World} (l : List Nat) (a : Option Addr) (c : Nat) (hl : ∀ x ∈ l, x ≤ 255) (h : l.length ≤ c ∧ RowN .u8 w a l) :
    Calls Try.prog 7 #[.slice a l.length c] w fun e w' => e = .returned (.bool true) ∧ Below w.heap.size w w' := literals_w l a c w hl h.1 h.2
end Go.Proofs.Ytdphcblbkdgbhaa
