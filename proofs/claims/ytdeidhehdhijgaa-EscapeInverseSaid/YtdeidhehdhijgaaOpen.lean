import Derived.Test.YtdeidhehdhijgaaC2
import Derived.ProofKit
import Derived.OpenShut
import Derived.ShutString
import Derived.ChangeOld
import Derived.Laws.IdiomArrays
namespace Go.Proofs.Ytdeidhehdhijgaa
open Go.ChangeShapes Go.WideShapes Go.ChangeAt Go.RowKit
theorem own : ownKnob Try.prog.godebug = none := by kernel_rfl
theorem laidOut : laidOutB Try.prog = true := by kernel_rfl
theorem open_byte {x : Int} (h : (Lit.int .u8 x).wf = true) : ∃ n : Nat, x = n ∧ n ≤ 255 := by
  simp [Lit.wf, IntKind.min, IntKind.max, IntKind.signed, IntKind.bits] at h
  exact ⟨x.toNat, by omega, by omega⟩
theorem open_bytes {H : Type} {enc : TypeId × Value → H} {W : World} {base : Nat} {b0 : Nat} {spare : Nat → Bool} {held : Bool} {v : Value} {d : DataW H} {p : List MemPlace} (hv : Value.okWide Try.prog W .any base 30 v) (h : DataW.Trod enc Try.prog W b0 spare held 30 v d p) :
    ∃ (a : Option Addr) (l : List Nat) (c : Nat), v = .slice a l.length c ∧ (∀ x ∈ l, x ≤ 255) ∧ RowN .u8 W a l := by
  obtain ⟨a0, len0, cap0, rfl⟩ := okWide_slice Try.underlying30 hv
  obtain ⟨fuel, hf⟩ := h
  rcases open_ints Try.underlying30 Try.underlying5 (by kernel_rfl) hf with ⟨hcs, _⟩ | ⟨x, l, c, zs, hcs, _, hl, hm, hz, _, hcell, hwz⟩
  · simp [Value.cells] at hcs
    obtain ⟨rfl, rfl, rfl⟩ := hcs
    exact ⟨none, [], 0, rfl, by simp, fun j hj => by simp at hj⟩
  · simp [Value.cells] at hcs
    obtain ⟨rfl, rfl, rfl⟩ := hcs
    have hz' : len0 ≤ zs.length := by rw [hz]; split <;> omega
    have hn : ((zs.take len0).map Int.toNat).length = len0 := by simp; omega
    refine ⟨some x, (zs.take len0).map Int.toNat, cap0, by rw [hn], fun y hy => ?_, fun j hj => ?_⟩
    · obtain ⟨z, hz1, rfl⟩ := List.mem_map.1 hy
      obtain ⟨n, rfl, hn⟩ := open_byte (hwz z (List.mem_of_mem_take hz1))
      simpa using hn
    · rw [hn] at hj
      obtain ⟨b, off, sp⟩ := x
      have h0 := hcell 0 (by omega)
      have hsp : sp = none := by
        cases sp with
        | none => rfl
        | some q => simp [Addr.add, World.cell?] at h0; split at h0 <;> simp at h0
      subst hsp
      refine ⟨b, off, rfl, ?_⟩
      have hc := hcell j (by omega)
      rw [Addr.add_lit] at hc
      rw [hc]
      have hg : zs[j]? = some zs[j] := List.getElem?_eq_getElem (by omega)
      obtain ⟨n, hn1, _⟩ := open_byte (hwz zs[j] (List.getElem_mem _))
      simp [List.getD_eq_getElem?_getD, hg, hn1]
theorem reads_w {w : World} (s : ByteArray) (x : Int) {p q : Prop} (_ : p) (_ : q) :
    Calls Try.prog 3 #[.string s, .int .i64 x] w fun e w' => e = .returned (.bool true) ∧ Below w.heap.size w w' := reads_any s x w
theorem inverse_w {w : World} (c : Nat) (cl : Bool) (r : ByteArray) (hc : c ≤ 255) {p : Prop} (_ : p) :
    Calls Try.prog 4 #[.int .u8 c, .bool cl, .string r] w fun e w' => e = .returned (.bool true) ∧ Below w.heap.size w w' := inverse_any c hc cl r w
theorem unquotes_w {w : World} (s : ByteArray) {p : Prop} (_ : p) :
    Calls Try.prog 6 #[.string s] w fun e w' => e = .returned (.bool true) ∧ Below w.heap.size w w' := unquotes_any s w
theorem plain_w {w : World} (c : Nat) (cl : Bool) (hc : c ≤ 255) :
    Calls Try.prog 7 #[.int .u8 c, .bool cl] w fun e w' => e = .returned (.bool true) ∧ Below w.heap.size w w' := plain_any c hc cl w
end Go.Proofs.Ytdeidhehdhijgaa
